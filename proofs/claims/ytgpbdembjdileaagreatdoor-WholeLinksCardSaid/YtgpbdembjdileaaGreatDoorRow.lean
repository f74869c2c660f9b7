/- Stores into a slice of the call's own, in place; a slice cut; clear of structs. No condition. -/
import Derived.Test.YtgpbdembjdileaaGreatDoorOwn
namespace Go.Proofs.YtgpbdembjdileaaGreatDoor
open Go.RowKit

/-- Cells written one by one. -/
def putAt (cur : Array Value) : Nat → List Value → Array Value
  | _, [] => cur
  | o, v :: r => putAt (cur.setIfInBounds o v) (o + 1) r
theorem putAt_size : ∀ (vs : List Value) (cur : Array Value) (o : Nat), (putAt cur o vs).size = cur.size
  | [], _, _ => rfl
  | v :: r, cur, o => by rw [putAt, putAt_size r]; simp
theorem putAt_get : ∀ (vs : List Value) (cur : Array Value) (o j : Nat), o + vs.length ≤ cur.size → (putAt cur o vs)[j]? = if o ≤ j ∧ j < o + vs.length then vs[j - o]? else cur[j]?
  | [], _, o, j, _ => by rw [putAt, if_neg (by simp only [List.length_nil]; omega)]
  | v :: r, cur, o, j, h => by
    have h' : o + (r.length + 1) ≤ cur.size := by simpa using h
    rw [putAt, putAt_get r _ (o + 1) j (by simp; omega)]
    simp only [List.length_cons]
    by_cases e : j = o
    · subst e
      rw [if_neg (by omega), if_pos (by omega), Nat.sub_self, Array.getElem?_setIfInBounds, if_pos rfl, if_pos (by omega)]
      rfl
    · by_cases c : o + 1 ≤ j ∧ j < o + 1 + r.length
      · rw [if_pos c, if_pos (by omega)]
        obtain ⟨t, rfl⟩ : ∃ t, j = o + 1 + t := ⟨j - (o + 1), by omega⟩
        rw [show o + 1 + t - (o + 1) = t by omega, show o + 1 + t - o = t + 1 by omega]
        simp
      · rw [if_neg c, if_neg (by omega), Array.getElem?_setIfInBounds, if_neg (by omega)]
theorem setCells_same (g : Nat) (t : TypeId) : ∀ (vs : List Value) (w : World) (o : Nat) (cur : Array Value), w.heap[g]? = some (.cells cur t (0, 0)) → (w.setCells g o vs).heap[g]? = some (.cells (putAt cur o vs) t (0, 0))
  | [], _, _, _, h => h
  | v :: r, w, o, cur, h => by
    rw [World.setCells]
    exact setCells_same g t r _ (o + 1) _ (heap_setCell_same w g o cur t v h)
theorem setCells_grown (g : Nat) : ∀ (vs : List Value) (w : World) (o : Nat), w.grownBy (w.setCells g o vs) (some g)
  | [], w, _ => World.grownBy.refl _ _
  | v :: r, w, o => by
    have h1 : w.grownBy (w.setCell ⟨g, o, none⟩ v) (some g) := ⟨rfl, rfl, rfl, by simp, fun k _ hk => Below.heap_setCell _ _ _ k (fun e => hk (by rw [e]))⟩
    exact h1.trans (setCells_grown g r _ (o + 1))

section
variable {α : Type} {enc : α → List Value} {k : Nat} {e : TypeId} {B g cap n m : Nat} {w : World} {xs : List α}
theorem Own.row (h : Own enc k e B w (.slice (some ⟨g, 0, none⟩) n cap) xs) (hn : n = xs.length) : ∃ cur, B ≤ g ∧ w.heap[g]? = some (.cells cur e (0, 0)) ∧ n ≤ cap ∧ cap ≤ maxLen ∧ cur.size = cap * k ∧ cur.toList.take (n * k) = xs.flatMap enc := by
  subst hn
  rcases h.2 with ⟨h0, _⟩ | ⟨g', cap', cur, hv, hB, hg, h1, h2, h3, h4⟩
  · cases h0
  cases hv
  exact ⟨cur, hB, hg, h1, h2, h3, h4⟩
theorem Own.ofRow (hk : ∀ x, (enc x).length = k) {cur : Array Value} (hB : B ≤ g) (hg : w.heap[g]? = some (.cells cur e (0, 0))) (h1 : n ≤ cap) (h2 : cap ≤ maxLen) (h3 : cur.size = cap * k) (h4 : cur.toList.take (n * k) = xs.flatMap enc) (hn : n = xs.length) :
    Own enc k e B w (.slice (some ⟨g, 0, none⟩) n cap) xs := by
  subst hn
  exact ⟨flat_len enc k hk xs, .inr ⟨g, cap, cur, rfl, hB, hg, h1, h2, h3, h4⟩⟩
/-- A store of one element. -/
theorem Own.put (hk : ∀ x, (enc x).length = k) (k0 : 0 < k) (h : Own enc k e B w (.slice (some ⟨g, 0, none⟩) n cap) xs) (hn : n = xs.length) {i : Nat} (hi : i < n) (y : α) :
    Own enc k e B (w.setCells g (i * k) (enc y)) (.slice (some ⟨g, 0, none⟩) n cap) (xs.set i y) := by
  obtain ⟨cur, hB, hg, h1, h2, h3, h4⟩ := h.row hn
  have hik : i * k + k ≤ n * k := by have := Nat.mul_le_mul_right k (show i + 1 ≤ n by omega); rw [Nat.add_mul] at this; omega
  have hnc : n * k ≤ cap * k := Nat.mul_le_mul_right k h1
  refine Own.ofRow hk hB (setCells_same g e _ _ _ _ hg) h1 h2 (by rw [putAt_size, h3]) ?_ (by simp [hn])
  apply List.ext_getElem?
  intro j
  by_cases hj : j < n * k
  · rw [List.getElem?_take_of_lt hj, Array.getElem?_toList, putAt_get _ _ _ _ (by rw [hk]; omega), hk]
    have hq : j / k < n := by rwa [Nat.div_lt_iff_lt_mul k0]
    have h5 := flat_get enc k hk (xs.set i y) (j / k) (j % k) (Nat.mod_lt _ k0)
    rw [Nat.div_add_mod'] at h5
    rw [h5]
    by_cases c : i * k ≤ j ∧ j < i * k + k
    · have hji : j / k = i := by
        obtain ⟨t, rfl⟩ : ∃ t, j = i * k + t := ⟨j - i * k, by omega⟩
        rw [Nat.mul_comm, Nat.mul_add_div k0, Nat.div_eq_of_lt (by omega), Nat.add_zero]
      have hjm : j % k = j - i * k := by
        have := Nat.div_add_mod' j k
        rw [hji] at this; omega
      rw [if_pos c, hji, hjm, List.getElem?_set_self (by omega), Option.bind_some]
    · have hji : i ≠ j / k := by
        intro e'
        apply c
        have := Nat.div_add_mod' j k
        have := Nat.mod_lt j k0
        rw [← e'] at *
        omega
      rw [if_neg c, List.getElem?_set_ne hji]
      have h6 := flat_get enc k hk xs (j / k) (j % k) (Nat.mod_lt _ k0)
      rw [Nat.div_add_mod'] at h6
      rw [← h6, ← h4, List.getElem?_take_of_lt hj, Array.getElem?_toList]
  · rw [List.getElem?_take_eq_none (by omega), List.getElem?_eq_none (by rw [flat_len enc k hk, List.length_set]; subst hn; omega)]
/-- Stores behind the elements. -/
theorem Own.putTail (hk : ∀ x, (enc x).length = k) (h : Own enc k e B w (.slice (some ⟨g, 0, none⟩) n cap) xs) (hn : n = xs.length) {o : Nat} (ho : n * k ≤ o) (vs : List Value) (hv : o + vs.length ≤ cap * k) :
    Own enc k e B (w.setCells g o vs) (.slice (some ⟨g, 0, none⟩) n cap) xs := by
  obtain ⟨cur, hB, hg, h1, h2, h3, h4⟩ := h.row hn
  refine Own.ofRow hk hB (setCells_same g e _ _ _ _ hg) h1 h2 (by rw [putAt_size, h3]) ?_ hn
  rw [← h4]
  apply List.ext_getElem?
  intro j
  by_cases hj : j < n * k
  · rw [List.getElem?_take_of_lt hj, List.getElem?_take_of_lt hj, Array.getElem?_toList, Array.getElem?_toList, putAt_get _ _ _ _ (by omega), if_neg (by omega)]
  · rw [List.getElem?_take_eq_none (by omega), List.getElem?_take_eq_none (by omega)]
/-- The slice, cut. -/
theorem Own.cut (hk : ∀ x, (enc x).length = k) (h : Own enc k e B w (.slice (some ⟨g, 0, none⟩) n cap) xs) (hn : n = xs.length) (hm : m ≤ n) : Own enc k e B w (.slice (some ⟨g, 0, none⟩) m cap) (xs.take m) := by
  obtain ⟨cur, hB, hg, h1, h2, h3, h4⟩ := h.row hn
  refine Own.ofRow hk hB hg (by omega) h2 h3 ?_ (by simp; omega)
  rw [flat_take enc k hk, ← h4, List.take_take, Nat.min_eq_left (Nat.mul_le_mul_right k hm)]
theorem Own.cellsAt (hk : ∀ x, (enc x).length = k) (h : Own enc k e B w (.slice (some ⟨g, 0, none⟩) n cap) xs) (hn : n = xs.length) {i : Nat} {x : α} (hx : xs[i]? = some x) {j : Nat} {u : Value} (hu : (enc x)[j]? = some u) :
    w.cell? ⟨g, i * k + j, none⟩ = some u ∧ w.frozen? ⟨g, i * k + j, none⟩ = false := by
  subst hn
  obtain ⟨cur, hB, hg, h1, h2, h3, h4⟩ := h.row rfl
  have hj : j < k := by have := lt_of_get hu; rwa [hk] at this
  have h5 := flat_get enc k hk xs i j hj
  rw [hx, Option.bind_some, hu, ← h4, List.getElem?_take_of_lt, Array.getElem?_toList] at h5
  · exact ⟨(cell_of_row w g _ _ _ _ hg).trans h5, frozen_of_row w g _ cur e hg⟩
  · have := lt_of_get hx
    have := Nat.mul_le_mul_right k (show i + 1 ≤ xs.length by omega)
    rw [Nat.add_mul] at this
    omega
end

theorem zeros_len (z : Array Value) (n : Nat) : (Builtin.zeroCells z n).toList.length = n * z.size := by simp [Builtin.zeroCells]
/-- 'clear(s)' of structs: the cells hold the type's zero value's. -/
theorem run_clear_rows {P : Program} (w : World) (t e ty : TypeId) (z : Value) (ht : P.underlying t = some (.slice e)) (hv : ∀ w, (zeroValue e).run P w = .ok z w) (h1 : ∀ v ∈ z.cells.toList, v.oneCell' = true) (b o n c : Nat) (hn : 0 < n)
    (hc : ∀ j, j < n * z.cells.size → (w.cell? ⟨b, o + j, none⟩).isSome = true) (hf : ∀ j, j < n * z.cells.size → w.frozen? ⟨b, o + j, none⟩ = false) :
    (Builtin.clear_ #[t] ty #[.slice (some ⟨b, o, none⟩) n c]).run P w = .ok (.tuple #[]) (w.setCells b o (Builtin.zeroCells z.cells n).toList) := by
  have hst := run_storeCells_cells (P := P) b o (Builtin.zeroCells z.cells n).toList 0 w (fun j hj => by rw [zeros_len] at hj; exact hc j hj) (fun j hj => by rw [zeros_len] at hj; exact hf j hj) (by
    intro v hv'
    simp only [Builtin.zeroCells, Array.toList_map, List.mem_map, Array.toList_range, List.mem_range] at hv'
    obtain ⟨i, hi, rfl⟩ := hv'
    have h0 : 0 < z.cells.size := by
      rcases Nat.eq_zero_or_pos z.cells.size with h | h
      · rw [h] at hi; simp at hi
      · exact h
    have hlt := Nat.mod_lt i h0
    rw [getElem!_pos z.cells _ hlt]
    exact h1 _ (by simp))
  simp only [Nat.add_zero] at hst
  obtain ⟨m, rfl⟩ : ∃ m, n = m + 1 := ⟨n - 1, by omega⟩
  simp [Builtin.clear_, run_underlying ht, hv, hst]
end Go.Proofs.YtgpbdembjdileaaGreatDoor
