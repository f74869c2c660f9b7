/- Slices of the call's own behind the library's sort and Compact. No condition. -/
import Derived.Test.YthnckicnnhkkaaaGreatBase
import Derived.Sort.Grow
import Derived.Shelf.GgSortFunc.InsertionK
namespace Go.Proofs.YthnckicnnhkkaaaGreat
open Go.RowKit Go.Sort Go.Proofs

theorem putRow_id {α : Type} [Inhabited α] (enc : α → Value) (w : World) (blk off : Nat) (d : Array α) : putRow enc w blk off d = putRow id w blk off (d.map enc) := by
  unfold putRow
  congr 1
  funext c
  unfold putCells
  rw [Array.size_map]
  congr 1
  funext k x
  split
  · rename_i h
    have hk : k - off < d.size := by omega
    rw [getElem!_pos d _ hk, getElem!_pos (d.map enc) _ (by simpa using hk)]
    simp
  · rfl
theorem holds_id {α : Type} [Inhabited α] (enc : α → Value) (w : World) (blk off : Nat) (d : Array α) : Holds enc w blk off d ↔ Holds id w blk off (d.map enc) := by
  unfold Holds
  rw [Array.size_map]
  refine forall_congr' fun j => ⟨fun h hj => ?_, fun h hj => ?_⟩
  · have := h hj
    rw [getElem!_pos (d.map enc) j (by simpa using hj)]
    rw [getElem!_pos d j hj] at this
    simpa using this
  · have := h hj
    rw [getElem!_pos (d.map enc) j (by simpa using hj)] at this
    rw [getElem!_pos d j hj]
    simpa using this
theorem flatK_flat {α : Type} [Inhabited α] (enc : α → List Value) (k : Nat) (hk : ∀ x, (enc x).length = k) (xs : List α) : flatK enc k xs.toArray = (xs.flatMap enc).toArray := by
  refine ext_get! (by simp [flat_len enc k hk]) fun t ht => ?_
  have ht' : t < xs.toArray.size * k := by simpa using ht
  rw [get_flatK _ _ _ _ ht']
  have k0 : 0 < k := by rcases Nat.eq_zero_or_pos k with h | h
                        · subst h; simp at ht'
                        · exact h
  have hq : t / k < xs.length := by
    rw [Nat.div_lt_iff_lt_mul k0]; simpa using ht'
  have h1 := flat_get enc k hk xs (t / k) (t % k) (Nat.mod_lt _ k0)
  rw [Nat.div_add_mod'] at h1
  rw [List.getElem?_eq_getElem hq] at h1
  have hl : t < (xs.flatMap enc).length := by rw [flat_len enc k hk]; simpa using ht'
  have hm : t % k < (enc xs[t / k]).length := by rw [hk]; exact Nat.mod_lt _ k0
  rw [getElem!_pos (xs.flatMap enc).toArray t (by simpa using hl), getElem!_pos xs.toArray (t / k) (by simpa using hq)]
  simp only [List.getElem_toArray]
  rw [getElem!_pos (enc xs[t / k]) (t % k) hm]
  rw [List.getElem?_eq_getElem hl, Option.bind_some, List.getElem?_eq_getElem hm] at h1
  exact (Option.some.inj h1).symm

/-- What a row of the call's own holds. -/
theorem ownsRow_holds {w : World} {B g cap n size : Nat} {e : TypeId} {xs : List Value} (h : w.ownsRow B e size (.slice (some ⟨g, 0, none⟩) n cap) n xs) : Holds id w g 0 xs.toArray ∧ g < w.heap.size ∧ n ≤ cap ∧ cap ≤ maxLen := by
  rcases h.2 with ⟨h0, _⟩ | ⟨g', cap', cur, hv, hB, hg, h1, h2, h3, h4⟩
  · cases h0
  cases hv
  refine ⟨fun j hj => ?_, (Array.getElem?_eq_some_iff.1 hg).1, h1, h2⟩
  have hj' : j < xs.length := by simpa using hj
  refine ⟨?_, by simp [World.frozen?, hg]⟩
  have e1 : (cur.toList.take (n * size))[j]? = xs[j]? := by rw [h4]
  rw [List.getElem?_take_of_lt (by rw [← h.1]; exact hj')] at e1
  simp only [World.cell?, hg, Nat.zero_add]
  simp only [Option.isSome_none, Bool.false_eq_true, if_false]
  rw [← Array.getElem?_toList, e1]
  simp [hj']
theorem grownBy_put {w : World} {g n : Nat} {os : Array Obj} (d : Array Value) : w.grownBy (grow (putRow id (Sort.ahead w n) g 0 d) os) (some g) := by
  refine ⟨rfl, rfl, rfl, by simp, fun k hk hne => ?_⟩
  rw [heap_grow_old _ _ (by simpa using hk)]
  have : g ≠ k := fun e => hne (by rw [e])
  simp [putRow, mapBlock, Sort.ahead, Array.getElem?_modify, this]
/-- Behind stores into the first cells of a row: the slice, cut to m, owns what its first cells hold now. -/
theorem ownsRow_put {w : World} {B g cap n m q size : Nat} {e : TypeId} {os : Array Obj} {xs ys : List Value} (h : w.ownsRow B e size (.slice (some ⟨g, 0, none⟩) n cap) n xs) (hl : ys.length = xs.length) (hm : m ≤ n) :
    (grow (putRow id (Sort.ahead w q) g 0 ys.toArray) os).ownsRow B e size (.slice (some ⟨g, 0, none⟩) m cap) m (ys.take (m * size)) := by
  have h0 := h.1
  rcases h.2 with ⟨h0, _⟩ | ⟨g', cap', cur, hv, hB, hg, h1, h2, h3, h4⟩
  · cases h0
  cases hv
  have hms : m * size ≤ n * size := Nat.mul_le_mul_right _ hm
  have hns : n * size ≤ cap * size := Nat.mul_le_mul_right _ h1
  refine ⟨by rw [List.length_take]; omega, .inr ⟨g, cap, putCells id 0 ys.toArray cur, rfl, hB, ?_, by omega, h2, by simp [putCells, h3], ?_⟩⟩
  · rw [heap_grow_old _ _ (by simpa using (Array.getElem?_eq_some_iff.1 hg).1)]
    simp [putRow, mapBlock, Sort.ahead, Array.getElem?_modify, hg, onCells]
  · apply List.ext_getElem?
    intro j
    by_cases hj : j < m * size
    · have hj2 : j < ys.length := by omega
      have hj3 : j < cur.size := by omega
      rw [List.getElem?_take_of_lt hj, List.getElem?_take_of_lt hj, Array.getElem?_toList, putCells, Array.getElem?_mapIdx, Array.getElem?_eq_getElem hj3, Option.map_some, if_pos (by simp; omega), List.getElem?_eq_getElem hj2, getElem!_pos ys.toArray (j - 0) (by simpa using hj2)]
      simp
    · rw [List.getElem?_take_eq_none (by omega), List.getElem?_take_eq_none (by omega)]
theorem grow_nil (w : World) : grow w #[] = w := by simp [grow]

/-- A slice of the call's own is nil, or it is written out. -/
theorem Own.cases {α : Type} {enc : α → List Value} {k : Nat} {e : TypeId} {B : Nat} {w : World} {v : Value} {xs : List α} (h : Own enc k e B w v xs) :
    (v = .slice none 0 0 ∧ xs = []) ∨ ∃ g cap, v = .slice (some ⟨g, 0, none⟩) xs.length cap ∧ B ≤ g ∧ g < w.heap.size ∧ xs.length ≤ cap ∧ cap ≤ maxLen := by
  rcases h.2 with ⟨rfl, h0⟩ | ⟨g, cap, cur, rfl, hB, hg, h1, h2, _, _⟩
  · exact .inl ⟨rfl, List.eq_nil_of_length_eq_zero h0⟩
  · exact .inr ⟨g, cap, rfl, hB, (Array.getElem?_eq_some_iff.1 hg).1, h1, h2⟩
theorem Own.base {α : Type} {enc : α → List Value} {k : Nat} {e : TypeId} {B B' : Nat} {w : World} {v : Value} {xs : List α} (h : Own enc k e B w v xs) (hB : B' ≤ B) : Own enc k e B' w v xs :=
  ⟨h.1, h.2.imp id fun ⟨g, cap, cur, hv, hb, r⟩ => ⟨g, cap, cur, hv, Nat.le_trans hB hb, r⟩⟩
theorem Own.holdsK {α : Type} [Inhabited α] {enc : α → List Value} {k : Nat} {e : TypeId} {B g cap n : Nat} {w : World} {xs : List α} (h : Own enc k e B w (.slice (some ⟨g, 0, none⟩) n cap) xs) (hn : n = xs.length) (hk : ∀ x, (enc x).length = k) : HoldsK enc k w g 0 xs.toArray := by
  subst hn
  unfold HoldsK
  rw [flatK_flat enc k hk]
  exact (ownsRow_holds h).1
theorem Own.sorted {α : Type} [Inhabited α] {enc : α → List Value} {k : Nat} {e : TypeId} {B g cap n q : Nat} {w : World} {os : Array Obj} {xs ys : List α} (h : Own enc k e B w (.slice (some ⟨g, 0, none⟩) n cap) xs) (hn : n = xs.length) (hk : ∀ x, (enc x).length = k) (hl : ys.length = xs.length) :
    Own enc k e B (sortWorldK enc k w g 0 q ys.toArray os) (.slice (some ⟨g, 0, none⟩) n cap) ys := by
  subst hn
  unfold sortWorldK putRowK
  rw [flatK_flat enc k hk]
  have h2 : (ys.flatMap enc).length = (xs.flatMap enc).length := by rw [flat_len enc k hk, flat_len enc k hk, hl]
  have := ownsRow_put (q := q) (os := os) h h2 (Nat.le_refl _)
  rw [List.take_of_length_le (by rw [flat_len enc k hk]; rw [hl]; exact Nat.le_refl _)] at this
  unfold Own
  rwa [hl]
theorem Own.grown {α : Type} [Inhabited α] (enc : α → List Value) (k : Nat) {g q : Nat} {w : World} {os : Array Obj} {ys : List α} : w.grownBy (sortWorldK enc k w g 0 q ys.toArray os) (some g) := by
  unfold sortWorldK putRowK
  exact grownBy_put _

theorem flatI (xs : List Int) : xs.flatMap encI = xs.map (Value.int .i64) := by
  induction xs with
  | nil => rfl
  | cons x xs ih => rw [List.flatMap_cons, ih]; rfl
/-- Numbers of the call's own, as the library's contracts ask for them. -/
theorem own_holdsI {B g cap n : Nat} {w : World} {xs : List Int} (h : OwnI B w (.slice (some ⟨g, 0, none⟩) n cap) xs) (hn : n = xs.length) : Holds (Value.int .i64) w g 0 xs.toArray := by
  subst hn
  rw [holds_id]
  have := (ownsRow_holds h).1
  rw [flatI] at this
  simpa using this
theorem own_sortedI {B g cap n q : Nat} {w : World} {os : Array Obj} {xs ys : List Int} (h : OwnI B w (.slice (some ⟨g, 0, none⟩) n cap) xs) (hn : n = xs.length) (hl : ys.length = xs.length) :
    OwnI B (grow (putRow (Value.int .i64) (Sort.ahead w q) g 0 ys.toArray) os) (.slice (some ⟨g, 0, none⟩) n cap) ys ∧ w.grownBy (grow (putRow (Value.int .i64) (Sort.ahead w q) g 0 ys.toArray) os) (some g) := by
  subst hn
  rw [putRow_id]
  have e : ys.toArray.map (Value.int .i64) = (ys.flatMap encI).toArray := by rw [flatI]; simp
  rw [e]
  refine ⟨?_, grownBy_put _⟩
  have := ownsRow_put (q := q) (os := os) h (ys := ys.flatMap encI) (by rw [flatI, flatI]; simpa using hl) (Nat.le_refl _)
  rw [List.take_of_length_le (by rw [flatI]; simp; omega)] at this
  show World.ownsRow _ _ _ _ _ _ _
  rwa [hl]
/-- Behind Compact: the slice is cut. -/
theorem own_compactI {B g cap n q : Nat} {w : World} {xs ys zs : List Int} (h : OwnI B w (.slice (some ⟨g, 0, none⟩) n cap) xs) (hn : n = xs.length) (hl : ys.length + zs.length = xs.length) :
    OwnI B (putRow (Value.int .i64) (Sort.ahead w q) g 0 (ys ++ zs).toArray) (.slice (some ⟨g, 0, none⟩) ys.length cap) ys ∧ w.grownBy (putRow (Value.int .i64) (Sort.ahead w q) g 0 (ys ++ zs).toArray) (some g) := by
  subst hn
  rw [putRow_id]
  have e : (ys ++ zs).toArray.map (Value.int .i64) = ((ys ++ zs).flatMap encI).toArray := by rw [flatI]; simp
  rw [e, ← grow_nil (putRow id _ _ _ _)]
  refine ⟨?_, grownBy_put _⟩
  have := ownsRow_put (q := q) (os := #[]) (m := ys.length) h (ys := (ys ++ zs).flatMap encI) (by rw [flatI, flatI]; simpa using hl) (by omega)
  rw [List.flatMap_append, List.take_left' (by rw [flatI]; simp)] at this
  rw [List.flatMap_append]
  exact this
end Go.Proofs.YthnckicnnhkkaaaGreat
/- Stores into a slice of the call's own, in place; a slice cut; clear of structs. No condition. -/
namespace Go.Proofs.YthnckicnnhkkaaaGreat
open Go.RowKit

/-- Cells written one by one. -/
def putAt (cur : Array Value) : Nat → List Value → Array Value
  | _, [] => cur
  | o, v :: r => putAt (cur.setIfInBounds o v) (o + 1) r
theorem putAt_size : ∀ (vs : List Value) (cur : Array Value) (o : Nat), (putAt cur o vs).size = cur.size
  | [], _, _ => rfl
  | v :: r, cur, o => by rw [putAt, putAt_size r]; simp
theorem putAt_get : ∀ (vs : List Value) (cur : Array Value) (o j : Nat), o + vs.length ≤ cur.size → (putAt cur o vs)[j]? = if o ≤ j ∧ j < o + vs.length then vs[j - o]? else cur[j]?
  | [], _, o, j, _ => by rw [putAt, if_neg (by simp only [List.length_nil]; omega)]
  | v :: r, cur, o, j, h => by
    have h' : o + (r.length + 1) ≤ cur.size := by simpa using h
    rw [putAt, putAt_get r _ (o + 1) j (by simp; omega)]
    simp only [List.length_cons]
    by_cases e : j = o
    · subst e
      rw [if_neg (by omega), if_pos (by omega), Nat.sub_self, Array.getElem?_setIfInBounds, if_pos rfl, if_pos (by omega)]
      rfl
    · by_cases c : o + 1 ≤ j ∧ j < o + 1 + r.length
      · rw [if_pos c, if_pos (by omega)]
        obtain ⟨t, rfl⟩ : ∃ t, j = o + 1 + t := ⟨j - (o + 1), by omega⟩
        rw [show o + 1 + t - (o + 1) = t by omega, show o + 1 + t - o = t + 1 by omega]
        simp
      · rw [if_neg c, if_neg (by omega), Array.getElem?_setIfInBounds, if_neg (by omega)]
theorem setCells_same (g : Nat) (t : TypeId) : ∀ (vs : List Value) (w : World) (o : Nat) (cur : Array Value), w.heap[g]? = some (.cells cur t (0, 0)) → (w.setCells g o vs).heap[g]? = some (.cells (putAt cur o vs) t (0, 0))
  | [], _, _, _, h => h
  | v :: r, w, o, cur, h => by
    rw [World.setCells]
    exact setCells_same g t r _ (o + 1) _ (heap_setCell_same w g o cur t v h)
theorem setCells_grown (g : Nat) : ∀ (vs : List Value) (w : World) (o : Nat), w.grownBy (w.setCells g o vs) (some g)
  | [], w, _ => World.grownBy.refl _ _
  | v :: r, w, o => by
    have h1 : w.grownBy (w.setCell ⟨g, o, none⟩ v) (some g) := ⟨rfl, rfl, rfl, by simp, fun k _ hk => Below.heap_setCell _ _ _ k (fun e => hk (by rw [e]))⟩
    exact h1.trans (setCells_grown g r _ (o + 1))

section
variable {α : Type} {enc : α → List Value} {k : Nat} {e : TypeId} {B g cap n m : Nat} {w : World} {xs : List α}
theorem Own.row (h : Own enc k e B w (.slice (some ⟨g, 0, none⟩) n cap) xs) (hn : n = xs.length) : ∃ cur, B ≤ g ∧ w.heap[g]? = some (.cells cur e (0, 0)) ∧ n ≤ cap ∧ cap ≤ maxLen ∧ cur.size = cap * k ∧ cur.toList.take (n * k) = xs.flatMap enc := by
  subst hn
  rcases h.2 with ⟨h0, _⟩ | ⟨g', cap', cur, hv, hB, hg, h1, h2, h3, h4⟩
  · cases h0
  cases hv
  exact ⟨cur, hB, hg, h1, h2, h3, h4⟩
theorem Own.ofRow (hk : ∀ x, (enc x).length = k) {cur : Array Value} (hB : B ≤ g) (hg : w.heap[g]? = some (.cells cur e (0, 0))) (h1 : n ≤ cap) (h2 : cap ≤ maxLen) (h3 : cur.size = cap * k) (h4 : cur.toList.take (n * k) = xs.flatMap enc) (hn : n = xs.length) :
    Own enc k e B w (.slice (some ⟨g, 0, none⟩) n cap) xs := by
  subst hn
  exact ⟨flat_len enc k hk xs, .inr ⟨g, cap, cur, rfl, hB, hg, h1, h2, h3, h4⟩⟩
/-- A store of one element. -/
theorem Own.put (hk : ∀ x, (enc x).length = k) (k0 : 0 < k) (h : Own enc k e B w (.slice (some ⟨g, 0, none⟩) n cap) xs) (hn : n = xs.length) {i : Nat} (hi : i < n) (y : α) :
    Own enc k e B (w.setCells g (i * k) (enc y)) (.slice (some ⟨g, 0, none⟩) n cap) (xs.set i y) := by
  obtain ⟨cur, hB, hg, h1, h2, h3, h4⟩ := h.row hn
  have hik : i * k + k ≤ n * k := by have := Nat.mul_le_mul_right k (show i + 1 ≤ n by omega); rw [Nat.add_mul] at this; omega
  have hnc : n * k ≤ cap * k := Nat.mul_le_mul_right k h1
  refine Own.ofRow hk hB (setCells_same g e _ _ _ _ hg) h1 h2 (by rw [putAt_size, h3]) ?_ (by simp [hn])
  apply List.ext_getElem?
  intro j
  by_cases hj : j < n * k
  · rw [List.getElem?_take_of_lt hj, Array.getElem?_toList, putAt_get _ _ _ _ (by rw [hk]; omega), hk]
    have hq : j / k < n := by rwa [Nat.div_lt_iff_lt_mul k0]
    have h5 := flat_get enc k hk (xs.set i y) (j / k) (j % k) (Nat.mod_lt _ k0)
    rw [Nat.div_add_mod'] at h5
    rw [h5]
    by_cases c : i * k ≤ j ∧ j < i * k + k
    · have hji : j / k = i := by
        obtain ⟨t, rfl⟩ : ∃ t, j = i * k + t := ⟨j - i * k, by omega⟩
        rw [Nat.mul_comm, Nat.mul_add_div k0, Nat.div_eq_of_lt (by omega), Nat.add_zero]
      have hjm : j % k = j - i * k := by
        have := Nat.div_add_mod' j k
        rw [hji] at this; omega
      rw [if_pos c, hji, hjm, List.getElem?_set_self (by omega), Option.bind_some]
    · have hji : i ≠ j / k := by
        intro e'
        apply c
        have := Nat.div_add_mod' j k
        have := Nat.mod_lt j k0
        rw [← e'] at *
        omega
      rw [if_neg c, List.getElem?_set_ne hji]
      have h6 := flat_get enc k hk xs (j / k) (j % k) (Nat.mod_lt _ k0)
      rw [Nat.div_add_mod'] at h6
      rw [← h6, ← h4, List.getElem?_take_of_lt hj, Array.getElem?_toList]
  · rw [List.getElem?_take_eq_none (by omega), List.getElem?_eq_none (by rw [flat_len enc k hk, List.length_set]; subst hn; omega)]
/-- Stores behind the elements. -/
theorem Own.putTail (hk : ∀ x, (enc x).length = k) (h : Own enc k e B w (.slice (some ⟨g, 0, none⟩) n cap) xs) (hn : n = xs.length) {o : Nat} (ho : n * k ≤ o) (vs : List Value) (hv : o + vs.length ≤ cap * k) :
    Own enc k e B (w.setCells g o vs) (.slice (some ⟨g, 0, none⟩) n cap) xs := by
  obtain ⟨cur, hB, hg, h1, h2, h3, h4⟩ := h.row hn
  refine Own.ofRow hk hB (setCells_same g e _ _ _ _ hg) h1 h2 (by rw [putAt_size, h3]) ?_ hn
  rw [← h4]
  apply List.ext_getElem?
  intro j
  by_cases hj : j < n * k
  · rw [List.getElem?_take_of_lt hj, List.getElem?_take_of_lt hj, Array.getElem?_toList, Array.getElem?_toList, putAt_get _ _ _ _ (by omega), if_neg (by omega)]
  · rw [List.getElem?_take_eq_none (by omega), List.getElem?_take_eq_none (by omega)]
/-- The slice, cut. -/
theorem Own.cut (hk : ∀ x, (enc x).length = k) (h : Own enc k e B w (.slice (some ⟨g, 0, none⟩) n cap) xs) (hn : n = xs.length) (hm : m ≤ n) : Own enc k e B w (.slice (some ⟨g, 0, none⟩) m cap) (xs.take m) := by
  obtain ⟨cur, hB, hg, h1, h2, h3, h4⟩ := h.row hn
  refine Own.ofRow hk hB hg (by omega) h2 h3 ?_ (by simp; omega)
  rw [flat_take enc k hk, ← h4, List.take_take, Nat.min_eq_left (Nat.mul_le_mul_right k hm)]
theorem Own.cellsAt (hk : ∀ x, (enc x).length = k) (h : Own enc k e B w (.slice (some ⟨g, 0, none⟩) n cap) xs) (hn : n = xs.length) {i : Nat} {x : α} (hx : xs[i]? = some x) {j : Nat} {u : Value} (hu : (enc x)[j]? = some u) :
    w.cell? ⟨g, i * k + j, none⟩ = some u ∧ w.frozen? ⟨g, i * k + j, none⟩ = false := by
  subst hn
  obtain ⟨cur, hB, hg, h1, h2, h3, h4⟩ := h.row rfl
  have hj : j < k := by have := lt_of_get hu; rwa [hk] at this
  have h5 := flat_get enc k hk xs i j hj
  rw [hx, Option.bind_some, hu, ← h4, List.getElem?_take_of_lt, Array.getElem?_toList] at h5
  · exact ⟨(cell_of_row w g _ _ _ _ hg).trans h5, frozen_of_row w g _ cur e hg⟩
  · have := lt_of_get hx
    have := Nat.mul_le_mul_right k (show i + 1 ≤ xs.length by omega)
    rw [Nat.add_mul] at this
    omega
end

theorem zeros_len (z : Array Value) (n : Nat) : (Builtin.zeroCells z n).toList.length = n * z.size := by simp [Builtin.zeroCells]
/-- 'clear(s)' of structs: the cells hold the type's zero value's. -/
theorem run_clear_rows {P : Program} (w : World) (t e ty : TypeId) (z : Value) (ht : P.underlying t = some (.slice e)) (hv : ∀ w, (zeroValue e).run P w = .ok z w) (h1 : ∀ v ∈ z.cells.toList, v.oneCell' = true) (b o n c : Nat) (hn : 0 < n)
    (hc : ∀ j, j < n * z.cells.size → (w.cell? ⟨b, o + j, none⟩).isSome = true) (hf : ∀ j, j < n * z.cells.size → w.frozen? ⟨b, o + j, none⟩ = false) :
    (Builtin.clear_ #[t] ty #[.slice (some ⟨b, o, none⟩) n c]).run P w = .ok (.tuple #[]) (w.setCells b o (Builtin.zeroCells z.cells n).toList) := by
  have hst := run_storeCells_cells (P := P) b o (Builtin.zeroCells z.cells n).toList 0 w (fun j hj => by rw [zeros_len] at hj; exact hc j hj) (fun j hj => by rw [zeros_len] at hj; exact hf j hj) (by
    intro v hv'
    simp only [Builtin.zeroCells, Array.toList_map, List.mem_map, Array.toList_range, List.mem_range] at hv'
    obtain ⟨i, hi, rfl⟩ := hv'
    have h0 : 0 < z.cells.size := by
      rcases Nat.eq_zero_or_pos z.cells.size with h | h
      · rw [h] at hi; simp at hi
      · exact h
    have hlt := Nat.mod_lt i h0
    rw [getElem!_pos z.cells _ hlt]
    exact h1 _ (by simp))
  simp only [Nat.add_zero] at hst
  obtain ⟨m, rfl⟩ : ∃ m, n = m + 1 := ⟨n - 1, by omega⟩
  simp [Builtin.clear_, run_underlying ht, hv, hst]
end Go.Proofs.YthnckicnnhkkaaaGreat
