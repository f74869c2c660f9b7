/- Slices of the call's own behind the library's sort and Compact. No condition. -/
import Derived.Test.YtgpbdembjdileaaGreatDoorLib2
import Derived.Sort.Grow
import Derived.Shelf.GgSortFunc.InsertionK
namespace Go.Proofs.YtgpbdembjdileaaGreatDoor
open Go.RowKit Go.Sort Go.Proofs

theorem putRow_id {α : Type} [Inhabited α] (enc : α → Value) (w : World) (blk off : Nat) (d : Array α) : putRow enc w blk off d = putRow id w blk off (d.map enc) := by
  unfold putRow
  congr 1
  funext c
  unfold putCells
  rw [Array.size_map]
  congr 1
  funext k x
  split
  · rename_i h
    have hk : k - off < d.size := by omega
    rw [getElem!_pos d _ hk, getElem!_pos (d.map enc) _ (by simpa using hk)]
    simp
  · rfl
theorem holds_id {α : Type} [Inhabited α] (enc : α → Value) (w : World) (blk off : Nat) (d : Array α) : Holds enc w blk off d ↔ Holds id w blk off (d.map enc) := by
  unfold Holds
  rw [Array.size_map]
  refine forall_congr' fun j => ⟨fun h hj => ?_, fun h hj => ?_⟩
  · have := h hj
    rw [getElem!_pos (d.map enc) j (by simpa using hj)]
    rw [getElem!_pos d j hj] at this
    simpa using this
  · have := h hj
    rw [getElem!_pos (d.map enc) j (by simpa using hj)] at this
    rw [getElem!_pos d j hj]
    simpa using this
theorem flatK_flat {α : Type} [Inhabited α] (enc : α → List Value) (k : Nat) (hk : ∀ x, (enc x).length = k) (xs : List α) : flatK enc k xs.toArray = (xs.flatMap enc).toArray := by
  refine ext_get! (by simp [flat_len enc k hk]) fun t ht => ?_
  have ht' : t < xs.toArray.size * k := by simpa using ht
  rw [get_flatK _ _ _ _ ht']
  have k0 : 0 < k := by rcases Nat.eq_zero_or_pos k with h | h
                        · subst h; simp at ht'
                        · exact h
  have hq : t / k < xs.length := by
    rw [Nat.div_lt_iff_lt_mul k0]; simpa using ht'
  have h1 := flat_get enc k hk xs (t / k) (t % k) (Nat.mod_lt _ k0)
  rw [Nat.div_add_mod'] at h1
  rw [List.getElem?_eq_getElem hq] at h1
  have hl : t < (xs.flatMap enc).length := by rw [flat_len enc k hk]; simpa using ht'
  have hm : t % k < (enc xs[t / k]).length := by rw [hk]; exact Nat.mod_lt _ k0
  rw [getElem!_pos (xs.flatMap enc).toArray t (by simpa using hl), getElem!_pos xs.toArray (t / k) (by simpa using hq)]
  simp only [List.getElem_toArray]
  rw [getElem!_pos (enc xs[t / k]) (t % k) hm]
  rw [List.getElem?_eq_getElem hl, Option.bind_some, List.getElem?_eq_getElem hm] at h1
  exact (Option.some.inj h1).symm

/-- What a row of the call's own holds. -/
theorem ownsRow_holds {w : World} {B g cap n size : Nat} {e : TypeId} {xs : List Value} (h : w.ownsRow B e size (.slice (some ⟨g, 0, none⟩) n cap) n xs) : Holds id w g 0 xs.toArray ∧ g < w.heap.size ∧ n ≤ cap ∧ cap ≤ maxLen := by
  rcases h.2 with ⟨h0, _⟩ | ⟨g', cap', cur, hv, hB, hg, h1, h2, h3, h4⟩
  · cases h0
  cases hv
  refine ⟨fun j hj => ?_, (Array.getElem?_eq_some_iff.1 hg).1, h1, h2⟩
  have hj' : j < xs.length := by simpa using hj
  refine ⟨?_, by simp [World.frozen?, hg]⟩
  have e1 : (cur.toList.take (n * size))[j]? = xs[j]? := by rw [h4]
  rw [List.getElem?_take_of_lt (by rw [← h.1]; exact hj')] at e1
  simp only [World.cell?, hg, Nat.zero_add]
  simp only [Option.isSome_none, Bool.false_eq_true, if_false]
  rw [← Array.getElem?_toList, e1]
  simp [hj']
theorem grownBy_put {w : World} {g n : Nat} {os : Array Obj} (d : Array Value) : w.grownBy (grow (putRow id (Sort.ahead w n) g 0 d) os) (some g) := by
  refine ⟨rfl, rfl, rfl, by simp, fun k hk hne => ?_⟩
  rw [heap_grow_old _ _ (by simpa using hk)]
  have : g ≠ k := fun e => hne (by rw [e])
  simp [putRow, mapBlock, Sort.ahead, Array.getElem?_modify, this]
/-- Behind stores into the first cells of a row: the slice, cut to m, owns what its first cells hold now. -/
theorem ownsRow_put {w : World} {B g cap n m q size : Nat} {e : TypeId} {os : Array Obj} {xs ys : List Value} (h : w.ownsRow B e size (.slice (some ⟨g, 0, none⟩) n cap) n xs) (hl : ys.length = xs.length) (hm : m ≤ n) :
    (grow (putRow id (Sort.ahead w q) g 0 ys.toArray) os).ownsRow B e size (.slice (some ⟨g, 0, none⟩) m cap) m (ys.take (m * size)) := by
  have h0 := h.1
  rcases h.2 with ⟨h0, _⟩ | ⟨g', cap', cur, hv, hB, hg, h1, h2, h3, h4⟩
  · cases h0
  cases hv
  have hms : m * size ≤ n * size := Nat.mul_le_mul_right _ hm
  have hns : n * size ≤ cap * size := Nat.mul_le_mul_right _ h1
  refine ⟨by rw [List.length_take]; omega, .inr ⟨g, cap, putCells id 0 ys.toArray cur, rfl, hB, ?_, by omega, h2, by simp [putCells, h3], ?_⟩⟩
  · rw [heap_grow_old _ _ (by simpa using (Array.getElem?_eq_some_iff.1 hg).1)]
    simp [putRow, mapBlock, Sort.ahead, Array.getElem?_modify, hg, onCells]
  · apply List.ext_getElem?
    intro j
    by_cases hj : j < m * size
    · have hj2 : j < ys.length := by omega
      have hj3 : j < cur.size := by omega
      rw [List.getElem?_take_of_lt hj, List.getElem?_take_of_lt hj, Array.getElem?_toList, putCells, Array.getElem?_mapIdx, Array.getElem?_eq_getElem hj3, Option.map_some, if_pos (by simp; omega), List.getElem?_eq_getElem hj2, getElem!_pos ys.toArray (j - 0) (by simpa using hj2)]
      simp
    · rw [List.getElem?_take_eq_none (by omega), List.getElem?_take_eq_none (by omega)]
theorem below_put {B g n : Nat} {w : World} {os : Array Obj} {d : Array Value} (hB : B ≤ w.heap.size) (hg : B ≤ g) : Below B w (grow (putRow id (Sort.ahead w n) g 0 d) os) :=
  (Below.refl B w).grown (grownBy_put d) hB (fun k e => by cases e; exact hg)
theorem grow_nil (w : World) : grow w #[] = w := by simp [grow]

/-- A slice of the call's own is nil, or it is written out. -/
theorem Own.cases {α : Type} {enc : α → List Value} {k : Nat} {e : TypeId} {B : Nat} {w : World} {v : Value} {xs : List α} (h : Own enc k e B w v xs) :
    (v = .slice none 0 0 ∧ xs = []) ∨ ∃ g cap, v = .slice (some ⟨g, 0, none⟩) xs.length cap ∧ B ≤ g ∧ g < w.heap.size ∧ xs.length ≤ cap ∧ cap ≤ maxLen := by
  rcases h.2 with ⟨rfl, h0⟩ | ⟨g, cap, cur, rfl, hB, hg, h1, h2, _, _⟩
  · exact .inl ⟨rfl, List.eq_nil_of_length_eq_zero h0⟩
  · exact .inr ⟨g, cap, rfl, hB, (Array.getElem?_eq_some_iff.1 hg).1, h1, h2⟩
theorem Own.base {α : Type} {enc : α → List Value} {k : Nat} {e : TypeId} {B B' : Nat} {w : World} {v : Value} {xs : List α} (h : Own enc k e B w v xs) (hB : B' ≤ B) : Own enc k e B' w v xs :=
  ⟨h.1, h.2.imp id fun ⟨g, cap, cur, hv, hb, r⟩ => ⟨g, cap, cur, hv, Nat.le_trans hB hb, r⟩⟩
theorem Own.holdsK {α : Type} [Inhabited α] {enc : α → List Value} {k : Nat} {e : TypeId} {B g cap n : Nat} {w : World} {xs : List α} (h : Own enc k e B w (.slice (some ⟨g, 0, none⟩) n cap) xs) (hn : n = xs.length) (hk : ∀ x, (enc x).length = k) : HoldsK enc k w g 0 xs.toArray := by
  subst hn
  unfold HoldsK
  rw [flatK_flat enc k hk]
  exact (ownsRow_holds h).1
theorem Own.sorted {α : Type} [Inhabited α] {enc : α → List Value} {k : Nat} {e : TypeId} {B g cap n q : Nat} {w : World} {os : Array Obj} {xs ys : List α} (h : Own enc k e B w (.slice (some ⟨g, 0, none⟩) n cap) xs) (hn : n = xs.length) (hk : ∀ x, (enc x).length = k) (hl : ys.length = xs.length) :
    Own enc k e B (sortWorldK enc k w g 0 q ys.toArray os) (.slice (some ⟨g, 0, none⟩) n cap) ys := by
  subst hn
  unfold sortWorldK putRowK
  rw [flatK_flat enc k hk]
  have h2 : (ys.flatMap enc).length = (xs.flatMap enc).length := by rw [flat_len enc k hk, flat_len enc k hk, hl]
  have := ownsRow_put (q := q) (os := os) h h2 (Nat.le_refl _)
  rw [List.take_of_length_le (by rw [flat_len enc k hk]; rw [hl]; exact Nat.le_refl _)] at this
  unfold Own
  rwa [hl]
theorem Own.grown {α : Type} [Inhabited α] (enc : α → List Value) (k : Nat) {g q : Nat} {w : World} {os : Array Obj} {ys : List α} : w.grownBy (sortWorldK enc k w g 0 q ys.toArray os) (some g) := by
  unfold sortWorldK putRowK
  exact grownBy_put _

theorem flatI (xs : List Int) : xs.flatMap encI = xs.map (Value.int .i64) := by
  induction xs with
  | nil => rfl
  | cons x xs ih => rw [List.flatMap_cons, ih]; rfl
/-- Numbers of the call's own, as the library's contracts ask for them. -/
theorem own_holdsI {B g cap n : Nat} {w : World} {xs : List Int} (h : OwnI B w (.slice (some ⟨g, 0, none⟩) n cap) xs) (hn : n = xs.length) : Holds (Value.int .i64) w g 0 xs.toArray := by
  subst hn
  rw [holds_id]
  have := (ownsRow_holds h).1
  rw [flatI] at this
  simpa using this
theorem own_sortedI {B g cap n q : Nat} {w : World} {os : Array Obj} {xs ys : List Int} (h : OwnI B w (.slice (some ⟨g, 0, none⟩) n cap) xs) (hn : n = xs.length) (hl : ys.length = xs.length) :
    OwnI B (grow (putRow (Value.int .i64) (Sort.ahead w q) g 0 ys.toArray) os) (.slice (some ⟨g, 0, none⟩) n cap) ys ∧ w.grownBy (grow (putRow (Value.int .i64) (Sort.ahead w q) g 0 ys.toArray) os) (some g) := by
  subst hn
  rw [putRow_id]
  have e : ys.toArray.map (Value.int .i64) = (ys.flatMap encI).toArray := by rw [flatI]; simp
  rw [e]
  refine ⟨?_, grownBy_put _⟩
  have := ownsRow_put (q := q) (os := os) h (ys := ys.flatMap encI) (by rw [flatI, flatI]; simpa using hl) (Nat.le_refl _)
  rw [List.take_of_length_le (by rw [flatI]; simp; omega)] at this
  show World.ownsRow _ _ _ _ _ _ _
  rwa [hl]
/-- Behind Compact: the slice is cut. -/
theorem own_compactI {B g cap n q : Nat} {w : World} {xs ys zs : List Int} (h : OwnI B w (.slice (some ⟨g, 0, none⟩) n cap) xs) (hn : n = xs.length) (hl : ys.length + zs.length = xs.length) :
    OwnI B (putRow (Value.int .i64) (Sort.ahead w q) g 0 (ys ++ zs).toArray) (.slice (some ⟨g, 0, none⟩) ys.length cap) ys ∧ w.grownBy (putRow (Value.int .i64) (Sort.ahead w q) g 0 (ys ++ zs).toArray) (some g) := by
  subst hn
  rw [putRow_id]
  have e : (ys ++ zs).toArray.map (Value.int .i64) = ((ys ++ zs).flatMap encI).toArray := by rw [flatI]; simp
  rw [e, ← grow_nil (putRow id _ _ _ _)]
  refine ⟨?_, grownBy_put _⟩
  have := ownsRow_put (q := q) (os := #[]) (m := ys.length) h (ys := (ys ++ zs).flatMap encI) (by rw [flatI, flatI]; simpa using hl) (by omega)
  rw [List.flatMap_append, List.take_left' (by rw [flatI]; simp)] at this
  rw [List.flatMap_append]
  exact this
end Go.Proofs.YtgpbdembjdileaaGreatDoor
