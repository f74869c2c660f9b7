/- A row of numbers in a block of its own. No condition. -/
import Derived.Test.YtikfffojeakjoaaGreatDoorQueD
namespace Go.Proofs.YtikfffojeakjoaaGreatDoor
open Go.RowKit Go.Shelf Go.Maps

/-- The row of a make in which the first numbers are -1. -/
def negF (n j : Nat) : List Int := (List.range n).map fun i => if i < j then -1 else 0
theorem negF_zero (n : Nat) : negF n 0 = List.replicate n 0 := by
  refine List.ext_getElem? fun i => ?_
  rw [negF, List.getElem?_map]
  by_cases hi : i < n
  · rw [List.getElem?_range hi, List.getElem?_replicate, if_pos hi]; rfl
  · rw [List.getElem?_eq_none (by simpa using hi), List.getElem?_eq_none (by simpa using hi)]; rfl
theorem negF_set {n j : Nat} (h : j < n) : (negF n j).set j (-1) = negF n (j + 1) := by
  refine List.ext_getElem? fun i => ?_
  rw [List.getElem?_set, negF, negF, List.getElem?_map, List.getElem?_map]
  by_cases hi : i < n
  · rw [List.getElem?_range hi]
    simp only [List.length_map, List.length_range, Option.map_some]
    by_cases e : j = i
    · subst e; rw [if_pos rfl, if_pos h, if_pos (by omega)]
    · rw [if_neg e]
      congr 1
      by_cases h1 : i < j
      · rw [if_pos h1, if_pos (by omega)]
      · rw [if_neg h1, if_neg (by omega)]
  · rw [List.getElem?_eq_none (by simpa using hi), if_neg (by omega)]; rfl
theorem negF_end (n : Nat) : negF n n = List.replicate n (-1) := by
  refine List.ext_getElem? fun i => ?_
  rw [negF, List.getElem?_map]
  by_cases hi : i < n
  · rw [List.getElem?_range hi, List.getElem?_replicate, if_pos hi]; simp [hi]
  · rw [List.getElem?_eq_none (by simpa using hi), List.getElem?_eq_none (by simpa using hi)]; rfl
/-- A row of numbers in a block of its own. -/
def RowI (w : World) (b : Nat) (r : List Int) : Prop := w.heap[b]? = some (.cells (r.map (Value.int .i64)).toArray 3 (0, 0))
section
variable {w w' : World} {b : Nat} {r : List Int}
theorem RowI.cell (h : RowI w b r) {k : Nat} {x : Int} (hx : r[k]? = some x) : w.cell? ⟨b, k, none⟩ = some (.int .i64 x) ∧ w.frozen? ⟨b, k, none⟩ = false := by
  refine ⟨?_, heap_free h⟩
  rw [heap_cell h]; simp [hx]
theorem RowI.set (h : RowI w b r) (k : Nat) (x : Int) : RowI (w.setCell ⟨b, k, none⟩ (.int .i64 x)) b (r.set k x) := by
  have := heap_setCell_same w b k _ _ (.int .i64 x) h
  unfold RowI
  rw [this]; simp [List.map_set]
theorem RowI.lt (h : RowI w b r) : b < w.heap.size := heap_lt h
theorem RowI.below (h : RowI w b r) (hb : Below w.heap.size w w') : RowI w' b r := heap_below h hb (heap_lt h)
theorem RowI.ints (h : RowI w b r) {n : Nat} (hn : n = r.length) (hm : n ≤ maxLen) : Ints w (.slice (some ⟨b, 0, none⟩) n n) r := by
  subst hn
  exact ⟨some ⟨b, 0, none⟩, r.length, rfl, Nat.le_refl _, hm, flat_len encI 1 lenI r, fun _ => ⟨b, 0, rfl, heap_lt h, fun j u hu => by
    rw [Nat.zero_add, heap_cell h]
    rw [flatI] at hu
    simpa using hu⟩⟩
end
end Go.Proofs.YtikfffojeakjoaaGreatDoor
