/- A new block that is filled at once. No program in sight, no condition. -/
import Derived.Test.YtikfffojeakjoaaGreatDoorRefA
import Derived.Test.YtikfffojeakjoaaGreatDoorOwn
import Derived.Test.YtikfffojeakjoaaGreatDoorCovT
namespace Go.Proofs.YtikfffojeakjoaaGreatDoor
open Go.RowKit

theorem heap_setCells {b : Nat} {t : TypeId} : ∀ (vs pre rest : List Value) (w : World), w.heap[b]? = some (.cells (pre ++ rest).toArray t (0, 0)) → rest.length = vs.length →
    (w.setCells b pre.length vs).heap[b]? = some (.cells (pre ++ vs).toArray t (0, 0))
  | [], pre, rest, w, h, hl => by
    have : rest = [] := List.eq_nil_of_length_eq_zero hl
    rw [this] at h
    exact h
  | v :: vs, pre, [], w, h, hl => by simp at hl
  | v :: vs, pre, r :: rest, w, h, hl => by
    have h1 := heap_setCell_same w b pre.length _ _ v h
    have h2 : ((pre ++ r :: rest).toArray.setIfInBounds pre.length v) = ((pre ++ [v]) ++ rest).toArray := by simp
    have h3 := heap_setCells vs (pre ++ [v]) rest (w.setCell ⟨b, pre.length, none⟩ v) (by rw [← h2]; exact h1) (by simpa using hl)
    have e : (pre ++ [v]).length = pre.length + 1 := by simp
    rw [e] at h3
    have e2 : pre ++ v :: vs = (pre ++ [v]) ++ vs := by simp
    rw [e2]
    exact h3
/-- The block is made with zs, then filled with vs. -/
theorem fresh (w : World) (zs vs : List Value) (t : TypeId) (hl : zs.length = vs.length) :
    ∃ W W', w.alloc (.cells zs.toArray t) = W ∧ W.setCells w.heap.size 0 vs = W' ∧ Hid (W.heap.size = w.heap.size + 1) ∧ W.heap[w.heap.size]? = some (.cells zs.toArray t (0, 0)) ∧
      W'.heap[w.heap.size]? = some (.cells vs.toArray t (0, 0)) ∧ Below w.heap.size w W' ∧ w.heap.size < W'.heap.size := by
  have h0 : (w.alloc (.cells zs.toArray t)).heap[w.heap.size]? = some (.cells zs.toArray t (0, 0)) := heap_alloc_new _ _
  have h1 := heap_setCells vs [] zs _ h0 hl
  have hb : Below w.heap.size w (w.alloc (.cells zs.toArray t)) := (Below.refl _ _).alloc (Nat.le_refl _) _
  have hg := setCells_grown w.heap.size vs (w.alloc (.cells zs.toArray t)) 0
  exact ⟨_, _, rfl, rfl, Lib.hid (by simp), h0, h1, hb.grown hg hb.size (fun j e => by cases e; exact Nat.le_refl _), heap_lt h1⟩
/-- Two blocks are made, then filled. -/
theorem fresh2 (w : World) (z1 v1 z2 v2 : List Value) (t : TypeId) (h1 : z1.length = v1.length) (h2 : z2.length = v2.length) :
    ∃ W1 W2 W', w.alloc (.cells z1.toArray t) = W1 ∧ W1.alloc (.cells z2.toArray t) = W2 ∧ (W2.setCells w.heap.size 0 v1).setCells W1.heap.size 0 v2 = W' ∧ Hid (W1.heap.size = w.heap.size + 1) ∧ w.heap.size < W1.heap.size ∧
      W2.heap[w.heap.size]? = some (.cells z1.toArray t (0, 0)) ∧ W2.heap[W1.heap.size]? = some (.cells z2.toArray t (0, 0)) ∧ W'.heap[w.heap.size]? = some (.cells v1.toArray t (0, 0)) ∧ W'.heap[W1.heap.size]? = some (.cells v2.toArray t (0, 0)) ∧
      Below w.heap.size w W' ∧ W1.heap.size < W'.heap.size := by
  obtain ⟨W1, hW1⟩ : ∃ z, w.alloc (.cells z1.toArray t) = z := ⟨_, rfl⟩
  obtain ⟨W2, hW2⟩ : ∃ z, W1.alloc (.cells z2.toArray t) = z := ⟨_, rfl⟩
  have k1 : W1.heap[w.heap.size]? = some (.cells z1.toArray t (0, 0)) := by rw [← hW1]; exact heap_alloc_new _ _
  have k2 : W2.heap[W1.heap.size]? = some (.cells z2.toArray t (0, 0)) := by rw [← hW2]; exact heap_alloc_new _ _
  have b1 : Below w.heap.size w W1 := by rw [← hW1]; exact (Below.refl _ _).alloc (Nat.le_refl _) _
  have b2 : Below W1.heap.size W1 W2 := by rw [← hW2]; exact (Below.refl _ _).alloc (Nat.le_refl _) _
  have s1 : W1.heap.size = w.heap.size + 1 := by rw [← hW1]; simp
  have k3 := heap_below k1 b2 (heap_lt k1)
  have m1 := heap_setCells v1 [] z1 W2 k3 h1
  obtain ⟨W3, hW3⟩ : ∃ z, W2.setCells w.heap.size 0 v1 = z := ⟨_, rfl⟩
  have g1 : W2.grownBy W3 (some w.heap.size) := by rw [← hW3]; exact setCells_grown _ _ _ _
  have m1' : W3.heap[w.heap.size]? = some (.cells v1.toArray t (0, 0)) := by rw [← hW3]; exact m1
  have k4 := (g1.block _ (heap_lt k2) (fun e => by have := Option.some.inj e; omega)).trans k2
  have m2 := heap_setCells v2 [] z2 W3 k4 h2
  obtain ⟨W4, hW4⟩ : ∃ z, W3.setCells W1.heap.size 0 v2 = z := ⟨_, rfl⟩
  have g2 : W3.grownBy W4 (some W1.heap.size) := by rw [← hW4]; exact setCells_grown _ _ _ _
  have m2' : W4.heap[W1.heap.size]? = some (.cells v2.toArray t (0, 0)) := by rw [← hW4]; exact m2
  have m3 := (g2.block _ (heap_lt m1') (fun e => by have := Option.some.inj e; omega)).trans m1'
  have bb := below_trans b1 b2
  have b3 := bb.grown g1 bb.size (fun j e => by cases e; exact Nat.le_refl _)
  have b4 := b3.grown g2 b3.size (fun j e => by cases e; omega)
  refine ⟨W1, W2, W4, hW1, hW2, by rw [hW3, hW4], Lib.hid s1, by omega, k3, k2, m3, m2', b4, heap_lt m2'⟩
theorem heap_set2 {w : World} {g : Nat} {a b x y : Value} {t : TypeId} (h : w.heap[g]? = some (.cells [a, b].toArray t (0, 0))) :
    ((w.setCell ⟨g, 0, none⟩ x).setCell ⟨g, 1, none⟩ y).heap[g]? = some (.cells [x, y].toArray t (0, 0)) := heap_setCells [x, y] [] [a, b] w h rfl
theorem own_one {α : Type} {enc : α → List Value} {k : Nat} {e : TypeId} {B g : Nat} {W : World} {x : α} (hk : (enc x).length = k) (h : W.heap[g]? = some (.cells (enc x).toArray e (0, 0))) (hB : B ≤ g) : Own enc k e B W (.slice (some ⟨g, 0, none⟩) 1 1) [x] :=
  ⟨by simp [hk], .inr ⟨g, 1, _, rfl, hB, h, by simp, by simp [maxLen], by simp [hk], by rw [show [x].length * k = (enc x).length by simp [hk]]; simp⟩⟩
theorem cells3 {w : World} {g : Nat} {a b c : Value} {t : TypeId} (h : w.heap[g]? = some (.cells [a, b, c].toArray t (0, 0))) :
    (w.cell? ⟨g, 0, none⟩ = some a ∧ w.cell? ⟨g, 1, none⟩ = some b ∧ w.cell? ⟨g, 2, none⟩ = some c) ∧ w.frozen? ⟨g, 0, none⟩ = false ∧ w.frozen? ⟨g, 1, none⟩ = false ∧ w.frozen? ⟨g, 2, none⟩ = false :=
  ⟨⟨heap_cell h, heap_cell h, heap_cell h⟩, heap_free h, heap_free h, heap_free h⟩
theorem cells2 {w : World} {g : Nat} {a b : Value} {t : TypeId} (h : w.heap[g]? = some (.cells [a, b].toArray t (0, 0))) :
    (w.cell? ⟨g, 0, none⟩ = some a ∧ w.cell? ⟨g, 1, none⟩ = some b) ∧ w.frozen? ⟨g, 0, none⟩ = false ∧ w.frozen? ⟨g, 1, none⟩ = false :=
  ⟨⟨heap_cell h, heap_cell h⟩, heap_free h, heap_free h⟩
theorem cellsS {w : World} {g : Nat} {a b c d e f k : Value} {t : TypeId} (h : w.heap[g]? = some (.cells [a, b, c, d, e, f, k].toArray t (0, 0))) :
    (w.cell? ⟨g, 0, none⟩ = some a ∧ w.cell? ⟨g, 1, none⟩ = some b ∧ w.cell? ⟨g, 2, none⟩ = some c ∧ w.cell? ⟨g, 3, none⟩ = some d ∧ w.cell? ⟨g, 4, none⟩ = some e ∧ w.cell? ⟨g, 5, none⟩ = some f ∧ w.cell? ⟨g, 6, none⟩ = some k) ∧
      w.frozen? ⟨g, 0, none⟩ = false ∧ w.frozen? ⟨g, 1, none⟩ = false ∧ w.frozen? ⟨g, 2, none⟩ = false ∧ w.frozen? ⟨g, 3, none⟩ = false ∧ w.frozen? ⟨g, 4, none⟩ = false ∧ w.frozen? ⟨g, 5, none⟩ = false ∧ w.frozen? ⟨g, 6, none⟩ = false :=
  ⟨⟨heap_cell h, heap_cell h, heap_cell h, heap_cell h, heap_cell h, heap_cell h, heap_cell h⟩, heap_free h, heap_free h, heap_free h, heap_free h, heap_free h, heap_free h, heap_free h⟩
theorem Own.touch {α : Type} {enc : α → List Value} {k : Nat} {e : TypeId} {B : Nat} {w w' : World} {v : Value} {xs : List α} {S : List Nat} (h : Own enc k e B w v xs) (ht : Touch w w' S) (hS : ∀ b ∈ S, b < B) : Own enc k e B w' v xs :=
  ⟨h.1, h.2.imp id fun ⟨g, cap, cur, hv, hb, hg, r⟩ => ⟨g, cap, cur, hv, hb, (ht.block g (heap_lt hg) (fun hm => by have := hS g hm; omega)).trans hg, r⟩⟩
end Go.Proofs.YtikfffojeakjoaaGreatDoor
