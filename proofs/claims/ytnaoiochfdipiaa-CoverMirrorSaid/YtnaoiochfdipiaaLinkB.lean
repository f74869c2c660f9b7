/- linkage.with. Condition: the argument reads as a list of links. -/
import Derived.Test.YtnaoiochfdipiaaTail
import Derived.Test.YtnaoiochfdipiaaLinkA
namespace Go.Proofs.Ytnaoiochfdipiaa
open Go.RowKit Go.Shelf

/-- The local graph in block w.heap.size + 1, the result's block before it, the two lists under way. -/
structure WSt (w wr : World) (u1 u2 u3 : Value) (a b : List Int) : Prop where
  g : wr.heap[w.heap.size + 1]? = some (.cells #[u1, u2, u3] 25 (0, 0))
  r : wr.heap[w.heap.size]? = some (.cells #[.slice none 0 0, .slice none 0 0, .slice none 0 0] 25 (0, 0))
  o1 : OwnI (w.heap.size + 2) wr u1 a
  o2 : OwnI (w.heap.size + 2) wr u2 b
  ap : Apart u1 u2
  b : Below w.heap.size w wr
theorem Own.form {α : Type} {enc : α → List Value} {k : Nat} {e : TypeId} {B : Nat} {w : World} {v : Value} {xs : List α} {y : α} (h : Own enc k e B w v (xs ++ [y])) {m : Nat} (hm : (xs ++ [y]).length = m) : ∃ g cap, v = .slice (some ⟨g, 0, none⟩) m cap := by
  subst hm
  rcases h.cases with ⟨_, h0⟩ | ⟨g, cap, e, _⟩
  · simp at h0
  · exact ⟨g, cap, e⟩
section
variable {w wr w' : World} {u1 u2 u3 v1 v2 : Value} {a b a' b' : List Int}
theorem own_ne {B g : Nat} {u : Value} {xs : List Int} (h : OwnI B wr u xs) (hg : g < B) : some g ≠ u.ownBlock := fun e => by have := (h.lt g e.symm).1; omega
theorem own_setCell {B g i : Nat} {u x : Value} {xs : List Int} (h : OwnI B wr u xs) (hg : g < B) : OwnI B (wr.setCell ⟨g, i, none⟩ x) u xs :=
  Own.kept h (row := some g) ⟨rfl, rfl, rfl, by simp, fun k _ hk => Below.heap_setCell _ _ _ k (fun e => hk (by rw [e]))⟩ (.inr fun e => by have := (h.lt g e).1; omega)
theorem WSt.step (hg : w'.heap[w.heap.size + 1]? = some (.cells #[u1, u2, u3] 25 (0, 0))) (hr : w'.heap[w.heap.size]? = some (.cells #[.slice none 0 0, .slice none 0 0, .slice none 0 0] 25 (0, 0)))
    (o1 : OwnI (w.heap.size + 2) w' v1 a') (o2 : OwnI (w.heap.size + 2) w' v2 b') (ap : Apart v1 v2) (hb : Below w.heap.size w w') :
    WSt w ((w'.setCell ⟨w.heap.size + 1, 0, none⟩ v1).setCell ⟨w.heap.size + 1, 1, none⟩ v2) v1 v2 u3 a' b' := by
  refine ⟨?_, ?_, own_setCell (own_setCell o1 (by omega)) (by omega), own_setCell (own_setCell o2 (by omega)) (by omega), ap, (hb.setCell (by simp) _).setCell (by simp) _⟩
  · have h1 := heap_setCell_same w' (w.heap.size + 1) 0 _ _ v1 hg
    have h2 := heap_setCell_same _ (w.heap.size + 1) 1 _ _ v2 h1
    simpa using h2
  · rw [heap_setCell_other _ _ _ _ (by simp), heap_setCell_other _ _ _ _ (by simp)]; exact hr
/-- What stands while only the two rows and new blocks turn. -/
theorem WSt.held (h : WSt w wr u1 u2 u3 a b) {cs : Array Value} {t : TypeId} {W1 : World} (hW : wr.alloc (.cells cs t) = W1) (hs : Grown2 W1 w' u1.ownBlock u2.ownBlock) :
    w'.heap[w.heap.size + 1]? = some (.cells #[u1, u2, u3] 25 (0, 0)) ∧ w'.heap[w.heap.size]? = some (.cells #[.slice none 0 0, .slice none 0 0, .slice none 0 0] 25 (0, 0)) ∧ w'.heap[wr.heap.size]? = some (.cells cs t (0, 0)) ∧ Below w.heap.size w w' := by
  subst hW
  have hz := heap_lt h.g
  have hz2 := heap_lt h.r
  refine ⟨?_, ?_, ?_, ?_⟩
  · rw [hs.block _ (by simp; omega) (own_ne h.o1 (by omega)) (own_ne h.o2 (by omega)), Below.heap_alloc _ _ _ hz]; exact h.g
  · rw [hs.block _ (by simp; omega) (own_ne h.o1 (by omega)) (own_ne h.o2 (by omega)), Below.heap_alloc _ _ _ hz2]; exact h.r
  · rw [hs.block _ (by simp) (fun e => by have := (h.o1.lt _ e.symm).2; omega) (fun e => by have := (h.o2.lt _ e.symm).2; omega)]; exact heap_alloc_new _ _
  · exact (h.b.alloc h.b.size _).trans (hs.below (by simp; omega) (fun k e => by have := (h.o1.lt k e).1; omega) (fun k e => by have := (h.o2.lt k e).1; omega))
end
end Go.Proofs.Ytnaoiochfdipiaa
