/- cover.order, of, list. Condition: the arguments read as pairs and maps. -/
import Derived.Test.YtgpbdembjdileaaGreatDoorPairA
import Derived.Test.YtgpbdembjdileaaGreatDoorKuhnA
import Derived.Test.YtgpbdembjdileaaGreatDoorMapK
import Derived.Test.YtgpbdembjdileaaGreatDoorTail
namespace Go.Proofs.YtgpbdembjdileaaGreatDoor
open Go.RowKit Go.Shelf

/-- The two maps of a matching. -/
structure StAt (w : World) (bo br : Nat) (s : St) : Prop where
  o : MapII w bo s.obv
  r : MapII w br s.rev
  ne : bo ≠ br
section
variable {w w' : World} {bo br : Nat} {s : St}
theorem StAt.below (h : StAt w bo br s) (hb : Below w.heap.size w w') : StAt w' bo br s := ⟨h.o.below hb, h.r.below hb, h.ne⟩
theorem StAt.kept {row : Option Nat} (h : StAt w bo br s) (hg : w.grownBy w' row) (h1 : some bo ≠ row) (h2 : some br ≠ row) : StAt w' bo br s := ⟨h.o.kept hg h1, h.r.kept hg h2, h.ne⟩
end
def ofS (l : List Pair) : St := l.foldl (fun s p => s.set p.a p.b) ⟨[], [], []⟩
theorem ofS_snoc {l : List Pair} {k : Nat} {p : Pair} (h : l[k]? = some p) : ofS (l.take (k + 1)) = (ofS (l.take k)).set p.a p.b := by
  unfold ofS
  rw [take_snoc' h, List.foldl_append]
  rfl
theorem set_len (s : St) (o r : Int) : (s.set o r).obv.length ≤ s.obv.length + 1 ∧ (s.set o r).rev.length ≤ s.rev.length + 1 := by
  unfold St.set
  constructor
  · simp only; rw [putM_len]; split <;> omega
  · simp only; rw [putM_len]; split <;> omega
theorem ofS_len (l : List Pair) : (ofS l).obv.length ≤ l.length ∧ (ofS l).rev.length ≤ l.length := by
  have : ∀ (l : List Pair) (s : St), (l.foldl (fun s p => s.set p.a p.b) s).obv.length ≤ s.obv.length + l.length ∧ (l.foldl (fun s p => s.set p.a p.b) s).rev.length ≤ s.rev.length + l.length := by
    intro l
    induction l with
    | nil => intro s; simp
    | cons p l ih =>
      intro s
      have h1 := ih (s.set p.a p.b)
      have h2 := set_len s p.a p.b
      simp only [List.foldl_cons, List.length_cons]
      omega
  have := this l ⟨[], [], []⟩
  unfold ofS
  simpa using this
theorem heap_set2 {w : World} {g : Nat} {a b x y : Value} {t : TypeId} (h : w.heap[g]? = some (.cells #[a, b] t (0, 0))) :
    ((w.setCell ⟨g, 0, none⟩ x).setCell ⟨g, 1, none⟩ y).heap[g]? = some (.cells #[x, y] t (0, 0)) := by
  have h1 := heap_setCell_same w g 0 _ _ x h
  have h2 := heap_setCell_same _ g 1 _ _ y h1
  simpa using h2
theorem blk2 {w : World} {g : Nat} {a b : Value} {t : TypeId} (h : w.heap[g]? = some (.cells #[a, b] t (0, 0))) :
    w.cell? ⟨g, 0, none⟩ = some a ∧ w.cell? ⟨g, 1, none⟩ = some b ∧ w.frozen? ⟨g, 0, none⟩ = false ∧ w.frozen? ⟨g, 1, none⟩ = false := ⟨heap_cell h, heap_cell h, heap_free h, heap_free h⟩
theorem set2_grown (w : World) (g : Nat) (x y : Value) : w.grownBy ((w.setCell ⟨g, 0, none⟩ x).setCell ⟨g, 1, none⟩ y) (some g) := setCells_grown g [x, y] w 0

end Go.Proofs.YtgpbdembjdileaaGreatDoor
