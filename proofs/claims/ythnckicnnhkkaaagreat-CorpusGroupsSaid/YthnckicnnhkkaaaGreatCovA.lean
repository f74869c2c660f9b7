/- cover.order, of, list. Condition: the arguments read as pairs and maps. -/
import Derived.Test.YthnckicnnhkkaaaGreatPairA
import Derived.Test.YthnckicnnhkkaaaGreatKuhnA
import Derived.Test.YthnckicnnhkkaaaGreatMapK
import Derived.Test.YthnckicnnhkkaaaGreatTail
import Derived.Test.YthnckicnnhkkaaaGreatCovT
namespace Go.Proofs.YthnckicnnhkkaaaGreat
open Go.RowKit Go.Shelf

/-- The two maps of a matching. -/
structure StAt (w : World) (bo br : Nat) (s : St) : Prop where
  o : MapII w bo s.obv
  r : MapII w br s.rev
  ne : bo ≠ br
section
variable {w w' : World} {bo br : Nat} {s : St}
theorem StAt.below (h : StAt w bo br s) (hb : Below w.heap.size w w') : StAt w' bo br s := ⟨h.o.below hb, h.r.below hb, h.ne⟩
end
end Go.Proofs.YthnckicnnhkkaaaGreat
/- cover.list. Condition: the argument's maps. -/
namespace Go.Proofs.YthnckicnnhkkaaaGreat
open Go.RowKit Go.Shelf Go.Maps

section
variable {m : List (Int × Int)} {todo : List Int} {zs : List Pair}
end
end Go.Proofs.YthnckicnnhkkaaaGreat
/- A call that touches blocks of maps; the lengths that a search leaves. No program in sight, no condition. -/
namespace Go.Proofs.YthnckicnnhkkaaaGreat
open Go.RowKit Go.Maps

/-- A matching and the set of what was looked at, in their three maps. -/
structure AugAt (w : World) (bo br bs : Nat) (s : St) : Prop where
  st : StAt w bo br s
  sn : SetI w bs s.seen
  n1 : bs ≠ bo
  n2 : bs ≠ br
section
variable {w w' : World} {bo br bs : Nat} {s : St}
theorem AugAt.below (h : AugAt w bo br bs s) (hb : Below w.heap.size w w') : AugAt w' bo br bs s := ⟨h.st.below hb, h.sn.below hb, h.n1, h.n2⟩
end

/-! ### Lengths -/
end Go.Proofs.YthnckicnnhkkaaaGreat
/- cover.augment. Condition: the arguments' maps and graph. -/
namespace Go.Proofs.YthnckicnnhkkaaaGreat
open Go.RowKit Go.Shelf

end Go.Proofs.YthnckicnnhkkaaaGreat
/- cover.more, greatest, Matching, Size. Condition: the argument reads as a graph of wellformed numbers. -/
namespace Go.Proofs.YthnckicnnhkkaaaGreat
open Go.RowKit Go.Shelf Go.Maps

end Go.Proofs.YthnckicnnhkkaaaGreat
/- cover.greatest, Matching, Size. Condition: the argument reads as a graph of wellformed numbers. -/
namespace Go.Proofs.YthnckicnnhkkaaaGreat
open Go.RowKit Go.Shelf Go.Maps

end Go.Proofs.YthnckicnnhkkaaaGreat
/- slices.Index and Contains at pairs and dies, byDie. No condition but that the slices read as lists. -/
namespace Go.Proofs.YthnckicnnhkkaaaGreat
open Go.RowKit Go.Shelf Go.Maps

end Go.Proofs.YthnckicnnhkkaaaGreat
/- cover.byDie, IsCover. Condition: the arguments read as a graph and dies. -/
namespace Go.Proofs.YthnckicnnhkkaaaGreat
open Go.RowKit Go.Shelf Go.Maps

section
variable {α : Type} {D : List α} {lt : α → α → Prop} {l : List α} {k : Nat} {x : α}
end
theorem diesG_mem {g : Graph} (hg : graphB g = true) (d : Die) : d ∈ diesG g ↔ dieIn g d = true := by
  obtain ⟨s, n⟩ := d
  simp only [diesG, if_pos hg, List.mem_append, List.mem_map, Die.mk.injEq, dieIn, Bool.or_eq_true, Bool.and_eq_true, beq_iff_eq, hasB_iff]
  constructor
  · rintro (⟨x, hx, rfl, rfl⟩ | ⟨x, hx, rfl, rfl⟩)
    · exact .inl ⟨rfl, hx⟩
    · exact .inr ⟨rfl, hx⟩
  · rintro (⟨rfl, hx⟩ | ⟨rfl, hx⟩)
    · exact .inl ⟨n, hx, rfl, rfl⟩
    · exact .inr ⟨n, hx, rfl, rfl⟩
end Go.Proofs.YthnckicnnhkkaaaGreat
/- cover.IsMatching. Condition: the arguments read as a graph and pairs of wellformed numbers. -/
namespace Go.Proofs.YthnckicnnhkkaaaGreat
open Go.RowKit Go.Shelf Go.Maps

end Go.Proofs.YthnckicnnhkkaaaGreat
/- A matching that is given as pairs, and one step more, plain. No program in sight, no condition. -/
namespace Go.Proofs.YthnckicnnhkkaaaGreat
open Go.RowKit

section
variable {f h : Pair → Int}
end
end Go.Proofs.YthnckicnnhkkaaaGreat
