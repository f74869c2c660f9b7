/- cover.more, greatest, Matching, Size. Condition: the argument reads as a graph of wellformed numbers. -/
import Derived.Test.YtikfffojeakjoaaGreatDoorCovA
import Derived.Test.YtikfffojeakjoaaGreatDoorCovC
namespace Go.Proofs.YtikfffojeakjoaaGreatDoor
open Go.RowKit Go.Shelf Go.Maps

theorem StAt.nocell {w : World} {bo br : Nat} {s : St} (h : StAt w bo br s) : NoCell w [bo, br] := by
  intro c hc o p
  simp only [List.mem_cons, List.not_mem_nil, or_false] at hc
  rcases hc with rfl | rfl
  · exact h.o.nocell _ (by simp) o p
  · exact h.r.nocell _ (by simp) o p
def mapLen (w : World) (b : Nat) : Nat := match w.heap[b]? with | some (.map es _) => es.size | _ => 0
theorem mapLen_of {w : World} {b : Nat} {m : List (Int × Int)} (h : MapII w b m) : mapLen w b = m.length := by
  obtain ⟨⟨D, ⟨es, clock, hb, _, _, rfl⟩, _, hs, _⟩, _, _⟩ := h
  simp only [Maps.size, length_sorted] at hs
  simp only [mapLen, hb]
  simpa using hs
/-- The numbers of a graph are numbers of the machine. -/
structure WfG (g : Graph) : Prop where
  o : ∀ x ∈ g.obv, wfI x
  r : ∀ x ∈ g.rev, wfI x

end Go.Proofs.YtikfffojeakjoaaGreatDoor
/- cover.greatest, Matching, Size. Condition: the argument reads as a graph of wellformed numbers. -/
namespace Go.Proofs.YtikfffojeakjoaaGreatDoor
open Go.RowKit Go.Shelf Go.Maps

/-- The greatest matching that the program finds. -/
def gm (g : Graph) : St := greatF (nbr g) (g.rev.length + 1) g.obv 33 ⟨[], [], []⟩
theorem gm_great {g : Graph} (hg : graphB g = true) : Great g (gm g) := greatF_great hg (Nat.lt_succ_self _) 33 _ (good_empty g) (by simp)

/-- The pairs of the greatest matching that the program finds. -/
def mchG (g : Graph) : List Pair := if graphB g = true then sortM (gm g).obv else []
theorem mchG_of {g : Graph} (hg : graphB g = true) : ListOf (gm g).obv (mchG g) := by
  rw [mchG, if_pos hg]
  exact sortM_of (gm_great hg).good.nodO
theorem mchG_len (g : Graph) : (mchG g).length ≤ 32 := by
  by_cases hg : graphB g = true
  · rw [(mchG_of hg).len, (gm_great hg).good.len]
    exact (gm_great hg).good.lenR hg
  · rw [mchG, if_neg hg]; simp
/-- The number of pairs. -/
def sizeG (g : Graph) : Int := ((mchG g).length : Nat)
end Go.Proofs.YtikfffojeakjoaaGreatDoor
