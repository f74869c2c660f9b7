/- Plain: the evidence's arcs are a digraph; what consistent is. No program in sight, no condition. -/
import Derived.Test.YthnckicnnhkkaaaGreatPreM
import Derived.Test.YthnckicnnhkkaaaGreatPosA
import Derived.Test.YthnckicnnhkkaaaGreatCorP
namespace Go.Proofs.YthnckicnnhkkaaaGreat
open Go.RowKit

def arcOf (p : Link) : Pair := ⟨p.obv, p.rev⟩
theorem arcOf_snoc {P : List Link} {k : Nat} {x : Link} (h : P[k]? = some x) : (P.take (k + 1)).map arcOf = (P.take k).map arcOf ++ [⟨x.obv, x.rev⟩] := by
  rw [take_snoc' h, List.map_append]; rfl
theorem pieces_len {l : List Spec} {C : List Pair} (hg : gatherE l C = 0) : (piecesS l C).length ≤ 1216 := by
  obtain ⟨_, h1, h2, _, _⟩ := gather_zero hg
  have h3 := arcs_len 0 l h1
  have h4 := arcs_len 1 l h1
  unfold piecesS sidesS
  simp only [List.length_append, List.length_map]
  omega
theorem arcs_ne {o : Int} {l : List Spec} {p : Pair} (h : p ∈ arcsW o l l) : p.a ≠ p.b := by
  unfold arcsW at h
  obtain ⟨⟨y, j⟩, h1, h2⟩ := List.mem_flatMap.1 h
  unfold rowW at h2
  obtain ⟨⟨z, i⟩, h3, h4⟩ := List.mem_filterMap.1 h2
  have e1 := List.mem_zipIdx_iff_getElem?.1 h1
  have e2 := List.mem_zipIdx_iff_getElem?.1 h3
  simp only at e1 e2
  split at h4
  · rename_i hb
    cases h4
    intro e
    have e' : j = i := by have e2 : (j : Int) = (i : Int) := e; omega
    subst e'
    rw [e1] at e2
    cases e2
    simp [befB] at hb
  · cases h4
theorem pieces_ne {l : List Spec} {C : List Pair} (hg : gatherE l C = 0) {p : Link} (h : p ∈ piecesS l C) : p.obv ≠ p.rev := by
  obtain ⟨_, _, _, _, hs⟩ := gather_zero hg
  unfold piecesS sidesS at h
  rw [List.mem_append, List.mem_append, List.mem_map, List.mem_map, List.mem_map] at h
  rcases h with (⟨q, h1, rfl⟩ | ⟨q, h1, rfl⟩) | ⟨c, h1, rfl⟩
  · exact arcs_ne h1
  · exact arcs_ne h1
  · have h2 := any_no hs h1
    unfold sameB at h2
    rw [decide_eq_false_iff_not] at h2
    exact h2
/-- A digraph of places. -/
structure DigP (n : Nat) (a : List Pair) : Prop where
  le : n ≤ 24
  arcs : ArIn n a
  ne : ∀ x ∈ a, x.a ≠ x.b
  srt : a.Pairwise ltP
theorem dig_of {l : List Spec} {C out : List Pair} (hg : gatherE l C = 0) (hc : ClaL ((piecesS l C).map arcOf) out) : DigP l.length out := by
  obtain ⟨_, hn, _, _, _⟩ := gather_zero hg
  refine ⟨hn, fun x hx => ?_, fun x hx => ?_, hc.1⟩
  · obtain ⟨p, hp, rfl⟩ := List.mem_map.1 ((hc.2 x).1 hx)
    obtain ⟨⟨h1, h2⟩, h3, h4⟩ := (pieces_mem hg hp).1
    refine ⟨p.obv.toNat, p.rev.toNat, ?_, by omega, by omega⟩
    unfold arcOf
    rw [Int.toNat_of_nonneg h1, Int.toNat_of_nonneg h3]
  · obtain ⟨p, hp, rfl⟩ := List.mem_map.1 ((hc.2 x).1 hx)
    exact pieces_ne hg hp
theorem arcB_congr {a b : List Pair} (h : ∀ p, p ∈ a ↔ p ∈ b) : arcB a = arcB b := by
  funext i j
  unfold arcB
  exact decide_eq_decide.2 (h _)
/-- Whether a digraph has no cycle, by Warshall's steps. -/
def acyA (n : Nat) (a : List Pair) : Bool := acyB n (warK n (arcB a) n)
def consB (l : List Spec) (C : List Pair) : Bool := acyA l.length ((piecesS l C).map arcOf)
theorem cons_cla {l : List Spec} {C out : List Pair} (hc : ClaL ((piecesS l C).map arcOf) out) : acyA l.length out = consB l C := by
  unfold consB acyA
  rw [arcB_congr hc.2]
theorem gather_nil : gatherE [] [] = 0 := by decide
theorem cons_nil : consB [] [] = true := by decide
end Go.Proofs.YthnckicnnhkkaaaGreat
