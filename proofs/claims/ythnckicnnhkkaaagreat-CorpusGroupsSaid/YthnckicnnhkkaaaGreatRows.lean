/-
  No cell of these rows narrows 'for every input' (looked for: loops, veiled, ifaces, maps, wideKeys, modest, calm, conditions, laid).
  DERIVED. THE GIVEN ROWS OF THIS SEAT. 8 by the template 'for every input the law returns true; each argument reads behind the call as it read before'; 0 by the template 'total and deterministic' (their statements: YthnckicnnhkkaaaGreatTotals.lean).
  GIVEN WITH THE SEED: the statements are not yours to turn. If you find one false, say at which input.
  Laid BY PROGRAM, IN A SANDBOX (cutbox-rows.mjs): the forced cells as the released guide's own fill.sh prints them over the translation 1a6d7d90f23fc750… (all of the seat's roots in one cut). By AI agents, Wed Nov 11 2026. No macro, syntax, notation, axiom, sorry.
-/
import Derived.Test.YthnckicnnhkkaaaGreatChecked
import GoSem.Claim
import GoSem.ClaimJoined
import GoSem.ClaimMapViews
import Derived.JoinedTies
import Derived.KernelRfl
namespace Go.Proofs.YthnckicnnhkkaaaGreat
/- THE CELL 'sum', in the pinned program and in every row, IS THE sha256 OF THE DUMP (.gsa) THAT YthnckicnnhkkaaaGreatProg.lean LOADS. Nothing in Lean hashes anything: it is a label: what it is worth is what the hold of that sum in a sandbox is worth. -/
noncomputable def Tryz.pinned : Pinned := { name := "ythnckicnnhkkaaagreat", sum := "1a6d7d90f23fc75032679c63563ddf0740b3073807cd9eda776e8d10b5a32357", checked := Tryz.checked }
namespace Rows
def none {H : Type} : Left H := { results := [], args := [] }

/-- 'coinagelaw52.CorpusMatchesReference': WHATEVER THE INPUT: true; the input reads as it did. -/
def corpusMatchesReferenceSpec : ChangeSpec := { name := "corpusMatchesReference", fn := fun _ => fun
  | [d] => { results := [.lit (.bool true)], args := [d] }
  | _ => none }
def corpusMatchesReferenceRow : OpenClaim := { program := "ythnckicnnhkkaaagreat", sum := "1a6d7d90f23fc75032679c63563ddf0740b3073807cd9eda776e8d10b5a32357", func := "coinage/coinagelaw52.CorpusMatchesReference", spec := "corpusMatchesReference", inPlace := ["maps.clone", "slices.overlaps[coinage/api.Specimen]"], unfollowed := true, recurses := true, plainKeys := false, apart := false }
def CorpusMatchesReferenceSaid : Prop := corpusMatchesReferenceRow.holds Tryz.pinned (OpenSpec.ofChange corpusMatchesReferenceSpec)

/-- ITS FALSE NEIGHBOUR: 'it returns false'. Refute it at one input. -/
def corpusMatchesReferenceWrong : ChangeSpec := { name := "corpusMatchesReference", fn := fun _ => fun
  | [d] => { results := [.lit (.bool false)], args := [d] }
  | _ => none }
def CorpusMatchesReferenceWrongFalsely : Prop := corpusMatchesReferenceRow.holds Tryz.pinned (OpenSpec.ofChange corpusMatchesReferenceWrong)

/-- 'coinagelaw52.CorpusRebuilds': WHATEVER THE INPUT: true; the input reads as it did. -/
def corpusRebuildsSpec : ChangeSpec := { name := "corpusRebuilds", fn := fun _ => fun
  | [d] => { results := [.lit (.bool true)], args := [d] }
  | _ => none }
def corpusRebuildsRow : OpenClaim := { program := "ythnckicnnhkkaaagreat", sum := "1a6d7d90f23fc75032679c63563ddf0740b3073807cd9eda776e8d10b5a32357", func := "coinage/coinagelaw52.CorpusRebuilds", spec := "corpusRebuilds", inPlace := ["maps.clone", "slices.overlaps[coinage/api.Specimen]"], unfollowed := true, recurses := true, plainKeys := false, apart := false }
def CorpusRebuildsSaid : Prop := corpusRebuildsRow.holds Tryz.pinned (OpenSpec.ofChange corpusRebuildsSpec)

/-- ITS FALSE NEIGHBOUR: 'it returns false'. Refute it at one input. -/
def corpusRebuildsWrong : ChangeSpec := { name := "corpusRebuilds", fn := fun _ => fun
  | [d] => { results := [.lit (.bool false)], args := [d] }
  | _ => none }
def CorpusRebuildsWrongFalsely : Prop := corpusRebuildsRow.holds Tryz.pinned (OpenSpec.ofChange corpusRebuildsWrong)

/-- 'coinagelaw52.CorpusWithdraws': WHATEVER THE INPUT: true; the input reads as it did. -/
def corpusWithdrawsSpec : ChangeSpec := { name := "corpusWithdraws", fn := fun _ => fun
  | [d1, d2] => { results := [.lit (.bool true)], args := [d1, d2] }
  | _ => none }
def corpusWithdrawsRow : OpenClaim := { program := "ythnckicnnhkkaaagreat", sum := "1a6d7d90f23fc75032679c63563ddf0740b3073807cd9eda776e8d10b5a32357", func := "coinage/coinagelaw52.CorpusWithdraws", spec := "corpusWithdraws", inPlace := ["maps.clone", "slices.overlaps[coinage/api.Specimen]"], unfollowed := true, recurses := true, plainKeys := false, apart := false }
def CorpusWithdrawsSaid : Prop := corpusWithdrawsRow.holds Tryz.pinned (OpenSpec.ofChange corpusWithdrawsSpec)

/-- ITS FALSE NEIGHBOUR: 'it returns false'. Refute it at one input. -/
def corpusWithdrawsWrong : ChangeSpec := { name := "corpusWithdraws", fn := fun _ => fun
  | [d1, d2] => { results := [.lit (.bool false)], args := [d1, d2] }
  | _ => none }
def CorpusWithdrawsWrongFalsely : Prop := corpusWithdrawsRow.holds Tryz.pinned (OpenSpec.ofChange corpusWithdrawsWrong)

/-- 'coinagelaw52.CorpusIdentifies': WHATEVER THE INPUT: true; the input reads as it did. -/
def corpusIdentifiesSpec : ChangeSpec := { name := "corpusIdentifies", fn := fun _ => fun
  | [d1, d2, d3] => { results := [.lit (.bool true)], args := [d1, d2, d3] }
  | _ => none }
def corpusIdentifiesRow : OpenClaim := { program := "ythnckicnnhkkaaagreat", sum := "1a6d7d90f23fc75032679c63563ddf0740b3073807cd9eda776e8d10b5a32357", func := "coinage/coinagelaw52.CorpusIdentifies", spec := "corpusIdentifies", inPlace := ["maps.clone", "slices.overlaps[coinage/api.Specimen]"], unfollowed := true, recurses := true, plainKeys := false, apart := false }
def CorpusIdentifiesSaid : Prop := corpusIdentifiesRow.holds Tryz.pinned (OpenSpec.ofChange corpusIdentifiesSpec)

/-- ITS FALSE NEIGHBOUR: 'it returns false'. Refute it at one input. -/
def corpusIdentifiesWrong : ChangeSpec := { name := "corpusIdentifies", fn := fun _ => fun
  | [d1, d2, d3] => { results := [.lit (.bool false)], args := [d1, d2, d3] }
  | _ => none }
def CorpusIdentifiesWrongFalsely : Prop := corpusIdentifiesRow.holds Tryz.pinned (OpenSpec.ofChange corpusIdentifiesWrong)

/-- 'coinagelaw52.CorpusAnswers': WHATEVER THE INPUT: true; the input reads as it did. -/
def corpusAnswersSpec : ChangeSpec := { name := "corpusAnswers", fn := fun _ => fun
  | [d] => { results := [.lit (.bool true)], args := [d] }
  | _ => none }
def corpusAnswersRow : OpenClaim := { program := "ythnckicnnhkkaaagreat", sum := "1a6d7d90f23fc75032679c63563ddf0740b3073807cd9eda776e8d10b5a32357", func := "coinage/coinagelaw52.CorpusAnswers", spec := "corpusAnswers", inPlace := ["maps.clone", "slices.overlaps[coinage/api.Specimen]"], unfollowed := true, recurses := true, plainKeys := false, apart := false }
def CorpusAnswersSaid : Prop := corpusAnswersRow.holds Tryz.pinned (OpenSpec.ofChange corpusAnswersSpec)

/-- ITS FALSE NEIGHBOUR: 'it returns false'. Refute it at one input. -/
def corpusAnswersWrong : ChangeSpec := { name := "corpusAnswers", fn := fun _ => fun
  | [d] => { results := [.lit (.bool false)], args := [d] }
  | _ => none }
def CorpusAnswersWrongFalsely : Prop := corpusAnswersRow.holds Tryz.pinned (OpenSpec.ofChange corpusAnswersWrong)

/-- 'coinagelaw52.CorpusJoins': WHATEVER THE INPUT: true; the input reads as it did. -/
def corpusJoinsSpec : ChangeSpec := { name := "corpusJoins", fn := fun _ => fun
  | [d1, d2] => { results := [.lit (.bool true)], args := [d1, d2] }
  | _ => none }
def corpusJoinsRow : OpenClaim := { program := "ythnckicnnhkkaaagreat", sum := "1a6d7d90f23fc75032679c63563ddf0740b3073807cd9eda776e8d10b5a32357", func := "coinage/coinagelaw52.CorpusJoins", spec := "corpusJoins", inPlace := ["maps.clone", "slices.overlaps[coinage/api.Specimen]"], unfollowed := true, recurses := true, plainKeys := false, apart := false }
def CorpusJoinsSaid : Prop := corpusJoinsRow.holds Tryz.pinned (OpenSpec.ofChange corpusJoinsSpec)

/-- ITS FALSE NEIGHBOUR: 'it returns false'. Refute it at one input. -/
def corpusJoinsWrong : ChangeSpec := { name := "corpusJoins", fn := fun _ => fun
  | [d1, d2] => { results := [.lit (.bool false)], args := [d1, d2] }
  | _ => none }
def CorpusJoinsWrongFalsely : Prop := corpusJoinsRow.holds Tryz.pinned (OpenSpec.ofChange corpusJoinsWrong)

/-- 'coinagelaw52.CorpusGroups': WHATEVER THE INPUT: true; the input reads as it did. -/
def corpusGroupsSpec : ChangeSpec := { name := "corpusGroups", fn := fun _ => fun
  | [d1, d2, d3] => { results := [.lit (.bool true)], args := [d1, d2, d3] }
  | _ => none }
def corpusGroupsRow : OpenClaim := { program := "ythnckicnnhkkaaagreat", sum := "1a6d7d90f23fc75032679c63563ddf0740b3073807cd9eda776e8d10b5a32357", func := "coinage/coinagelaw52.CorpusGroups", spec := "corpusGroups", inPlace := ["maps.clone", "slices.overlaps[coinage/api.Specimen]"], unfollowed := true, recurses := true, plainKeys := false, apart := false }
def CorpusGroupsSaid : Prop := corpusGroupsRow.holds Tryz.pinned (OpenSpec.ofChange corpusGroupsSpec)

/-- ITS FALSE NEIGHBOUR: 'it returns false'. Refute it at one input. -/
def corpusGroupsWrong : ChangeSpec := { name := "corpusGroups", fn := fun _ => fun
  | [d1, d2, d3] => { results := [.lit (.bool false)], args := [d1, d2, d3] }
  | _ => none }
def CorpusGroupsWrongFalsely : Prop := corpusGroupsRow.holds Tryz.pinned (OpenSpec.ofChange corpusGroupsWrong)

/-- 'coinagelaw52.CorpusClones': WHATEVER THE INPUT: true; the input reads as it did. -/
def corpusClonesSpec : ChangeSpec := { name := "corpusClones", fn := fun _ => fun
  | [d1, d2] => { results := [.lit (.bool true)], args := [d1, d2] }
  | _ => none }
def corpusClonesRow : OpenClaim := { program := "ythnckicnnhkkaaagreat", sum := "1a6d7d90f23fc75032679c63563ddf0740b3073807cd9eda776e8d10b5a32357", func := "coinage/coinagelaw52.CorpusClones", spec := "corpusClones", inPlace := ["maps.clone", "slices.overlaps[coinage/api.Specimen]"], unfollowed := true, recurses := true, plainKeys := false, apart := false }
def CorpusClonesSaid : Prop := corpusClonesRow.holds Tryz.pinned (OpenSpec.ofChange corpusClonesSpec)

/-- ITS FALSE NEIGHBOUR: 'it returns false'. Refute it at one input. -/
def corpusClonesWrong : ChangeSpec := { name := "corpusClones", fn := fun _ => fun
  | [d1, d2] => { results := [.lit (.bool false)], args := [d1, d2] }
  | _ => none }
def CorpusClonesWrongFalsely : Prop := corpusClonesRow.holds Tryz.pinned (OpenSpec.ofChange corpusClonesWrong)

/- THE SECOND FORM. 'bulk': how many values and letters a reading holds, each counted each time it is reached (what is shared counts as often as it is met; a slice's spare places count too). A statement '..UptoSaid' is the law's where the arguments, and the package variables that the reading takes, are together of bulk at most 1048576: NARROWER than '..Said'. Prove '..Said' where nothing that the law and all that it calls make is longer than what came in: it says more and counts as full. Else prove '..UptoSaid'. A law counts once. -/
mutual
def uptoBulk {H : Type} : DataW H → Nat
  | .lit (.string bytes) => bytes.length + 1
  | .lit _ => 1
  | .nil => 1
  | .ptr d => uptoBulk d + 1
  | .slice elems spare => uptoBulkAll elems + uptoBulkAll spare + 1
  | .agg parts => uptoBulkAll parts + 1
  | .iface _ d => uptoBulk d + 1
  | .map entries => uptoBulkEntries entries + 1
  | .held _ => 1
def uptoBulkAll {H : Type} : List (DataW H) → Nat
  | [] => 0
  | d :: r => uptoBulk d + uptoBulkAll r
def uptoBulkEntries {H : Type} : List (Lit × DataW H) → Nat
  | [] => 0
  | x :: r => uptoBulkEntry x + uptoBulkEntries r
def uptoBulkEntry {H : Type} : Lit × DataW H → Nat
  | (.string bytes, d) => bytes.length + uptoBulk d + 1
  | (_, d) => uptoBulk d + 1
 end
def uptoSmall : (H : Type) → List (DataW H) → Bool := fun _ ds => decide (uptoBulkAll ds ≤ 1048576)
def OpenSpec.upto (s : _root_.Go.ChangeSpec) : _root_.Go.OpenSpec := { _root_.Go.OpenSpec.ofChange s with cond := some uptoSmall }

/-- 'coinagelaw52.CorpusMatchesReference', WHERE WHAT IT READS IS OF BULK AT MOST 1048576: true; the input reads as it did. -/
def corpusMatchesReferenceUptoRow : OpenClaim := { program := "ythnckicnnhkkaaagreat", sum := "1a6d7d90f23fc75032679c63563ddf0740b3073807cd9eda776e8d10b5a32357", func := "coinage/coinagelaw52.CorpusMatchesReference", spec := "corpusMatchesReference", inPlace := ["maps.clone", "slices.overlaps[coinage/api.Specimen]"], unfollowed := true, recurses := true, plainKeys := false, apart := false, narrowed := true }
def CorpusMatchesReferenceUptoSaid : Prop := corpusMatchesReferenceUptoRow.holds Tryz.pinned (OpenSpec.upto corpusMatchesReferenceSpec)

/-- 'coinagelaw52.CorpusRebuilds', WHERE WHAT IT READS IS OF BULK AT MOST 1048576: true; the input reads as it did. -/
def corpusRebuildsUptoRow : OpenClaim := { program := "ythnckicnnhkkaaagreat", sum := "1a6d7d90f23fc75032679c63563ddf0740b3073807cd9eda776e8d10b5a32357", func := "coinage/coinagelaw52.CorpusRebuilds", spec := "corpusRebuilds", inPlace := ["maps.clone", "slices.overlaps[coinage/api.Specimen]"], unfollowed := true, recurses := true, plainKeys := false, apart := false, narrowed := true }
def CorpusRebuildsUptoSaid : Prop := corpusRebuildsUptoRow.holds Tryz.pinned (OpenSpec.upto corpusRebuildsSpec)

/-- 'coinagelaw52.CorpusWithdraws', WHERE WHAT IT READS IS OF BULK AT MOST 1048576: true; the input reads as it did. -/
def corpusWithdrawsUptoRow : OpenClaim := { program := "ythnckicnnhkkaaagreat", sum := "1a6d7d90f23fc75032679c63563ddf0740b3073807cd9eda776e8d10b5a32357", func := "coinage/coinagelaw52.CorpusWithdraws", spec := "corpusWithdraws", inPlace := ["maps.clone", "slices.overlaps[coinage/api.Specimen]"], unfollowed := true, recurses := true, plainKeys := false, apart := false, narrowed := true }
def CorpusWithdrawsUptoSaid : Prop := corpusWithdrawsUptoRow.holds Tryz.pinned (OpenSpec.upto corpusWithdrawsSpec)

/-- 'coinagelaw52.CorpusIdentifies', WHERE WHAT IT READS IS OF BULK AT MOST 1048576: true; the input reads as it did. -/
def corpusIdentifiesUptoRow : OpenClaim := { program := "ythnckicnnhkkaaagreat", sum := "1a6d7d90f23fc75032679c63563ddf0740b3073807cd9eda776e8d10b5a32357", func := "coinage/coinagelaw52.CorpusIdentifies", spec := "corpusIdentifies", inPlace := ["maps.clone", "slices.overlaps[coinage/api.Specimen]"], unfollowed := true, recurses := true, plainKeys := false, apart := false, narrowed := true }
def CorpusIdentifiesUptoSaid : Prop := corpusIdentifiesUptoRow.holds Tryz.pinned (OpenSpec.upto corpusIdentifiesSpec)

/-- 'coinagelaw52.CorpusAnswers', WHERE WHAT IT READS IS OF BULK AT MOST 1048576: true; the input reads as it did. -/
def corpusAnswersUptoRow : OpenClaim := { program := "ythnckicnnhkkaaagreat", sum := "1a6d7d90f23fc75032679c63563ddf0740b3073807cd9eda776e8d10b5a32357", func := "coinage/coinagelaw52.CorpusAnswers", spec := "corpusAnswers", inPlace := ["maps.clone", "slices.overlaps[coinage/api.Specimen]"], unfollowed := true, recurses := true, plainKeys := false, apart := false, narrowed := true }
def CorpusAnswersUptoSaid : Prop := corpusAnswersUptoRow.holds Tryz.pinned (OpenSpec.upto corpusAnswersSpec)

/-- 'coinagelaw52.CorpusJoins', WHERE WHAT IT READS IS OF BULK AT MOST 1048576: true; the input reads as it did. -/
def corpusJoinsUptoRow : OpenClaim := { program := "ythnckicnnhkkaaagreat", sum := "1a6d7d90f23fc75032679c63563ddf0740b3073807cd9eda776e8d10b5a32357", func := "coinage/coinagelaw52.CorpusJoins", spec := "corpusJoins", inPlace := ["maps.clone", "slices.overlaps[coinage/api.Specimen]"], unfollowed := true, recurses := true, plainKeys := false, apart := false, narrowed := true }
def CorpusJoinsUptoSaid : Prop := corpusJoinsUptoRow.holds Tryz.pinned (OpenSpec.upto corpusJoinsSpec)

/-- 'coinagelaw52.CorpusGroups', WHERE WHAT IT READS IS OF BULK AT MOST 1048576: true; the input reads as it did. -/
def corpusGroupsUptoRow : OpenClaim := { program := "ythnckicnnhkkaaagreat", sum := "1a6d7d90f23fc75032679c63563ddf0740b3073807cd9eda776e8d10b5a32357", func := "coinage/coinagelaw52.CorpusGroups", spec := "corpusGroups", inPlace := ["maps.clone", "slices.overlaps[coinage/api.Specimen]"], unfollowed := true, recurses := true, plainKeys := false, apart := false, narrowed := true }
def CorpusGroupsUptoSaid : Prop := corpusGroupsUptoRow.holds Tryz.pinned (OpenSpec.upto corpusGroupsSpec)

/-- 'coinagelaw52.CorpusClones', WHERE WHAT IT READS IS OF BULK AT MOST 1048576: true; the input reads as it did. -/
def corpusClonesUptoRow : OpenClaim := { program := "ythnckicnnhkkaaagreat", sum := "1a6d7d90f23fc75032679c63563ddf0740b3073807cd9eda776e8d10b5a32357", func := "coinage/coinagelaw52.CorpusClones", spec := "corpusClones", inPlace := ["maps.clone", "slices.overlaps[coinage/api.Specimen]"], unfollowed := true, recurses := true, plainKeys := false, apart := false, narrowed := true }
def CorpusClonesUptoSaid : Prop := corpusClonesUptoRow.holds Tryz.pinned (OpenSpec.upto corpusClonesSpec)

end Rows
end Go.Proofs.YthnckicnnhkkaaaGreat
