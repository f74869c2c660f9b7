/-
  No cell of these rows narrows 'for every input' (looked for: loops, veiled, ifaces, maps, wideKeys, modest, calm, conditions, laid).
  DERIVED. THE GIVEN ROWS OF THIS SEAT. 7 by the template 'for every input the law returns true; each argument reads behind the call as it read before'; 0 by the template 'total and deterministic' (their statements: YtlmjncncmgmehaaGreatTotals.lean).
  GIVEN WITH THE SEED: the statements are not yours to turn. If you find one false, say at which input.
  Laid BY PROGRAM, IN A SANDBOX (cutbox-rows.mjs): the forced cells as the released guide's own fill.sh prints them over the translation c7945a19bfb865a4… (all of the seat's roots in one cut). By AI agents, Wed Nov 11 2026. No macro, syntax, notation, axiom, sorry.
-/
import Derived.Test.YtlmjncncmgmehaaGreatChecked
import GoSem.Claim
import GoSem.ClaimJoined
import GoSem.ClaimMapViews
import Derived.JoinedTies
import Derived.KernelRfl
namespace Go.Proofs.YtlmjncncmgmehaaGreat
/- THE CELL 'sum', in the pinned program and in every row, IS THE sha256 OF THE DUMP (.gsa) THAT YtlmjncncmgmehaaGreatProg.lean LOADS. Nothing in Lean hashes anything: it is a label: what it is worth is what the hold of that sum in a sandbox is worth. -/
noncomputable def Tryz.pinned : Pinned := { name := "ytlmjncncmgmehaagreat", sum := "c7945a19bfb865a493d640079ea5e647eb08f86714c4b5a2718c8c053bead077", checked := Tryz.checked }
namespace Rows
def none {H : Type} : Left H := { results := [], args := [] }

/-- 'coinagelaw51.ExplanationSupports': WHATEVER THE INPUT: true; the input reads as it did. -/
def explanationSupportsSpec : ChangeSpec := { name := "explanationSupports", fn := fun _ => fun
  | [d1, d2, d3] => { results := [.lit (.bool true)], args := [d1, d2, d3] }
  | _ => none }
def explanationSupportsRow : OpenClaim := { program := "ytlmjncncmgmehaagreat", sum := "c7945a19bfb865a493d640079ea5e647eb08f86714c4b5a2718c8c053bead077", func := "coinage/coinagelaw51.ExplanationSupports", spec := "explanationSupports", unfollowed := true, recurses := true, plainKeys := false, apart := false }
def ExplanationSupportsSaid : Prop := explanationSupportsRow.holds Tryz.pinned (OpenSpec.ofChange explanationSupportsSpec)

/-- ITS FALSE NEIGHBOUR: 'it returns false'. Refute it at one input. -/
def explanationSupportsWrong : ChangeSpec := { name := "explanationSupports", fn := fun _ => fun
  | [d1, d2, d3] => { results := [.lit (.bool false)], args := [d1, d2, d3] }
  | _ => none }
def ExplanationSupportsWrongFalsely : Prop := explanationSupportsRow.holds Tryz.pinned (OpenSpec.ofChange explanationSupportsWrong)

/-- 'coinagelaw51.ExplanationMatchesReference': WHATEVER THE INPUT: true; the input reads as it did. -/
def explanationMatchesReferenceSpec : ChangeSpec := { name := "explanationMatchesReference", fn := fun _ => fun
  | [d1, d2, d3] => { results := [.lit (.bool true)], args := [d1, d2, d3] }
  | _ => none }
def explanationMatchesReferenceRow : OpenClaim := { program := "ytlmjncncmgmehaagreat", sum := "c7945a19bfb865a493d640079ea5e647eb08f86714c4b5a2718c8c053bead077", func := "coinage/coinagelaw51.ExplanationMatchesReference", spec := "explanationMatchesReference", unfollowed := true, recurses := true, plainKeys := false, apart := false }
def ExplanationMatchesReferenceSaid : Prop := explanationMatchesReferenceRow.holds Tryz.pinned (OpenSpec.ofChange explanationMatchesReferenceSpec)

/-- ITS FALSE NEIGHBOUR: 'it returns false'. Refute it at one input. -/
def explanationMatchesReferenceWrong : ChangeSpec := { name := "explanationMatchesReference", fn := fun _ => fun
  | [d1, d2, d3] => { results := [.lit (.bool false)], args := [d1, d2, d3] }
  | _ => none }
def ExplanationMatchesReferenceWrongFalsely : Prop := explanationMatchesReferenceRow.holds Tryz.pinned (OpenSpec.ofChange explanationMatchesReferenceWrong)

/-- 'coinagelaw51.ExplanationLeast': WHATEVER THE INPUT: true; the input reads as it did. -/
def explanationLeastSpec : ChangeSpec := { name := "explanationLeast", fn := fun _ => fun
  | [d1, d2, d3] => { results := [.lit (.bool true)], args := [d1, d2, d3] }
  | _ => none }
def explanationLeastRow : OpenClaim := { program := "ytlmjncncmgmehaagreat", sum := "c7945a19bfb865a493d640079ea5e647eb08f86714c4b5a2718c8c053bead077", func := "coinage/coinagelaw51.ExplanationLeast", spec := "explanationLeast", unfollowed := true, recurses := true, plainKeys := false, apart := false }
def ExplanationLeastSaid : Prop := explanationLeastRow.holds Tryz.pinned (OpenSpec.ofChange explanationLeastSpec)

/-- ITS FALSE NEIGHBOUR: 'it returns false'. Refute it at one input. -/
def explanationLeastWrong : ChangeSpec := { name := "explanationLeast", fn := fun _ => fun
  | [d1, d2, d3] => { results := [.lit (.bool false)], args := [d1, d2, d3] }
  | _ => none }
def ExplanationLeastWrongFalsely : Prop := explanationLeastRow.holds Tryz.pinned (OpenSpec.ofChange explanationLeastWrong)

/-- 'coinagelaw51.ExplanationNeeded': WHATEVER THE INPUT: true; the input reads as it did. -/
def explanationNeededSpec : ChangeSpec := { name := "explanationNeeded", fn := fun _ => fun
  | [d1, d2, d3] => { results := [.lit (.bool true)], args := [d1, d2, d3] }
  | _ => none }
def explanationNeededRow : OpenClaim := { program := "ytlmjncncmgmehaagreat", sum := "c7945a19bfb865a493d640079ea5e647eb08f86714c4b5a2718c8c053bead077", func := "coinage/coinagelaw51.ExplanationNeeded", spec := "explanationNeeded", unfollowed := true, recurses := true, plainKeys := false, apart := false }
def ExplanationNeededSaid : Prop := explanationNeededRow.holds Tryz.pinned (OpenSpec.ofChange explanationNeededSpec)

/-- ITS FALSE NEIGHBOUR: 'it returns false'. Refute it at one input. -/
def explanationNeededWrong : ChangeSpec := { name := "explanationNeeded", fn := fun _ => fun
  | [d1, d2, d3] => { results := [.lit (.bool false)], args := [d1, d2, d3] }
  | _ => none }
def ExplanationNeededWrongFalsely : Prop := explanationNeededRow.holds Tryz.pinned (OpenSpec.ofChange explanationNeededWrong)

/-- 'coinagelaw51.ExplanationSome': WHATEVER THE INPUT: true; the input reads as it did. -/
def explanationSomeSpec : ChangeSpec := { name := "explanationSome", fn := fun _ => fun
  | [d1, d2, d3] => { results := [.lit (.bool true)], args := [d1, d2, d3] }
  | _ => none }
def explanationSomeRow : OpenClaim := { program := "ytlmjncncmgmehaagreat", sum := "c7945a19bfb865a493d640079ea5e647eb08f86714c4b5a2718c8c053bead077", func := "coinage/coinagelaw51.ExplanationSome", spec := "explanationSome", unfollowed := true, recurses := true, plainKeys := false, apart := false }
def ExplanationSomeSaid : Prop := explanationSomeRow.holds Tryz.pinned (OpenSpec.ofChange explanationSomeSpec)

/-- ITS FALSE NEIGHBOUR: 'it returns false'. Refute it at one input. -/
def explanationSomeWrong : ChangeSpec := { name := "explanationSome", fn := fun _ => fun
  | [d1, d2, d3] => { results := [.lit (.bool false)], args := [d1, d2, d3] }
  | _ => none }
def ExplanationSomeWrongFalsely : Prop := explanationSomeRow.holds Tryz.pinned (OpenSpec.ofChange explanationSomeWrong)

/-- 'coinagelaw51.ExplanationBefore': WHATEVER THE INPUT: true; the input reads as it did. -/
def explanationBeforeSpec : ChangeSpec := { name := "explanationBefore", fn := fun _ => fun
  | [d1, d2, d3] => { results := [.lit (.bool true)], args := [d1, d2, d3] }
  | _ => none }
def explanationBeforeRow : OpenClaim := { program := "ytlmjncncmgmehaagreat", sum := "c7945a19bfb865a493d640079ea5e647eb08f86714c4b5a2718c8c053bead077", func := "coinage/coinagelaw51.ExplanationBefore", spec := "explanationBefore", unfollowed := true, recurses := true, plainKeys := false, apart := false }
def ExplanationBeforeSaid : Prop := explanationBeforeRow.holds Tryz.pinned (OpenSpec.ofChange explanationBeforeSpec)

/-- ITS FALSE NEIGHBOUR: 'it returns false'. Refute it at one input. -/
def explanationBeforeWrong : ChangeSpec := { name := "explanationBefore", fn := fun _ => fun
  | [d1, d2, d3] => { results := [.lit (.bool false)], args := [d1, d2, d3] }
  | _ => none }
def ExplanationBeforeWrongFalsely : Prop := explanationBeforeRow.holds Tryz.pinned (OpenSpec.ofChange explanationBeforeWrong)

/-- 'coinagelaw51.ExplanationRefutes': WHATEVER THE INPUT: true; the input reads as it did. -/
def explanationRefutesSpec : ChangeSpec := { name := "explanationRefutes", fn := fun _ => fun
  | [d1, d2] => { results := [.lit (.bool true)], args := [d1, d2] }
  | _ => none }
def explanationRefutesRow : OpenClaim := { program := "ytlmjncncmgmehaagreat", sum := "c7945a19bfb865a493d640079ea5e647eb08f86714c4b5a2718c8c053bead077", func := "coinage/coinagelaw51.ExplanationRefutes", spec := "explanationRefutes", unfollowed := true, recurses := true, plainKeys := false, apart := false }
def ExplanationRefutesSaid : Prop := explanationRefutesRow.holds Tryz.pinned (OpenSpec.ofChange explanationRefutesSpec)

/-- ITS FALSE NEIGHBOUR: 'it returns false'. Refute it at one input. -/
def explanationRefutesWrong : ChangeSpec := { name := "explanationRefutes", fn := fun _ => fun
  | [d1, d2] => { results := [.lit (.bool false)], args := [d1, d2] }
  | _ => none }
def ExplanationRefutesWrongFalsely : Prop := explanationRefutesRow.holds Tryz.pinned (OpenSpec.ofChange explanationRefutesWrong)

/- THE SECOND FORM. 'bulk': how many values and letters a reading holds, each counted each time it is reached (what is shared counts as often as it is met; a slice's spare places count too). A statement '..UptoSaid' is the law's where the arguments, and the package variables that the reading takes, are together of bulk at most 1048576: NARROWER than '..Said'. Prove '..Said' where nothing that the law and all that it calls make is longer than what came in: it says more and counts as full. Else prove '..UptoSaid'. A law counts once. -/
mutual
def uptoBulk {H : Type} : DataW H → Nat
  | .lit (.string bytes) => bytes.length + 1
  | .lit _ => 1
  | .nil => 1
  | .ptr d => uptoBulk d + 1
  | .slice elems spare => uptoBulkAll elems + uptoBulkAll spare + 1
  | .agg parts => uptoBulkAll parts + 1
  | .iface _ d => uptoBulk d + 1
  | .map entries => uptoBulkEntries entries + 1
  | .held _ => 1
def uptoBulkAll {H : Type} : List (DataW H) → Nat
  | [] => 0
  | d :: r => uptoBulk d + uptoBulkAll r
def uptoBulkEntries {H : Type} : List (Lit × DataW H) → Nat
  | [] => 0
  | x :: r => uptoBulkEntry x + uptoBulkEntries r
def uptoBulkEntry {H : Type} : Lit × DataW H → Nat
  | (.string bytes, d) => bytes.length + uptoBulk d + 1
  | (_, d) => uptoBulk d + 1
 end
def uptoSmall : (H : Type) → List (DataW H) → Bool := fun _ ds => decide (uptoBulkAll ds ≤ 1048576)
def OpenSpec.upto (s : _root_.Go.ChangeSpec) : _root_.Go.OpenSpec := { _root_.Go.OpenSpec.ofChange s with cond := some uptoSmall }

/-- 'coinagelaw51.ExplanationSupports', WHERE WHAT IT READS IS OF BULK AT MOST 1048576: true; the input reads as it did. -/
def explanationSupportsUptoRow : OpenClaim := { program := "ytlmjncncmgmehaagreat", sum := "c7945a19bfb865a493d640079ea5e647eb08f86714c4b5a2718c8c053bead077", func := "coinage/coinagelaw51.ExplanationSupports", spec := "explanationSupports", unfollowed := true, recurses := true, plainKeys := false, apart := false, narrowed := true }
def ExplanationSupportsUptoSaid : Prop := explanationSupportsUptoRow.holds Tryz.pinned (OpenSpec.upto explanationSupportsSpec)

/-- 'coinagelaw51.ExplanationMatchesReference', WHERE WHAT IT READS IS OF BULK AT MOST 1048576: true; the input reads as it did. -/
def explanationMatchesReferenceUptoRow : OpenClaim := { program := "ytlmjncncmgmehaagreat", sum := "c7945a19bfb865a493d640079ea5e647eb08f86714c4b5a2718c8c053bead077", func := "coinage/coinagelaw51.ExplanationMatchesReference", spec := "explanationMatchesReference", unfollowed := true, recurses := true, plainKeys := false, apart := false, narrowed := true }
def ExplanationMatchesReferenceUptoSaid : Prop := explanationMatchesReferenceUptoRow.holds Tryz.pinned (OpenSpec.upto explanationMatchesReferenceSpec)

/-- 'coinagelaw51.ExplanationLeast', WHERE WHAT IT READS IS OF BULK AT MOST 1048576: true; the input reads as it did. -/
def explanationLeastUptoRow : OpenClaim := { program := "ytlmjncncmgmehaagreat", sum := "c7945a19bfb865a493d640079ea5e647eb08f86714c4b5a2718c8c053bead077", func := "coinage/coinagelaw51.ExplanationLeast", spec := "explanationLeast", unfollowed := true, recurses := true, plainKeys := false, apart := false, narrowed := true }
def ExplanationLeastUptoSaid : Prop := explanationLeastUptoRow.holds Tryz.pinned (OpenSpec.upto explanationLeastSpec)

/-- 'coinagelaw51.ExplanationNeeded', WHERE WHAT IT READS IS OF BULK AT MOST 1048576: true; the input reads as it did. -/
def explanationNeededUptoRow : OpenClaim := { program := "ytlmjncncmgmehaagreat", sum := "c7945a19bfb865a493d640079ea5e647eb08f86714c4b5a2718c8c053bead077", func := "coinage/coinagelaw51.ExplanationNeeded", spec := "explanationNeeded", unfollowed := true, recurses := true, plainKeys := false, apart := false, narrowed := true }
def ExplanationNeededUptoSaid : Prop := explanationNeededUptoRow.holds Tryz.pinned (OpenSpec.upto explanationNeededSpec)

/-- 'coinagelaw51.ExplanationSome', WHERE WHAT IT READS IS OF BULK AT MOST 1048576: true; the input reads as it did. -/
def explanationSomeUptoRow : OpenClaim := { program := "ytlmjncncmgmehaagreat", sum := "c7945a19bfb865a493d640079ea5e647eb08f86714c4b5a2718c8c053bead077", func := "coinage/coinagelaw51.ExplanationSome", spec := "explanationSome", unfollowed := true, recurses := true, plainKeys := false, apart := false, narrowed := true }
def ExplanationSomeUptoSaid : Prop := explanationSomeUptoRow.holds Tryz.pinned (OpenSpec.upto explanationSomeSpec)

/-- 'coinagelaw51.ExplanationBefore', WHERE WHAT IT READS IS OF BULK AT MOST 1048576: true; the input reads as it did. -/
def explanationBeforeUptoRow : OpenClaim := { program := "ytlmjncncmgmehaagreat", sum := "c7945a19bfb865a493d640079ea5e647eb08f86714c4b5a2718c8c053bead077", func := "coinage/coinagelaw51.ExplanationBefore", spec := "explanationBefore", unfollowed := true, recurses := true, plainKeys := false, apart := false, narrowed := true }
def ExplanationBeforeUptoSaid : Prop := explanationBeforeUptoRow.holds Tryz.pinned (OpenSpec.upto explanationBeforeSpec)

/-- 'coinagelaw51.ExplanationRefutes', WHERE WHAT IT READS IS OF BULK AT MOST 1048576: true; the input reads as it did. -/
def explanationRefutesUptoRow : OpenClaim := { program := "ytlmjncncmgmehaagreat", sum := "c7945a19bfb865a493d640079ea5e647eb08f86714c4b5a2718c8c053bead077", func := "coinage/coinagelaw51.ExplanationRefutes", spec := "explanationRefutes", unfollowed := true, recurses := true, plainKeys := false, apart := false, narrowed := true }
def ExplanationRefutesUptoSaid : Prop := explanationRefutesUptoRow.holds Tryz.pinned (OpenSpec.upto explanationRefutesSpec)

end Rows
end Go.Proofs.YtlmjncncmgmehaaGreat
