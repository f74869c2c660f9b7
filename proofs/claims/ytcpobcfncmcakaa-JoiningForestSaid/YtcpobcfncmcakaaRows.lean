/-
  No cell of these rows narrows 'for every input' (looked for: loops, veiled, ifaces, maps, wideKeys, modest, calm, conditions, laid).
  DERIVED. THE GIVEN ROWS OF THIS SEAT. 5 by the template 'for every input the law returns true; each argument reads behind the call as it read before'; 0 by the template 'total and deterministic' (their statements: YtcpobcfncmcakaaTotals.lean).
  GIVEN WITH THE SEED: the statements are not yours to turn. If you find one false, say at which input.
  Laid BY PROGRAM, IN A SANDBOX (cutbox-rows.mjs): the forced cells as the released guide's own fill.sh prints them over the translation 8c146c0e9d8334bd… (all of the seat's roots in one cut). By AI agents, Wed Nov 11 2026. No macro, syntax, notation, axiom, sorry.
-/
import Derived.Test.YtcpobcfncmcakaaChecked
import GoSem.Claim
import GoSem.ClaimJoined
import GoSem.ClaimMapViews
import Derived.JoinedTies
import Derived.KernelRfl
namespace Go.Proofs.Ytcpobcfncmcakaa
/- THE CELL 'sum', in the pinned program and in every row, IS THE sha256 OF THE DUMP (.gsa) THAT YtcpobcfncmcakaaProg.lean LOADS. Nothing in Lean hashes anything: it is a label: what it is worth is what the hold of that sum in a sandbox is worth. -/
noncomputable def Try.pinned : Pinned := { name := "ytcpobcfncmcakaa", sum := "8c146c0e9d8334bdeba182974aa9f8ec60cbbdcba09c93cfd0f65566492f5a4c", checked := Try.checked }
namespace Rows
def none {H : Type} : Left H := { results := [], args := [] }

/-- 'coinagelaw17.JoiningSteps': WHATEVER THE INPUT: true; the input reads as it did. -/
def joiningStepsSpec : ChangeSpec := { name := "joiningSteps", fn := fun _ => fun
  | [d] => { results := [.lit (.bool true)], args := [d] }
  | _ => none }
def joiningStepsRow : OpenClaim := { program := "ytcpobcfncmcakaa", sum := "8c146c0e9d8334bdeba182974aa9f8ec60cbbdcba09c93cfd0f65566492f5a4c", func := "coinage/coinagelaw17.JoiningSteps", spec := "joiningSteps", unfollowed := true, recurses := true, plainKeys := false, apart := false }
def JoiningStepsSaid : Prop := joiningStepsRow.holds Try.pinned (OpenSpec.ofChange joiningStepsSpec)

/-- ITS FALSE NEIGHBOUR: 'it returns false'. Refute it at one input. -/
def joiningStepsWrong : ChangeSpec := { name := "joiningSteps", fn := fun _ => fun
  | [d] => { results := [.lit (.bool false)], args := [d] }
  | _ => none }
def JoiningStepsWrongFalsely : Prop := joiningStepsRow.holds Try.pinned (OpenSpec.ofChange joiningStepsWrong)

/-- 'coinagelaw17.JoiningFull': WHATEVER THE INPUT: true; the input reads as it did. -/
def joiningFullSpec : ChangeSpec := { name := "joiningFull", fn := fun _ => fun
  | [d1, d2] => { results := [.lit (.bool true)], args := [d1, d2] }
  | _ => none }
def joiningFullRow : OpenClaim := { program := "ytcpobcfncmcakaa", sum := "8c146c0e9d8334bdeba182974aa9f8ec60cbbdcba09c93cfd0f65566492f5a4c", func := "coinage/coinagelaw17.JoiningFull", spec := "joiningFull", unfollowed := true, recurses := true, plainKeys := false, apart := false }
def JoiningFullSaid : Prop := joiningFullRow.holds Try.pinned (OpenSpec.ofChange joiningFullSpec)

/-- ITS FALSE NEIGHBOUR: 'it returns false'. Refute it at one input. -/
def joiningFullWrong : ChangeSpec := { name := "joiningFull", fn := fun _ => fun
  | [d1, d2] => { results := [.lit (.bool false)], args := [d1, d2] }
  | _ => none }
def JoiningFullWrongFalsely : Prop := joiningFullRow.holds Try.pinned (OpenSpec.ofChange joiningFullWrong)

/-- 'coinagelaw17.JoiningClones': WHATEVER THE INPUT: true; the input reads as it did. -/
def joiningClonesSpec : ChangeSpec := { name := "joiningClones", fn := fun _ => fun
  | [d1, d2, d3] => { results := [.lit (.bool true)], args := [d1, d2, d3] }
  | _ => none }
def joiningClonesRow : OpenClaim := { program := "ytcpobcfncmcakaa", sum := "8c146c0e9d8334bdeba182974aa9f8ec60cbbdcba09c93cfd0f65566492f5a4c", func := "coinage/coinagelaw17.JoiningClones", spec := "joiningClones", unfollowed := true, recurses := true, plainKeys := false, apart := false }
def JoiningClonesSaid : Prop := joiningClonesRow.holds Try.pinned (OpenSpec.ofChange joiningClonesSpec)

/-- ITS FALSE NEIGHBOUR: 'it returns false'. Refute it at one input. -/
def joiningClonesWrong : ChangeSpec := { name := "joiningClones", fn := fun _ => fun
  | [d1, d2, d3] => { results := [.lit (.bool false)], args := [d1, d2, d3] }
  | _ => none }
def JoiningClonesWrongFalsely : Prop := joiningClonesRow.holds Try.pinned (OpenSpec.ofChange joiningClonesWrong)

/-- 'coinagelaw17.JoiningLatest': WHATEVER THE INPUT: true; the input reads as it did. -/
def joiningLatestSpec : ChangeSpec := { name := "joiningLatest", fn := fun _ => fun
  | [d1, d2, d3] => { results := [.lit (.bool true)], args := [d1, d2, d3] }
  | _ => none }
def joiningLatestRow : OpenClaim := { program := "ytcpobcfncmcakaa", sum := "8c146c0e9d8334bdeba182974aa9f8ec60cbbdcba09c93cfd0f65566492f5a4c", func := "coinage/coinagelaw17.JoiningLatest", spec := "joiningLatest", unfollowed := true, recurses := true, plainKeys := false, apart := false }
def JoiningLatestSaid : Prop := joiningLatestRow.holds Try.pinned (OpenSpec.ofChange joiningLatestSpec)

/-- ITS FALSE NEIGHBOUR: 'it returns false'. Refute it at one input. -/
def joiningLatestWrong : ChangeSpec := { name := "joiningLatest", fn := fun _ => fun
  | [d1, d2, d3] => { results := [.lit (.bool false)], args := [d1, d2, d3] }
  | _ => none }
def JoiningLatestWrongFalsely : Prop := joiningLatestRow.holds Try.pinned (OpenSpec.ofChange joiningLatestWrong)

/-- 'coinagelaw17.JoiningForest': WHATEVER THE INPUT: true; the input reads as it did. -/
def joiningForestSpec : ChangeSpec := { name := "joiningForest", fn := fun _ => fun
  | [d1, d2, d3] => { results := [.lit (.bool true)], args := [d1, d2, d3] }
  | _ => none }
def joiningForestRow : OpenClaim := { program := "ytcpobcfncmcakaa", sum := "8c146c0e9d8334bdeba182974aa9f8ec60cbbdcba09c93cfd0f65566492f5a4c", func := "coinage/coinagelaw17.JoiningForest", spec := "joiningForest", unfollowed := true, recurses := true, plainKeys := false, apart := false }
def JoiningForestSaid : Prop := joiningForestRow.holds Try.pinned (OpenSpec.ofChange joiningForestSpec)

/-- ITS FALSE NEIGHBOUR: 'it returns false'. Refute it at one input. -/
def joiningForestWrong : ChangeSpec := { name := "joiningForest", fn := fun _ => fun
  | [d1, d2, d3] => { results := [.lit (.bool false)], args := [d1, d2, d3] }
  | _ => none }
def JoiningForestWrongFalsely : Prop := joiningForestRow.holds Try.pinned (OpenSpec.ofChange joiningForestWrong)

/- THE SECOND FORM. 'bulk': how many values and letters a reading holds, each counted each time it is reached (what is shared counts as often as it is met; a slice's spare places count too). A statement '..UptoSaid' is the law's where the arguments, and the package variables that the reading takes, are together of bulk at most 1048576: NARROWER than '..Said'. Prove '..Said' where nothing that the law and all that it calls make is longer than what came in: it says more and counts as full. Else prove '..UptoSaid'. A law counts once. -/
mutual
def uptoBulk {H : Type} : DataW H → Nat
  | .lit (.string bytes) => bytes.length + 1
  | .lit _ => 1
  | .nil => 1
  | .ptr d => uptoBulk d + 1
  | .slice elems spare => uptoBulkAll elems + uptoBulkAll spare + 1
  | .agg parts => uptoBulkAll parts + 1
  | .iface _ d => uptoBulk d + 1
  | .map entries => uptoBulkEntries entries + 1
  | .held _ => 1
def uptoBulkAll {H : Type} : List (DataW H) → Nat
  | [] => 0
  | d :: r => uptoBulk d + uptoBulkAll r
def uptoBulkEntries {H : Type} : List (Lit × DataW H) → Nat
  | [] => 0
  | x :: r => uptoBulkEntry x + uptoBulkEntries r
def uptoBulkEntry {H : Type} : Lit × DataW H → Nat
  | (.string bytes, d) => bytes.length + uptoBulk d + 1
  | (_, d) => uptoBulk d + 1
 end
def uptoSmall : (H : Type) → List (DataW H) → Bool := fun _ ds => decide (uptoBulkAll ds ≤ 1048576)
def OpenSpec.upto (s : _root_.Go.ChangeSpec) : _root_.Go.OpenSpec := { _root_.Go.OpenSpec.ofChange s with cond := some uptoSmall }

/-- 'coinagelaw17.JoiningSteps', WHERE WHAT IT READS IS OF BULK AT MOST 1048576: true; the input reads as it did. -/
def joiningStepsUptoRow : OpenClaim := { program := "ytcpobcfncmcakaa", sum := "8c146c0e9d8334bdeba182974aa9f8ec60cbbdcba09c93cfd0f65566492f5a4c", func := "coinage/coinagelaw17.JoiningSteps", spec := "joiningSteps", unfollowed := true, recurses := true, plainKeys := false, apart := false, narrowed := true }
def JoiningStepsUptoSaid : Prop := joiningStepsUptoRow.holds Try.pinned (OpenSpec.upto joiningStepsSpec)

/-- 'coinagelaw17.JoiningFull', WHERE WHAT IT READS IS OF BULK AT MOST 1048576: true; the input reads as it did. -/
def joiningFullUptoRow : OpenClaim := { program := "ytcpobcfncmcakaa", sum := "8c146c0e9d8334bdeba182974aa9f8ec60cbbdcba09c93cfd0f65566492f5a4c", func := "coinage/coinagelaw17.JoiningFull", spec := "joiningFull", unfollowed := true, recurses := true, plainKeys := false, apart := false, narrowed := true }
def JoiningFullUptoSaid : Prop := joiningFullUptoRow.holds Try.pinned (OpenSpec.upto joiningFullSpec)

/-- 'coinagelaw17.JoiningClones', WHERE WHAT IT READS IS OF BULK AT MOST 1048576: true; the input reads as it did. -/
def joiningClonesUptoRow : OpenClaim := { program := "ytcpobcfncmcakaa", sum := "8c146c0e9d8334bdeba182974aa9f8ec60cbbdcba09c93cfd0f65566492f5a4c", func := "coinage/coinagelaw17.JoiningClones", spec := "joiningClones", unfollowed := true, recurses := true, plainKeys := false, apart := false, narrowed := true }
def JoiningClonesUptoSaid : Prop := joiningClonesUptoRow.holds Try.pinned (OpenSpec.upto joiningClonesSpec)

/-- 'coinagelaw17.JoiningLatest', WHERE WHAT IT READS IS OF BULK AT MOST 1048576: true; the input reads as it did. -/
def joiningLatestUptoRow : OpenClaim := { program := "ytcpobcfncmcakaa", sum := "8c146c0e9d8334bdeba182974aa9f8ec60cbbdcba09c93cfd0f65566492f5a4c", func := "coinage/coinagelaw17.JoiningLatest", spec := "joiningLatest", unfollowed := true, recurses := true, plainKeys := false, apart := false, narrowed := true }
def JoiningLatestUptoSaid : Prop := joiningLatestUptoRow.holds Try.pinned (OpenSpec.upto joiningLatestSpec)

/-- 'coinagelaw17.JoiningForest', WHERE WHAT IT READS IS OF BULK AT MOST 1048576: true; the input reads as it did. -/
def joiningForestUptoRow : OpenClaim := { program := "ytcpobcfncmcakaa", sum := "8c146c0e9d8334bdeba182974aa9f8ec60cbbdcba09c93cfd0f65566492f5a4c", func := "coinage/coinagelaw17.JoiningForest", spec := "joiningForest", unfollowed := true, recurses := true, plainKeys := false, apart := false, narrowed := true }
def JoiningForestUptoSaid : Prop := joiningForestUptoRow.holds Try.pinned (OpenSpec.upto joiningForestSpec)

end Rows
end Go.Proofs.Ytcpobcfncmcakaa
