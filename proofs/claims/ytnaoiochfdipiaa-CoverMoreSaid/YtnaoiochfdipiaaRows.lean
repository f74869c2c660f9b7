/-
  No cell of these rows narrows 'for every input' (looked for: loops, veiled, ifaces, maps, wideKeys, modest, calm, conditions, laid).
  DERIVED. THE GIVEN ROWS OF THIS SEAT. 8 by the template 'for every input the law returns true; each argument reads behind the call as it read before'; 0 by the template 'total and deterministic' (their statements: YtnaoiochfdipiaaTotals.lean).
  GIVEN WITH THE SEED: the statements are not yours to turn. If you find one false, say at which input.
  Laid BY PROGRAM, IN A SANDBOX (cutbox-rows.mjs): the forced cells as the released guide's own fill.sh prints them over the translation 99b2e01d355475df… (all of the seat's roots in one cut). By AI agents, Wed Nov 11 2026. No macro, syntax, notation, axiom, sorry.
-/
import Derived.Test.YtnaoiochfdipiaaChecked
import GoSem.Claim
import GoSem.ClaimJoined
import GoSem.ClaimMapViews
import Derived.JoinedTies
import Derived.KernelRfl
namespace Go.Proofs.Ytnaoiochfdipiaa
/- THE CELL 'sum', in the pinned program and in every row, IS THE sha256 OF THE DUMP (.gsa) THAT YtnaoiochfdipiaaProg.lean LOADS. Nothing in Lean hashes anything: it is a label: what it is worth is what the hold of that sum in a sandbox is worth. -/
noncomputable def Try.pinned : Pinned := { name := "ytnaoiochfdipiaa", sum := "99b2e01d355475df9c9d23cbd3300d9e0e06731a00c93a37215b50f934b80cd7", checked := Try.checked }
namespace Rows
def none {H : Type} : Left H := { results := [], args := [] }

/-- 'coinagelaw19.CoverCovers': WHATEVER THE INPUT: true; the input reads as it did. -/
def coverCoversSpec : ChangeSpec := { name := "coverCovers", fn := fun _ => fun
  | [d1, d2] => { results := [.lit (.bool true)], args := [d1, d2] }
  | _ => none }
def coverCoversRow : OpenClaim := { program := "ytnaoiochfdipiaa", sum := "99b2e01d355475df9c9d23cbd3300d9e0e06731a00c93a37215b50f934b80cd7", func := "coinage/coinagelaw19.CoverCovers", spec := "coverCovers", unfollowed := true, recurses := true, apart := false }
def CoverCoversSaid : Prop := coverCoversRow.holds Try.pinned (OpenSpec.ofChange coverCoversSpec)

/-- ITS FALSE NEIGHBOUR: 'it returns false'. Refute it at one input. -/
def coverCoversWrong : ChangeSpec := { name := "coverCovers", fn := fun _ => fun
  | [d1, d2] => { results := [.lit (.bool false)], args := [d1, d2] }
  | _ => none }
def CoverCoversWrongFalsely : Prop := coverCoversRow.holds Try.pinned (OpenSpec.ofChange coverCoversWrong)

/-- 'coinagelaw19.CoverMore': WHATEVER THE INPUT: true; the input reads as it did. -/
def coverMoreSpec : ChangeSpec := { name := "coverMore", fn := fun _ => fun
  | [d1, d2] => { results := [.lit (.bool true)], args := [d1, d2] }
  | _ => none }
def coverMoreRow : OpenClaim := { program := "ytnaoiochfdipiaa", sum := "99b2e01d355475df9c9d23cbd3300d9e0e06731a00c93a37215b50f934b80cd7", func := "coinage/coinagelaw19.CoverMore", spec := "coverMore", unfollowed := true, recurses := true, apart := false }
def CoverMoreSaid : Prop := coverMoreRow.holds Try.pinned (OpenSpec.ofChange coverMoreSpec)

/-- ITS FALSE NEIGHBOUR: 'it returns false'. Refute it at one input. -/
def coverMoreWrong : ChangeSpec := { name := "coverMore", fn := fun _ => fun
  | [d1, d2] => { results := [.lit (.bool false)], args := [d1, d2] }
  | _ => none }
def CoverMoreWrongFalsely : Prop := coverMoreRow.holds Try.pinned (OpenSpec.ofChange coverMoreWrong)

/-- 'coinagelaw19.CoverMirror': WHATEVER THE INPUT: true; the input reads as it did. -/
def coverMirrorSpec : ChangeSpec := { name := "coverMirror", fn := fun _ => fun
  | [d] => { results := [.lit (.bool true)], args := [d] }
  | _ => none }
def coverMirrorRow : OpenClaim := { program := "ytnaoiochfdipiaa", sum := "99b2e01d355475df9c9d23cbd3300d9e0e06731a00c93a37215b50f934b80cd7", func := "coinage/coinagelaw19.CoverMirror", spec := "coverMirror", unfollowed := true, recurses := true, apart := false }
def CoverMirrorSaid : Prop := coverMirrorRow.holds Try.pinned (OpenSpec.ofChange coverMirrorSpec)

/-- ITS FALSE NEIGHBOUR: 'it returns false'. Refute it at one input. -/
def coverMirrorWrong : ChangeSpec := { name := "coverMirror", fn := fun _ => fun
  | [d] => { results := [.lit (.bool false)], args := [d] }
  | _ => none }
def CoverMirrorWrongFalsely : Prop := coverMirrorRow.holds Try.pinned (OpenSpec.ofChange coverMirrorWrong)

/-- 'coinagelaw19.CoverAugments': WHATEVER THE INPUT: true; the input reads as it did. -/
def coverAugmentsSpec : ChangeSpec := { name := "coverAugments", fn := fun _ => fun
  | [d1, d2] => { results := [.lit (.bool true)], args := [d1, d2] }
  | _ => none }
def coverAugmentsRow : OpenClaim := { program := "ytnaoiochfdipiaa", sum := "99b2e01d355475df9c9d23cbd3300d9e0e06731a00c93a37215b50f934b80cd7", func := "coinage/coinagelaw19.CoverAugments", spec := "coverAugments", unfollowed := true, recurses := true, apart := false }
def CoverAugmentsSaid : Prop := coverAugmentsRow.holds Try.pinned (OpenSpec.ofChange coverAugmentsSpec)

/-- ITS FALSE NEIGHBOUR: 'it returns false'. Refute it at one input. -/
def coverAugmentsWrong : ChangeSpec := { name := "coverAugments", fn := fun _ => fun
  | [d1, d2] => { results := [.lit (.bool false)], args := [d1, d2] }
  | _ => none }
def CoverAugmentsWrongFalsely : Prop := coverAugmentsRow.holds Try.pinned (OpenSpec.ofChange coverAugmentsWrong)

/-- 'coinagelaw19.CoverSizes': WHATEVER THE INPUT: true; the input reads as it did. -/
def coverSizesSpec : ChangeSpec := { name := "coverSizes", fn := fun _ => fun
  | [d] => { results := [.lit (.bool true)], args := [d] }
  | _ => none }
def coverSizesRow : OpenClaim := { program := "ytnaoiochfdipiaa", sum := "99b2e01d355475df9c9d23cbd3300d9e0e06731a00c93a37215b50f934b80cd7", func := "coinage/coinagelaw19.CoverSizes", spec := "coverSizes", unfollowed := true, recurses := true, apart := false }
def CoverSizesSaid : Prop := coverSizesRow.holds Try.pinned (OpenSpec.ofChange coverSizesSpec)

/-- ITS FALSE NEIGHBOUR: 'it returns false'. Refute it at one input. -/
def coverSizesWrong : ChangeSpec := { name := "coverSizes", fn := fun _ => fun
  | [d] => { results := [.lit (.bool false)], args := [d] }
  | _ => none }
def CoverSizesWrongFalsely : Prop := coverSizesRow.holds Try.pinned (OpenSpec.ofChange coverSizesWrong)

/-- 'coinagelaw19.CoverTouches': WHATEVER THE INPUT: true; the input reads as it did. -/
def coverTouchesSpec : ChangeSpec := { name := "coverTouches", fn := fun _ => fun
  | [d] => { results := [.lit (.bool true)], args := [d] }
  | _ => none }
def coverTouchesRow : OpenClaim := { program := "ytnaoiochfdipiaa", sum := "99b2e01d355475df9c9d23cbd3300d9e0e06731a00c93a37215b50f934b80cd7", func := "coinage/coinagelaw19.CoverTouches", spec := "coverTouches", unfollowed := true, recurses := true, apart := false }
def CoverTouchesSaid : Prop := coverTouchesRow.holds Try.pinned (OpenSpec.ofChange coverTouchesSpec)

/-- ITS FALSE NEIGHBOUR: 'it returns false'. Refute it at one input. -/
def coverTouchesWrong : ChangeSpec := { name := "coverTouches", fn := fun _ => fun
  | [d] => { results := [.lit (.bool false)], args := [d] }
  | _ => none }
def CoverTouchesWrongFalsely : Prop := coverTouchesRow.holds Try.pinned (OpenSpec.ofChange coverTouchesWrong)

/-- 'coinagelaw19.CoverKoenig': WHATEVER THE INPUT: true; the input reads as it did. -/
def coverKoenigSpec : ChangeSpec := { name := "coverKoenig", fn := fun _ => fun
  | [d1, d2, d3] => { results := [.lit (.bool true)], args := [d1, d2, d3] }
  | _ => none }
def coverKoenigRow : OpenClaim := { program := "ytnaoiochfdipiaa", sum := "99b2e01d355475df9c9d23cbd3300d9e0e06731a00c93a37215b50f934b80cd7", func := "coinage/coinagelaw19.CoverKoenig", spec := "coverKoenig", unfollowed := true, recurses := true, apart := false }
def CoverKoenigSaid : Prop := coverKoenigRow.holds Try.pinned (OpenSpec.ofChange coverKoenigSpec)

/-- ITS FALSE NEIGHBOUR: 'it returns false'. Refute it at one input. -/
def coverKoenigWrong : ChangeSpec := { name := "coverKoenig", fn := fun _ => fun
  | [d1, d2, d3] => { results := [.lit (.bool false)], args := [d1, d2, d3] }
  | _ => none }
def CoverKoenigWrongFalsely : Prop := coverKoenigRow.holds Try.pinned (OpenSpec.ofChange coverKoenigWrong)

/-- 'coinagelaw19.CoverMatchings': WHATEVER THE INPUT: true; the input reads as it did. -/
def coverMatchingsSpec : ChangeSpec := { name := "coverMatchings", fn := fun _ => fun
  | [d1, d2] => { results := [.lit (.bool true)], args := [d1, d2] }
  | _ => none }
def coverMatchingsRow : OpenClaim := { program := "ytnaoiochfdipiaa", sum := "99b2e01d355475df9c9d23cbd3300d9e0e06731a00c93a37215b50f934b80cd7", func := "coinage/coinagelaw19.CoverMatchings", spec := "coverMatchings", unfollowed := true, recurses := true, apart := false }
def CoverMatchingsSaid : Prop := coverMatchingsRow.holds Try.pinned (OpenSpec.ofChange coverMatchingsSpec)

/-- ITS FALSE NEIGHBOUR: 'it returns false'. Refute it at one input. -/
def coverMatchingsWrong : ChangeSpec := { name := "coverMatchings", fn := fun _ => fun
  | [d1, d2] => { results := [.lit (.bool false)], args := [d1, d2] }
  | _ => none }
def CoverMatchingsWrongFalsely : Prop := coverMatchingsRow.holds Try.pinned (OpenSpec.ofChange coverMatchingsWrong)

/- THE SECOND FORM. 'bulk': how many values and letters a reading holds, each counted each time it is reached (what is shared counts as often as it is met; a slice's spare places count too). A statement '..UptoSaid' is the law's where the arguments, and the package variables that the reading takes, are together of bulk at most 1048576: NARROWER than '..Said'. Prove '..Said' where nothing that the law and all that it calls make is longer than what came in: it says more and counts as full. Else prove '..UptoSaid'. A law counts once. -/
mutual
def uptoBulk {H : Type} : DataW H → Nat
  | .lit (.string bytes) => bytes.length + 1
  | .lit _ => 1
  | .nil => 1
  | .ptr d => uptoBulk d + 1
  | .slice elems spare => uptoBulkAll elems + uptoBulkAll spare + 1
  | .agg parts => uptoBulkAll parts + 1
  | .iface _ d => uptoBulk d + 1
  | .map entries => uptoBulkEntries entries + 1
  | .held _ => 1
def uptoBulkAll {H : Type} : List (DataW H) → Nat
  | [] => 0
  | d :: r => uptoBulk d + uptoBulkAll r
def uptoBulkEntries {H : Type} : List (Lit × DataW H) → Nat
  | [] => 0
  | x :: r => uptoBulkEntry x + uptoBulkEntries r
def uptoBulkEntry {H : Type} : Lit × DataW H → Nat
  | (.string bytes, d) => bytes.length + uptoBulk d + 1
  | (_, d) => uptoBulk d + 1
 end
def uptoSmall : (H : Type) → List (DataW H) → Bool := fun _ ds => decide (uptoBulkAll ds ≤ 1048576)
def OpenSpec.upto (s : _root_.Go.ChangeSpec) : _root_.Go.OpenSpec := { _root_.Go.OpenSpec.ofChange s with cond := some uptoSmall }

/-- 'coinagelaw19.CoverCovers', WHERE WHAT IT READS IS OF BULK AT MOST 1048576: true; the input reads as it did. -/
def coverCoversUptoRow : OpenClaim := { program := "ytnaoiochfdipiaa", sum := "99b2e01d355475df9c9d23cbd3300d9e0e06731a00c93a37215b50f934b80cd7", func := "coinage/coinagelaw19.CoverCovers", spec := "coverCovers", unfollowed := true, recurses := true, apart := false, narrowed := true }
def CoverCoversUptoSaid : Prop := coverCoversUptoRow.holds Try.pinned (OpenSpec.upto coverCoversSpec)

/-- 'coinagelaw19.CoverMore', WHERE WHAT IT READS IS OF BULK AT MOST 1048576: true; the input reads as it did. -/
def coverMoreUptoRow : OpenClaim := { program := "ytnaoiochfdipiaa", sum := "99b2e01d355475df9c9d23cbd3300d9e0e06731a00c93a37215b50f934b80cd7", func := "coinage/coinagelaw19.CoverMore", spec := "coverMore", unfollowed := true, recurses := true, apart := false, narrowed := true }
def CoverMoreUptoSaid : Prop := coverMoreUptoRow.holds Try.pinned (OpenSpec.upto coverMoreSpec)

/-- 'coinagelaw19.CoverMirror', WHERE WHAT IT READS IS OF BULK AT MOST 1048576: true; the input reads as it did. -/
def coverMirrorUptoRow : OpenClaim := { program := "ytnaoiochfdipiaa", sum := "99b2e01d355475df9c9d23cbd3300d9e0e06731a00c93a37215b50f934b80cd7", func := "coinage/coinagelaw19.CoverMirror", spec := "coverMirror", unfollowed := true, recurses := true, apart := false, narrowed := true }
def CoverMirrorUptoSaid : Prop := coverMirrorUptoRow.holds Try.pinned (OpenSpec.upto coverMirrorSpec)

/-- 'coinagelaw19.CoverAugments', WHERE WHAT IT READS IS OF BULK AT MOST 1048576: true; the input reads as it did. -/
def coverAugmentsUptoRow : OpenClaim := { program := "ytnaoiochfdipiaa", sum := "99b2e01d355475df9c9d23cbd3300d9e0e06731a00c93a37215b50f934b80cd7", func := "coinage/coinagelaw19.CoverAugments", spec := "coverAugments", unfollowed := true, recurses := true, apart := false, narrowed := true }
def CoverAugmentsUptoSaid : Prop := coverAugmentsUptoRow.holds Try.pinned (OpenSpec.upto coverAugmentsSpec)

/-- 'coinagelaw19.CoverSizes', WHERE WHAT IT READS IS OF BULK AT MOST 1048576: true; the input reads as it did. -/
def coverSizesUptoRow : OpenClaim := { program := "ytnaoiochfdipiaa", sum := "99b2e01d355475df9c9d23cbd3300d9e0e06731a00c93a37215b50f934b80cd7", func := "coinage/coinagelaw19.CoverSizes", spec := "coverSizes", unfollowed := true, recurses := true, apart := false, narrowed := true }
def CoverSizesUptoSaid : Prop := coverSizesUptoRow.holds Try.pinned (OpenSpec.upto coverSizesSpec)

/-- 'coinagelaw19.CoverTouches', WHERE WHAT IT READS IS OF BULK AT MOST 1048576: true; the input reads as it did. -/
def coverTouchesUptoRow : OpenClaim := { program := "ytnaoiochfdipiaa", sum := "99b2e01d355475df9c9d23cbd3300d9e0e06731a00c93a37215b50f934b80cd7", func := "coinage/coinagelaw19.CoverTouches", spec := "coverTouches", unfollowed := true, recurses := true, apart := false, narrowed := true }
def CoverTouchesUptoSaid : Prop := coverTouchesUptoRow.holds Try.pinned (OpenSpec.upto coverTouchesSpec)

/-- 'coinagelaw19.CoverKoenig', WHERE WHAT IT READS IS OF BULK AT MOST 1048576: true; the input reads as it did. -/
def coverKoenigUptoRow : OpenClaim := { program := "ytnaoiochfdipiaa", sum := "99b2e01d355475df9c9d23cbd3300d9e0e06731a00c93a37215b50f934b80cd7", func := "coinage/coinagelaw19.CoverKoenig", spec := "coverKoenig", unfollowed := true, recurses := true, apart := false, narrowed := true }
def CoverKoenigUptoSaid : Prop := coverKoenigUptoRow.holds Try.pinned (OpenSpec.upto coverKoenigSpec)

/-- 'coinagelaw19.CoverMatchings', WHERE WHAT IT READS IS OF BULK AT MOST 1048576: true; the input reads as it did. -/
def coverMatchingsUptoRow : OpenClaim := { program := "ytnaoiochfdipiaa", sum := "99b2e01d355475df9c9d23cbd3300d9e0e06731a00c93a37215b50f934b80cd7", func := "coinage/coinagelaw19.CoverMatchings", spec := "coverMatchings", unfollowed := true, recurses := true, apart := false, narrowed := true }
def CoverMatchingsUptoSaid : Prop := coverMatchingsUptoRow.holds Try.pinned (OpenSpec.upto coverMatchingsSpec)

end Rows
end Go.Proofs.Ytnaoiochfdipiaa
