/-
  No cell of these rows narrows 'for every input' (looked for: loops, veiled, ifaces, maps, wideKeys, modest, calm, conditions, laid).
  DERIVED. THE GIVEN ROWS OF THIS SEAT. 9 by the template 'for every input the law returns true; each argument reads behind the call as it read before'; 0 by the template 'total and deterministic' (their statements: YtifgpmhkdnmhlaaTotals.lean).
  GIVEN WITH THE SEED: the statements are not yours to turn. If you find one false, say at which input.
  Laid BY PROGRAM, IN A SANDBOX (cutbox-rows.mjs): the forced cells as the released guide's own fill.sh prints them over the translation f12455ab80db4cf2… (all of the seat's roots in one cut). By AI agents, Wed Nov 11 2026. No macro, syntax, notation, axiom, sorry.
-/
import Derived.Test.YtifgpmhkdnmhlaaChecked
import GoSem.Claim
import GoSem.ClaimJoined
import GoSem.ClaimMapViews
import Derived.JoinedTies
import Derived.KernelRfl
namespace Go.Proofs.Ytifgpmhkdnmhlaa
/- THE CELL 'sum', in the pinned program and in every row, IS THE sha256 OF THE DUMP (.gsa) THAT YtifgpmhkdnmhlaaProg.lean LOADS. Nothing in Lean hashes anything: it is a label: what it is worth is what the hold of that sum in a sandbox is worth. -/
noncomputable def Try.pinned : Pinned := { name := "ytifgpmhkdnmhlaa", sum := "f12455ab80db4cf29bc4259be94a95f75cd06fab9b70877bfbc2ef7a9a48c419", checked := Try.checked }
namespace Rows
def none {H : Type} : Left H := { results := [], args := [] }

/-- 'coinagelaw13.LinkageMakes': WHATEVER THE INPUT: true; the input reads as it did. -/
def linkageMakesSpec : ChangeSpec := { name := "linkageMakes", fn := fun _ => fun
  | [d] => { results := [.lit (.bool true)], args := [d] }
  | _ => none }
def linkageMakesRow : OpenClaim := { program := "ytifgpmhkdnmhlaa", sum := "f12455ab80db4cf29bc4259be94a95f75cd06fab9b70877bfbc2ef7a9a48c419", func := "coinage/coinagelaw13.LinkageMakes", spec := "linkageMakes", unfollowed := true, recurses := true, apart := false }
def LinkageMakesSaid : Prop := linkageMakesRow.holds Try.pinned (OpenSpec.ofChange linkageMakesSpec)

/-- ITS FALSE NEIGHBOUR: 'it returns false'. Refute it at one input. -/
def linkageMakesWrong : ChangeSpec := { name := "linkageMakes", fn := fun _ => fun
  | [d] => { results := [.lit (.bool false)], args := [d] }
  | _ => none }
def LinkageMakesWrongFalsely : Prop := linkageMakesRow.holds Try.pinned (OpenSpec.ofChange linkageMakesWrong)

/-- 'coinagelaw13.LinkageIgnores': WHATEVER THE INPUT: true; the input reads as it did. -/
def linkageIgnoresSpec : ChangeSpec := { name := "linkageIgnores", fn := fun _ => fun
  | [d1, d2, d3] => { results := [.lit (.bool true)], args := [d1, d2, d3] }
  | _ => none }
def linkageIgnoresRow : OpenClaim := { program := "ytifgpmhkdnmhlaa", sum := "f12455ab80db4cf29bc4259be94a95f75cd06fab9b70877bfbc2ef7a9a48c419", func := "coinage/coinagelaw13.LinkageIgnores", spec := "linkageIgnores", unfollowed := true, recurses := true, apart := false }
def LinkageIgnoresSaid : Prop := linkageIgnoresRow.holds Try.pinned (OpenSpec.ofChange linkageIgnoresSpec)

/-- ITS FALSE NEIGHBOUR: 'it returns false'. Refute it at one input. -/
def linkageIgnoresWrong : ChangeSpec := { name := "linkageIgnores", fn := fun _ => fun
  | [d1, d2, d3] => { results := [.lit (.bool false)], args := [d1, d2, d3] }
  | _ => none }
def LinkageIgnoresWrongFalsely : Prop := linkageIgnoresRow.holds Try.pinned (OpenSpec.ofChange linkageIgnoresWrong)

/-- 'coinagelaw13.LinkageReads': WHATEVER THE INPUT: true; the input reads as it did. -/
def linkageReadsSpec : ChangeSpec := { name := "linkageReads", fn := fun _ => fun
  | [d1, d2] => { results := [.lit (.bool true)], args := [d1, d2] }
  | _ => none }
def linkageReadsRow : OpenClaim := { program := "ytifgpmhkdnmhlaa", sum := "f12455ab80db4cf29bc4259be94a95f75cd06fab9b70877bfbc2ef7a9a48c419", func := "coinage/coinagelaw13.LinkageReads", spec := "linkageReads", unfollowed := true, recurses := true, apart := false }
def LinkageReadsSaid : Prop := linkageReadsRow.holds Try.pinned (OpenSpec.ofChange linkageReadsSpec)

/-- ITS FALSE NEIGHBOUR: 'it returns false'. Refute it at one input. -/
def linkageReadsWrong : ChangeSpec := { name := "linkageReads", fn := fun _ => fun
  | [d1, d2] => { results := [.lit (.bool false)], args := [d1, d2] }
  | _ => none }
def LinkageReadsWrongFalsely : Prop := linkageReadsRow.holds Try.pinned (OpenSpec.ofChange linkageReadsWrong)

/-- 'coinagelaw13.LinkageMutual': WHATEVER THE INPUT: true; the input reads as it did. -/
def linkageMutualSpec : ChangeSpec := { name := "linkageMutual", fn := fun _ => fun
  | [d1, d2] => { results := [.lit (.bool true)], args := [d1, d2] }
  | _ => none }
def linkageMutualRow : OpenClaim := { program := "ytifgpmhkdnmhlaa", sum := "f12455ab80db4cf29bc4259be94a95f75cd06fab9b70877bfbc2ef7a9a48c419", func := "coinage/coinagelaw13.LinkageMutual", spec := "linkageMutual", unfollowed := true, recurses := true, apart := false }
def LinkageMutualSaid : Prop := linkageMutualRow.holds Try.pinned (OpenSpec.ofChange linkageMutualSpec)

/-- ITS FALSE NEIGHBOUR: 'it returns false'. Refute it at one input. -/
def linkageMutualWrong : ChangeSpec := { name := "linkageMutual", fn := fun _ => fun
  | [d1, d2] => { results := [.lit (.bool false)], args := [d1, d2] }
  | _ => none }
def LinkageMutualWrongFalsely : Prop := linkageMutualRow.holds Try.pinned (OpenSpec.ofChange linkageMutualWrong)

/-- 'coinagelaw13.LinkageAdds': WHATEVER THE INPUT: true; the input reads as it did. -/
def linkageAddsSpec : ChangeSpec := { name := "linkageAdds", fn := fun _ => fun
  | [d] => { results := [.lit (.bool true)], args := [d] }
  | _ => none }
def linkageAddsRow : OpenClaim := { program := "ytifgpmhkdnmhlaa", sum := "f12455ab80db4cf29bc4259be94a95f75cd06fab9b70877bfbc2ef7a9a48c419", func := "coinage/coinagelaw13.LinkageAdds", spec := "linkageAdds", unfollowed := true, recurses := true, apart := false }
def LinkageAddsSaid : Prop := linkageAddsRow.holds Try.pinned (OpenSpec.ofChange linkageAddsSpec)

/-- ITS FALSE NEIGHBOUR: 'it returns false'. Refute it at one input. -/
def linkageAddsWrong : ChangeSpec := { name := "linkageAdds", fn := fun _ => fun
  | [d] => { results := [.lit (.bool false)], args := [d] }
  | _ => none }
def LinkageAddsWrongFalsely : Prop := linkageAddsRow.holds Try.pinned (OpenSpec.ofChange linkageAddsWrong)

/-- 'coinagelaw13.LinkageRenames': WHATEVER THE INPUT: true; the input reads as it did. -/
def linkageRenamesSpec : ChangeSpec := { name := "linkageRenames", fn := fun _ => fun
  | [d1, d2, d3] => { results := [.lit (.bool true)], args := [d1, d2, d3] }
  | _ => none }
def linkageRenamesRow : OpenClaim := { program := "ytifgpmhkdnmhlaa", sum := "f12455ab80db4cf29bc4259be94a95f75cd06fab9b70877bfbc2ef7a9a48c419", func := "coinage/coinagelaw13.LinkageRenames", spec := "linkageRenames", unfollowed := true, recurses := true, apart := false }
def LinkageRenamesSaid : Prop := linkageRenamesRow.holds Try.pinned (OpenSpec.ofChange linkageRenamesSpec)

/-- ITS FALSE NEIGHBOUR: 'it returns false'. Refute it at one input. -/
def linkageRenamesWrong : ChangeSpec := { name := "linkageRenames", fn := fun _ => fun
  | [d1, d2, d3] => { results := [.lit (.bool false)], args := [d1, d2, d3] }
  | _ => none }
def LinkageRenamesWrongFalsely : Prop := linkageRenamesRow.holds Try.pinned (OpenSpec.ofChange linkageRenamesWrong)

/-- 'coinagelaw13.LinkageNames': WHATEVER THE INPUT: true; the input reads as it did. -/
def linkageNamesSpec : ChangeSpec := { name := "linkageNames", fn := fun _ => fun
  | [d1, d2, d3] => { results := [.lit (.bool true)], args := [d1, d2, d3] }
  | _ => none }
def linkageNamesRow : OpenClaim := { program := "ytifgpmhkdnmhlaa", sum := "f12455ab80db4cf29bc4259be94a95f75cd06fab9b70877bfbc2ef7a9a48c419", func := "coinage/coinagelaw13.LinkageNames", spec := "linkageNames", unfollowed := true, recurses := true, apart := false }
def LinkageNamesSaid : Prop := linkageNamesRow.holds Try.pinned (OpenSpec.ofChange linkageNamesSpec)

/-- ITS FALSE NEIGHBOUR: 'it returns false'. Refute it at one input. -/
def linkageNamesWrong : ChangeSpec := { name := "linkageNames", fn := fun _ => fun
  | [d1, d2, d3] => { results := [.lit (.bool false)], args := [d1, d2, d3] }
  | _ => none }
def LinkageNamesWrongFalsely : Prop := linkageNamesRow.holds Try.pinned (OpenSpec.ofChange linkageNamesWrong)

/-- 'coinagelaw13.LinkageTables': WHATEVER THE INPUT: true; the input reads as it did. -/
def linkageTablesSpec : ChangeSpec := { name := "linkageTables", fn := fun _ => fun
  | [d1, d2] => { results := [.lit (.bool true)], args := [d1, d2] }
  | _ => none }
def linkageTablesRow : OpenClaim := { program := "ytifgpmhkdnmhlaa", sum := "f12455ab80db4cf29bc4259be94a95f75cd06fab9b70877bfbc2ef7a9a48c419", func := "coinage/coinagelaw13.LinkageTables", spec := "linkageTables", unfollowed := true, recurses := true, apart := false }
def LinkageTablesSaid : Prop := linkageTablesRow.holds Try.pinned (OpenSpec.ofChange linkageTablesSpec)

/-- ITS FALSE NEIGHBOUR: 'it returns false'. Refute it at one input. -/
def linkageTablesWrong : ChangeSpec := { name := "linkageTables", fn := fun _ => fun
  | [d1, d2] => { results := [.lit (.bool false)], args := [d1, d2] }
  | _ => none }
def LinkageTablesWrongFalsely : Prop := linkageTablesRow.holds Try.pinned (OpenSpec.ofChange linkageTablesWrong)

/-- 'coinagelaw13.LinkageWithout': WHATEVER THE INPUT: true; the input reads as it did. -/
def linkageWithoutSpec : ChangeSpec := { name := "linkageWithout", fn := fun _ => fun
  | [d1, d2] => { results := [.lit (.bool true)], args := [d1, d2] }
  | _ => none }
def linkageWithoutRow : OpenClaim := { program := "ytifgpmhkdnmhlaa", sum := "f12455ab80db4cf29bc4259be94a95f75cd06fab9b70877bfbc2ef7a9a48c419", func := "coinage/coinagelaw13.LinkageWithout", spec := "linkageWithout", unfollowed := true, recurses := true, apart := false }
def LinkageWithoutSaid : Prop := linkageWithoutRow.holds Try.pinned (OpenSpec.ofChange linkageWithoutSpec)

/-- ITS FALSE NEIGHBOUR: 'it returns false'. Refute it at one input. -/
def linkageWithoutWrong : ChangeSpec := { name := "linkageWithout", fn := fun _ => fun
  | [d1, d2] => { results := [.lit (.bool false)], args := [d1, d2] }
  | _ => none }
def LinkageWithoutWrongFalsely : Prop := linkageWithoutRow.holds Try.pinned (OpenSpec.ofChange linkageWithoutWrong)

/- THE SECOND FORM. 'bulk': how many values and letters a reading holds, each counted each time it is reached (what is shared counts as often as it is met; a slice's spare places count too). A statement '..UptoSaid' is the law's where the arguments, and the package variables that the reading takes, are together of bulk at most 1048576: NARROWER than '..Said'. Prove '..Said' where nothing that the law and all that it calls make is longer than what came in: it says more and counts as full. Else prove '..UptoSaid'. A law counts once. -/
mutual
def uptoBulk {H : Type} : DataW H → Nat
  | .lit (.string bytes) => bytes.length + 1
  | .lit _ => 1
  | .nil => 1
  | .ptr d => uptoBulk d + 1
  | .slice elems spare => uptoBulkAll elems + uptoBulkAll spare + 1
  | .agg parts => uptoBulkAll parts + 1
  | .iface _ d => uptoBulk d + 1
  | .map entries => uptoBulkEntries entries + 1
  | .held _ => 1
def uptoBulkAll {H : Type} : List (DataW H) → Nat
  | [] => 0
  | d :: r => uptoBulk d + uptoBulkAll r
def uptoBulkEntries {H : Type} : List (Lit × DataW H) → Nat
  | [] => 0
  | x :: r => uptoBulkEntry x + uptoBulkEntries r
def uptoBulkEntry {H : Type} : Lit × DataW H → Nat
  | (.string bytes, d) => bytes.length + uptoBulk d + 1
  | (_, d) => uptoBulk d + 1
 end
def uptoSmall : (H : Type) → List (DataW H) → Bool := fun _ ds => decide (uptoBulkAll ds ≤ 1048576)
def OpenSpec.upto (s : _root_.Go.ChangeSpec) : _root_.Go.OpenSpec := { _root_.Go.OpenSpec.ofChange s with cond := some uptoSmall }

/-- 'coinagelaw13.LinkageMakes', WHERE WHAT IT READS IS OF BULK AT MOST 1048576: true; the input reads as it did. -/
def linkageMakesUptoRow : OpenClaim := { program := "ytifgpmhkdnmhlaa", sum := "f12455ab80db4cf29bc4259be94a95f75cd06fab9b70877bfbc2ef7a9a48c419", func := "coinage/coinagelaw13.LinkageMakes", spec := "linkageMakes", unfollowed := true, recurses := true, apart := false, narrowed := true }
def LinkageMakesUptoSaid : Prop := linkageMakesUptoRow.holds Try.pinned (OpenSpec.upto linkageMakesSpec)

/-- 'coinagelaw13.LinkageIgnores', WHERE WHAT IT READS IS OF BULK AT MOST 1048576: true; the input reads as it did. -/
def linkageIgnoresUptoRow : OpenClaim := { program := "ytifgpmhkdnmhlaa", sum := "f12455ab80db4cf29bc4259be94a95f75cd06fab9b70877bfbc2ef7a9a48c419", func := "coinage/coinagelaw13.LinkageIgnores", spec := "linkageIgnores", unfollowed := true, recurses := true, apart := false, narrowed := true }
def LinkageIgnoresUptoSaid : Prop := linkageIgnoresUptoRow.holds Try.pinned (OpenSpec.upto linkageIgnoresSpec)

/-- 'coinagelaw13.LinkageReads', WHERE WHAT IT READS IS OF BULK AT MOST 1048576: true; the input reads as it did. -/
def linkageReadsUptoRow : OpenClaim := { program := "ytifgpmhkdnmhlaa", sum := "f12455ab80db4cf29bc4259be94a95f75cd06fab9b70877bfbc2ef7a9a48c419", func := "coinage/coinagelaw13.LinkageReads", spec := "linkageReads", unfollowed := true, recurses := true, apart := false, narrowed := true }
def LinkageReadsUptoSaid : Prop := linkageReadsUptoRow.holds Try.pinned (OpenSpec.upto linkageReadsSpec)

/-- 'coinagelaw13.LinkageMutual', WHERE WHAT IT READS IS OF BULK AT MOST 1048576: true; the input reads as it did. -/
def linkageMutualUptoRow : OpenClaim := { program := "ytifgpmhkdnmhlaa", sum := "f12455ab80db4cf29bc4259be94a95f75cd06fab9b70877bfbc2ef7a9a48c419", func := "coinage/coinagelaw13.LinkageMutual", spec := "linkageMutual", unfollowed := true, recurses := true, apart := false, narrowed := true }
def LinkageMutualUptoSaid : Prop := linkageMutualUptoRow.holds Try.pinned (OpenSpec.upto linkageMutualSpec)

/-- 'coinagelaw13.LinkageAdds', WHERE WHAT IT READS IS OF BULK AT MOST 1048576: true; the input reads as it did. -/
def linkageAddsUptoRow : OpenClaim := { program := "ytifgpmhkdnmhlaa", sum := "f12455ab80db4cf29bc4259be94a95f75cd06fab9b70877bfbc2ef7a9a48c419", func := "coinage/coinagelaw13.LinkageAdds", spec := "linkageAdds", unfollowed := true, recurses := true, apart := false, narrowed := true }
def LinkageAddsUptoSaid : Prop := linkageAddsUptoRow.holds Try.pinned (OpenSpec.upto linkageAddsSpec)

/-- 'coinagelaw13.LinkageRenames', WHERE WHAT IT READS IS OF BULK AT MOST 1048576: true; the input reads as it did. -/
def linkageRenamesUptoRow : OpenClaim := { program := "ytifgpmhkdnmhlaa", sum := "f12455ab80db4cf29bc4259be94a95f75cd06fab9b70877bfbc2ef7a9a48c419", func := "coinage/coinagelaw13.LinkageRenames", spec := "linkageRenames", unfollowed := true, recurses := true, apart := false, narrowed := true }
def LinkageRenamesUptoSaid : Prop := linkageRenamesUptoRow.holds Try.pinned (OpenSpec.upto linkageRenamesSpec)

/-- 'coinagelaw13.LinkageNames', WHERE WHAT IT READS IS OF BULK AT MOST 1048576: true; the input reads as it did. -/
def linkageNamesUptoRow : OpenClaim := { program := "ytifgpmhkdnmhlaa", sum := "f12455ab80db4cf29bc4259be94a95f75cd06fab9b70877bfbc2ef7a9a48c419", func := "coinage/coinagelaw13.LinkageNames", spec := "linkageNames", unfollowed := true, recurses := true, apart := false, narrowed := true }
def LinkageNamesUptoSaid : Prop := linkageNamesUptoRow.holds Try.pinned (OpenSpec.upto linkageNamesSpec)

/-- 'coinagelaw13.LinkageTables', WHERE WHAT IT READS IS OF BULK AT MOST 1048576: true; the input reads as it did. -/
def linkageTablesUptoRow : OpenClaim := { program := "ytifgpmhkdnmhlaa", sum := "f12455ab80db4cf29bc4259be94a95f75cd06fab9b70877bfbc2ef7a9a48c419", func := "coinage/coinagelaw13.LinkageTables", spec := "linkageTables", unfollowed := true, recurses := true, apart := false, narrowed := true }
def LinkageTablesUptoSaid : Prop := linkageTablesUptoRow.holds Try.pinned (OpenSpec.upto linkageTablesSpec)

/-- 'coinagelaw13.LinkageWithout', WHERE WHAT IT READS IS OF BULK AT MOST 1048576: true; the input reads as it did. -/
def linkageWithoutUptoRow : OpenClaim := { program := "ytifgpmhkdnmhlaa", sum := "f12455ab80db4cf29bc4259be94a95f75cd06fab9b70877bfbc2ef7a9a48c419", func := "coinage/coinagelaw13.LinkageWithout", spec := "linkageWithout", unfollowed := true, recurses := true, apart := false, narrowed := true }
def LinkageWithoutUptoSaid : Prop := linkageWithoutUptoRow.holds Try.pinned (OpenSpec.upto linkageWithoutSpec)

end Rows
end Go.Proofs.Ytifgpmhkdnmhlaa
