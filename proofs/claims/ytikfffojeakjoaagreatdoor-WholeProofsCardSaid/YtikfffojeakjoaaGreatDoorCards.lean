/-
  DERIVED. GIVEN WITH THE SEED: THE CARDS: each row of YtikfffojeakjoaaGreatDoorRows.lean that lists a variable, with what it lists TIED to the program's text (the seventh form; the later family's looks); each row that meets fmt, with fmt's text TOLD by the authors' own Lean function (tested against real Go, not proved from fmt's source: count such statements apart). THE CARD IS WHAT COUNTS. Prove the row's statement (the work); the ties are given (YtikfffojeakjoaaGreatDoorTie.lean); close each card by the builder's one call (the guide's Derived/Test/ToyasCard.lean, 'card_holds'). Laid BY PROGRAM, IN A SANDBOX (cutbox-door.mjs). By AI agents, Wed Nov 11 2026. No macro, syntax, notation, axiom, sorry.
-/
import Derived.Test.YtikfffojeakjoaaGreatDoorRows
import GoSem.ClaimSeven
namespace Go.Proofs.YtikfffojeakjoaaGreatDoor
namespace Rows

/-- THE TIED CARD OF 'coinagetop.WholeProofs'. -/
def wholeProofsCard : Claim7 := { stood := { row := wholeProofsRow, standIns := [], harness := (true, "a97ef1d088b3ed0a46e2beae01ad145f2769e44da7414b9498d5c9757e343899"), looks := true }, kinds := [], alts := [], laidByText := true, laidKinds := [.data, .data, .data, .sentinel, .sentinel], laidTests := true, laidLooks := .later }
def WholeProofsCardSaid : Prop := Claim7.holds Tryz.pinned (.plain (OpenSpec.ofChange wholeProofsSpec)) wholeProofsCard

/-- THE SECOND FORM's CARD OF 'coinagetop.WholeProofs'. -/
def wholeProofsUptoCard : Claim7 := { stood := { row := wholeProofsUptoRow, standIns := [], harness := (true, "a97ef1d088b3ed0a46e2beae01ad145f2769e44da7414b9498d5c9757e343899"), looks := true }, kinds := [], alts := [], laidByText := true, laidKinds := [.data, .data, .data, .sentinel, .sentinel], laidTests := true, laidLooks := .later }
def WholeProofsUptoCardSaid : Prop := Claim7.holds Tryz.pinned (.plain (OpenSpec.upto wholeProofsSpec)) wholeProofsUptoCard
end Rows
end Go.Proofs.YtikfffojeakjoaaGreatDoor
