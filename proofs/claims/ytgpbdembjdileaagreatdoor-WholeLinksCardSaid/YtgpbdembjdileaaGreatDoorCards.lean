/-
  DERIVED. GIVEN WITH THE SEED: THE CARDS: each row of YtgpbdembjdileaaGreatDoorRows.lean that lists a variable, with what it lists TIED to the program's text (the seventh form; the later family's looks); each row that meets fmt, with fmt's text TOLD by the authors' own Lean function (tested against real Go, not proved from fmt's source: count such statements apart). THE CARD IS WHAT COUNTS. Prove the row's statement (the work); the ties are given (YtgpbdembjdileaaGreatDoorTie.lean); close each card by the builder's one call (the guide's Derived/Test/ToyasCard.lean, 'card_holds'). Laid BY PROGRAM, IN A SANDBOX (cutbox-door.mjs). By AI agents, Wed Nov 11 2026. No macro, syntax, notation, axiom, sorry.
-/
import Derived.Test.YtgpbdembjdileaaGreatDoorRows
import GoSem.ClaimSeven
namespace Go.Proofs.YtgpbdembjdileaaGreatDoor
namespace Rows

/-- THE TIED CARD OF 'coinagetop.WholeLinks'. -/
def wholeLinksCard : Claim7 := { stood := { row := wholeLinksRow, standIns := [], harness := (true, "e160f0ca50253acf2373428fa72ae324b7594da2f6fe0ec7dc73a7d57c9e10e9"), looks := false }, kinds := [], alts := [], laidByText := true, laidKinds := [.data, .data, .data], laidTests := true, laidLooks := .later }
def WholeLinksCardSaid : Prop := Claim7.holds Tryz.pinned (.plain (OpenSpec.ofChange wholeLinksSpec)) wholeLinksCard

/-- THE TIED CARD OF 'coinagetop.WholeForest'. -/
def wholeForestCard : Claim7 := { stood := { row := wholeForestRow, standIns := [], harness := (true, "e160f0ca50253acf2373428fa72ae324b7594da2f6fe0ec7dc73a7d57c9e10e9"), looks := false }, kinds := [], alts := [], laidByText := true, laidKinds := [.data, .data, .data], laidTests := true, laidLooks := .later }
def WholeForestCardSaid : Prop := Claim7.holds Tryz.pinned (.plain (OpenSpec.ofChange wholeForestSpec)) wholeForestCard

/-- THE SECOND FORM's CARD OF 'coinagetop.WholeLinks'. -/
def wholeLinksUptoCard : Claim7 := { stood := { row := wholeLinksUptoRow, standIns := [], harness := (true, "e160f0ca50253acf2373428fa72ae324b7594da2f6fe0ec7dc73a7d57c9e10e9"), looks := false }, kinds := [], alts := [], laidByText := true, laidKinds := [.data, .data, .data], laidTests := true, laidLooks := .later }
def WholeLinksUptoCardSaid : Prop := Claim7.holds Tryz.pinned (.plain (OpenSpec.upto wholeLinksSpec)) wholeLinksUptoCard

/-- THE SECOND FORM's CARD OF 'coinagetop.WholeForest'. -/
def wholeForestUptoCard : Claim7 := { stood := { row := wholeForestUptoRow, standIns := [], harness := (true, "e160f0ca50253acf2373428fa72ae324b7594da2f6fe0ec7dc73a7d57c9e10e9"), looks := false }, kinds := [], alts := [], laidByText := true, laidKinds := [.data, .data, .data], laidTests := true, laidLooks := .later }
def WholeForestUptoCardSaid : Prop := Claim7.holds Tryz.pinned (.plain (OpenSpec.upto wholeForestSpec)) wholeForestUptoCard
end Rows
end Go.Proofs.YtgpbdembjdileaaGreatDoor
