/-
  DERIVED. GIVEN WITH THE SEED: THE CARDS: each row of YtejdeonbibbchaaGreatDoorRows.lean that lists a variable, with what it lists TIED to the program's text (the seventh form; the later family's looks); each row that meets fmt, with fmt's text TOLD by the authors' own Lean function (tested against real Go, not proved from fmt's source: count such statements apart). THE CARD IS WHAT COUNTS. Prove the row's statement (the work); the ties are given (YtejdeonbibbchaaGreatDoorTie.lean); close each card by the builder's one call (the guide's Derived/Test/ToyasCard.lean, 'card_holds'). Laid BY PROGRAM, IN A SANDBOX (cutbox-door.mjs). By AI agents, Wed Nov 11 2026. No macro, syntax, notation, axiom, sorry.
-/
import Derived.Test.YtejdeonbibbchaaGreatDoorRows
import GoSem.ClaimSeven
namespace Go.Proofs.YtejdeonbibbchaaGreatDoor
namespace Rows

/-- THE TIED CARD OF 'variorumlaw25.SheetTexts'. -/
def sheetTextsCard : Claim7 := { stood := { row := sheetTextsRow, standIns := [], harness := (true, "de9d160efa055514ad832c52b3bf612e2e3bb2f98133be04c76c40bc56b61687"), looks := true }, kinds := [], alts := [], laidByText := true, laidKinds := [.data, .data, .data, .data, .sentinel, .sentinel, .pinned], laidTests := true, laidLooks := .later }
def SheetTextsCardSaid : Prop := Claim7.holds Tryz.pinned (.plain (OpenSpec.ofChange sheetTextsSpec)) sheetTextsCard

/-- THE SECOND FORM's CARD OF 'variorumlaw25.SheetTexts'. -/
def sheetTextsUptoCard : Claim7 := { stood := { row := sheetTextsUptoRow, standIns := [], harness := (true, "de9d160efa055514ad832c52b3bf612e2e3bb2f98133be04c76c40bc56b61687"), looks := true }, kinds := [], alts := [], laidByText := true, laidKinds := [.data, .data, .data, .data, .sentinel, .sentinel, .pinned], laidTests := true, laidLooks := .later }
def SheetTextsUptoCardSaid : Prop := Claim7.holds Tryz.pinned (.plain (OpenSpec.upto sheetTextsSpec)) sheetTextsUptoCard
end Rows
end Go.Proofs.YtejdeonbibbchaaGreatDoor
