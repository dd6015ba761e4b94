/-
  DERIVED. GIVEN WITH THE SEED: THE CARDS: each row of YtejdeonbibbchaaDoorRows.lean that lists a variable, with what it lists TIED to the program's text (the seventh form; the later family's looks); each row that meets fmt, with fmt's text TOLD by the authors' own Lean function (tested against real Go, not proved from fmt's source: count such statements apart). THE CARD IS WHAT COUNTS. Prove the row's statement (the work); the ties are given (YtejdeonbibbchaaDoorTie.lean); close each card by the builder's one call (the guide's Derived/Test/ToyasCard.lean, 'card_holds'). Laid BY PROGRAM, IN A SANDBOX (cutbox-door.mjs). By AI agents, Wed Nov 11 2026. No macro, syntax, notation, axiom, sorry.
-/
import Derived.Test.YtejdeonbibbchaaDoorRows
import GoSem.ClaimSeven
namespace Go.Proofs.YtejdeonbibbchaaDoor
namespace Rows

/-- THE TIED CARD OF 'variorumlaw25.SheetBack'. -/
def sheetBackCard : Claim7 := { stood := { row := sheetBackRow, standIns := [], harness := (true, "7c4d8dc0217d28dd6fd2a3e37f607f06b7b2dfd721bb715dbee4e2603bbf7c70"), looks := true }, kinds := [], alts := [], laidByText := true, laidKinds := [.data, .data, .data, .data, .sentinel, .sentinel, .pinned], laidTests := true, laidLooks := .later }
def SheetBackCardSaid : Prop := Claim7.holds Tryd.pinned (.plain (OpenSpec.ofChange sheetBackSpec)) sheetBackCard

/-- THE TIED CARD OF 'variorumlaw25.SheetOrder'. -/
def sheetOrderCard : Claim7 := { stood := { row := sheetOrderRow, standIns := [], harness := (true, "7c4d8dc0217d28dd6fd2a3e37f607f06b7b2dfd721bb715dbee4e2603bbf7c70"), looks := true }, kinds := [], alts := [], laidByText := true, laidKinds := [.data, .data, .data, .data, .sentinel, .sentinel, .pinned], laidTests := true, laidLooks := .later }
def SheetOrderCardSaid : Prop := Claim7.holds Tryd.pinned (.plain (OpenSpec.ofChange sheetOrderSpec)) sheetOrderCard

/-- THE TIED CARD OF 'variorumlaw25.SheetParts'. -/
def sheetPartsCard : Claim7 := { stood := { row := sheetPartsRow, standIns := [], harness := (true, "7c4d8dc0217d28dd6fd2a3e37f607f06b7b2dfd721bb715dbee4e2603bbf7c70"), looks := true }, kinds := [], alts := [], laidByText := true, laidKinds := [.data, .data, .data, .data, .sentinel, .sentinel, .pinned], laidTests := true, laidLooks := .later }
def SheetPartsCardSaid : Prop := Claim7.holds Tryd.pinned (.plain (OpenSpec.ofChange sheetPartsSpec)) sheetPartsCard

/-- THE SECOND FORM's CARD OF 'variorumlaw25.SheetBack'. -/
def sheetBackUptoCard : Claim7 := { stood := { row := sheetBackUptoRow, standIns := [], harness := (true, "7c4d8dc0217d28dd6fd2a3e37f607f06b7b2dfd721bb715dbee4e2603bbf7c70"), looks := true }, kinds := [], alts := [], laidByText := true, laidKinds := [.data, .data, .data, .data, .sentinel, .sentinel, .pinned], laidTests := true, laidLooks := .later }
def SheetBackUptoCardSaid : Prop := Claim7.holds Tryd.pinned (.plain (OpenSpec.upto sheetBackSpec)) sheetBackUptoCard

/-- THE SECOND FORM's CARD OF 'variorumlaw25.SheetOrder'. -/
def sheetOrderUptoCard : Claim7 := { stood := { row := sheetOrderUptoRow, standIns := [], harness := (true, "7c4d8dc0217d28dd6fd2a3e37f607f06b7b2dfd721bb715dbee4e2603bbf7c70"), looks := true }, kinds := [], alts := [], laidByText := true, laidKinds := [.data, .data, .data, .data, .sentinel, .sentinel, .pinned], laidTests := true, laidLooks := .later }
def SheetOrderUptoCardSaid : Prop := Claim7.holds Tryd.pinned (.plain (OpenSpec.upto sheetOrderSpec)) sheetOrderUptoCard

/-- THE SECOND FORM's CARD OF 'variorumlaw25.SheetParts'. -/
def sheetPartsUptoCard : Claim7 := { stood := { row := sheetPartsUptoRow, standIns := [], harness := (true, "7c4d8dc0217d28dd6fd2a3e37f607f06b7b2dfd721bb715dbee4e2603bbf7c70"), looks := true }, kinds := [], alts := [], laidByText := true, laidKinds := [.data, .data, .data, .data, .sentinel, .sentinel, .pinned], laidTests := true, laidLooks := .later }
def SheetPartsUptoCardSaid : Prop := Claim7.holds Tryd.pinned (.plain (OpenSpec.upto sheetPartsSpec)) sheetPartsUptoCard
end Rows
end Go.Proofs.YtejdeonbibbchaaDoor
