/-
  DERIVED. GIVEN WITH THE SEED: THE CARDS: each row of YtpgkbnefhhcfcaaGreatDoorRows.lean that lists a variable, with what it lists TIED to the program's text (the seventh form; the later family's looks); each row that meets fmt, with fmt's text TOLD by the authors' own Lean function (tested against real Go, not proved from fmt's source: count such statements apart). THE CARD IS WHAT COUNTS. Prove the row's statement (the work); the ties are given (YtpgkbnefhhcfcaaGreatDoorTie.lean); close each card by the builder's one call (the guide's Derived/Test/ToyasCard.lean, 'card_holds'). Laid BY PROGRAM, IN A SANDBOX (cutbox-door.mjs). By AI agents, Wed Nov 11 2026. No macro, syntax, notation, axiom, sorry.
-/
import Derived.Test.YtpgkbnefhhcfcaaGreatDoorRows
import GoSem.ClaimSeven
namespace Go.Proofs.YtpgkbnefhhcfcaaGreatDoor
namespace Rows

/-- THE TIED CARD OF 'variorumlaw01.FaultTexts'. -/
def faultTextsCard : Claim7 := { stood := { row := faultTextsRow, standIns := [], harness := (true, "9d4d5053e3911a045ea2a7ea7504071822c1dec58ca2dfcf0db0d04d91469ca9"), looks := true }, kinds := [], alts := [], laidByText := true, laidKinds := [.data, .data, .data, .data, .sentinel, .sentinel, .pinned], laidTests := true, laidLooks := .later }
def FaultTextsCardSaid : Prop := Claim7.holds Tryz.pinned (.plain (OpenSpec.ofChange faultTextsSpec)) faultTextsCard

/-- THE TIED CARD OF 'variorumlaw01.FaultBack'. -/
def faultBackCard : Claim7 := { stood := { row := faultBackRow, standIns := [], harness := (true, "9d4d5053e3911a045ea2a7ea7504071822c1dec58ca2dfcf0db0d04d91469ca9"), looks := true }, kinds := [], alts := [], laidByText := true, laidKinds := [.data, .data, .data, .data, .sentinel, .sentinel, .pinned], laidTests := true, laidLooks := .later }
def FaultBackCardSaid : Prop := Claim7.holds Tryz.pinned (.plain (OpenSpec.ofChange faultBackSpec)) faultBackCard

/-- THE TIED CARD OF 'variorumlaw01.FaultFirst'. -/
def faultFirstCard : Claim7 := { stood := { row := faultFirstRow, standIns := [], harness := (true, "9d4d5053e3911a045ea2a7ea7504071822c1dec58ca2dfcf0db0d04d91469ca9"), looks := true }, kinds := [], alts := [], laidByText := true, laidKinds := [.data, .data, .data, .data, .sentinel, .sentinel, .pinned], laidTests := true, laidLooks := .later }
def FaultFirstCardSaid : Prop := Claim7.holds Tryz.pinned (.plain (OpenSpec.ofChange faultFirstSpec)) faultFirstCard

/-- THE TIED CARD OF 'variorumlaw01.FaultFound'. -/
def faultFoundCard : Claim7 := { stood := { row := faultFoundRow, standIns := [], harness := (true, "9d4d5053e3911a045ea2a7ea7504071822c1dec58ca2dfcf0db0d04d91469ca9"), looks := true }, kinds := [], alts := [], laidByText := true, laidKinds := [.data, .data, .data, .data, .handle, .sentinel, .sentinel, .pinned], laidTests := true, laidLooks := .later }
def FaultFoundCardSaid : Prop := Claim7.holds Tryz.pinned (.plain (OpenSpec.ofChange faultFoundSpec)) faultFoundCard

/-- THE TIED CARD OF 'variorumlaw01.FaultWraps'. -/
def faultWrapsCard : Claim7 := { stood := { row := faultWrapsRow, standIns := [], harness := (true, "9d4d5053e3911a045ea2a7ea7504071822c1dec58ca2dfcf0db0d04d91469ca9"), looks := true }, kinds := [], alts := [], laidByText := true, laidKinds := [.data, .data, .data, .data, .handle, .sentinel, .sentinel, .pinned], laidTests := true, laidLooks := .later }
def FaultWrapsCardSaid : Prop := Claim7.holds Tryz.pinned (.plain (OpenSpec.ofChange faultWrapsSpec)) faultWrapsCard

/-- THE SECOND FORM's CARD OF 'variorumlaw01.FaultTexts'. -/
def faultTextsUptoCard : Claim7 := { stood := { row := faultTextsUptoRow, standIns := [], harness := (true, "9d4d5053e3911a045ea2a7ea7504071822c1dec58ca2dfcf0db0d04d91469ca9"), looks := true }, kinds := [], alts := [], laidByText := true, laidKinds := [.data, .data, .data, .data, .sentinel, .sentinel, .pinned], laidTests := true, laidLooks := .later }
def FaultTextsUptoCardSaid : Prop := Claim7.holds Tryz.pinned (.plain (OpenSpec.upto faultTextsSpec)) faultTextsUptoCard

/-- THE SECOND FORM's CARD OF 'variorumlaw01.FaultBack'. -/
def faultBackUptoCard : Claim7 := { stood := { row := faultBackUptoRow, standIns := [], harness := (true, "9d4d5053e3911a045ea2a7ea7504071822c1dec58ca2dfcf0db0d04d91469ca9"), looks := true }, kinds := [], alts := [], laidByText := true, laidKinds := [.data, .data, .data, .data, .sentinel, .sentinel, .pinned], laidTests := true, laidLooks := .later }
def FaultBackUptoCardSaid : Prop := Claim7.holds Tryz.pinned (.plain (OpenSpec.upto faultBackSpec)) faultBackUptoCard

/-- THE SECOND FORM's CARD OF 'variorumlaw01.FaultFirst'. -/
def faultFirstUptoCard : Claim7 := { stood := { row := faultFirstUptoRow, standIns := [], harness := (true, "9d4d5053e3911a045ea2a7ea7504071822c1dec58ca2dfcf0db0d04d91469ca9"), looks := true }, kinds := [], alts := [], laidByText := true, laidKinds := [.data, .data, .data, .data, .sentinel, .sentinel, .pinned], laidTests := true, laidLooks := .later }
def FaultFirstUptoCardSaid : Prop := Claim7.holds Tryz.pinned (.plain (OpenSpec.upto faultFirstSpec)) faultFirstUptoCard

/-- THE SECOND FORM's CARD OF 'variorumlaw01.FaultFound'. -/
def faultFoundUptoCard : Claim7 := { stood := { row := faultFoundUptoRow, standIns := [], harness := (true, "9d4d5053e3911a045ea2a7ea7504071822c1dec58ca2dfcf0db0d04d91469ca9"), looks := true }, kinds := [], alts := [], laidByText := true, laidKinds := [.data, .data, .data, .data, .handle, .sentinel, .sentinel, .pinned], laidTests := true, laidLooks := .later }
def FaultFoundUptoCardSaid : Prop := Claim7.holds Tryz.pinned (.plain (OpenSpec.upto faultFoundSpec)) faultFoundUptoCard

/-- THE SECOND FORM's CARD OF 'variorumlaw01.FaultWraps'. -/
def faultWrapsUptoCard : Claim7 := { stood := { row := faultWrapsUptoRow, standIns := [], harness := (true, "9d4d5053e3911a045ea2a7ea7504071822c1dec58ca2dfcf0db0d04d91469ca9"), looks := true }, kinds := [], alts := [], laidByText := true, laidKinds := [.data, .data, .data, .data, .handle, .sentinel, .sentinel, .pinned], laidTests := true, laidLooks := .later }
def FaultWrapsUptoCardSaid : Prop := Claim7.holds Tryz.pinned (.plain (OpenSpec.upto faultWrapsSpec)) faultWrapsUptoCard
end Rows
end Go.Proofs.YtpgkbnefhhcfcaaGreatDoor
