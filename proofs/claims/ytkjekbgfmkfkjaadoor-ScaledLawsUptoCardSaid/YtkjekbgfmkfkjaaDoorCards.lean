/-
  DERIVED. GIVEN WITH THE SEED: THE CARDS: each row of YtkjekbgfmkfkjaaDoorRows.lean that lists a variable, with what it lists TIED to the program's text (the seventh form; the later family's looks); each row that meets fmt, with fmt's text TOLD by the authors' own Lean function (tested against real Go, not proved from fmt's source: count such statements apart). THE CARD IS WHAT COUNTS. Prove the row's statement (the work); the ties are given (YtkjekbgfmkfkjaaDoorTie.lean); close each card by the builder's one call (the guide's Derived/Test/ToyasCard.lean, 'card_holds'). Laid BY PROGRAM, IN A SANDBOX (cutbox-door.mjs). By AI agents, Wed Nov 11 2026. No macro, syntax, notation, axiom, sorry.
-/
import Derived.Test.YtkjekbgfmkfkjaaDoorRows
import GoSem.ClaimSeven
namespace Go.Proofs.YtkjekbgfmkfkjaaDoor
namespace Rows

/-- THE TIED CARD OF 'variorumlaw13.SiglaLists'. -/
def siglaListsCard : Claim7 := { stood := { row := siglaListsRow, standIns := [], harness := (true, "ad6c74cd0f3b08c91413d26e0cfdb48e7f8f6034351938b7e7b264b64e83aa51"), looks := true }, kinds := [], alts := [], laidByText := true, laidKinds := [.data, .pinned], laidTests := true, laidLooks := .later }
def SiglaListsCardSaid : Prop := Claim7.holds Tryd.pinned (.plain (OpenSpec.ofChange siglaListsSpec)) siglaListsCard

/-- THE TIED CARD OF 'variorumlaw13.SiglaBack'. -/
def siglaBackCard : Claim7 := { stood := { row := siglaBackRow, standIns := [], harness := (true, "ad6c74cd0f3b08c91413d26e0cfdb48e7f8f6034351938b7e7b264b64e83aa51"), looks := true }, kinds := [], alts := [], laidByText := true, laidKinds := [.data, .pinned], laidTests := true, laidLooks := .later }
def SiglaBackCardSaid : Prop := Claim7.holds Tryd.pinned (.plain (OpenSpec.ofChange siglaBackSpec)) siglaBackCard

/-- THE TIED CARD OF 'variorumlaw13.SiglaParts'. -/
def siglaPartsCard : Claim7 := { stood := { row := siglaPartsRow, standIns := [], harness := (true, "ad6c74cd0f3b08c91413d26e0cfdb48e7f8f6034351938b7e7b264b64e83aa51"), looks := true }, kinds := [], alts := [], laidByText := true, laidKinds := [.data, .pinned], laidTests := true, laidLooks := .later }
def SiglaPartsCardSaid : Prop := Claim7.holds Tryd.pinned (.plain (OpenSpec.ofChange siglaPartsSpec)) siglaPartsCard

/-- THE TIED CARD OF 'variorumlaw13.SiglaAll'. -/
def siglaAllCard : Claim7 := { stood := { row := siglaAllRow, standIns := [], harness := (true, "ad6c74cd0f3b08c91413d26e0cfdb48e7f8f6034351938b7e7b264b64e83aa51"), looks := true }, kinds := [], alts := [], laidByText := true, laidKinds := [.data, .pinned], laidTests := true, laidLooks := .later }
def SiglaAllCardSaid : Prop := Claim7.holds Tryd.pinned (.plain (OpenSpec.ofChange siglaAllSpec)) siglaAllCard

/-- THE TIED CARD OF 'variorumlaw13.SiglaTables'. -/
def siglaTablesCard : Claim7 := { stood := { row := siglaTablesRow, standIns := [], harness := (true, "ad6c74cd0f3b08c91413d26e0cfdb48e7f8f6034351938b7e7b264b64e83aa51"), looks := true }, kinds := [], alts := [], laidByText := true, laidKinds := [.data, .pinned], laidTests := true, laidLooks := .later }
def SiglaTablesCardSaid : Prop := Claim7.holds Tryd.pinned (.plain (OpenSpec.ofChange siglaTablesSpec)) siglaTablesCard

/-- THE TIED CARD OF 'variorumlaw13.SiglaKept'. -/
def siglaKeptCard : Claim7 := { stood := { row := siglaKeptRow, standIns := [], harness := (true, "ad6c74cd0f3b08c91413d26e0cfdb48e7f8f6034351938b7e7b264b64e83aa51"), looks := true }, kinds := [], alts := [], laidByText := true, laidKinds := [.data, .pinned], laidTests := true, laidLooks := .later }
def SiglaKeptCardSaid : Prop := Claim7.holds Tryd.pinned (.plain (OpenSpec.ofChange siglaKeptSpec)) siglaKeptCard

/-- THE TIED CARD OF 'variorumlaw02.ScaledTexts'. -/
def scaledTextsCard : Claim7 := { stood := { row := scaledTextsRow, standIns := [], harness := (true, "ad6c74cd0f3b08c91413d26e0cfdb48e7f8f6034351938b7e7b264b64e83aa51"), looks := true }, kinds := [], alts := [], laidByText := true, laidKinds := [.data, .data, .data, .data, .sentinel, .sentinel, .pinned], laidTests := true, laidLooks := .later }
def ScaledTextsCardSaid : Prop := Claim7.holds Tryd.pinned (.plain (OpenSpec.ofChange scaledTextsSpec)) scaledTextsCard

/-- THE TIED CARD OF 'variorumlaw02.ScaledBack'. -/
def scaledBackCard : Claim7 := { stood := { row := scaledBackRow, standIns := [], harness := (true, "ad6c74cd0f3b08c91413d26e0cfdb48e7f8f6034351938b7e7b264b64e83aa51"), looks := true }, kinds := [], alts := [], laidByText := true, laidKinds := [.data, .data, .data, .data, .sentinel, .sentinel, .pinned], laidTests := true, laidLooks := .later }
def ScaledBackCardSaid : Prop := Claim7.holds Tryd.pinned (.plain (OpenSpec.ofChange scaledBackSpec)) scaledBackCard

/-- THE TIED CARD OF 'variorumlaw02.ScaledSigns'. -/
def scaledSignsCard : Claim7 := { stood := { row := scaledSignsRow, standIns := [], harness := (true, "ad6c74cd0f3b08c91413d26e0cfdb48e7f8f6034351938b7e7b264b64e83aa51"), looks := true }, kinds := [], alts := [], laidByText := true, laidKinds := [.data, .data, .data, .data, .sentinel, .sentinel, .pinned], laidTests := true, laidLooks := .later }
def ScaledSignsCardSaid : Prop := Claim7.holds Tryd.pinned (.plain (OpenSpec.ofChange scaledSignsSpec)) scaledSignsCard

/-- THE TIED CARD OF 'variorumlaw02.ScaledLaws'. -/
def scaledLawsCard : Claim7 := { stood := { row := scaledLawsRow, standIns := [], harness := (true, "ad6c74cd0f3b08c91413d26e0cfdb48e7f8f6034351938b7e7b264b64e83aa51"), looks := true }, kinds := [], alts := [], laidByText := true, laidKinds := [.data, .data, .data, .data, .sentinel, .sentinel, .pinned], laidTests := true, laidLooks := .later }
def ScaledLawsCardSaid : Prop := Claim7.holds Tryd.pinned (.plain (OpenSpec.ofChange scaledLawsSpec)) scaledLawsCard

/-- THE TIED CARD OF 'variorumlaw02.ScaledSums'. -/
def scaledSumsCard : Claim7 := { stood := { row := scaledSumsRow, standIns := [], harness := (true, "ad6c74cd0f3b08c91413d26e0cfdb48e7f8f6034351938b7e7b264b64e83aa51"), looks := true }, kinds := [], alts := [], laidByText := true, laidKinds := [.data, .data, .data, .data, .sentinel, .sentinel, .pinned], laidTests := true, laidLooks := .later }
def ScaledSumsCardSaid : Prop := Claim7.holds Tryd.pinned (.plain (OpenSpec.ofChange scaledSumsSpec)) scaledSumsCard

/-- THE SECOND FORM's CARD OF 'variorumlaw13.SiglaLists'. -/
def siglaListsUptoCard : Claim7 := { stood := { row := siglaListsUptoRow, standIns := [], harness := (true, "ad6c74cd0f3b08c91413d26e0cfdb48e7f8f6034351938b7e7b264b64e83aa51"), looks := true }, kinds := [], alts := [], laidByText := true, laidKinds := [.data, .pinned], laidTests := true, laidLooks := .later }
def SiglaListsUptoCardSaid : Prop := Claim7.holds Tryd.pinned (.plain (OpenSpec.upto siglaListsSpec)) siglaListsUptoCard

/-- THE SECOND FORM's CARD OF 'variorumlaw13.SiglaBack'. -/
def siglaBackUptoCard : Claim7 := { stood := { row := siglaBackUptoRow, standIns := [], harness := (true, "ad6c74cd0f3b08c91413d26e0cfdb48e7f8f6034351938b7e7b264b64e83aa51"), looks := true }, kinds := [], alts := [], laidByText := true, laidKinds := [.data, .pinned], laidTests := true, laidLooks := .later }
def SiglaBackUptoCardSaid : Prop := Claim7.holds Tryd.pinned (.plain (OpenSpec.upto siglaBackSpec)) siglaBackUptoCard

/-- THE SECOND FORM's CARD OF 'variorumlaw13.SiglaParts'. -/
def siglaPartsUptoCard : Claim7 := { stood := { row := siglaPartsUptoRow, standIns := [], harness := (true, "ad6c74cd0f3b08c91413d26e0cfdb48e7f8f6034351938b7e7b264b64e83aa51"), looks := true }, kinds := [], alts := [], laidByText := true, laidKinds := [.data, .pinned], laidTests := true, laidLooks := .later }
def SiglaPartsUptoCardSaid : Prop := Claim7.holds Tryd.pinned (.plain (OpenSpec.upto siglaPartsSpec)) siglaPartsUptoCard

/-- THE SECOND FORM's CARD OF 'variorumlaw13.SiglaAll'. -/
def siglaAllUptoCard : Claim7 := { stood := { row := siglaAllUptoRow, standIns := [], harness := (true, "ad6c74cd0f3b08c91413d26e0cfdb48e7f8f6034351938b7e7b264b64e83aa51"), looks := true }, kinds := [], alts := [], laidByText := true, laidKinds := [.data, .pinned], laidTests := true, laidLooks := .later }
def SiglaAllUptoCardSaid : Prop := Claim7.holds Tryd.pinned (.plain (OpenSpec.upto siglaAllSpec)) siglaAllUptoCard

/-- THE SECOND FORM's CARD OF 'variorumlaw13.SiglaTables'. -/
def siglaTablesUptoCard : Claim7 := { stood := { row := siglaTablesUptoRow, standIns := [], harness := (true, "ad6c74cd0f3b08c91413d26e0cfdb48e7f8f6034351938b7e7b264b64e83aa51"), looks := true }, kinds := [], alts := [], laidByText := true, laidKinds := [.data, .pinned], laidTests := true, laidLooks := .later }
def SiglaTablesUptoCardSaid : Prop := Claim7.holds Tryd.pinned (.plain (OpenSpec.upto siglaTablesSpec)) siglaTablesUptoCard

/-- THE SECOND FORM's CARD OF 'variorumlaw13.SiglaKept'. -/
def siglaKeptUptoCard : Claim7 := { stood := { row := siglaKeptUptoRow, standIns := [], harness := (true, "ad6c74cd0f3b08c91413d26e0cfdb48e7f8f6034351938b7e7b264b64e83aa51"), looks := true }, kinds := [], alts := [], laidByText := true, laidKinds := [.data, .pinned], laidTests := true, laidLooks := .later }
def SiglaKeptUptoCardSaid : Prop := Claim7.holds Tryd.pinned (.plain (OpenSpec.upto siglaKeptSpec)) siglaKeptUptoCard

/-- THE SECOND FORM's CARD OF 'variorumlaw02.ScaledTexts'. -/
def scaledTextsUptoCard : Claim7 := { stood := { row := scaledTextsUptoRow, standIns := [], harness := (true, "ad6c74cd0f3b08c91413d26e0cfdb48e7f8f6034351938b7e7b264b64e83aa51"), looks := true }, kinds := [], alts := [], laidByText := true, laidKinds := [.data, .data, .data, .data, .sentinel, .sentinel, .pinned], laidTests := true, laidLooks := .later }
def ScaledTextsUptoCardSaid : Prop := Claim7.holds Tryd.pinned (.plain (OpenSpec.upto scaledTextsSpec)) scaledTextsUptoCard

/-- THE SECOND FORM's CARD OF 'variorumlaw02.ScaledBack'. -/
def scaledBackUptoCard : Claim7 := { stood := { row := scaledBackUptoRow, standIns := [], harness := (true, "ad6c74cd0f3b08c91413d26e0cfdb48e7f8f6034351938b7e7b264b64e83aa51"), looks := true }, kinds := [], alts := [], laidByText := true, laidKinds := [.data, .data, .data, .data, .sentinel, .sentinel, .pinned], laidTests := true, laidLooks := .later }
def ScaledBackUptoCardSaid : Prop := Claim7.holds Tryd.pinned (.plain (OpenSpec.upto scaledBackSpec)) scaledBackUptoCard

/-- THE SECOND FORM's CARD OF 'variorumlaw02.ScaledSigns'. -/
def scaledSignsUptoCard : Claim7 := { stood := { row := scaledSignsUptoRow, standIns := [], harness := (true, "ad6c74cd0f3b08c91413d26e0cfdb48e7f8f6034351938b7e7b264b64e83aa51"), looks := true }, kinds := [], alts := [], laidByText := true, laidKinds := [.data, .data, .data, .data, .sentinel, .sentinel, .pinned], laidTests := true, laidLooks := .later }
def ScaledSignsUptoCardSaid : Prop := Claim7.holds Tryd.pinned (.plain (OpenSpec.upto scaledSignsSpec)) scaledSignsUptoCard

/-- THE SECOND FORM's CARD OF 'variorumlaw02.ScaledLaws'. -/
def scaledLawsUptoCard : Claim7 := { stood := { row := scaledLawsUptoRow, standIns := [], harness := (true, "ad6c74cd0f3b08c91413d26e0cfdb48e7f8f6034351938b7e7b264b64e83aa51"), looks := true }, kinds := [], alts := [], laidByText := true, laidKinds := [.data, .data, .data, .data, .sentinel, .sentinel, .pinned], laidTests := true, laidLooks := .later }
def ScaledLawsUptoCardSaid : Prop := Claim7.holds Tryd.pinned (.plain (OpenSpec.upto scaledLawsSpec)) scaledLawsUptoCard

/-- THE SECOND FORM's CARD OF 'variorumlaw02.ScaledSums'. -/
def scaledSumsUptoCard : Claim7 := { stood := { row := scaledSumsUptoRow, standIns := [], harness := (true, "ad6c74cd0f3b08c91413d26e0cfdb48e7f8f6034351938b7e7b264b64e83aa51"), looks := true }, kinds := [], alts := [], laidByText := true, laidKinds := [.data, .data, .data, .data, .sentinel, .sentinel, .pinned], laidTests := true, laidLooks := .later }
def ScaledSumsUptoCardSaid : Prop := Claim7.holds Tryd.pinned (.plain (OpenSpec.upto scaledSumsSpec)) scaledSumsUptoCard
end Rows
end Go.Proofs.YtkjekbgfmkfkjaaDoor
