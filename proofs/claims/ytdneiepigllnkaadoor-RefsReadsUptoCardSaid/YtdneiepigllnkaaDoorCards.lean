/-
  DERIVED. GIVEN WITH THE SEED: THE CARDS: each row of YtdneiepigllnkaaDoorRows.lean that lists a variable, with what it lists TIED to the program's text (the seventh form; the later family's looks); each row that meets fmt, with fmt's text TOLD by the authors' own Lean function (tested against real Go, not proved from fmt's source: count such statements apart). THE CARD IS WHAT COUNTS. Prove the row's statement (the work); the ties are given (YtdneiepigllnkaaDoorTie.lean); close each card by the builder's one call (the guide's Derived/Test/ToyasCard.lean, 'card_holds'). Laid BY PROGRAM, IN A SANDBOX (cutbox-door.mjs). By AI agents, Wed Nov 11 2026. No macro, syntax, notation, axiom, sorry.
-/
import Derived.Test.YtdneiepigllnkaaDoorRows
import GoSem.ClaimSeven
namespace Go.Proofs.YtdneiepigllnkaaDoor
namespace Rows

/-- THE TIED CARD OF 'variorumlaw15.LemmaTells'. -/
def lemmaTellsCard : Claim7 := { stood := { row := lemmaTellsRow, standIns := [], harness := (true, "d327c455df6255dc9786143f42bfa2729cc5cd577c953a48d6d1b2f962e929e5"), looks := true }, kinds := [], alts := [], laidByText := true, laidKinds := [.data, .data, .data, .data, .pinned], laidTests := true, laidLooks := .later }
def LemmaTellsCardSaid : Prop := Claim7.holds Tryd.pinned (.plain (OpenSpec.ofChange lemmaTellsSpec)) lemmaTellsCard

/-- THE TIED CARD OF 'variorumlaw15.LemmaMarks'. -/
def lemmaMarksCard : Claim7 := { stood := { row := lemmaMarksRow, standIns := [], harness := (true, "d327c455df6255dc9786143f42bfa2729cc5cd577c953a48d6d1b2f962e929e5"), looks := true }, kinds := [], alts := [], laidByText := true, laidKinds := [.data, .data, .data, .data, .pinned], laidTests := true, laidLooks := .later }
def LemmaMarksCardSaid : Prop := Claim7.holds Tryd.pinned (.plain (OpenSpec.ofChange lemmaMarksSpec)) lemmaMarksCard

/-- THE TIED CARD OF 'variorumlaw15.LemmaHeads'. -/
def lemmaHeadsCard : Claim7 := { stood := { row := lemmaHeadsRow, standIns := [], harness := (true, "d327c455df6255dc9786143f42bfa2729cc5cd577c953a48d6d1b2f962e929e5"), looks := true }, kinds := [], alts := [], laidByText := true, laidKinds := [.data, .data, .data, .data, .pinned], laidTests := true, laidLooks := .later }
def LemmaHeadsCardSaid : Prop := Claim7.holds Tryd.pinned (.plain (OpenSpec.ofChange lemmaHeadsSpec)) lemmaHeadsCard

/-- THE TIED CARD OF 'variorumlaw15.LemmaCounts'. -/
def lemmaCountsCard : Claim7 := { stood := { row := lemmaCountsRow, standIns := [], harness := (true, "d327c455df6255dc9786143f42bfa2729cc5cd577c953a48d6d1b2f962e929e5"), looks := true }, kinds := [], alts := [], laidByText := true, laidKinds := [.data, .data, .data, .data, .pinned], laidTests := true, laidLooks := .later }
def LemmaCountsCardSaid : Prop := Claim7.holds Tryd.pinned (.plain (OpenSpec.ofChange lemmaCountsSpec)) lemmaCountsCard

/-- THE TIED CARD OF 'variorumlaw15.LemmaShort'. -/
def lemmaShortCard : Claim7 := { stood := { row := lemmaShortRow, standIns := [], harness := (true, "d327c455df6255dc9786143f42bfa2729cc5cd577c953a48d6d1b2f962e929e5"), looks := true }, kinds := [], alts := [], laidByText := true, laidKinds := [.data, .data, .data, .data, .pinned], laidTests := true, laidLooks := .later }
def LemmaShortCardSaid : Prop := Claim7.holds Tryd.pinned (.plain (OpenSpec.ofChange lemmaShortSpec)) lemmaShortCard

/-- THE TIED CARD OF 'variorumlaw17.RefsFormat'. -/
def refsFormatCard : Claim7 := { stood := { row := refsFormatRow, standIns := [], harness := (true, "d327c455df6255dc9786143f42bfa2729cc5cd577c953a48d6d1b2f962e929e5"), looks := true }, kinds := [], alts := [], laidByText := true, laidKinds := [.data, .data, .data, .sentinel, .sentinel], laidTests := true, laidLooks := .later }
def RefsFormatCardSaid : Prop := Claim7.holds Tryd.pinned (.plain (OpenSpec.ofChange refsFormatSpec)) refsFormatCard

/-- THE TIED CARD OF 'variorumlaw17.RefsReads'. -/
def refsReadsCard : Claim7 := { stood := { row := refsReadsRow, standIns := [], harness := (true, "d327c455df6255dc9786143f42bfa2729cc5cd577c953a48d6d1b2f962e929e5"), looks := true }, kinds := [], alts := [], laidByText := true, laidKinds := [.data, .data, .data, .sentinel, .sentinel], laidTests := true, laidLooks := .later }
def RefsReadsCardSaid : Prop := Claim7.holds Tryd.pinned (.plain (OpenSpec.ofChange refsReadsSpec)) refsReadsCard

/-- THE TIED CARD OF 'variorumlaw17.RefsBack'. -/
def refsBackCard : Claim7 := { stood := { row := refsBackRow, standIns := [], harness := (true, "d327c455df6255dc9786143f42bfa2729cc5cd577c953a48d6d1b2f962e929e5"), looks := true }, kinds := [], alts := [], laidByText := true, laidKinds := [.data, .data, .data, .sentinel, .sentinel], laidTests := true, laidLooks := .later }
def RefsBackCardSaid : Prop := Claim7.holds Tryd.pinned (.plain (OpenSpec.ofChange refsBackSpec)) refsBackCard

/-- THE TIED CARD OF 'variorumlaw17.RefsList'. -/
def refsListCard : Claim7 := { stood := { row := refsListRow, standIns := [], harness := (true, "d327c455df6255dc9786143f42bfa2729cc5cd577c953a48d6d1b2f962e929e5"), looks := true }, kinds := [], alts := [], laidByText := true, laidKinds := [.data, .data, .data, .sentinel, .sentinel], laidTests := true, laidLooks := .later }
def RefsListCardSaid : Prop := Claim7.holds Tryd.pinned (.plain (OpenSpec.ofChange refsListSpec)) refsListCard

/-- THE TIED CARD OF 'variorumlaw17.RefsPages'. -/
def refsPagesCard : Claim7 := { stood := { row := refsPagesRow, standIns := [], harness := (true, "d327c455df6255dc9786143f42bfa2729cc5cd577c953a48d6d1b2f962e929e5"), looks := true }, kinds := [], alts := [], laidByText := true, laidKinds := [.data, .data, .data, .sentinel, .sentinel], laidTests := true, laidLooks := .later }
def RefsPagesCardSaid : Prop := Claim7.holds Tryd.pinned (.plain (OpenSpec.ofChange refsPagesSpec)) refsPagesCard

/-- THE SECOND FORM's CARD OF 'variorumlaw15.LemmaTells'. -/
def lemmaTellsUptoCard : Claim7 := { stood := { row := lemmaTellsUptoRow, standIns := [], harness := (true, "d327c455df6255dc9786143f42bfa2729cc5cd577c953a48d6d1b2f962e929e5"), looks := true }, kinds := [], alts := [], laidByText := true, laidKinds := [.data, .data, .data, .data, .pinned], laidTests := true, laidLooks := .later }
def LemmaTellsUptoCardSaid : Prop := Claim7.holds Tryd.pinned (.plain (OpenSpec.upto lemmaTellsSpec)) lemmaTellsUptoCard

/-- THE SECOND FORM's CARD OF 'variorumlaw15.LemmaMarks'. -/
def lemmaMarksUptoCard : Claim7 := { stood := { row := lemmaMarksUptoRow, standIns := [], harness := (true, "d327c455df6255dc9786143f42bfa2729cc5cd577c953a48d6d1b2f962e929e5"), looks := true }, kinds := [], alts := [], laidByText := true, laidKinds := [.data, .data, .data, .data, .pinned], laidTests := true, laidLooks := .later }
def LemmaMarksUptoCardSaid : Prop := Claim7.holds Tryd.pinned (.plain (OpenSpec.upto lemmaMarksSpec)) lemmaMarksUptoCard

/-- THE SECOND FORM's CARD OF 'variorumlaw15.LemmaHeads'. -/
def lemmaHeadsUptoCard : Claim7 := { stood := { row := lemmaHeadsUptoRow, standIns := [], harness := (true, "d327c455df6255dc9786143f42bfa2729cc5cd577c953a48d6d1b2f962e929e5"), looks := true }, kinds := [], alts := [], laidByText := true, laidKinds := [.data, .data, .data, .data, .pinned], laidTests := true, laidLooks := .later }
def LemmaHeadsUptoCardSaid : Prop := Claim7.holds Tryd.pinned (.plain (OpenSpec.upto lemmaHeadsSpec)) lemmaHeadsUptoCard

/-- THE SECOND FORM's CARD OF 'variorumlaw15.LemmaCounts'. -/
def lemmaCountsUptoCard : Claim7 := { stood := { row := lemmaCountsUptoRow, standIns := [], harness := (true, "d327c455df6255dc9786143f42bfa2729cc5cd577c953a48d6d1b2f962e929e5"), looks := true }, kinds := [], alts := [], laidByText := true, laidKinds := [.data, .data, .data, .data, .pinned], laidTests := true, laidLooks := .later }
def LemmaCountsUptoCardSaid : Prop := Claim7.holds Tryd.pinned (.plain (OpenSpec.upto lemmaCountsSpec)) lemmaCountsUptoCard

/-- THE SECOND FORM's CARD OF 'variorumlaw15.LemmaShort'. -/
def lemmaShortUptoCard : Claim7 := { stood := { row := lemmaShortUptoRow, standIns := [], harness := (true, "d327c455df6255dc9786143f42bfa2729cc5cd577c953a48d6d1b2f962e929e5"), looks := true }, kinds := [], alts := [], laidByText := true, laidKinds := [.data, .data, .data, .data, .pinned], laidTests := true, laidLooks := .later }
def LemmaShortUptoCardSaid : Prop := Claim7.holds Tryd.pinned (.plain (OpenSpec.upto lemmaShortSpec)) lemmaShortUptoCard

/-- THE SECOND FORM's CARD OF 'variorumlaw17.RefsFormat'. -/
def refsFormatUptoCard : Claim7 := { stood := { row := refsFormatUptoRow, standIns := [], harness := (true, "d327c455df6255dc9786143f42bfa2729cc5cd577c953a48d6d1b2f962e929e5"), looks := true }, kinds := [], alts := [], laidByText := true, laidKinds := [.data, .data, .data, .sentinel, .sentinel], laidTests := true, laidLooks := .later }
def RefsFormatUptoCardSaid : Prop := Claim7.holds Tryd.pinned (.plain (OpenSpec.upto refsFormatSpec)) refsFormatUptoCard

/-- THE SECOND FORM's CARD OF 'variorumlaw17.RefsReads'. -/
def refsReadsUptoCard : Claim7 := { stood := { row := refsReadsUptoRow, standIns := [], harness := (true, "d327c455df6255dc9786143f42bfa2729cc5cd577c953a48d6d1b2f962e929e5"), looks := true }, kinds := [], alts := [], laidByText := true, laidKinds := [.data, .data, .data, .sentinel, .sentinel], laidTests := true, laidLooks := .later }
def RefsReadsUptoCardSaid : Prop := Claim7.holds Tryd.pinned (.plain (OpenSpec.upto refsReadsSpec)) refsReadsUptoCard

/-- THE SECOND FORM's CARD OF 'variorumlaw17.RefsBack'. -/
def refsBackUptoCard : Claim7 := { stood := { row := refsBackUptoRow, standIns := [], harness := (true, "d327c455df6255dc9786143f42bfa2729cc5cd577c953a48d6d1b2f962e929e5"), looks := true }, kinds := [], alts := [], laidByText := true, laidKinds := [.data, .data, .data, .sentinel, .sentinel], laidTests := true, laidLooks := .later }
def RefsBackUptoCardSaid : Prop := Claim7.holds Tryd.pinned (.plain (OpenSpec.upto refsBackSpec)) refsBackUptoCard

/-- THE SECOND FORM's CARD OF 'variorumlaw17.RefsList'. -/
def refsListUptoCard : Claim7 := { stood := { row := refsListUptoRow, standIns := [], harness := (true, "d327c455df6255dc9786143f42bfa2729cc5cd577c953a48d6d1b2f962e929e5"), looks := true }, kinds := [], alts := [], laidByText := true, laidKinds := [.data, .data, .data, .sentinel, .sentinel], laidTests := true, laidLooks := .later }
def RefsListUptoCardSaid : Prop := Claim7.holds Tryd.pinned (.plain (OpenSpec.upto refsListSpec)) refsListUptoCard

/-- THE SECOND FORM's CARD OF 'variorumlaw17.RefsPages'. -/
def refsPagesUptoCard : Claim7 := { stood := { row := refsPagesUptoRow, standIns := [], harness := (true, "d327c455df6255dc9786143f42bfa2729cc5cd577c953a48d6d1b2f962e929e5"), looks := true }, kinds := [], alts := [], laidByText := true, laidKinds := [.data, .data, .data, .sentinel, .sentinel], laidTests := true, laidLooks := .later }
def RefsPagesUptoCardSaid : Prop := Claim7.holds Tryd.pinned (.plain (OpenSpec.upto refsPagesSpec)) refsPagesUptoCard
end Rows
end Go.Proofs.YtdneiepigllnkaaDoor
