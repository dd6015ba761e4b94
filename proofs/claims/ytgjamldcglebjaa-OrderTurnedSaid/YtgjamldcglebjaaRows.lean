/-
  No cell of these rows narrows 'for every input' (looked for: loops, veiled, ifaces, maps, wideKeys, modest, calm, conditions, laid).
  DERIVED. THE GIVEN ROWS OF THIS SEAT. 12 by the template 'for every input the law returns true; each argument reads behind the call as it read before'; 0 by the template 'total and deterministic' (their statements: YtgjamldcglebjaaTotals.lean).
  GIVEN WITH THE SEED: the statements are not yours to turn. If you find one false, say at which input.
  Laid BY PROGRAM, IN A SANDBOX (cutbox-rows.mjs): the forced cells as the released guide's own fill.sh prints them over the translation 5d9f11e78e321dc7… (all of the seat's roots in one cut). By AI agents, Wed Nov 11 2026. No macro, syntax, notation, axiom, sorry.
-/
import Derived.Test.YtgjamldcglebjaaChecked
import GoSem.Claim
import GoSem.ClaimJoined
import GoSem.ClaimMapViews
import Derived.JoinedTies
import Derived.KernelRfl
namespace Go.Proofs.Ytgjamldcglebjaa
/- THE CELL 'sum', in the pinned program and in every row, IS THE sha256 OF THE DUMP (.gsa) THAT YtgjamldcglebjaaProg.lean LOADS. Nothing in Lean hashes anything: it is a label: what it is worth is what the hold of that sum in a sandbox is worth. -/
noncomputable def Try.pinned : Pinned := { name := "ytgjamldcglebjaa", sum := "5d9f11e78e321dc7d2125371317385b26b48fb94fb908e04cc42868f55892bac", checked := Try.checked }
namespace Rows
def none {H : Type} : Left H := { results := [], args := [] }

/-- 'variorumlaw21.LeafTells': WHATEVER THE INPUT: true; the input reads as it did. -/
def leafTellsSpec : ChangeSpec := { name := "leafTells", fn := fun _ => fun
  | [d1, d2, d3] => { results := [.lit (.bool true)], args := [d1, d2, d3] }
  | _ => none }
def leafTellsRow : OpenClaim := { program := "ytgjamldcglebjaa", sum := "5d9f11e78e321dc7d2125371317385b26b48fb94fb908e04cc42868f55892bac", func := "variorum/variorumlaw21.LeafTells", spec := "leafTells", apart := false }
def LeafTellsSaid : Prop := leafTellsRow.holds Try.pinned (OpenSpec.ofChange leafTellsSpec)

/-- ITS FALSE NEIGHBOUR: 'it returns false'. Refute it at one input. -/
def leafTellsWrong : ChangeSpec := { name := "leafTells", fn := fun _ => fun
  | [d1, d2, d3] => { results := [.lit (.bool false)], args := [d1, d2, d3] }
  | _ => none }
def LeafTellsWrongFalsely : Prop := leafTellsRow.holds Try.pinned (OpenSpec.ofChange leafTellsWrong)

/-- 'variorumlaw21.LeafHolds': WHATEVER THE INPUT: true; the input reads as it did. -/
def leafHoldsSpec : ChangeSpec := { name := "leafHolds", fn := fun _ => fun
  | [d1, d2, d3] => { results := [.lit (.bool true)], args := [d1, d2, d3] }
  | _ => none }
def leafHoldsRow : OpenClaim := { program := "ytgjamldcglebjaa", sum := "5d9f11e78e321dc7d2125371317385b26b48fb94fb908e04cc42868f55892bac", func := "variorum/variorumlaw21.LeafHolds", spec := "leafHolds", apart := false }
def LeafHoldsSaid : Prop := leafHoldsRow.holds Try.pinned (OpenSpec.ofChange leafHoldsSpec)

/-- ITS FALSE NEIGHBOUR: 'it returns false'. Refute it at one input. -/
def leafHoldsWrong : ChangeSpec := { name := "leafHolds", fn := fun _ => fun
  | [d1, d2, d3] => { results := [.lit (.bool false)], args := [d1, d2, d3] }
  | _ => none }
def LeafHoldsWrongFalsely : Prop := leafHoldsRow.holds Try.pinned (OpenSpec.ofChange leafHoldsWrong)

/-- 'variorumlaw21.LeafRises': WHATEVER THE INPUT: true; the input reads as it did. -/
def leafRisesSpec : ChangeSpec := { name := "leafRises", fn := fun _ => fun
  | [d1, d2, d3] => { results := [.lit (.bool true)], args := [d1, d2, d3] }
  | _ => none }
def leafRisesRow : OpenClaim := { program := "ytgjamldcglebjaa", sum := "5d9f11e78e321dc7d2125371317385b26b48fb94fb908e04cc42868f55892bac", func := "variorum/variorumlaw21.LeafRises", spec := "leafRises", apart := false }
def LeafRisesSaid : Prop := leafRisesRow.holds Try.pinned (OpenSpec.ofChange leafRisesSpec)

/-- ITS FALSE NEIGHBOUR: 'it returns false'. Refute it at one input. -/
def leafRisesWrong : ChangeSpec := { name := "leafRises", fn := fun _ => fun
  | [d1, d2, d3] => { results := [.lit (.bool false)], args := [d1, d2, d3] }
  | _ => none }
def LeafRisesWrongFalsely : Prop := leafRisesRow.holds Try.pinned (OpenSpec.ofChange leafRisesWrong)

/-- 'variorumlaw21.LeafPlain': WHATEVER THE INPUT: true; the input reads as it did. -/
def leafPlainSpec : ChangeSpec := { name := "leafPlain", fn := fun _ => fun
  | [d1, d2, d3] => { results := [.lit (.bool true)], args := [d1, d2, d3] }
  | _ => none }
def leafPlainRow : OpenClaim := { program := "ytgjamldcglebjaa", sum := "5d9f11e78e321dc7d2125371317385b26b48fb94fb908e04cc42868f55892bac", func := "variorum/variorumlaw21.LeafPlain", spec := "leafPlain", apart := false }
def LeafPlainSaid : Prop := leafPlainRow.holds Try.pinned (OpenSpec.ofChange leafPlainSpec)

/-- ITS FALSE NEIGHBOUR: 'it returns false'. Refute it at one input. -/
def leafPlainWrong : ChangeSpec := { name := "leafPlain", fn := fun _ => fun
  | [d1, d2, d3] => { results := [.lit (.bool false)], args := [d1, d2, d3] }
  | _ => none }
def LeafPlainWrongFalsely : Prop := leafPlainRow.holds Try.pinned (OpenSpec.ofChange leafPlainWrong)

/-- 'variorumlaw22.BookPages': WHATEVER THE INPUT: true; the input reads as it did. -/
def bookPagesSpec : ChangeSpec := { name := "bookPages", fn := fun _ => fun
  | [d1, d2, d3] => { results := [.lit (.bool true)], args := [d1, d2, d3] }
  | _ => none }
def bookPagesRow : OpenClaim := { program := "ytgjamldcglebjaa", sum := "5d9f11e78e321dc7d2125371317385b26b48fb94fb908e04cc42868f55892bac", func := "variorum/variorumlaw22.BookPages", spec := "bookPages", unfollowed := true, recurses := true, apart := false }
def BookPagesSaid : Prop := bookPagesRow.holds Try.pinned (OpenSpec.ofChange bookPagesSpec)

/-- ITS FALSE NEIGHBOUR: 'it returns false'. Refute it at one input. -/
def bookPagesWrong : ChangeSpec := { name := "bookPages", fn := fun _ => fun
  | [d1, d2, d3] => { results := [.lit (.bool false)], args := [d1, d2, d3] }
  | _ => none }
def BookPagesWrongFalsely : Prop := bookPagesRow.holds Try.pinned (OpenSpec.ofChange bookPagesWrong)

/-- 'variorumlaw22.BookKeeps': WHATEVER THE INPUT: true; the input reads as it did. -/
def bookKeepsSpec : ChangeSpec := { name := "bookKeeps", fn := fun _ => fun
  | [d1, d2] => { results := [.lit (.bool true)], args := [d1, d2] }
  | _ => none }
def bookKeepsRow : OpenClaim := { program := "ytgjamldcglebjaa", sum := "5d9f11e78e321dc7d2125371317385b26b48fb94fb908e04cc42868f55892bac", func := "variorum/variorumlaw22.BookKeeps", spec := "bookKeeps", unfollowed := true, recurses := true, apart := false }
def BookKeepsSaid : Prop := bookKeepsRow.holds Try.pinned (OpenSpec.ofChange bookKeepsSpec)

/-- ITS FALSE NEIGHBOUR: 'it returns false'. Refute it at one input. -/
def bookKeepsWrong : ChangeSpec := { name := "bookKeeps", fn := fun _ => fun
  | [d1, d2] => { results := [.lit (.bool false)], args := [d1, d2] }
  | _ => none }
def BookKeepsWrongFalsely : Prop := bookKeepsRow.holds Try.pinned (OpenSpec.ofChange bookKeepsWrong)

/-- 'variorumlaw22.BookLines': WHATEVER THE INPUT: true; the input reads as it did. -/
def bookLinesSpec : ChangeSpec := { name := "bookLines", fn := fun _ => fun
  | [d1, d2] => { results := [.lit (.bool true)], args := [d1, d2] }
  | _ => none }
def bookLinesRow : OpenClaim := { program := "ytgjamldcglebjaa", sum := "5d9f11e78e321dc7d2125371317385b26b48fb94fb908e04cc42868f55892bac", func := "variorum/variorumlaw22.BookLines", spec := "bookLines", unfollowed := true, recurses := true, apart := false }
def BookLinesSaid : Prop := bookLinesRow.holds Try.pinned (OpenSpec.ofChange bookLinesSpec)

/-- ITS FALSE NEIGHBOUR: 'it returns false'. Refute it at one input. -/
def bookLinesWrong : ChangeSpec := { name := "bookLines", fn := fun _ => fun
  | [d1, d2] => { results := [.lit (.bool false)], args := [d1, d2] }
  | _ => none }
def BookLinesWrongFalsely : Prop := bookLinesRow.holds Try.pinned (OpenSpec.ofChange bookLinesWrong)

/-- 'variorumlaw22.BookPlain': WHATEVER THE INPUT: true; the input reads as it did. -/
def bookPlainSpec : ChangeSpec := { name := "bookPlain", fn := fun _ => fun
  | [d1, d2, d3] => { results := [.lit (.bool true)], args := [d1, d2, d3] }
  | _ => none }
def bookPlainRow : OpenClaim := { program := "ytgjamldcglebjaa", sum := "5d9f11e78e321dc7d2125371317385b26b48fb94fb908e04cc42868f55892bac", func := "variorum/variorumlaw22.BookPlain", spec := "bookPlain", unfollowed := true, recurses := true, apart := false }
def BookPlainSaid : Prop := bookPlainRow.holds Try.pinned (OpenSpec.ofChange bookPlainSpec)

/-- ITS FALSE NEIGHBOUR: 'it returns false'. Refute it at one input. -/
def bookPlainWrong : ChangeSpec := { name := "bookPlain", fn := fun _ => fun
  | [d1, d2, d3] => { results := [.lit (.bool false)], args := [d1, d2, d3] }
  | _ => none }
def BookPlainWrongFalsely : Prop := bookPlainRow.holds Try.pinned (OpenSpec.ofChange bookPlainWrong)

/-- 'variorumlaw18.OrderSorts': WHATEVER THE INPUT: true; the input reads as it did. -/
def orderSortsSpec : ChangeSpec := { name := "orderSorts", fn := fun _ => fun
  | [d1, d2] => { results := [.lit (.bool true)], args := [d1, d2] }
  | _ => none }
def orderSortsRow : OpenClaim := { program := "ytgjamldcglebjaa", sum := "5d9f11e78e321dc7d2125371317385b26b48fb94fb908e04cc42868f55892bac", func := "variorum/variorumlaw18.OrderSorts", spec := "orderSorts", unfollowed := true, recurses := true, apart := false }
def OrderSortsSaid : Prop := orderSortsRow.holds Try.pinned (OpenSpec.ofChange orderSortsSpec)

/-- ITS FALSE NEIGHBOUR: 'it returns false'. Refute it at one input. -/
def orderSortsWrong : ChangeSpec := { name := "orderSorts", fn := fun _ => fun
  | [d1, d2] => { results := [.lit (.bool false)], args := [d1, d2] }
  | _ => none }
def OrderSortsWrongFalsely : Prop := orderSortsRow.holds Try.pinned (OpenSpec.ofChange orderSortsWrong)

/-- 'variorumlaw18.OrderStands': WHATEVER THE INPUT: true; the input reads as it did. -/
def orderStandsSpec : ChangeSpec := { name := "orderStands", fn := fun _ => fun
  | [d] => { results := [.lit (.bool true)], args := [d] }
  | _ => none }
def orderStandsRow : OpenClaim := { program := "ytgjamldcglebjaa", sum := "5d9f11e78e321dc7d2125371317385b26b48fb94fb908e04cc42868f55892bac", func := "variorum/variorumlaw18.OrderStands", spec := "orderStands", unfollowed := true, recurses := true, apart := false }
def OrderStandsSaid : Prop := orderStandsRow.holds Try.pinned (OpenSpec.ofChange orderStandsSpec)

/-- ITS FALSE NEIGHBOUR: 'it returns false'. Refute it at one input. -/
def orderStandsWrong : ChangeSpec := { name := "orderStands", fn := fun _ => fun
  | [d] => { results := [.lit (.bool false)], args := [d] }
  | _ => none }
def OrderStandsWrongFalsely : Prop := orderStandsRow.holds Try.pinned (OpenSpec.ofChange orderStandsWrong)

/-- 'variorumlaw18.OrderTurned': WHATEVER THE INPUT: true; the input reads as it did. -/
def orderTurnedSpec : ChangeSpec := { name := "orderTurned", fn := fun _ => fun
  | [d1, d2] => { results := [.lit (.bool true)], args := [d1, d2] }
  | _ => none }
def orderTurnedRow : OpenClaim := { program := "ytgjamldcglebjaa", sum := "5d9f11e78e321dc7d2125371317385b26b48fb94fb908e04cc42868f55892bac", func := "variorum/variorumlaw18.OrderTurned", spec := "orderTurned", unfollowed := true, recurses := true, apart := false }
def OrderTurnedSaid : Prop := orderTurnedRow.holds Try.pinned (OpenSpec.ofChange orderTurnedSpec)

/-- ITS FALSE NEIGHBOUR: 'it returns false'. Refute it at one input. -/
def orderTurnedWrong : ChangeSpec := { name := "orderTurned", fn := fun _ => fun
  | [d1, d2] => { results := [.lit (.bool false)], args := [d1, d2] }
  | _ => none }
def OrderTurnedWrongFalsely : Prop := orderTurnedRow.holds Try.pinned (OpenSpec.ofChange orderTurnedWrong)

/-- 'variorumlaw18.OrderSeries': WHATEVER THE INPUT: true; the input reads as it did. -/
def orderSeriesSpec : ChangeSpec := { name := "orderSeries", fn := fun _ => fun
  | [d1, d2] => { results := [.lit (.bool true)], args := [d1, d2] }
  | _ => none }
def orderSeriesRow : OpenClaim := { program := "ytgjamldcglebjaa", sum := "5d9f11e78e321dc7d2125371317385b26b48fb94fb908e04cc42868f55892bac", func := "variorum/variorumlaw18.OrderSeries", spec := "orderSeries", unfollowed := true, recurses := true, apart := false }
def OrderSeriesSaid : Prop := orderSeriesRow.holds Try.pinned (OpenSpec.ofChange orderSeriesSpec)

/-- ITS FALSE NEIGHBOUR: 'it returns false'. Refute it at one input. -/
def orderSeriesWrong : ChangeSpec := { name := "orderSeries", fn := fun _ => fun
  | [d1, d2] => { results := [.lit (.bool false)], args := [d1, d2] }
  | _ => none }
def OrderSeriesWrongFalsely : Prop := orderSeriesRow.holds Try.pinned (OpenSpec.ofChange orderSeriesWrong)

/- THE SECOND FORM. 'bulk': how many values and letters a reading holds, each counted each time it is reached (what is shared counts as often as it is met; a slice's spare places count too). A statement '..UptoSaid' is the law's where the arguments, and the package variables that the reading takes, are together of bulk at most 1048576: NARROWER than '..Said'. Prove '..Said' where nothing that the law and all that it calls make is longer than what came in: it says more and counts as full. Else prove '..UptoSaid'. A law counts once. -/
mutual
def uptoBulk {H : Type} : DataW H → Nat
  | .lit (.string bytes) => bytes.length + 1
  | .lit _ => 1
  | .nil => 1
  | .ptr d => uptoBulk d + 1
  | .slice elems spare => uptoBulkAll elems + uptoBulkAll spare + 1
  | .agg parts => uptoBulkAll parts + 1
  | .iface _ d => uptoBulk d + 1
  | .map entries => uptoBulkEntries entries + 1
  | .held _ => 1
def uptoBulkAll {H : Type} : List (DataW H) → Nat
  | [] => 0
  | d :: r => uptoBulk d + uptoBulkAll r
def uptoBulkEntries {H : Type} : List (Lit × DataW H) → Nat
  | [] => 0
  | x :: r => uptoBulkEntry x + uptoBulkEntries r
def uptoBulkEntry {H : Type} : Lit × DataW H → Nat
  | (.string bytes, d) => bytes.length + uptoBulk d + 1
  | (_, d) => uptoBulk d + 1
 end
def uptoSmall : (H : Type) → List (DataW H) → Bool := fun _ ds => decide (uptoBulkAll ds ≤ 1048576)
def OpenSpec.upto (s : _root_.Go.ChangeSpec) : _root_.Go.OpenSpec := { _root_.Go.OpenSpec.ofChange s with cond := some uptoSmall }

/-- 'variorumlaw21.LeafTells', WHERE WHAT IT READS IS OF BULK AT MOST 1048576: true; the input reads as it did. -/
def leafTellsUptoRow : OpenClaim := { program := "ytgjamldcglebjaa", sum := "5d9f11e78e321dc7d2125371317385b26b48fb94fb908e04cc42868f55892bac", func := "variorum/variorumlaw21.LeafTells", spec := "leafTells", apart := false, narrowed := true }
def LeafTellsUptoSaid : Prop := leafTellsUptoRow.holds Try.pinned (OpenSpec.upto leafTellsSpec)

/-- 'variorumlaw21.LeafHolds', WHERE WHAT IT READS IS OF BULK AT MOST 1048576: true; the input reads as it did. -/
def leafHoldsUptoRow : OpenClaim := { program := "ytgjamldcglebjaa", sum := "5d9f11e78e321dc7d2125371317385b26b48fb94fb908e04cc42868f55892bac", func := "variorum/variorumlaw21.LeafHolds", spec := "leafHolds", apart := false, narrowed := true }
def LeafHoldsUptoSaid : Prop := leafHoldsUptoRow.holds Try.pinned (OpenSpec.upto leafHoldsSpec)

/-- 'variorumlaw21.LeafRises', WHERE WHAT IT READS IS OF BULK AT MOST 1048576: true; the input reads as it did. -/
def leafRisesUptoRow : OpenClaim := { program := "ytgjamldcglebjaa", sum := "5d9f11e78e321dc7d2125371317385b26b48fb94fb908e04cc42868f55892bac", func := "variorum/variorumlaw21.LeafRises", spec := "leafRises", apart := false, narrowed := true }
def LeafRisesUptoSaid : Prop := leafRisesUptoRow.holds Try.pinned (OpenSpec.upto leafRisesSpec)

/-- 'variorumlaw21.LeafPlain', WHERE WHAT IT READS IS OF BULK AT MOST 1048576: true; the input reads as it did. -/
def leafPlainUptoRow : OpenClaim := { program := "ytgjamldcglebjaa", sum := "5d9f11e78e321dc7d2125371317385b26b48fb94fb908e04cc42868f55892bac", func := "variorum/variorumlaw21.LeafPlain", spec := "leafPlain", apart := false, narrowed := true }
def LeafPlainUptoSaid : Prop := leafPlainUptoRow.holds Try.pinned (OpenSpec.upto leafPlainSpec)

/-- 'variorumlaw22.BookPages', WHERE WHAT IT READS IS OF BULK AT MOST 1048576: true; the input reads as it did. -/
def bookPagesUptoRow : OpenClaim := { program := "ytgjamldcglebjaa", sum := "5d9f11e78e321dc7d2125371317385b26b48fb94fb908e04cc42868f55892bac", func := "variorum/variorumlaw22.BookPages", spec := "bookPages", unfollowed := true, recurses := true, apart := false, narrowed := true }
def BookPagesUptoSaid : Prop := bookPagesUptoRow.holds Try.pinned (OpenSpec.upto bookPagesSpec)

/-- 'variorumlaw22.BookKeeps', WHERE WHAT IT READS IS OF BULK AT MOST 1048576: true; the input reads as it did. -/
def bookKeepsUptoRow : OpenClaim := { program := "ytgjamldcglebjaa", sum := "5d9f11e78e321dc7d2125371317385b26b48fb94fb908e04cc42868f55892bac", func := "variorum/variorumlaw22.BookKeeps", spec := "bookKeeps", unfollowed := true, recurses := true, apart := false, narrowed := true }
def BookKeepsUptoSaid : Prop := bookKeepsUptoRow.holds Try.pinned (OpenSpec.upto bookKeepsSpec)

/-- 'variorumlaw22.BookLines', WHERE WHAT IT READS IS OF BULK AT MOST 1048576: true; the input reads as it did. -/
def bookLinesUptoRow : OpenClaim := { program := "ytgjamldcglebjaa", sum := "5d9f11e78e321dc7d2125371317385b26b48fb94fb908e04cc42868f55892bac", func := "variorum/variorumlaw22.BookLines", spec := "bookLines", unfollowed := true, recurses := true, apart := false, narrowed := true }
def BookLinesUptoSaid : Prop := bookLinesUptoRow.holds Try.pinned (OpenSpec.upto bookLinesSpec)

/-- 'variorumlaw22.BookPlain', WHERE WHAT IT READS IS OF BULK AT MOST 1048576: true; the input reads as it did. -/
def bookPlainUptoRow : OpenClaim := { program := "ytgjamldcglebjaa", sum := "5d9f11e78e321dc7d2125371317385b26b48fb94fb908e04cc42868f55892bac", func := "variorum/variorumlaw22.BookPlain", spec := "bookPlain", unfollowed := true, recurses := true, apart := false, narrowed := true }
def BookPlainUptoSaid : Prop := bookPlainUptoRow.holds Try.pinned (OpenSpec.upto bookPlainSpec)

/-- 'variorumlaw18.OrderSorts', WHERE WHAT IT READS IS OF BULK AT MOST 1048576: true; the input reads as it did. -/
def orderSortsUptoRow : OpenClaim := { program := "ytgjamldcglebjaa", sum := "5d9f11e78e321dc7d2125371317385b26b48fb94fb908e04cc42868f55892bac", func := "variorum/variorumlaw18.OrderSorts", spec := "orderSorts", unfollowed := true, recurses := true, apart := false, narrowed := true }
def OrderSortsUptoSaid : Prop := orderSortsUptoRow.holds Try.pinned (OpenSpec.upto orderSortsSpec)

/-- 'variorumlaw18.OrderStands', WHERE WHAT IT READS IS OF BULK AT MOST 1048576: true; the input reads as it did. -/
def orderStandsUptoRow : OpenClaim := { program := "ytgjamldcglebjaa", sum := "5d9f11e78e321dc7d2125371317385b26b48fb94fb908e04cc42868f55892bac", func := "variorum/variorumlaw18.OrderStands", spec := "orderStands", unfollowed := true, recurses := true, apart := false, narrowed := true }
def OrderStandsUptoSaid : Prop := orderStandsUptoRow.holds Try.pinned (OpenSpec.upto orderStandsSpec)

/-- 'variorumlaw18.OrderTurned', WHERE WHAT IT READS IS OF BULK AT MOST 1048576: true; the input reads as it did. -/
def orderTurnedUptoRow : OpenClaim := { program := "ytgjamldcglebjaa", sum := "5d9f11e78e321dc7d2125371317385b26b48fb94fb908e04cc42868f55892bac", func := "variorum/variorumlaw18.OrderTurned", spec := "orderTurned", unfollowed := true, recurses := true, apart := false, narrowed := true }
def OrderTurnedUptoSaid : Prop := orderTurnedUptoRow.holds Try.pinned (OpenSpec.upto orderTurnedSpec)

/-- 'variorumlaw18.OrderSeries', WHERE WHAT IT READS IS OF BULK AT MOST 1048576: true; the input reads as it did. -/
def orderSeriesUptoRow : OpenClaim := { program := "ytgjamldcglebjaa", sum := "5d9f11e78e321dc7d2125371317385b26b48fb94fb908e04cc42868f55892bac", func := "variorum/variorumlaw18.OrderSeries", spec := "orderSeries", unfollowed := true, recurses := true, apart := false, narrowed := true }
def OrderSeriesUptoSaid : Prop := orderSeriesUptoRow.holds Try.pinned (OpenSpec.upto orderSeriesSpec)

end Rows
end Go.Proofs.Ytgjamldcglebjaa
