/-
  NARROWER THAN 'FOR EVERY INPUT', by the rows' own cells (each row's printed sentence says how): SiglaLists: laid · SiglaBack: laid · SiglaParts: laid · SiglaAll: laid · SiglaTables: laid · SiglaKept: laid · ScaledTexts: laid · ScaledBack: laid · ScaledSigns: laid · ScaledLaws: laid · ScaledSums: laid.
  DERIVED. THE GIVEN ROWS OF THIS SEAT. 11 by the template 'for every input the law returns true; each argument reads behind the call as it read before'; 0 by the template 'total and deterministic' (their statements: YtkjekbgfmkfkjaaDoorTotals.lean).
  GIVEN WITH THE SEED: the statements are not yours to turn. If you find one false, say at which input.
  Laid BY PROGRAM, IN A SANDBOX (cutbox-rows.mjs): the forced cells as the released guide's own fill.sh prints them over the translation f3fda0710799f91b… (all of the seat's roots in one cut). By AI agents, Wed Nov 11 2026. No macro, syntax, notation, axiom, sorry.
-/
import Derived.Test.YtkjekbgfmkfkjaaDoorChecked
import GoSem.PinnedTables
import GoSem.Claim
import GoSem.ClaimJoined
import GoSem.ClaimMapViews
import Derived.JoinedTies
import Derived.KernelRfl
namespace Go.Proofs.YtkjekbgfmkfkjaaDoor
/- THE CELL 'sum', in the pinned program and in every row, IS THE sha256 OF THE DUMP (.gsa) THAT YtkjekbgfmkfkjaaDoorProg.lean LOADS. Nothing in Lean hashes anything: it is a label: what it is worth is what the hold of that sum in a sandbox is worth. -/
noncomputable def Tryd.pinned : Pinned := { name := "ytkjekbgfmkfkjaadoor", sum := "f3fda0710799f91b88468720b6d7ba2e8f2aa1a83b8754ce879a418c8b35c34a", checked := Tryd.checked }
namespace Rows
def none {H : Type} : Left H := { results := [], args := [] }

/- WHAT THE LISTED PACKAGE-LEVEL VARIABLES READ AS WHEN THE CALL BEGINS. Each datum BY PROGRAM (the guide's laid-datum.mjs) off the statement by which the dump's own 'gosem.cut.vars' lays the variable. In a bare row this is a premise. The card (YtkjekbgfmkfkjaaDoorCards.lean) ties it to the program's text. -/
def laid_unicode_utf8_acceptRanges {H : Type} : DataW H := .agg [.agg [.lit (.int .u8 128), .lit (.int .u8 191)], .agg [.lit (.int .u8 160), .lit (.int .u8 191)], .agg [.lit (.int .u8 128), .lit (.int .u8 159)], .agg [.lit (.int .u8 144), .lit (.int .u8 191)], .agg [.lit (.int .u8 128), .lit (.int .u8 143)], .agg [.lit (.int .u8 0), .lit (.int .u8 0)], .agg [.lit (.int .u8 0), .lit (.int .u8 0)], .agg [.lit (.int .u8 0), .lit (.int .u8 0)], .agg [.lit (.int .u8 0), .lit (.int .u8 0)], .agg [.lit (.int .u8 0), .lit (.int .u8 0)], .agg [.lit (.int .u8 0), .lit (.int .u8 0)], .agg [.lit (.int .u8 0), .lit (.int .u8 0)], .agg [.lit (.int .u8 0), .lit (.int .u8 0)], .agg [.lit (.int .u8 0), .lit (.int .u8 0)], .agg [.lit (.int .u8 0), .lit (.int .u8 0)], .agg [.lit (.int .u8 0), .lit (.int .u8 0)]]
/-- One of Go's own tables, pinned by name: the form's constant. -/
def laid_unicode_utf8_first : DataW Unit := Go.Pinned.utf8First
def laid_math_bits_deBruijn32tab {H : Type} : DataW H := .agg [.lit (.int .u8 0), .lit (.int .u8 1), .lit (.int .u8 28), .lit (.int .u8 2), .lit (.int .u8 29), .lit (.int .u8 14), .lit (.int .u8 24), .lit (.int .u8 3), .lit (.int .u8 30), .lit (.int .u8 22), .lit (.int .u8 20), .lit (.int .u8 15), .lit (.int .u8 25), .lit (.int .u8 17), .lit (.int .u8 4), .lit (.int .u8 8), .lit (.int .u8 31), .lit (.int .u8 27), .lit (.int .u8 13), .lit (.int .u8 23), .lit (.int .u8 21), .lit (.int .u8 19), .lit (.int .u8 16), .lit (.int .u8 7), .lit (.int .u8 26), .lit (.int .u8 12), .lit (.int .u8 18), .lit (.int .u8 6), .lit (.int .u8 11), .lit (.int .u8 5), .lit (.int .u8 10), .lit (.int .u8 9)]
def laid_math_bits_deBruijn64tab {H : Type} : DataW H := .agg [.lit (.int .u8 0), .lit (.int .u8 1), .lit (.int .u8 56), .lit (.int .u8 2), .lit (.int .u8 57), .lit (.int .u8 49), .lit (.int .u8 28), .lit (.int .u8 3), .lit (.int .u8 61), .lit (.int .u8 58), .lit (.int .u8 42), .lit (.int .u8 50), .lit (.int .u8 38), .lit (.int .u8 29), .lit (.int .u8 17), .lit (.int .u8 4), .lit (.int .u8 62), .lit (.int .u8 47), .lit (.int .u8 59), .lit (.int .u8 36), .lit (.int .u8 45), .lit (.int .u8 43), .lit (.int .u8 51), .lit (.int .u8 22), .lit (.int .u8 53), .lit (.int .u8 39), .lit (.int .u8 33), .lit (.int .u8 30), .lit (.int .u8 24), .lit (.int .u8 18), .lit (.int .u8 12), .lit (.int .u8 5), .lit (.int .u8 63), .lit (.int .u8 55), .lit (.int .u8 48), .lit (.int .u8 27), .lit (.int .u8 60), .lit (.int .u8 41), .lit (.int .u8 37), .lit (.int .u8 16), .lit (.int .u8 46), .lit (.int .u8 35), .lit (.int .u8 44), .lit (.int .u8 21), .lit (.int .u8 52), .lit (.int .u8 32), .lit (.int .u8 23), .lit (.int .u8 11), .lit (.int .u8 54), .lit (.int .u8 26), .lit (.int .u8 40), .lit (.int .u8 15), .lit (.int .u8 34), .lit (.int .u8 20), .lit (.int .u8 31), .lit (.int .u8 10), .lit (.int .u8 25), .lit (.int .u8 14), .lit (.int .u8 19), .lit (.int .u8 9), .lit (.int .u8 13), .lit (.int .u8 8), .lit (.int .u8 7), .lit (.int .u8 6)]
def laid_internal_strconv_uint64pow10 {H : Type} : DataW H := .agg [.lit (.int .u64 1), .lit (.int .u64 10), .lit (.int .u64 100), .lit (.int .u64 1000), .lit (.int .u64 10000), .lit (.int .u64 100000), .lit (.int .u64 1000000), .lit (.int .u64 10000000), .lit (.int .u64 100000000), .lit (.int .u64 1000000000), .lit (.int .u64 10000000000), .lit (.int .u64 100000000000), .lit (.int .u64 1000000000000), .lit (.int .u64 10000000000000), .lit (.int .u64 100000000000000), .lit (.int .u64 1000000000000000), .lit (.int .u64 10000000000000000), .lit (.int .u64 100000000000000000), .lit (.int .u64 1000000000000000000), .lit (.int .u64 10000000000000000000)]
def laid_strconv_ErrRange {H : Type} : DataW H := .iface "*errors.errorString" (.ptr (.agg [.lit (.string [118, 97, 108, 117, 101, 32, 111, 117, 116, 32, 111, 102, 32, 114, 97, 110, 103, 101])]))
def laid_strconv_ErrSyntax {H : Type} : DataW H := .iface "*errors.errorString" (.ptr (.agg [.lit (.string [105, 110, 118, 97, 108, 105, 100, 32, 115, 121, 110, 116, 97, 120])]))

/-- 'variorumlaw13.SiglaLists': WHATEVER THE INPUT: true; the input reads as it did. -/
def siglaListsSpec : ChangeSpec := { name := "siglaLists", fn := fun _ => fun
  | [d1, d2, d3] => { results := [.lit (.bool true)], args := [d1, d2, d3] }
  | _ => none }
def siglaListsRow : OpenClaim := { program := "ytkjekbgfmkfkjaadoor", sum := "f3fda0710799f91b88468720b6d7ba2e8f2aa1a83b8754ce879a418c8b35c34a", func := "variorum/variorumlaw13.SiglaLists", spec := "siglaLists", inPlace := ["internal/bytealg.IndexByteString", "internal/bytealg.IndexString", "internal/abi.NoEscape", "internal/bytealg.MakeNoZero", "internal/bytealg.CountString"], unfollowed := true, recurses := true, named := ["internal/bytealg.MaxLen", "unicode/utf8.first", "unicode/utf8.acceptRanges"], apart := false, laid := [("unicode/utf8.acceptRanges", laid_unicode_utf8_acceptRanges), ("unicode/utf8.first", laid_unicode_utf8_first)] }
def SiglaListsSaid : Prop := siglaListsRow.holds Tryd.pinned (OpenSpec.ofChange siglaListsSpec)

/-- ITS FALSE NEIGHBOUR: 'it returns false'. Refute it at one input. -/
def siglaListsWrong : ChangeSpec := { name := "siglaLists", fn := fun _ => fun
  | [d1, d2, d3] => { results := [.lit (.bool false)], args := [d1, d2, d3] }
  | _ => none }
def SiglaListsWrongFalsely : Prop := siglaListsRow.holds Tryd.pinned (OpenSpec.ofChange siglaListsWrong)

/-- 'variorumlaw13.SiglaBack': WHATEVER THE INPUT: true; the input reads as it did. -/
def siglaBackSpec : ChangeSpec := { name := "siglaBack", fn := fun _ => fun
  | [d1, d2] => { results := [.lit (.bool true)], args := [d1, d2] }
  | _ => none }
def siglaBackRow : OpenClaim := { program := "ytkjekbgfmkfkjaadoor", sum := "f3fda0710799f91b88468720b6d7ba2e8f2aa1a83b8754ce879a418c8b35c34a", func := "variorum/variorumlaw13.SiglaBack", spec := "siglaBack", inPlace := ["internal/bytealg.IndexByteString", "internal/bytealg.IndexString", "internal/abi.NoEscape", "internal/bytealg.MakeNoZero", "internal/bytealg.CountString"], unfollowed := true, recurses := true, named := ["internal/bytealg.MaxLen", "unicode/utf8.first", "unicode/utf8.acceptRanges"], apart := false, laid := [("unicode/utf8.acceptRanges", laid_unicode_utf8_acceptRanges), ("unicode/utf8.first", laid_unicode_utf8_first)] }
def SiglaBackSaid : Prop := siglaBackRow.holds Tryd.pinned (OpenSpec.ofChange siglaBackSpec)

/-- ITS FALSE NEIGHBOUR: 'it returns false'. Refute it at one input. -/
def siglaBackWrong : ChangeSpec := { name := "siglaBack", fn := fun _ => fun
  | [d1, d2] => { results := [.lit (.bool false)], args := [d1, d2] }
  | _ => none }
def SiglaBackWrongFalsely : Prop := siglaBackRow.holds Tryd.pinned (OpenSpec.ofChange siglaBackWrong)

/-- 'variorumlaw13.SiglaParts': WHATEVER THE INPUT: true; the input reads as it did. -/
def siglaPartsSpec : ChangeSpec := { name := "siglaParts", fn := fun _ => fun
  | [d1, d2] => { results := [.lit (.bool true)], args := [d1, d2] }
  | _ => none }
def siglaPartsRow : OpenClaim := { program := "ytkjekbgfmkfkjaadoor", sum := "f3fda0710799f91b88468720b6d7ba2e8f2aa1a83b8754ce879a418c8b35c34a", func := "variorum/variorumlaw13.SiglaParts", spec := "siglaParts", inPlace := ["internal/bytealg.CountString", "internal/bytealg.IndexByteString", "internal/bytealg.IndexString", "internal/abi.NoEscape", "internal/bytealg.MakeNoZero"], unfollowed := true, recurses := true, named := ["unicode/utf8.first", "unicode/utf8.acceptRanges", "internal/bytealg.MaxLen"], apart := false, laid := [("unicode/utf8.acceptRanges", laid_unicode_utf8_acceptRanges), ("unicode/utf8.first", laid_unicode_utf8_first)] }
def SiglaPartsSaid : Prop := siglaPartsRow.holds Tryd.pinned (OpenSpec.ofChange siglaPartsSpec)

/-- ITS FALSE NEIGHBOUR: 'it returns false'. Refute it at one input. -/
def siglaPartsWrong : ChangeSpec := { name := "siglaParts", fn := fun _ => fun
  | [d1, d2] => { results := [.lit (.bool false)], args := [d1, d2] }
  | _ => none }
def SiglaPartsWrongFalsely : Prop := siglaPartsRow.holds Tryd.pinned (OpenSpec.ofChange siglaPartsWrong)

/-- 'variorumlaw13.SiglaAll': WHATEVER THE INPUT: true; the input reads as it did. -/
def siglaAllSpec : ChangeSpec := { name := "siglaAll", fn := fun _ => fun
  | [d] => { results := [.lit (.bool true)], args := [d] }
  | _ => none }
def siglaAllRow : OpenClaim := { program := "ytkjekbgfmkfkjaadoor", sum := "f3fda0710799f91b88468720b6d7ba2e8f2aa1a83b8754ce879a418c8b35c34a", func := "variorum/variorumlaw13.SiglaAll", spec := "siglaAll", inPlace := ["internal/bytealg.IndexByteString", "internal/bytealg.IndexString", "internal/abi.NoEscape", "internal/bytealg.MakeNoZero", "internal/bytealg.CountString"], unfollowed := true, recurses := true, named := ["internal/bytealg.MaxLen", "unicode/utf8.first", "unicode/utf8.acceptRanges"], apart := false, laid := [("unicode/utf8.acceptRanges", laid_unicode_utf8_acceptRanges), ("unicode/utf8.first", laid_unicode_utf8_first)] }
def SiglaAllSaid : Prop := siglaAllRow.holds Tryd.pinned (OpenSpec.ofChange siglaAllSpec)

/-- ITS FALSE NEIGHBOUR: 'it returns false'. Refute it at one input. -/
def siglaAllWrong : ChangeSpec := { name := "siglaAll", fn := fun _ => fun
  | [d] => { results := [.lit (.bool false)], args := [d] }
  | _ => none }
def SiglaAllWrongFalsely : Prop := siglaAllRow.holds Tryd.pinned (OpenSpec.ofChange siglaAllWrong)

/-- 'variorumlaw13.SiglaTables': WHATEVER THE INPUT: true; the input reads as it did. -/
def siglaTablesSpec : ChangeSpec := { name := "siglaTables", fn := fun _ => fun
  | [d1, d2, d3] => { results := [.lit (.bool true)], args := [d1, d2, d3] }
  | _ => none }
def siglaTablesRow : OpenClaim := { program := "ytkjekbgfmkfkjaadoor", sum := "f3fda0710799f91b88468720b6d7ba2e8f2aa1a83b8754ce879a418c8b35c34a", func := "variorum/variorumlaw13.SiglaTables", spec := "siglaTables", inPlace := ["internal/bytealg.IndexByteString", "internal/bytealg.IndexString", "internal/abi.NoEscape", "internal/bytealg.MakeNoZero", "internal/bytealg.CountString"], unfollowed := true, recurses := true, named := ["internal/bytealg.MaxLen", "unicode/utf8.first", "unicode/utf8.acceptRanges"], apart := false, laid := [("unicode/utf8.acceptRanges", laid_unicode_utf8_acceptRanges), ("unicode/utf8.first", laid_unicode_utf8_first)] }
def SiglaTablesSaid : Prop := siglaTablesRow.holds Tryd.pinned (OpenSpec.ofChange siglaTablesSpec)

/-- ITS FALSE NEIGHBOUR: 'it returns false'. Refute it at one input. -/
def siglaTablesWrong : ChangeSpec := { name := "siglaTables", fn := fun _ => fun
  | [d1, d2, d3] => { results := [.lit (.bool false)], args := [d1, d2, d3] }
  | _ => none }
def SiglaTablesWrongFalsely : Prop := siglaTablesRow.holds Tryd.pinned (OpenSpec.ofChange siglaTablesWrong)

/-- 'variorumlaw13.SiglaKept': WHATEVER THE INPUT: true; the input reads as it did. -/
def siglaKeptSpec : ChangeSpec := { name := "siglaKept", fn := fun _ => fun
  | [d1, d2] => { results := [.lit (.bool true)], args := [d1, d2] }
  | _ => none }
def siglaKeptRow : OpenClaim := { program := "ytkjekbgfmkfkjaadoor", sum := "f3fda0710799f91b88468720b6d7ba2e8f2aa1a83b8754ce879a418c8b35c34a", func := "variorum/variorumlaw13.SiglaKept", spec := "siglaKept", inPlace := ["internal/bytealg.IndexByteString", "internal/bytealg.IndexString", "internal/abi.NoEscape", "internal/bytealg.MakeNoZero", "internal/bytealg.CountString"], unfollowed := true, recurses := true, named := ["internal/bytealg.MaxLen", "unicode/utf8.first", "unicode/utf8.acceptRanges"], apart := false, laid := [("unicode/utf8.acceptRanges", laid_unicode_utf8_acceptRanges), ("unicode/utf8.first", laid_unicode_utf8_first)] }
def SiglaKeptSaid : Prop := siglaKeptRow.holds Tryd.pinned (OpenSpec.ofChange siglaKeptSpec)

/-- ITS FALSE NEIGHBOUR: 'it returns false'. Refute it at one input. -/
def siglaKeptWrong : ChangeSpec := { name := "siglaKept", fn := fun _ => fun
  | [d1, d2] => { results := [.lit (.bool false)], args := [d1, d2] }
  | _ => none }
def SiglaKeptWrongFalsely : Prop := siglaKeptRow.holds Tryd.pinned (OpenSpec.ofChange siglaKeptWrong)

/-- 'variorumlaw02.ScaledTexts': WHATEVER THE INPUT: true; the input reads as it did. -/
def scaledTextsSpec : ChangeSpec := { name := "scaledTexts", fn := fun _ => fun
  | [d1, d2] => { results := [.lit (.bool true)], args := [d1, d2] }
  | _ => none }
def scaledTextsRow : OpenClaim := { program := "ytkjekbgfmkfkjaadoor", sum := "f3fda0710799f91b88468720b6d7ba2e8f2aa1a83b8754ce879a418c8b35c34a", func := "variorum/variorumlaw02.ScaledTexts", spec := "scaledTexts", inPlace := ["internal/bytealg.IndexByteString", "internal/bytealg.IndexString", "math/bits.Add64", "internal/abi.NoEscape"], named := ["internal/bytealg.MaxLen", "unicode/utf8.first", "unicode/utf8.acceptRanges", "strconv.ErrSyntax", "strconv.ErrRange", "internal/strconv.uint64pow10", "math/bits.deBruijn32tab", "math/bits.deBruijn64tab", "math/bits.divideError", "math/bits.overflowError"], apart := false, laid := [("math/bits.deBruijn32tab", laid_math_bits_deBruijn32tab), ("math/bits.deBruijn64tab", laid_math_bits_deBruijn64tab), ("internal/strconv.uint64pow10", laid_internal_strconv_uint64pow10), ("unicode/utf8.acceptRanges", laid_unicode_utf8_acceptRanges), ("strconv.ErrRange", laid_strconv_ErrRange), ("strconv.ErrSyntax", laid_strconv_ErrSyntax), ("unicode/utf8.first", laid_unicode_utf8_first)] }
def ScaledTextsSaid : Prop := scaledTextsRow.holds Tryd.pinned (OpenSpec.ofChange scaledTextsSpec)

/-- ITS FALSE NEIGHBOUR: 'it returns false'. Refute it at one input. -/
def scaledTextsWrong : ChangeSpec := { name := "scaledTexts", fn := fun _ => fun
  | [d1, d2] => { results := [.lit (.bool false)], args := [d1, d2] }
  | _ => none }
def ScaledTextsWrongFalsely : Prop := scaledTextsRow.holds Tryd.pinned (OpenSpec.ofChange scaledTextsWrong)

/-- 'variorumlaw02.ScaledBack': WHATEVER THE INPUT: true; the input reads as it did. -/
def scaledBackSpec : ChangeSpec := { name := "scaledBack", fn := fun _ => fun
  | [d1, d2] => { results := [.lit (.bool true)], args := [d1, d2] }
  | _ => none }
def scaledBackRow : OpenClaim := { program := "ytkjekbgfmkfkjaadoor", sum := "f3fda0710799f91b88468720b6d7ba2e8f2aa1a83b8754ce879a418c8b35c34a", func := "variorum/variorumlaw02.ScaledBack", spec := "scaledBack", inPlace := ["internal/abi.NoEscape", "internal/bytealg.IndexByteString", "internal/bytealg.IndexString", "math/bits.Add64"], named := ["internal/strconv.uint64pow10", "math/bits.deBruijn32tab", "math/bits.deBruijn64tab", "internal/bytealg.MaxLen", "unicode/utf8.first", "unicode/utf8.acceptRanges", "strconv.ErrSyntax", "strconv.ErrRange", "math/bits.divideError", "math/bits.overflowError"], apart := false, laid := [("math/bits.deBruijn32tab", laid_math_bits_deBruijn32tab), ("math/bits.deBruijn64tab", laid_math_bits_deBruijn64tab), ("internal/strconv.uint64pow10", laid_internal_strconv_uint64pow10), ("unicode/utf8.acceptRanges", laid_unicode_utf8_acceptRanges), ("strconv.ErrRange", laid_strconv_ErrRange), ("strconv.ErrSyntax", laid_strconv_ErrSyntax), ("unicode/utf8.first", laid_unicode_utf8_first)] }
def ScaledBackSaid : Prop := scaledBackRow.holds Tryd.pinned (OpenSpec.ofChange scaledBackSpec)

/-- ITS FALSE NEIGHBOUR: 'it returns false'. Refute it at one input. -/
def scaledBackWrong : ChangeSpec := { name := "scaledBack", fn := fun _ => fun
  | [d1, d2] => { results := [.lit (.bool false)], args := [d1, d2] }
  | _ => none }
def ScaledBackWrongFalsely : Prop := scaledBackRow.holds Tryd.pinned (OpenSpec.ofChange scaledBackWrong)

/-- 'variorumlaw02.ScaledSigns': WHATEVER THE INPUT: true; the input reads as it did. -/
def scaledSignsSpec : ChangeSpec := { name := "scaledSigns", fn := fun _ => fun
  | [d1, d2, d3] => { results := [.lit (.bool true)], args := [d1, d2, d3] }
  | _ => none }
def scaledSignsRow : OpenClaim := { program := "ytkjekbgfmkfkjaadoor", sum := "f3fda0710799f91b88468720b6d7ba2e8f2aa1a83b8754ce879a418c8b35c34a", func := "variorum/variorumlaw02.ScaledSigns", spec := "scaledSigns", inPlace := ["internal/bytealg.IndexByteString", "internal/bytealg.IndexString", "math/bits.Add64", "internal/abi.NoEscape"], named := ["internal/bytealg.MaxLen", "unicode/utf8.first", "unicode/utf8.acceptRanges", "strconv.ErrSyntax", "strconv.ErrRange", "internal/strconv.uint64pow10", "math/bits.deBruijn32tab", "math/bits.deBruijn64tab", "math/bits.divideError", "math/bits.overflowError"], apart := false, laid := [("math/bits.deBruijn32tab", laid_math_bits_deBruijn32tab), ("math/bits.deBruijn64tab", laid_math_bits_deBruijn64tab), ("internal/strconv.uint64pow10", laid_internal_strconv_uint64pow10), ("unicode/utf8.acceptRanges", laid_unicode_utf8_acceptRanges), ("strconv.ErrRange", laid_strconv_ErrRange), ("strconv.ErrSyntax", laid_strconv_ErrSyntax), ("unicode/utf8.first", laid_unicode_utf8_first)] }
def ScaledSignsSaid : Prop := scaledSignsRow.holds Tryd.pinned (OpenSpec.ofChange scaledSignsSpec)

/-- ITS FALSE NEIGHBOUR: 'it returns false'. Refute it at one input. -/
def scaledSignsWrong : ChangeSpec := { name := "scaledSigns", fn := fun _ => fun
  | [d1, d2, d3] => { results := [.lit (.bool false)], args := [d1, d2, d3] }
  | _ => none }
def ScaledSignsWrongFalsely : Prop := scaledSignsRow.holds Tryd.pinned (OpenSpec.ofChange scaledSignsWrong)

/-- 'variorumlaw02.ScaledLaws': WHATEVER THE INPUT: true; the input reads as it did. -/
def scaledLawsSpec : ChangeSpec := { name := "scaledLaws", fn := fun _ => fun
  | [d] => { results := [.lit (.bool true)], args := [d] }
  | _ => none }
def scaledLawsRow : OpenClaim := { program := "ytkjekbgfmkfkjaadoor", sum := "f3fda0710799f91b88468720b6d7ba2e8f2aa1a83b8754ce879a418c8b35c34a", func := "variorum/variorumlaw02.ScaledLaws", spec := "scaledLaws", inPlace := ["internal/bytealg.IndexByteString", "internal/bytealg.IndexString", "math/bits.Add64", "internal/abi.NoEscape"], named := ["internal/bytealg.MaxLen", "unicode/utf8.first", "unicode/utf8.acceptRanges", "strconv.ErrSyntax", "strconv.ErrRange", "internal/strconv.uint64pow10", "math/bits.deBruijn32tab", "math/bits.deBruijn64tab", "math/bits.divideError", "math/bits.overflowError"], apart := false, laid := [("math/bits.deBruijn32tab", laid_math_bits_deBruijn32tab), ("math/bits.deBruijn64tab", laid_math_bits_deBruijn64tab), ("internal/strconv.uint64pow10", laid_internal_strconv_uint64pow10), ("unicode/utf8.acceptRanges", laid_unicode_utf8_acceptRanges), ("strconv.ErrRange", laid_strconv_ErrRange), ("strconv.ErrSyntax", laid_strconv_ErrSyntax), ("unicode/utf8.first", laid_unicode_utf8_first)] }
def ScaledLawsSaid : Prop := scaledLawsRow.holds Tryd.pinned (OpenSpec.ofChange scaledLawsSpec)

/-- ITS FALSE NEIGHBOUR: 'it returns false'. Refute it at one input. -/
def scaledLawsWrong : ChangeSpec := { name := "scaledLaws", fn := fun _ => fun
  | [d] => { results := [.lit (.bool false)], args := [d] }
  | _ => none }
def ScaledLawsWrongFalsely : Prop := scaledLawsRow.holds Tryd.pinned (OpenSpec.ofChange scaledLawsWrong)

/-- 'variorumlaw02.ScaledSums': WHATEVER THE INPUT: true; the input reads as it did. -/
def scaledSumsSpec : ChangeSpec := { name := "scaledSums", fn := fun _ => fun
  | [d] => { results := [.lit (.bool true)], args := [d] }
  | _ => none }
def scaledSumsRow : OpenClaim := { program := "ytkjekbgfmkfkjaadoor", sum := "f3fda0710799f91b88468720b6d7ba2e8f2aa1a83b8754ce879a418c8b35c34a", func := "variorum/variorumlaw02.ScaledSums", spec := "scaledSums", inPlace := ["math/bits.Add64", "internal/bytealg.IndexByteString", "internal/bytealg.IndexString", "internal/abi.NoEscape"], named := ["math/bits.divideError", "math/bits.overflowError", "internal/bytealg.MaxLen", "unicode/utf8.first", "unicode/utf8.acceptRanges", "strconv.ErrSyntax", "strconv.ErrRange", "internal/strconv.uint64pow10", "math/bits.deBruijn32tab", "math/bits.deBruijn64tab"], apart := false, laid := [("math/bits.deBruijn32tab", laid_math_bits_deBruijn32tab), ("math/bits.deBruijn64tab", laid_math_bits_deBruijn64tab), ("internal/strconv.uint64pow10", laid_internal_strconv_uint64pow10), ("unicode/utf8.acceptRanges", laid_unicode_utf8_acceptRanges), ("strconv.ErrRange", laid_strconv_ErrRange), ("strconv.ErrSyntax", laid_strconv_ErrSyntax), ("unicode/utf8.first", laid_unicode_utf8_first)] }
def ScaledSumsSaid : Prop := scaledSumsRow.holds Tryd.pinned (OpenSpec.ofChange scaledSumsSpec)

/-- ITS FALSE NEIGHBOUR: 'it returns false'. Refute it at one input. -/
def scaledSumsWrong : ChangeSpec := { name := "scaledSums", fn := fun _ => fun
  | [d] => { results := [.lit (.bool false)], args := [d] }
  | _ => none }
def ScaledSumsWrongFalsely : Prop := scaledSumsRow.holds Tryd.pinned (OpenSpec.ofChange scaledSumsWrong)

/- THE SECOND FORM. 'bulk': how many values and letters a reading holds, each counted each time it is reached (what is shared counts as often as it is met; a slice's spare places count too). A statement '..UptoSaid' is the law's where the arguments, and the package variables that the reading takes, are together of bulk at most 1048576: NARROWER than '..Said'. Prove '..Said' where nothing that the law and all that it calls make is longer than what came in: it says more and counts as full. Else prove '..UptoSaid'. A law counts once. -/
mutual
def uptoBulk {H : Type} : DataW H → Nat
  | .lit (.string bytes) => bytes.length + 1
  | .lit _ => 1
  | .nil => 1
  | .ptr d => uptoBulk d + 1
  | .slice elems spare => uptoBulkAll elems + uptoBulkAll spare + 1
  | .agg parts => uptoBulkAll parts + 1
  | .iface _ d => uptoBulk d + 1
  | .map entries => uptoBulkEntries entries + 1
  | .held _ => 1
def uptoBulkAll {H : Type} : List (DataW H) → Nat
  | [] => 0
  | d :: r => uptoBulk d + uptoBulkAll r
def uptoBulkEntries {H : Type} : List (Lit × DataW H) → Nat
  | [] => 0
  | x :: r => uptoBulkEntry x + uptoBulkEntries r
def uptoBulkEntry {H : Type} : Lit × DataW H → Nat
  | (.string bytes, d) => bytes.length + uptoBulk d + 1
  | (_, d) => uptoBulk d + 1
 end
def uptoSmall : (H : Type) → List (DataW H) → Bool := fun _ ds => decide (uptoBulkAll ds ≤ 1048576)
def OpenSpec.upto (s : _root_.Go.ChangeSpec) : _root_.Go.OpenSpec := { _root_.Go.OpenSpec.ofChange s with cond := some uptoSmall }

/-- 'variorumlaw13.SiglaLists', WHERE WHAT IT READS IS OF BULK AT MOST 1048576: true; the input reads as it did. -/
def siglaListsUptoRow : OpenClaim := { program := "ytkjekbgfmkfkjaadoor", sum := "f3fda0710799f91b88468720b6d7ba2e8f2aa1a83b8754ce879a418c8b35c34a", func := "variorum/variorumlaw13.SiglaLists", spec := "siglaLists", inPlace := ["internal/bytealg.IndexByteString", "internal/bytealg.IndexString", "internal/abi.NoEscape", "internal/bytealg.MakeNoZero", "internal/bytealg.CountString"], unfollowed := true, recurses := true, named := ["internal/bytealg.MaxLen", "unicode/utf8.first", "unicode/utf8.acceptRanges"], apart := false, laid := [("unicode/utf8.acceptRanges", laid_unicode_utf8_acceptRanges), ("unicode/utf8.first", laid_unicode_utf8_first)], narrowed := true }
def SiglaListsUptoSaid : Prop := siglaListsUptoRow.holds Tryd.pinned (OpenSpec.upto siglaListsSpec)

/-- 'variorumlaw13.SiglaBack', WHERE WHAT IT READS IS OF BULK AT MOST 1048576: true; the input reads as it did. -/
def siglaBackUptoRow : OpenClaim := { program := "ytkjekbgfmkfkjaadoor", sum := "f3fda0710799f91b88468720b6d7ba2e8f2aa1a83b8754ce879a418c8b35c34a", func := "variorum/variorumlaw13.SiglaBack", spec := "siglaBack", inPlace := ["internal/bytealg.IndexByteString", "internal/bytealg.IndexString", "internal/abi.NoEscape", "internal/bytealg.MakeNoZero", "internal/bytealg.CountString"], unfollowed := true, recurses := true, named := ["internal/bytealg.MaxLen", "unicode/utf8.first", "unicode/utf8.acceptRanges"], apart := false, laid := [("unicode/utf8.acceptRanges", laid_unicode_utf8_acceptRanges), ("unicode/utf8.first", laid_unicode_utf8_first)], narrowed := true }
def SiglaBackUptoSaid : Prop := siglaBackUptoRow.holds Tryd.pinned (OpenSpec.upto siglaBackSpec)

/-- 'variorumlaw13.SiglaParts', WHERE WHAT IT READS IS OF BULK AT MOST 1048576: true; the input reads as it did. -/
def siglaPartsUptoRow : OpenClaim := { program := "ytkjekbgfmkfkjaadoor", sum := "f3fda0710799f91b88468720b6d7ba2e8f2aa1a83b8754ce879a418c8b35c34a", func := "variorum/variorumlaw13.SiglaParts", spec := "siglaParts", inPlace := ["internal/bytealg.CountString", "internal/bytealg.IndexByteString", "internal/bytealg.IndexString", "internal/abi.NoEscape", "internal/bytealg.MakeNoZero"], unfollowed := true, recurses := true, named := ["unicode/utf8.first", "unicode/utf8.acceptRanges", "internal/bytealg.MaxLen"], apart := false, laid := [("unicode/utf8.acceptRanges", laid_unicode_utf8_acceptRanges), ("unicode/utf8.first", laid_unicode_utf8_first)], narrowed := true }
def SiglaPartsUptoSaid : Prop := siglaPartsUptoRow.holds Tryd.pinned (OpenSpec.upto siglaPartsSpec)

/-- 'variorumlaw13.SiglaAll', WHERE WHAT IT READS IS OF BULK AT MOST 1048576: true; the input reads as it did. -/
def siglaAllUptoRow : OpenClaim := { program := "ytkjekbgfmkfkjaadoor", sum := "f3fda0710799f91b88468720b6d7ba2e8f2aa1a83b8754ce879a418c8b35c34a", func := "variorum/variorumlaw13.SiglaAll", spec := "siglaAll", inPlace := ["internal/bytealg.IndexByteString", "internal/bytealg.IndexString", "internal/abi.NoEscape", "internal/bytealg.MakeNoZero", "internal/bytealg.CountString"], unfollowed := true, recurses := true, named := ["internal/bytealg.MaxLen", "unicode/utf8.first", "unicode/utf8.acceptRanges"], apart := false, laid := [("unicode/utf8.acceptRanges", laid_unicode_utf8_acceptRanges), ("unicode/utf8.first", laid_unicode_utf8_first)], narrowed := true }
def SiglaAllUptoSaid : Prop := siglaAllUptoRow.holds Tryd.pinned (OpenSpec.upto siglaAllSpec)

/-- 'variorumlaw13.SiglaTables', WHERE WHAT IT READS IS OF BULK AT MOST 1048576: true; the input reads as it did. -/
def siglaTablesUptoRow : OpenClaim := { program := "ytkjekbgfmkfkjaadoor", sum := "f3fda0710799f91b88468720b6d7ba2e8f2aa1a83b8754ce879a418c8b35c34a", func := "variorum/variorumlaw13.SiglaTables", spec := "siglaTables", inPlace := ["internal/bytealg.IndexByteString", "internal/bytealg.IndexString", "internal/abi.NoEscape", "internal/bytealg.MakeNoZero", "internal/bytealg.CountString"], unfollowed := true, recurses := true, named := ["internal/bytealg.MaxLen", "unicode/utf8.first", "unicode/utf8.acceptRanges"], apart := false, laid := [("unicode/utf8.acceptRanges", laid_unicode_utf8_acceptRanges), ("unicode/utf8.first", laid_unicode_utf8_first)], narrowed := true }
def SiglaTablesUptoSaid : Prop := siglaTablesUptoRow.holds Tryd.pinned (OpenSpec.upto siglaTablesSpec)

/-- 'variorumlaw13.SiglaKept', WHERE WHAT IT READS IS OF BULK AT MOST 1048576: true; the input reads as it did. -/
def siglaKeptUptoRow : OpenClaim := { program := "ytkjekbgfmkfkjaadoor", sum := "f3fda0710799f91b88468720b6d7ba2e8f2aa1a83b8754ce879a418c8b35c34a", func := "variorum/variorumlaw13.SiglaKept", spec := "siglaKept", inPlace := ["internal/bytealg.IndexByteString", "internal/bytealg.IndexString", "internal/abi.NoEscape", "internal/bytealg.MakeNoZero", "internal/bytealg.CountString"], unfollowed := true, recurses := true, named := ["internal/bytealg.MaxLen", "unicode/utf8.first", "unicode/utf8.acceptRanges"], apart := false, laid := [("unicode/utf8.acceptRanges", laid_unicode_utf8_acceptRanges), ("unicode/utf8.first", laid_unicode_utf8_first)], narrowed := true }
def SiglaKeptUptoSaid : Prop := siglaKeptUptoRow.holds Tryd.pinned (OpenSpec.upto siglaKeptSpec)

/-- 'variorumlaw02.ScaledTexts', WHERE WHAT IT READS IS OF BULK AT MOST 1048576: true; the input reads as it did. -/
def scaledTextsUptoRow : OpenClaim := { program := "ytkjekbgfmkfkjaadoor", sum := "f3fda0710799f91b88468720b6d7ba2e8f2aa1a83b8754ce879a418c8b35c34a", func := "variorum/variorumlaw02.ScaledTexts", spec := "scaledTexts", inPlace := ["internal/bytealg.IndexByteString", "internal/bytealg.IndexString", "math/bits.Add64", "internal/abi.NoEscape"], named := ["internal/bytealg.MaxLen", "unicode/utf8.first", "unicode/utf8.acceptRanges", "strconv.ErrSyntax", "strconv.ErrRange", "internal/strconv.uint64pow10", "math/bits.deBruijn32tab", "math/bits.deBruijn64tab", "math/bits.divideError", "math/bits.overflowError"], apart := false, laid := [("math/bits.deBruijn32tab", laid_math_bits_deBruijn32tab), ("math/bits.deBruijn64tab", laid_math_bits_deBruijn64tab), ("internal/strconv.uint64pow10", laid_internal_strconv_uint64pow10), ("unicode/utf8.acceptRanges", laid_unicode_utf8_acceptRanges), ("strconv.ErrRange", laid_strconv_ErrRange), ("strconv.ErrSyntax", laid_strconv_ErrSyntax), ("unicode/utf8.first", laid_unicode_utf8_first)], narrowed := true }
def ScaledTextsUptoSaid : Prop := scaledTextsUptoRow.holds Tryd.pinned (OpenSpec.upto scaledTextsSpec)

/-- 'variorumlaw02.ScaledBack', WHERE WHAT IT READS IS OF BULK AT MOST 1048576: true; the input reads as it did. -/
def scaledBackUptoRow : OpenClaim := { program := "ytkjekbgfmkfkjaadoor", sum := "f3fda0710799f91b88468720b6d7ba2e8f2aa1a83b8754ce879a418c8b35c34a", func := "variorum/variorumlaw02.ScaledBack", spec := "scaledBack", inPlace := ["internal/abi.NoEscape", "internal/bytealg.IndexByteString", "internal/bytealg.IndexString", "math/bits.Add64"], named := ["internal/strconv.uint64pow10", "math/bits.deBruijn32tab", "math/bits.deBruijn64tab", "internal/bytealg.MaxLen", "unicode/utf8.first", "unicode/utf8.acceptRanges", "strconv.ErrSyntax", "strconv.ErrRange", "math/bits.divideError", "math/bits.overflowError"], apart := false, laid := [("math/bits.deBruijn32tab", laid_math_bits_deBruijn32tab), ("math/bits.deBruijn64tab", laid_math_bits_deBruijn64tab), ("internal/strconv.uint64pow10", laid_internal_strconv_uint64pow10), ("unicode/utf8.acceptRanges", laid_unicode_utf8_acceptRanges), ("strconv.ErrRange", laid_strconv_ErrRange), ("strconv.ErrSyntax", laid_strconv_ErrSyntax), ("unicode/utf8.first", laid_unicode_utf8_first)], narrowed := true }
def ScaledBackUptoSaid : Prop := scaledBackUptoRow.holds Tryd.pinned (OpenSpec.upto scaledBackSpec)

/-- 'variorumlaw02.ScaledSigns', WHERE WHAT IT READS IS OF BULK AT MOST 1048576: true; the input reads as it did. -/
def scaledSignsUptoRow : OpenClaim := { program := "ytkjekbgfmkfkjaadoor", sum := "f3fda0710799f91b88468720b6d7ba2e8f2aa1a83b8754ce879a418c8b35c34a", func := "variorum/variorumlaw02.ScaledSigns", spec := "scaledSigns", inPlace := ["internal/bytealg.IndexByteString", "internal/bytealg.IndexString", "math/bits.Add64", "internal/abi.NoEscape"], named := ["internal/bytealg.MaxLen", "unicode/utf8.first", "unicode/utf8.acceptRanges", "strconv.ErrSyntax", "strconv.ErrRange", "internal/strconv.uint64pow10", "math/bits.deBruijn32tab", "math/bits.deBruijn64tab", "math/bits.divideError", "math/bits.overflowError"], apart := false, laid := [("math/bits.deBruijn32tab", laid_math_bits_deBruijn32tab), ("math/bits.deBruijn64tab", laid_math_bits_deBruijn64tab), ("internal/strconv.uint64pow10", laid_internal_strconv_uint64pow10), ("unicode/utf8.acceptRanges", laid_unicode_utf8_acceptRanges), ("strconv.ErrRange", laid_strconv_ErrRange), ("strconv.ErrSyntax", laid_strconv_ErrSyntax), ("unicode/utf8.first", laid_unicode_utf8_first)], narrowed := true }
def ScaledSignsUptoSaid : Prop := scaledSignsUptoRow.holds Tryd.pinned (OpenSpec.upto scaledSignsSpec)

/-- 'variorumlaw02.ScaledLaws', WHERE WHAT IT READS IS OF BULK AT MOST 1048576: true; the input reads as it did. -/
def scaledLawsUptoRow : OpenClaim := { program := "ytkjekbgfmkfkjaadoor", sum := "f3fda0710799f91b88468720b6d7ba2e8f2aa1a83b8754ce879a418c8b35c34a", func := "variorum/variorumlaw02.ScaledLaws", spec := "scaledLaws", inPlace := ["internal/bytealg.IndexByteString", "internal/bytealg.IndexString", "math/bits.Add64", "internal/abi.NoEscape"], named := ["internal/bytealg.MaxLen", "unicode/utf8.first", "unicode/utf8.acceptRanges", "strconv.ErrSyntax", "strconv.ErrRange", "internal/strconv.uint64pow10", "math/bits.deBruijn32tab", "math/bits.deBruijn64tab", "math/bits.divideError", "math/bits.overflowError"], apart := false, laid := [("math/bits.deBruijn32tab", laid_math_bits_deBruijn32tab), ("math/bits.deBruijn64tab", laid_math_bits_deBruijn64tab), ("internal/strconv.uint64pow10", laid_internal_strconv_uint64pow10), ("unicode/utf8.acceptRanges", laid_unicode_utf8_acceptRanges), ("strconv.ErrRange", laid_strconv_ErrRange), ("strconv.ErrSyntax", laid_strconv_ErrSyntax), ("unicode/utf8.first", laid_unicode_utf8_first)], narrowed := true }
def ScaledLawsUptoSaid : Prop := scaledLawsUptoRow.holds Tryd.pinned (OpenSpec.upto scaledLawsSpec)

/-- 'variorumlaw02.ScaledSums', WHERE WHAT IT READS IS OF BULK AT MOST 1048576: true; the input reads as it did. -/
def scaledSumsUptoRow : OpenClaim := { program := "ytkjekbgfmkfkjaadoor", sum := "f3fda0710799f91b88468720b6d7ba2e8f2aa1a83b8754ce879a418c8b35c34a", func := "variorum/variorumlaw02.ScaledSums", spec := "scaledSums", inPlace := ["math/bits.Add64", "internal/bytealg.IndexByteString", "internal/bytealg.IndexString", "internal/abi.NoEscape"], named := ["math/bits.divideError", "math/bits.overflowError", "internal/bytealg.MaxLen", "unicode/utf8.first", "unicode/utf8.acceptRanges", "strconv.ErrSyntax", "strconv.ErrRange", "internal/strconv.uint64pow10", "math/bits.deBruijn32tab", "math/bits.deBruijn64tab"], apart := false, laid := [("math/bits.deBruijn32tab", laid_math_bits_deBruijn32tab), ("math/bits.deBruijn64tab", laid_math_bits_deBruijn64tab), ("internal/strconv.uint64pow10", laid_internal_strconv_uint64pow10), ("unicode/utf8.acceptRanges", laid_unicode_utf8_acceptRanges), ("strconv.ErrRange", laid_strconv_ErrRange), ("strconv.ErrSyntax", laid_strconv_ErrSyntax), ("unicode/utf8.first", laid_unicode_utf8_first)], narrowed := true }
def ScaledSumsUptoSaid : Prop := scaledSumsUptoRow.holds Tryd.pinned (OpenSpec.upto scaledSumsSpec)

end Rows
end Go.Proofs.YtkjekbgfmkfkjaaDoor
