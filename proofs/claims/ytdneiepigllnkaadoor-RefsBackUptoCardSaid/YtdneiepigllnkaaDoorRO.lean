/- RefsBack: the walk (printed by genRO.py). -/
import Derived.Test.YtdneiepigllnkaaDoorR3
namespace Go.Proofs.YtdneiepigllnkaaDoor
open Go Go.RowKit Go.Proofs.YtdneiepigllnkaaDoor.DL
set_option linter.unusedVariables false
set_option linter.unusedSimpArgs false

theorem tup_ok (a b : Rf) (k : Bool) (M : Mem) : ∀ t ∈ [a.tv, b.tv, bt k], t.ok M := fun t ht => by
  simp only [List.mem_cons, List.mem_nil_iff, or_false] at ht
  rcases ht with rfl | rfl | rfl
  · exact TV.pure_ok (Rf.pure _)
  · exact TV.pure_ok (Rf.pure _)
  · trivial
theorem dec_back (s : List UInt8) (prev : Rf) (has : Bool) : ∃ C D k, decW s prev has = (C, D, k) ∧ (k = true → fmtW C D prev has = s) := by
  rcases decW_cases s prev has with ⟨C, D, e, h⟩ | e
  · exact ⟨C, D, true, e, fun _ => h.2.2.2.2⟩
  · exact ⟨rf0, rf0, false, e, fun h => by cases h⟩

attribute [local irreducible] DCode DOps OpVal DCalls DCallsM DCallsB thenQ seqQ inBlockQ endQ endQM OpNew DW

def backS (a b prev : Rf) : List WState := [
  (9, [w1, w0, w1, w0, w1, w0, w0, w0, w0, w0, w0, w0], [], []),
  (8, [w1, w1, w1, w0, w1, w0, w0, w0, w0, w0, w0, w0], [sv 17 a], []),
  (8, [w1, w0, w1, w1, w1, w0, w0, w0, w0, w0, w0, w0], [sv 19 b], []),
  (8, [w1, w0, w1, w0, w1, w1, w0, w0, w0, w0, w0, w0], [sv 21 prev], []),
  (8, [w1, w0, w1, w0, w1, w0, w1, w0, w0, w0, w0, w0], [pt 7], [bx 7 rf0]),
  (8, [w1, w0, w1, w0, w1, w0, w0, w1, w0, w0, w0, w0], [pt 8], [bx 8 rf0]),
  (8, [w1, w0, w1, w0, w1, w0, w0, w0, w1, w0, w0, w0], [pt 9], [bx 9 rf0]),
  (7, [w1, w1, w1, w1, w1, w0, w0, w0, w0, w0, w0, w0], [sv 17 a, sv 19 b], []),
  (7, [w1, w1, w1, w0, w1, w1, w0, w0, w0, w0, w0, w0], [sv 17 a, sv 21 prev], []),
  (7, [w1, w1, w1, w0, w1, w0, w1, w0, w0, w0, w0, w0], [sv 17 a, pt 7], [bx 7 rf0]),
  (7, [w1, w1, w1, w0, w1, w0, w0, w1, w0, w0, w0, w0], [sv 17 a, pt 8], [bx 8 rf0]),
  (7, [w1, w1, w1, w0, w1, w0, w0, w0, w1, w0, w0, w0], [sv 17 a, pt 9], [bx 9 rf0]),
  (7, [w1, w0, w1, w1, w1, w1, w0, w0, w0, w0, w0, w0], [sv 19 b, sv 21 prev], []),
  (7, [w1, w0, w1, w1, w1, w0, w1, w0, w0, w0, w0, w0], [sv 19 b, pt 7], [bx 7 rf0]),
  (7, [w1, w0, w1, w1, w1, w0, w0, w1, w0, w0, w0, w0], [sv 19 b, pt 8], [bx 8 rf0]),
  (7, [w1, w0, w1, w1, w1, w0, w0, w0, w1, w0, w0, w0], [sv 19 b, pt 9], [bx 9 rf0]),
  (7, [w1, w0, w1, w0, w1, w1, w1, w0, w0, w0, w0, w0], [sv 21 prev, pt 7], [bx 7 rf0]),
  (7, [w1, w0, w1, w0, w1, w1, w0, w1, w0, w0, w0, w0], [sv 21 prev, pt 8], [bx 8 rf0]),
  (7, [w1, w0, w1, w0, w1, w1, w0, w0, w1, w0, w0, w0], [sv 21 prev, pt 9], [bx 9 rf0]),
  (7, [w1, w0, w1, w0, w1, w0, w1, w1, w0, w0, w0, w0], [pt 7, pt 8], [bx 7 rf0, bx 8 rf0]),
  (7, [w1, w0, w1, w0, w1, w0, w1, w0, w1, w0, w0, w0], [pt 7, pt 9], [bx 7 rf0, bx 9 rf0]),
  (7, [w1, w0, w1, w0, w1, w0, w0, w1, w1, w0, w0, w0], [pt 8, pt 9], [bx 8 rf0, bx 9 rf0]),
  (6, [w1, w1, w1, w1, w1, w1, w0, w0, w0, w0, w0, w0], [sv 17 a, sv 19 b, sv 21 prev], []),
  (6, [w1, w1, w1, w1, w1, w0, w1, w0, w0, w0, w0, w0], [sv 17 a, sv 19 b, pt 7], [bx 7 rf0]),
  (6, [w1, w1, w1, w1, w1, w0, w0, w1, w0, w0, w0, w0], [sv 17 a, sv 19 b, pt 8], [bx 8 rf0]),
  (6, [w1, w1, w1, w1, w1, w0, w0, w0, w1, w0, w0, w0], [sv 17 a, sv 19 b, pt 9], [bx 9 rf0]),
  (6, [w1, w1, w1, w0, w1, w1, w1, w0, w0, w0, w0, w0], [sv 17 a, sv 21 prev, pt 7], [bx 7 rf0]),
  (6, [w1, w1, w1, w0, w1, w1, w0, w1, w0, w0, w0, w0], [sv 17 a, sv 21 prev, pt 8], [bx 8 rf0]),
  (6, [w1, w1, w1, w0, w1, w1, w0, w0, w1, w0, w0, w0], [sv 17 a, sv 21 prev, pt 9], [bx 9 rf0]),
  (6, [w1, w1, w1, w0, w1, w0, w1, w1, w0, w0, w0, w0], [sv 17 a, pt 7, pt 8], [bx 7 rf0, bx 8 rf0]),
  (6, [w1, w1, w1, w0, w1, w0, w1, w0, w1, w0, w0, w0], [sv 17 a, pt 7, pt 9], [bx 7 rf0, bx 9 rf0]),
  (6, [w1, w1, w1, w0, w1, w0, w0, w1, w1, w0, w0, w0], [sv 17 a, pt 8, pt 9], [bx 8 rf0, bx 9 rf0]),
  (6, [w1, w0, w1, w1, w1, w1, w1, w0, w0, w0, w0, w0], [sv 19 b, sv 21 prev, pt 7], [bx 7 rf0]),
  (6, [w1, w0, w1, w1, w1, w1, w0, w1, w0, w0, w0, w0], [sv 19 b, sv 21 prev, pt 8], [bx 8 rf0]),
  (6, [w1, w0, w1, w1, w1, w1, w0, w0, w1, w0, w0, w0], [sv 19 b, sv 21 prev, pt 9], [bx 9 rf0]),
  (6, [w1, w0, w1, w1, w1, w0, w1, w1, w0, w0, w0, w0], [sv 19 b, pt 7, pt 8], [bx 7 rf0, bx 8 rf0]),
  (6, [w1, w0, w1, w1, w1, w0, w1, w0, w1, w0, w0, w0], [sv 19 b, pt 7, pt 9], [bx 7 rf0, bx 9 rf0]),
  (6, [w1, w0, w1, w1, w1, w0, w0, w1, w1, w0, w0, w0], [sv 19 b, pt 8, pt 9], [bx 8 rf0, bx 9 rf0]),
  (6, [w1, w0, w1, w0, w1, w1, w1, w1, w0, w0, w0, w0], [sv 21 prev, pt 7, pt 8], [bx 7 rf0, bx 8 rf0]),
  (6, [w1, w0, w1, w0, w1, w1, w1, w0, w1, w0, w0, w0], [sv 21 prev, pt 7, pt 9], [bx 7 rf0, bx 9 rf0]),
  (6, [w1, w0, w1, w0, w1, w1, w0, w1, w1, w0, w0, w0], [sv 21 prev, pt 8, pt 9], [bx 8 rf0, bx 9 rf0]),
  (6, [w1, w0, w1, w0, w1, w0, w1, w1, w1, w0, w0, w0], [pt 7, pt 8, pt 9], [bx 7 rf0, bx 8 rf0, bx 9 rf0]),
  (5, [w1, w1, w1, w1, w1, w1, w1, w0, w0, w0, w0, w0], [sv 17 a, sv 19 b, sv 21 prev, pt 7], [bx 7 rf0]),
  (5, [w1, w1, w1, w1, w1, w1, w0, w1, w0, w0, w0, w0], [sv 17 a, sv 19 b, sv 21 prev, pt 8], [bx 8 rf0]),
  (5, [w1, w1, w1, w1, w1, w1, w0, w0, w1, w0, w0, w0], [sv 17 a, sv 19 b, sv 21 prev, pt 9], [bx 9 rf0]),
  (5, [w1, w1, w1, w1, w1, w0, w1, w1, w0, w0, w0, w0], [sv 17 a, sv 19 b, pt 7, pt 8], [bx 7 rf0, bx 8 rf0]),
  (5, [w1, w1, w1, w1, w1, w0, w1, w0, w1, w0, w0, w0], [sv 17 a, sv 19 b, pt 7, pt 9], [bx 7 rf0, bx 9 rf0]),
  (5, [w1, w1, w1, w1, w1, w0, w0, w1, w1, w0, w0, w0], [sv 17 a, sv 19 b, pt 8, pt 9], [bx 8 rf0, bx 9 rf0]),
  (5, [w1, w1, w1, w0, w1, w1, w1, w1, w0, w0, w0, w0], [sv 17 a, sv 21 prev, pt 7, pt 8], [bx 7 rf0, bx 8 rf0]),
  (5, [w1, w1, w1, w0, w1, w1, w1, w0, w1, w0, w0, w0], [sv 17 a, sv 21 prev, pt 7, pt 9], [bx 7 rf0, bx 9 rf0]),
  (5, [w1, w1, w1, w0, w1, w1, w0, w1, w1, w0, w0, w0], [sv 17 a, sv 21 prev, pt 8, pt 9], [bx 8 rf0, bx 9 rf0]),
  (5, [w1, w1, w1, w0, w1, w0, w1, w1, w1, w0, w0, w0], [sv 17 a, pt 7, pt 8, pt 9], [bx 7 rf0, bx 8 rf0, bx 9 rf0]),
  (5, [w1, w0, w1, w1, w1, w1, w1, w1, w0, w0, w0, w0], [sv 19 b, sv 21 prev, pt 7, pt 8], [bx 7 rf0, bx 8 rf0]),
  (5, [w1, w0, w1, w1, w1, w1, w1, w0, w1, w0, w0, w0], [sv 19 b, sv 21 prev, pt 7, pt 9], [bx 7 rf0, bx 9 rf0]),
  (5, [w1, w0, w1, w1, w1, w1, w0, w1, w1, w0, w0, w0], [sv 19 b, sv 21 prev, pt 8, pt 9], [bx 8 rf0, bx 9 rf0]),
  (5, [w1, w0, w1, w1, w1, w0, w1, w1, w1, w0, w0, w0], [sv 19 b, pt 7, pt 8, pt 9], [bx 7 rf0, bx 8 rf0, bx 9 rf0]),
  (5, [w1, w0, w1, w0, w1, w1, w1, w1, w1, w0, w0, w0], [sv 21 prev, pt 7, pt 8, pt 9], [bx 7 rf0, bx 8 rf0, bx 9 rf0]),
  (4, [w1, w1, w1, w1, w1, w1, w1, w1, w0, w0, w0, w0], [sv 17 a, sv 19 b, sv 21 prev, pt 7, pt 8], [bx 7 rf0, bx 8 rf0]),
  (4, [w1, w1, w1, w1, w1, w1, w1, w0, w1, w0, w0, w0], [sv 17 a, sv 19 b, sv 21 prev, pt 7, pt 9], [bx 7 rf0, bx 9 rf0]),
  (4, [w1, w1, w1, w1, w1, w1, w0, w1, w1, w0, w0, w0], [sv 17 a, sv 19 b, sv 21 prev, pt 8, pt 9], [bx 8 rf0, bx 9 rf0]),
  (4, [w1, w1, w1, w1, w1, w0, w1, w1, w1, w0, w0, w0], [sv 17 a, sv 19 b, pt 7, pt 8, pt 9], [bx 7 rf0, bx 8 rf0, bx 9 rf0]),
  (4, [w1, w1, w1, w0, w1, w1, w1, w1, w1, w0, w0, w0], [sv 17 a, sv 21 prev, pt 7, pt 8, pt 9], [bx 7 rf0, bx 8 rf0, bx 9 rf0]),
  (4, [w1, w1, w1, w0, w1, w0, w1, w1, w1, w1, w0, w0], [sv 17 a, pt 7, pt 8, pt 9], [bx 7 a, bx 8 rf0, bx 9 rf0]),
  (4, [w1, w0, w1, w1, w1, w1, w1, w1, w1, w0, w0, w0], [sv 19 b, sv 21 prev, pt 7, pt 8, pt 9], [bx 7 rf0, bx 8 rf0, bx 9 rf0]),
  (3, [w1, w1, w1, w1, w1, w1, w1, w1, w1, w0, w0, w0], [sv 17 a, sv 19 b, sv 21 prev, pt 7, pt 8, pt 9], [bx 7 rf0, bx 8 rf0, bx 9 rf0]),
  (3, [w1, w1, w1, w1, w1, w0, w1, w1, w1, w1, w0, w0], [sv 17 a, sv 19 b, pt 7, pt 8, pt 9], [bx 7 a, bx 8 rf0, bx 9 rf0]),
  (3, [w1, w1, w1, w0, w1, w1, w1, w1, w1, w1, w0, w0], [sv 17 a, sv 21 prev, pt 7, pt 8, pt 9], [bx 7 a, bx 8 rf0, bx 9 rf0]),
  (2, [w1, w1, w1, w1, w1, w1, w1, w1, w1, w1, w0, w0], [sv 17 a, sv 19 b, sv 21 prev, pt 7, pt 8, pt 9], [bx 7 a, bx 8 rf0, bx 9 rf0]),
  (2, [w1, w1, w1, w1, w1, w0, w1, w1, w1, w1, w1, w0], [sv 17 a, sv 19 b, pt 7, pt 8, pt 9], [bx 7 a, bx 8 b, bx 9 rf0]),
  (1, [w1, w1, w1, w1, w1, w1, w1, w1, w1, w1, w1, w0], [sv 17 a, sv 19 b, sv 21 prev, pt 7, pt 8, pt 9], [bx 7 a, bx 8 b, bx 9 rf0]),
  (0, [w1, w1, w1, w1, w1, w1, w1, w1, w1, w1, w1, w1], [sv 17 a, sv 19 b, sv 21 prev, pt 7, pt 8, pt 9], [bx 7 a, bx 8 b, bx 9 prev])]
def backS2 (a b prev : Rf) (F : List UInt8) : List WState := [
  (15, [w0, w0, w0, w1, w0, w0, w1, w0, w0, w0, w0, w0, w0, w0, w0, w0, w0], [], []),
  (14, [w1, w0, w0, w1, w0, w0, w1, w0, w0, w0, w0, w0, w0, w0, w0, w0, w0], [sv 77 a], []),
  (14, [w0, w1, w0, w1, w0, w0, w1, w0, w0, w0, w0, w0, w0, w0, w0, w0, w0], [sv 78 b], []),
  (14, [w0, w0, w1, w1, w0, w0, w1, w0, w0, w0, w0, w0, w0, w0, w0, w0, w0], [sv 79 prev], []),
  (14, [w0, w0, w0, w1, w0, w1, w1, w0, w0, w0, w0, w0, w0, w0, w0, w0, w0], [sv 82 prev], []),
  (14, [w0, w0, w0, w1, w0, w0, w1, w0, w0, w0, w0, w0, w1, w0, w0, w0, w0], [pt 13], [bx 13 rf0]),
  (14, [w0, w0, w0, w1, w0, w0, w1, w0, w0, w0, w0, w0, w0, w1, w0, w0, w0], [pt 14], [bx 14 rf0]),
  (13, [w1, w1, w0, w1, w0, w0, w1, w0, w0, w0, w0, w0, w0, w0, w0, w0, w0], [sv 77 a, sv 78 b], []),
  (13, [w1, w0, w1, w1, w0, w0, w1, w0, w0, w0, w0, w0, w0, w0, w0, w0, w0], [sv 77 a, sv 79 prev], []),
  (13, [w1, w0, w0, w1, w0, w1, w1, w0, w0, w0, w0, w0, w0, w0, w0, w0, w0], [sv 77 a, sv 82 prev], []),
  (13, [w1, w0, w0, w1, w0, w0, w1, w0, w0, w0, w0, w0, w1, w0, w0, w0, w0], [sv 77 a, pt 13], [bx 13 rf0]),
  (13, [w1, w0, w0, w1, w0, w0, w1, w0, w0, w0, w0, w0, w0, w1, w0, w0, w0], [sv 77 a, pt 14], [bx 14 rf0]),
  (13, [w0, w1, w1, w1, w0, w0, w1, w0, w0, w0, w0, w0, w0, w0, w0, w0, w0], [sv 78 b, sv 79 prev], []),
  (13, [w0, w1, w0, w1, w0, w1, w1, w0, w0, w0, w0, w0, w0, w0, w0, w0, w0], [sv 78 b, sv 82 prev], []),
  (13, [w0, w1, w0, w1, w0, w0, w1, w0, w0, w0, w0, w0, w1, w0, w0, w0, w0], [sv 78 b, pt 13], [bx 13 rf0]),
  (13, [w0, w1, w0, w1, w0, w0, w1, w0, w0, w0, w0, w0, w0, w1, w0, w0, w0], [sv 78 b, pt 14], [bx 14 rf0]),
  (13, [w0, w0, w1, w1, w0, w1, w1, w0, w0, w0, w0, w0, w0, w0, w0, w0, w0], [sv 79 prev, sv 82 prev], []),
  (13, [w0, w0, w1, w1, w0, w0, w1, w0, w0, w0, w0, w0, w1, w0, w0, w0, w0], [sv 79 prev, pt 13], [bx 13 rf0]),
  (13, [w0, w0, w1, w1, w0, w0, w1, w0, w0, w0, w0, w0, w0, w1, w0, w0, w0], [sv 79 prev, pt 14], [bx 14 rf0]),
  (13, [w0, w0, w0, w1, w0, w1, w1, w0, w0, w0, w0, w0, w1, w0, w0, w0, w0], [sv 82 prev, pt 13], [bx 13 rf0]),
  (13, [w0, w0, w0, w1, w0, w1, w1, w0, w0, w0, w0, w0, w0, w1, w0, w0, w0], [sv 82 prev, pt 14], [bx 14 rf0]),
  (13, [w0, w0, w0, w1, w0, w0, w1, w0, w0, w0, w0, w0, w1, w1, w0, w0, w0], [pt 13, pt 14], [bx 13 rf0, bx 14 rf0]),
  (12, [w1, w1, w1, w1, w0, w0, w1, w0, w0, w0, w0, w0, w0, w0, w0, w0, w0], [sv 77 a, sv 78 b, sv 79 prev], []),
  (12, [w1, w1, w0, w1, w0, w1, w1, w0, w0, w0, w0, w0, w0, w0, w0, w0, w0], [sv 77 a, sv 78 b, sv 82 prev], []),
  (12, [w1, w1, w0, w1, w0, w0, w1, w0, w0, w0, w0, w0, w1, w0, w0, w0, w0], [sv 77 a, sv 78 b, pt 13], [bx 13 rf0]),
  (12, [w1, w1, w0, w1, w0, w0, w1, w0, w0, w0, w0, w0, w0, w1, w0, w0, w0], [sv 77 a, sv 78 b, pt 14], [bx 14 rf0]),
  (12, [w1, w0, w1, w1, w0, w1, w1, w0, w0, w0, w0, w0, w0, w0, w0, w0, w0], [sv 77 a, sv 79 prev, sv 82 prev], []),
  (12, [w1, w0, w1, w1, w0, w0, w1, w0, w0, w0, w0, w0, w1, w0, w0, w0, w0], [sv 77 a, sv 79 prev, pt 13], [bx 13 rf0]),
  (12, [w1, w0, w1, w1, w0, w0, w1, w0, w0, w0, w0, w0, w0, w1, w0, w0, w0], [sv 77 a, sv 79 prev, pt 14], [bx 14 rf0]),
  (12, [w1, w0, w0, w1, w0, w1, w1, w0, w0, w0, w0, w0, w1, w0, w0, w0, w0], [sv 77 a, sv 82 prev, pt 13], [bx 13 rf0]),
  (12, [w1, w0, w0, w1, w0, w1, w1, w0, w0, w0, w0, w0, w0, w1, w0, w0, w0], [sv 77 a, sv 82 prev, pt 14], [bx 14 rf0]),
  (12, [w1, w0, w0, w1, w0, w0, w1, w0, w0, w0, w0, w0, w1, w1, w0, w0, w0], [sv 77 a, pt 13, pt 14], [bx 13 rf0, bx 14 rf0]),
  (12, [w0, w1, w1, w1, w0, w1, w1, w0, w0, w0, w0, w0, w0, w0, w0, w0, w0], [sv 78 b, sv 79 prev, sv 82 prev], []),
  (12, [w0, w1, w1, w1, w0, w0, w1, w0, w0, w0, w0, w0, w1, w0, w0, w0, w0], [sv 78 b, sv 79 prev, pt 13], [bx 13 rf0]),
  (12, [w0, w1, w1, w1, w0, w0, w1, w0, w0, w0, w0, w0, w0, w1, w0, w0, w0], [sv 78 b, sv 79 prev, pt 14], [bx 14 rf0]),
  (12, [w0, w1, w0, w1, w0, w1, w1, w0, w0, w0, w0, w0, w1, w0, w0, w0, w0], [sv 78 b, sv 82 prev, pt 13], [bx 13 rf0]),
  (12, [w0, w1, w0, w1, w0, w1, w1, w0, w0, w0, w0, w0, w0, w1, w0, w0, w0], [sv 78 b, sv 82 prev, pt 14], [bx 14 rf0]),
  (12, [w0, w1, w0, w1, w0, w0, w1, w0, w0, w0, w0, w0, w1, w1, w0, w0, w0], [sv 78 b, pt 13, pt 14], [bx 13 rf0, bx 14 rf0]),
  (12, [w0, w0, w1, w1, w0, w1, w1, w0, w0, w0, w0, w0, w1, w0, w0, w0, w0], [sv 79 prev, sv 82 prev, pt 13], [bx 13 rf0]),
  (12, [w0, w0, w1, w1, w0, w1, w1, w0, w0, w0, w0, w0, w0, w1, w0, w0, w0], [sv 79 prev, sv 82 prev, pt 14], [bx 14 rf0]),
  (12, [w0, w0, w1, w1, w0, w0, w1, w0, w0, w0, w0, w0, w1, w1, w0, w0, w0], [sv 79 prev, pt 13, pt 14], [bx 13 rf0, bx 14 rf0]),
  (12, [w0, w0, w0, w1, w0, w1, w1, w0, w0, w0, w0, w0, w1, w1, w0, w0, w0], [sv 82 prev, pt 13, pt 14], [bx 13 rf0, bx 14 rf0]),
  (11, [w1, w1, w1, w1, w1, w0, w1, w0, w0, w0, w0, w0, w0, w0, w0, w0, w0], [sv 77 a, sv 78 b, sv 79 prev, (81, ret1 [tT F])], []),
  (11, [w1, w1, w1, w1, w0, w1, w1, w0, w0, w0, w0, w0, w0, w0, w0, w0, w0], [sv 77 a, sv 78 b, sv 79 prev, sv 82 prev], []),
  (11, [w1, w1, w1, w1, w0, w0, w1, w0, w0, w0, w0, w0, w1, w0, w0, w0, w0], [sv 77 a, sv 78 b, sv 79 prev, pt 13], [bx 13 rf0]),
  (11, [w1, w1, w1, w1, w0, w0, w1, w0, w0, w0, w0, w0, w0, w1, w0, w0, w0], [sv 77 a, sv 78 b, sv 79 prev, pt 14], [bx 14 rf0]),
  (11, [w1, w1, w0, w1, w0, w1, w1, w0, w0, w0, w0, w0, w1, w0, w0, w0, w0], [sv 77 a, sv 78 b, sv 82 prev, pt 13], [bx 13 rf0]),
  (11, [w1, w1, w0, w1, w0, w1, w1, w0, w0, w0, w0, w0, w0, w1, w0, w0, w0], [sv 77 a, sv 78 b, sv 82 prev, pt 14], [bx 14 rf0]),
  (11, [w1, w1, w0, w1, w0, w0, w1, w0, w0, w0, w0, w0, w1, w1, w0, w0, w0], [sv 77 a, sv 78 b, pt 13, pt 14], [bx 13 rf0, bx 14 rf0]),
  (11, [w1, w0, w1, w1, w0, w1, w1, w0, w0, w0, w0, w0, w1, w0, w0, w0, w0], [sv 77 a, sv 79 prev, sv 82 prev, pt 13], [bx 13 rf0]),
  (11, [w1, w0, w1, w1, w0, w1, w1, w0, w0, w0, w0, w0, w0, w1, w0, w0, w0], [sv 77 a, sv 79 prev, sv 82 prev, pt 14], [bx 14 rf0]),
  (11, [w1, w0, w1, w1, w0, w0, w1, w0, w0, w0, w0, w0, w1, w1, w0, w0, w0], [sv 77 a, sv 79 prev, pt 13, pt 14], [bx 13 rf0, bx 14 rf0]),
  (11, [w1, w0, w0, w1, w0, w1, w1, w0, w0, w0, w0, w0, w1, w1, w0, w0, w0], [sv 77 a, sv 82 prev, pt 13, pt 14], [bx 13 rf0, bx 14 rf0]),
  (11, [w0, w1, w1, w1, w0, w1, w1, w0, w0, w0, w0, w0, w1, w0, w0, w0, w0], [sv 78 b, sv 79 prev, sv 82 prev, pt 13], [bx 13 rf0]),
  (11, [w0, w1, w1, w1, w0, w1, w1, w0, w0, w0, w0, w0, w0, w1, w0, w0, w0], [sv 78 b, sv 79 prev, sv 82 prev, pt 14], [bx 14 rf0]),
  (11, [w0, w1, w1, w1, w0, w0, w1, w0, w0, w0, w0, w0, w1, w1, w0, w0, w0], [sv 78 b, sv 79 prev, pt 13, pt 14], [bx 13 rf0, bx 14 rf0]),
  (11, [w0, w1, w0, w1, w0, w1, w1, w0, w0, w0, w0, w0, w1, w1, w0, w0, w0], [sv 78 b, sv 82 prev, pt 13, pt 14], [bx 13 rf0, bx 14 rf0]),
  (11, [w0, w0, w1, w1, w0, w1, w1, w0, w0, w0, w0, w0, w1, w1, w0, w0, w0], [sv 79 prev, sv 82 prev, pt 13, pt 14], [bx 13 rf0, bx 14 rf0]),
  (10, [w1, w1, w1, w1, w1, w1, w1, w0, w0, w0, w0, w0, w0, w0, w0, w0, w0], [sv 77 a, sv 78 b, sv 79 prev, (81, ret1 [tT F]), sv 82 prev], []),
  (10, [w1, w1, w1, w1, w1, w0, w1, w0, w0, w0, w0, w0, w1, w0, w0, w0, w0], [sv 77 a, sv 78 b, sv 79 prev, (81, ret1 [tT F]), pt 13], [bx 13 rf0]),
  (10, [w1, w1, w1, w1, w1, w0, w1, w0, w0, w0, w0, w0, w0, w1, w0, w0, w0], [sv 77 a, sv 78 b, sv 79 prev, (81, ret1 [tT F]), pt 14], [bx 14 rf0]),
  (10, [w1, w1, w1, w1, w0, w1, w1, w0, w0, w0, w0, w0, w1, w0, w0, w0, w0], [sv 77 a, sv 78 b, sv 79 prev, sv 82 prev, pt 13], [bx 13 rf0]),
  (10, [w1, w1, w1, w1, w0, w1, w1, w0, w0, w0, w0, w0, w0, w1, w0, w0, w0], [sv 77 a, sv 78 b, sv 79 prev, sv 82 prev, pt 14], [bx 14 rf0]),
  (10, [w1, w1, w1, w1, w0, w0, w1, w0, w0, w0, w0, w0, w1, w1, w0, w0, w0], [sv 77 a, sv 78 b, sv 79 prev, pt 13, pt 14], [bx 13 rf0, bx 14 rf0]),
  (10, [w1, w1, w0, w1, w0, w1, w1, w0, w0, w0, w0, w0, w1, w1, w0, w0, w0], [sv 77 a, sv 78 b, sv 82 prev, pt 13, pt 14], [bx 13 rf0, bx 14 rf0]),
  (10, [w1, w0, w1, w1, w0, w1, w1, w0, w0, w0, w0, w0, w1, w1, w0, w0, w0], [sv 77 a, sv 79 prev, sv 82 prev, pt 13, pt 14], [bx 13 rf0, bx 14 rf0]),
  (10, [w0, w1, w1, w1, w0, w1, w1, w0, w0, w0, w0, w0, w1, w1, w0, w0, w0], [sv 78 b, sv 79 prev, sv 82 prev, pt 13, pt 14], [bx 13 rf0, bx 14 rf0]),
  (9, [w1, w1, w1, w1, w1, w1, w1, w1, w0, w0, w0, w0, w0, w0, w0, w0, w0], [sv 77 a, sv 78 b, sv 79 prev, (81, ret1 [tT F]), sv 82 prev, tp 84 a b], []),
  (9, [w1, w1, w1, w1, w1, w1, w1, w0, w0, w0, w0, w0, w1, w0, w0, w0, w0], [sv 77 a, sv 78 b, sv 79 prev, (81, ret1 [tT F]), sv 82 prev, pt 13], [bx 13 rf0]),
  (9, [w1, w1, w1, w1, w1, w1, w1, w0, w0, w0, w0, w0, w0, w1, w0, w0, w0], [sv 77 a, sv 78 b, sv 79 prev, (81, ret1 [tT F]), sv 82 prev, pt 14], [bx 14 rf0]),
  (9, [w1, w1, w1, w1, w1, w0, w1, w0, w0, w0, w0, w0, w1, w1, w0, w0, w0], [sv 77 a, sv 78 b, sv 79 prev, (81, ret1 [tT F]), pt 13, pt 14], [bx 13 rf0, bx 14 rf0]),
  (9, [w1, w1, w1, w1, w0, w1, w1, w0, w0, w0, w0, w0, w1, w1, w0, w0, w0], [sv 77 a, sv 78 b, sv 79 prev, sv 82 prev, pt 13, pt 14], [bx 13 rf0, bx 14 rf0]),
  (8, [w1, w1, w1, w1, w1, w1, w1, w1, w1, w0, w0, w0, w0, w0, w0, w0, w0], [sv 77 a, sv 78 b, sv 79 prev, (81, ret1 [tT F]), sv 82 prev, tp 84 a b, tp 76 a b], []),
  (8, [w1, w1, w1, w1, w1, w1, w1, w1, w0, w0, w0, w0, w1, w0, w0, w0, w0], [sv 77 a, sv 78 b, sv 79 prev, (81, ret1 [tT F]), sv 82 prev, tp 84 a b, pt 13], [bx 13 rf0]),
  (8, [w1, w1, w1, w1, w1, w1, w1, w1, w0, w0, w0, w0, w0, w1, w0, w0, w0], [sv 77 a, sv 78 b, sv 79 prev, (81, ret1 [tT F]), sv 82 prev, tp 84 a b, pt 14], [bx 14 rf0]),
  (8, [w1, w1, w1, w1, w1, w1, w1, w0, w0, w0, w0, w0, w1, w1, w0, w0, w0], [sv 77 a, sv 78 b, sv 79 prev, (81, ret1 [tT F]), sv 82 prev, pt 13, pt 14], [bx 13 rf0, bx 14 rf0]),
  (7, [w1, w1, w1, w1, w1, w1, w1, w1, w1, w1, w0, w0, w0, w0, w0, w0, w0], [sv 77 a, sv 78 b, sv 79 prev, (81, ret1 [tT F]), sv 82 prev, tp 84 a b, tp 76 a b, (85, .v a.tv)], []),
  (7, [w1, w1, w1, w1, w1, w1, w1, w1, w1, w0, w1, w0, w0, w0, w0, w0, w0], [sv 77 a, sv 78 b, sv 79 prev, (81, ret1 [tT F]), sv 82 prev, tp 84 a b, tp 76 a b, (86, .v b.tv)], []),
  (7, [w1, w1, w1, w1, w1, w1, w1, w1, w1, w0, w0, w1, w0, w0, w0, w0, w0], [sv 77 a, sv 78 b, sv 79 prev, (81, ret1 [tT F]), sv 82 prev, tp 84 a b, tp 76 a b, (87, .v (bt true))], []),
  (7, [w1, w1, w1, w1, w1, w1, w1, w1, w1, w0, w0, w0, w1, w0, w0, w0, w0], [sv 77 a, sv 78 b, sv 79 prev, (81, ret1 [tT F]), sv 82 prev, tp 84 a b, tp 76 a b, pt 13], [bx 13 rf0]),
  (7, [w1, w1, w1, w1, w1, w1, w1, w1, w1, w0, w0, w0, w0, w1, w0, w0, w0], [sv 77 a, sv 78 b, sv 79 prev, (81, ret1 [tT F]), sv 82 prev, tp 84 a b, tp 76 a b, pt 14], [bx 14 rf0]),
  (7, [w1, w1, w1, w1, w1, w1, w1, w1, w0, w0, w0, w0, w1, w1, w0, w0, w0], [sv 77 a, sv 78 b, sv 79 prev, (81, ret1 [tT F]), sv 82 prev, tp 84 a b, pt 13, pt 14], [bx 13 rf0, bx 14 rf0]),
  (6, [w1, w1, w1, w1, w1, w1, w1, w1, w1, w1, w1, w0, w0, w0, w0, w0, w0], [sv 77 a, sv 78 b, sv 79 prev, (81, ret1 [tT F]), sv 82 prev, tp 84 a b, tp 76 a b, (85, .v a.tv), (86, .v b.tv)], []),
  (6, [w1, w1, w1, w1, w1, w1, w1, w1, w1, w1, w0, w1, w0, w0, w0, w0, w0], [sv 77 a, sv 78 b, sv 79 prev, (81, ret1 [tT F]), sv 82 prev, tp 84 a b, tp 76 a b, (85, .v a.tv), (87, .v (bt true))], []),
  (6, [w1, w1, w1, w1, w1, w1, w1, w1, w1, w1, w0, w0, w1, w0, w0, w0, w0], [sv 77 a, sv 78 b, sv 79 prev, (81, ret1 [tT F]), sv 82 prev, tp 84 a b, tp 76 a b, (85, .v a.tv), pt 13], [bx 13 rf0]),
  (6, [w1, w1, w1, w1, w1, w1, w1, w1, w1, w1, w0, w0, w0, w1, w0, w0, w0], [sv 77 a, sv 78 b, sv 79 prev, (81, ret1 [tT F]), sv 82 prev, tp 84 a b, tp 76 a b, (85, .v a.tv), pt 14], [bx 14 rf0]),
  (6, [w1, w1, w1, w1, w1, w1, w1, w1, w1, w0, w1, w1, w0, w0, w0, w0, w0], [sv 77 a, sv 78 b, sv 79 prev, (81, ret1 [tT F]), sv 82 prev, tp 84 a b, tp 76 a b, (86, .v b.tv), (87, .v (bt true))], []),
  (6, [w1, w1, w1, w1, w1, w1, w1, w1, w1, w0, w1, w0, w1, w0, w0, w0, w0], [sv 77 a, sv 78 b, sv 79 prev, (81, ret1 [tT F]), sv 82 prev, tp 84 a b, tp 76 a b, (86, .v b.tv), pt 13], [bx 13 rf0]),
  (6, [w1, w1, w1, w1, w1, w1, w1, w1, w1, w0, w1, w0, w0, w1, w0, w0, w0], [sv 77 a, sv 78 b, sv 79 prev, (81, ret1 [tT F]), sv 82 prev, tp 84 a b, tp 76 a b, (86, .v b.tv), pt 14], [bx 14 rf0]),
  (6, [w1, w1, w1, w1, w1, w1, w1, w1, w1, w0, w0, w1, w1, w0, w0, w0, w0], [sv 77 a, sv 78 b, sv 79 prev, (81, ret1 [tT F]), sv 82 prev, tp 84 a b, tp 76 a b, (87, .v (bt true)), pt 13], [bx 13 rf0]),
  (6, [w1, w1, w1, w1, w1, w1, w1, w1, w1, w0, w0, w1, w0, w1, w0, w0, w0], [sv 77 a, sv 78 b, sv 79 prev, (81, ret1 [tT F]), sv 82 prev, tp 84 a b, tp 76 a b, (87, .v (bt true)), pt 14], [bx 14 rf0]),
  (6, [w1, w1, w1, w1, w1, w1, w1, w1, w1, w0, w0, w0, w1, w1, w0, w0, w0], [sv 77 a, sv 78 b, sv 79 prev, (81, ret1 [tT F]), sv 82 prev, tp 84 a b, tp 76 a b, pt 13, pt 14], [bx 13 rf0, bx 14 rf0]),
  (5, [w1, w1, w1, w1, w1, w1, w1, w1, w1, w1, w1, w1, w0, w0, w0, w0, w0], [sv 77 a, sv 78 b, sv 79 prev, (81, ret1 [tT F]), sv 82 prev, tp 84 a b, tp 76 a b, (85, .v a.tv), (86, .v b.tv), (87, .v (bt true))], []),
  (5, [w1, w1, w1, w1, w1, w1, w1, w1, w1, w1, w1, w0, w1, w0, w0, w0, w0], [sv 77 a, sv 78 b, sv 79 prev, (81, ret1 [tT F]), sv 82 prev, tp 84 a b, tp 76 a b, (85, .v a.tv), (86, .v b.tv), pt 13], [bx 13 rf0]),
  (5, [w1, w1, w1, w1, w1, w1, w1, w1, w1, w1, w1, w0, w0, w1, w0, w0, w0], [sv 77 a, sv 78 b, sv 79 prev, (81, ret1 [tT F]), sv 82 prev, tp 84 a b, tp 76 a b, (85, .v a.tv), (86, .v b.tv), pt 14], [bx 14 rf0]),
  (5, [w1, w1, w1, w1, w1, w1, w1, w1, w1, w1, w0, w1, w1, w0, w0, w0, w0], [sv 77 a, sv 78 b, sv 79 prev, (81, ret1 [tT F]), sv 82 prev, tp 84 a b, tp 76 a b, (85, .v a.tv), (87, .v (bt true)), pt 13], [bx 13 rf0]),
  (5, [w1, w1, w1, w1, w1, w1, w1, w1, w1, w1, w0, w1, w0, w1, w0, w0, w0], [sv 77 a, sv 78 b, sv 79 prev, (81, ret1 [tT F]), sv 82 prev, tp 84 a b, tp 76 a b, (85, .v a.tv), (87, .v (bt true)), pt 14], [bx 14 rf0]),
  (5, [w1, w1, w1, w1, w1, w1, w1, w1, w1, w1, w0, w0, w1, w1, w0, w0, w0], [sv 77 a, sv 78 b, sv 79 prev, (81, ret1 [tT F]), sv 82 prev, tp 84 a b, tp 76 a b, (85, .v a.tv), pt 13, pt 14], [bx 13 rf0, bx 14 rf0]),
  (5, [w1, w1, w1, w1, w1, w1, w1, w1, w1, w0, w1, w1, w1, w0, w0, w0, w0], [sv 77 a, sv 78 b, sv 79 prev, (81, ret1 [tT F]), sv 82 prev, tp 84 a b, tp 76 a b, (86, .v b.tv), (87, .v (bt true)), pt 13], [bx 13 rf0]),
  (5, [w1, w1, w1, w1, w1, w1, w1, w1, w1, w0, w1, w1, w0, w1, w0, w0, w0], [sv 77 a, sv 78 b, sv 79 prev, (81, ret1 [tT F]), sv 82 prev, tp 84 a b, tp 76 a b, (86, .v b.tv), (87, .v (bt true)), pt 14], [bx 14 rf0]),
  (5, [w1, w1, w1, w1, w1, w1, w1, w1, w1, w0, w1, w0, w1, w1, w0, w0, w0], [sv 77 a, sv 78 b, sv 79 prev, (81, ret1 [tT F]), sv 82 prev, tp 84 a b, tp 76 a b, (86, .v b.tv), pt 13, pt 14], [bx 13 rf0, bx 14 rf0]),
  (5, [w1, w1, w1, w1, w1, w1, w1, w1, w1, w0, w0, w1, w1, w1, w0, w0, w0], [sv 77 a, sv 78 b, sv 79 prev, (81, ret1 [tT F]), sv 82 prev, tp 84 a b, tp 76 a b, (87, .v (bt true)), pt 13, pt 14], [bx 13 rf0, bx 14 rf0]),
  (4, [w1, w1, w1, w1, w1, w1, w1, w1, w1, w1, w1, w1, w1, w0, w0, w0, w0], [sv 77 a, sv 78 b, sv 79 prev, (81, ret1 [tT F]), sv 82 prev, tp 84 a b, tp 76 a b, (85, .v a.tv), (86, .v b.tv), (87, .v (bt true)), pt 13], [bx 13 rf0]),
  (4, [w1, w1, w1, w1, w1, w1, w1, w1, w1, w1, w1, w1, w0, w1, w0, w0, w0], [sv 77 a, sv 78 b, sv 79 prev, (81, ret1 [tT F]), sv 82 prev, tp 84 a b, tp 76 a b, (85, .v a.tv), (86, .v b.tv), (87, .v (bt true)), pt 14], [bx 14 rf0]),
  (4, [w1, w1, w1, w1, w1, w1, w1, w1, w1, w1, w1, w0, w1, w1, w0, w0, w0], [sv 77 a, sv 78 b, sv 79 prev, (81, ret1 [tT F]), sv 82 prev, tp 84 a b, tp 76 a b, (85, .v a.tv), (86, .v b.tv), pt 13, pt 14], [bx 13 rf0, bx 14 rf0]),
  (4, [w1, w1, w1, w1, w1, w1, w1, w1, w1, w1, w0, w1, w1, w1, w0, w0, w0], [sv 77 a, sv 78 b, sv 79 prev, (81, ret1 [tT F]), sv 82 prev, tp 84 a b, tp 76 a b, (85, .v a.tv), (87, .v (bt true)), pt 13, pt 14], [bx 13 rf0, bx 14 rf0]),
  (4, [w1, w1, w1, w1, w1, w1, w1, w1, w1, w1, w0, w0, w1, w1, w1, w0, w0], [sv 77 a, sv 78 b, sv 79 prev, (81, ret1 [tT F]), sv 82 prev, tp 84 a b, tp 76 a b, (85, .v a.tv), pt 13, pt 14], [bx 13 a, bx 14 rf0]),
  (4, [w1, w1, w1, w1, w1, w1, w1, w1, w1, w0, w1, w1, w1, w1, w0, w0, w0], [sv 77 a, sv 78 b, sv 79 prev, (81, ret1 [tT F]), sv 82 prev, tp 84 a b, tp 76 a b, (86, .v b.tv), (87, .v (bt true)), pt 13, pt 14], [bx 13 rf0, bx 14 rf0]),
  (3, [w1, w1, w1, w1, w1, w1, w1, w1, w1, w1, w1, w1, w1, w1, w0, w0, w0], [sv 77 a, sv 78 b, sv 79 prev, (81, ret1 [tT F]), sv 82 prev, tp 84 a b, tp 76 a b, (85, .v a.tv), (86, .v b.tv), (87, .v (bt true)), pt 13, pt 14], [bx 13 rf0, bx 14 rf0]),
  (3, [w1, w1, w1, w1, w1, w1, w1, w1, w1, w1, w1, w0, w1, w1, w1, w0, w0], [sv 77 a, sv 78 b, sv 79 prev, (81, ret1 [tT F]), sv 82 prev, tp 84 a b, tp 76 a b, (85, .v a.tv), (86, .v b.tv), pt 13, pt 14], [bx 13 a, bx 14 rf0]),
  (3, [w1, w1, w1, w1, w1, w1, w1, w1, w1, w1, w0, w1, w1, w1, w1, w0, w0], [sv 77 a, sv 78 b, sv 79 prev, (81, ret1 [tT F]), sv 82 prev, tp 84 a b, tp 76 a b, (85, .v a.tv), (87, .v (bt true)), pt 13, pt 14], [bx 13 a, bx 14 rf0]),
  (2, [w1, w1, w1, w1, w1, w1, w1, w1, w1, w1, w1, w1, w1, w1, w1, w0, w0], [sv 77 a, sv 78 b, sv 79 prev, (81, ret1 [tT F]), sv 82 prev, tp 84 a b, tp 76 a b, (85, .v a.tv), (86, .v b.tv), (87, .v (bt true)), pt 13, pt 14], [bx 13 a, bx 14 rf0]),
  (2, [w1, w1, w1, w1, w1, w1, w1, w1, w1, w1, w1, w0, w1, w1, w1, w1, w0], [sv 77 a, sv 78 b, sv 79 prev, (81, ret1 [tT F]), sv 82 prev, tp 84 a b, tp 76 a b, (85, .v a.tv), (86, .v b.tv), pt 13, pt 14], [bx 13 a, bx 14 b]),
  (1, [w1, w1, w1, w1, w1, w1, w1, w1, w1, w1, w1, w1, w1, w1, w1, w1, w0], [sv 77 a, sv 78 b, sv 79 prev, (81, ret1 [tT F]), sv 82 prev, tp 84 a b, tp 76 a b, (85, .v a.tv), (86, .v b.tv), (87, .v (bt true)), pt 13, pt 14], [bx 13 a, bx 14 b]),
  (0, [w1, w1, w1, w1, w1, w1, w1, w1, w1, w1, w1, w1, w1, w1, w1, w1, w1], [sv 77 a, sv 78 b, sv 79 prev, (81, ret1 [tT F]), sv 82 prev, tp 84 a b, tp 76 a b, (85, .v a.tv), (86, .v b.tv), (87, .v (bt true)), pt 13, pt 14, (15, .v (bt true))], [bx 13 a, bx 14 b])]

set_option maxRecDepth 10000 in
set_option maxHeartbeats 32000000 in
theorem back_has (a b prev : Rf) (s : List UInt8) (hs : s.length ≤ 4194304) (has : Bool) : DCalls Tryd.prog 10 [tR3 a b prev, bt has, tT s] (fun ts => ts = [bt true]) := by
  refine DCalls.enter tt_ok Tryd.func10 rfl Tryd.ntmps10 (by simp) (by repeat (first | exact pures_nil | refine pures_cons ?_ ?_ | exact trivial | exact pure_aggB rfl | exact arr_pure _ | exact Load.pure _ | exact Area.pure _ | exact dvs_pure _ | exact pure_sc | exact pure_sl)) ?_
  repeat' (first | refine q_seq ?_ | refine q_seqX ?_ | refine q_seqR ?_ | refine q_then ?_ | refine q_thenX ?_ | refine q_thenR ?_ | refine q_block ?_ | refine q_blockX ?_ | refine q_blockY rfl ?_ | refine q_blockR ?_ | refine DCode.seq ?_ | refine DCode.region ?_ | refine DCode.block ?_ | refine DCode.skip ?_ | refine DCode.exit ?_ | refine DCode.ret ?_ | refine DCode.condT rfl ?_ | refine DCode.condF rfl ?_ | refine DCode.condD rfl (fun _ => ?_) (fun _ => ?_) | refine DOps.nil ?_ | refine DOps.off rfl rfl rfl ?_ | first | first | (refine DOps.valE rfl rfl rfl ?_; first | refine ⟨_, (OpVal.ldS tt_ok rfl rfl rfl rfl (Int.toNat_natCast _)), ?_⟩ | refine ⟨_, (OpVal.move rfl rfl), ?_⟩ | refine ⟨_, (OpVal.moveT rfl rfl), ?_⟩ | refine ⟨_, (OpVal.assign rfl rfl), ?_⟩ | refine ⟨_, (OpVal.add rfl rfl rfl (by omega) (by omega)), ?_⟩ | refine ⟨_, (OpVal.sub rfl rfl rfl (by omega) (by omega)), ?_⟩ | refine ⟨_, (OpVal.neg64 rfl rfl (by omega) (by omega)), ?_⟩ | refine ⟨_, (OpVal.arith rfl rfl rfl rfl), ?_⟩ | refine ⟨_, (OpVal.pickT rfl rfl rfl), ?_⟩ | refine ⟨_, (OpVal.pickF rfl rfl rfl), ?_⟩ | refine ⟨_, (OpVal.notB rfl rfl), ?_⟩ | refine ⟨_, (OpVal.extract rfl rfl rfl), ?_⟩ | refine ⟨_, (OpVal.fa tt_ok rfl rfl rfl rfl rfl rfl), ?_⟩ | refine ⟨_, (OpVal.faD tt_ok rfl rfl rfl rfl rfl rfl), ?_⟩ | refine ⟨_, (OpVal.load1 tt_ok rfl rfl rfl rfl rfl rfl), ?_⟩ | refine ⟨_, (OpVal.lenD tt_ok rfl rfl rfl rfl rfl rfl rfl), ?_⟩ | refine ⟨_, (OpVal.iaA tt_ok rfl rfl rfl rfl rfl (by omega) (by omega)), ?_⟩ | refine ⟨_, (OpVal.iaD tt_ok rfl rfl rfl rfl rfl rfl (by omega) (by omega)), ?_⟩ | refine ⟨_, (OpVal.iaDA tt_ok rfl rfl rfl rfl rfl (by omega) (by omega)), ?_⟩ | refine ⟨_, (OpVal.nilCheckP rfl rfl), ?_⟩ | refine ⟨_, (OpVal.nilCheckD rfl rfl), ?_⟩ | refine ⟨_, (OpVal.buildS tt_ok rfl rfl rfl rfl rfl rfl rfl rfl), ?_⟩ | refine ⟨_, (OpVal.buildA tt_ok rfl rfl rfl rfl rfl rfl rfl rfl), ?_⟩ | refine ⟨_, (OpVal.lenT tt_ok rfl rfl rfl rfl rfl rfl rfl), ?_⟩ | refine ⟨_, (OpVal.cat rfl rfl rfl (by (try simp only [List.length_append, List.length_cons, List.length_nil, List.length_take, List.length_drop]); omega)), ?_⟩ | refine ⟨_, (OpVal.lenRow tt_ok rfl rfl rfl rfl rfl rfl rfl rfl), ?_⟩ | refine ⟨_, (OpVal.eqlST rfl rfl rfl (by first | assumption | with_reducible rfl)), ?_⟩ | refine ⟨_, (OpVal.eqlSF rfl rfl rfl (by first | assumption | with_reducible rfl)), ?_⟩ | refine ⟨_, (OpVal.neqST rfl rfl rfl (by first | assumption | with_reducible rfl)), ?_⟩ | refine ⟨_, (OpVal.neqSF rfl rfl rfl (by first | assumption | with_reducible rfl)), ?_⟩) | refine DOps.cmpT rfl rfl rfl rfl rfl rfl rfl (by omega) ?_ | refine DOps.cmpF rfl rfl rfl rfl rfl rfl rfl (by omega) ?_ | refine DOps.boxS rfl rfl rfl rfl rfl rfl ?_ | refine DOps.alS tt_ok rfl rfl rfl rfl rfl rfl rfl ?_ | refine DOps.store tt_ok rfl rfl rfl rfl rfl rfl rfl rfl (Nat.le_of_ble_eq_true rfl) rfl ?_)
  refine DCode.anyW 12 rfl (by kernel_rfl) ?_
  refine DW.takeM 0 rfl (by repeat (first | exact NP.endQ | exact NP.endQM | refine NP.thenQ ?_ | refine NP.seqQ ?_ | refine NP.inBlockQ ?_ | exact fun _ _ _ h => by cases h.1)) (by kernel_rfl) rfl rfl (OpLzM.iaA tt_ok rfl rfl rfl rfl rfl rfl (by decide) (by decide)) rfl ?_
  refine DW.takeM 2 rfl (by repeat (first | exact NP.endQ | exact NP.endQM | refine NP.thenQ ?_ | refine NP.seqQ ?_ | refine NP.inBlockQ ?_ | exact fun _ _ _ h => by cases h.1)) (by kernel_rfl) rfl rfl (OpLzM.iaA tt_ok rfl rfl rfl rfl rfl rfl (by decide) (by decide)) rfl ?_
  refine DW.takeM 4 rfl (by repeat (first | exact NP.endQ | exact NP.endQM | refine NP.thenQ ?_ | refine NP.seqQ ?_ | refine NP.inBlockQ ?_ | exact fun _ _ _ h => by cases h.1)) (by kernel_rfl) rfl rfl (OpLzM.iaA tt_ok rfl rfl rfl rfl rfl rfl (by decide) (by decide)) rfl ?_
  refine DW.web (backS a b prev) [17, 19, 21, 7, 8, 9] [sv 17 a, sv 19 b, sv 21 prev, pt 7, pt 8, pt 9] [bx 7 a, bx 8 b, bx 9 prev] rfl ?_ ?_
  rotate_left
  · intro env' M' hw
    repeat (first | refine q_then ?_ | refine q_thenX ?_ | refine q_block ?_ | refine q_blockX ?_ | refine q_seq ?_ | refine q_seqX ?_)
    refine DCode.weak hw ?_
    have dx := decode_d s prev has hs
    obtain ⟨C, D, k, e, hk⟩ := dec_back s prev has
    rw [e] at dx
    simp only [] at dx
    have cC := format_d C D prev has
    generalize hG : fmtW C D prev has = G at *
    refine DCode.keep [(1, .v (bt has)), (2, .v (tT s)), (7, .v (.one (.ptr 7 0))), (8, .v (.one (.ptr 8 0))), (9, .v (.one (.ptr 9 0)))] (Sub.cons rfl (Sub.cons rfl (Sub.cons rfl (Sub.cons rfl (Sub.cons rfl Sub.nil))))) ?_
    by_cases ma : mayP a
    rotate_left
    · have mA := may_F ma
      cases k
      all_goals
        first | (have hG' := hk rfl) | skip
        repeat' (first | refine q_seq ?_ | refine q_seqX ?_ | refine q_seqR ?_ | refine q_then ?_ | refine q_thenX ?_ | refine q_thenR ?_ | refine q_block ?_ | refine q_blockX ?_ | refine q_blockY rfl ?_ | refine q_blockR ?_ | refine DCode.seq ?_ | refine DCode.region ?_ | refine DCode.block ?_ | refine DCode.skip ?_ | refine DCode.exit ?_ | refine DCode.ret ?_ | refine DCode.condT rfl ?_ | refine DCode.condF rfl ?_ | refine DCode.condD rfl (fun _ => ?_) (fun _ => ?_) | refine DOps.nil ?_ | refine DOps.off rfl rfl rfl ?_ | first | refine DOps.call1 (ts := []) rfl rfl rfl rfl rfl Tryd.func26 rfl (by kernel_rfl) rfl (by repeat (first | exact pures_nil | refine pures_cons ?_ ?_ | exact trivial | exact pure_aggB rfl | exact arr_pure _ | exact Load.pure _ | exact Area.pure _ | exact dvs_pure _ | exact pure_sc | exact pure_sl)) (fixed17_d) ?_ | refine DOps.call1 (ts := [tT s, prev.tv, bt has]) rfl rfl rfl rfl rfl Tryd.func34 rfl (by kernel_rfl) rfl (by repeat (first | exact pures_nil | refine pures_cons ?_ ?_ | exact trivial | exact pure_aggB rfl | exact arr_pure _ | exact Load.pure _ | exact Area.pure _ | exact dvs_pure _ | exact pure_sc | exact pure_sl)) (dx) ?_ | refine DOps.call1 (ts := [C.tv, D.tv, prev.tv, bt has]) rfl rfl rfl rfl rfl Tryd.func27 rfl (by kernel_rfl) rfl (by repeat (first | exact pures_nil | refine pures_cons ?_ ?_ | exact trivial | exact pure_aggB rfl | exact arr_pure _ | exact Load.pure _ | exact Area.pure _ | exact dvs_pure _ | exact pure_sc | exact pure_sl)) (cC) ?_ | refine DOps.call1 (ts := [a.tv]) rfl rfl rfl rfl rfl Tryd.func32 rfl (by kernel_rfl) rfl (by repeat (first | exact pures_nil | refine pures_cons ?_ ?_ | exact trivial | exact pure_aggB rfl | exact arr_pure _ | exact Load.pure _ | exact Area.pure _ | exact dvs_pure _ | exact pure_sc | exact pure_sl)) (mA) ?_ | first | (refine DOps.valE rfl rfl rfl ?_; first | refine ⟨.v a.tv, (OpVal.cast (OpVal.load (b := 7) tt_ok rfl rfl rfl rfl rfl rfl) rfl), ?_⟩ | refine ⟨.v b.tv, (OpVal.cast (OpVal.load (b := 8) tt_ok rfl rfl rfl rfl rfl rfl) rfl), ?_⟩ | refine ⟨.v prev.tv, (OpVal.cast (OpVal.load (b := 9) tt_ok rfl rfl rfl rfl rfl rfl) rfl), ?_⟩ | refine ⟨.v C.tv, (OpVal.cast (OpVal.load (b := 10) tt_ok rfl rfl rfl rfl rfl rfl) rfl), ?_⟩ | refine ⟨.v D.tv, (OpVal.cast (OpVal.load (b := 11) tt_ok rfl rfl rfl rfl rfl rfl) rfl), ?_⟩ | refine ⟨_, (OpVal.ldS tt_ok rfl rfl rfl rfl (Int.toNat_natCast _)), ?_⟩ | refine ⟨_, (OpVal.move rfl rfl), ?_⟩ | refine ⟨_, (OpVal.moveT rfl rfl), ?_⟩ | refine ⟨_, (OpVal.assign rfl rfl), ?_⟩ | refine ⟨_, (OpVal.add rfl rfl rfl (by omega) (by omega)), ?_⟩ | refine ⟨_, (OpVal.sub rfl rfl rfl (by omega) (by omega)), ?_⟩ | refine ⟨_, (OpVal.neg64 rfl rfl (by omega) (by omega)), ?_⟩ | refine ⟨_, (OpVal.arith rfl rfl rfl rfl), ?_⟩ | refine ⟨_, (OpVal.pickT rfl rfl rfl), ?_⟩ | refine ⟨_, (OpVal.pickF rfl rfl rfl), ?_⟩ | refine ⟨_, (OpVal.notB rfl rfl), ?_⟩ | refine ⟨_, (OpVal.extract rfl rfl rfl), ?_⟩ | refine ⟨_, (OpVal.fa tt_ok rfl rfl rfl rfl rfl rfl), ?_⟩ | refine ⟨_, (OpVal.faD tt_ok rfl rfl rfl rfl rfl rfl), ?_⟩ | refine ⟨_, (OpVal.load1 tt_ok rfl rfl rfl rfl rfl rfl), ?_⟩ | refine ⟨_, (OpVal.lenD tt_ok rfl rfl rfl rfl rfl rfl rfl), ?_⟩ | refine ⟨_, (OpVal.iaA tt_ok rfl rfl rfl rfl rfl (by omega) (by omega)), ?_⟩ | refine ⟨_, (OpVal.iaD tt_ok rfl rfl rfl rfl rfl rfl (by omega) (by omega)), ?_⟩ | refine ⟨_, (OpVal.iaDA tt_ok rfl rfl rfl rfl rfl (by omega) (by omega)), ?_⟩ | refine ⟨_, (OpVal.nilCheckP rfl rfl), ?_⟩ | refine ⟨_, (OpVal.nilCheckD rfl rfl), ?_⟩ | refine ⟨_, (OpVal.buildS tt_ok rfl rfl rfl rfl rfl rfl rfl rfl), ?_⟩ | refine ⟨_, (OpVal.buildA tt_ok rfl rfl rfl rfl rfl rfl rfl rfl), ?_⟩ | refine ⟨_, (OpVal.lenT tt_ok rfl rfl rfl rfl rfl rfl rfl), ?_⟩ | refine ⟨_, (OpVal.cat rfl rfl rfl (by (try simp only [List.length_append, List.length_cons, List.length_nil, List.length_take, List.length_drop]); omega)), ?_⟩ | refine ⟨_, (OpVal.lenRow tt_ok rfl rfl rfl rfl rfl rfl rfl rfl), ?_⟩ | refine ⟨_, (OpVal.eqlST rfl rfl rfl (by first | assumption | with_reducible rfl)), ?_⟩ | refine ⟨_, (OpVal.eqlSF rfl rfl rfl (by first | assumption | with_reducible rfl)), ?_⟩ | refine ⟨_, (OpVal.neqST rfl rfl rfl (by first | assumption | with_reducible rfl)), ?_⟩ | refine ⟨_, (OpVal.neqSF rfl rfl rfl (by first | assumption | with_reducible rfl)), ?_⟩) | refine DOps.cmpT rfl rfl rfl rfl rfl rfl rfl (by omega) ?_ | refine DOps.cmpF rfl rfl rfl rfl rfl rfl rfl (by omega) ?_ | refine DOps.boxS rfl rfl rfl rfl rfl rfl ?_ | refine DOps.alS tt_ok rfl rfl rfl rfl rfl rfl rfl ?_ | refine DOps.store tt_ok rfl rfl rfl rfl rfl rfl rfl rfl (Nat.le_of_ble_eq_true rfl) rfl ?_)
        exact endQ.ret rfl (.cons (.tmp rfl) .nil) (pures_cons trivial pures_nil) rfl
    have mA := may_T ma
    by_cases mb : mayP b
    rotate_left
    · have mB := may_F mb
      cases k
      all_goals
        first | (have hG' := hk rfl) | skip
        repeat' (first | refine q_seq ?_ | refine q_seqX ?_ | refine q_seqR ?_ | refine q_then ?_ | refine q_thenX ?_ | refine q_thenR ?_ | refine q_block ?_ | refine q_blockX ?_ | refine q_blockY rfl ?_ | refine q_blockR ?_ | refine DCode.seq ?_ | refine DCode.region ?_ | refine DCode.block ?_ | refine DCode.skip ?_ | refine DCode.exit ?_ | refine DCode.ret ?_ | refine DCode.condT rfl ?_ | refine DCode.condF rfl ?_ | refine DCode.condD rfl (fun _ => ?_) (fun _ => ?_) | refine DOps.nil ?_ | refine DOps.off rfl rfl rfl ?_ | first | refine DOps.call1 (ts := []) rfl rfl rfl rfl rfl Tryd.func26 rfl (by kernel_rfl) rfl (by repeat (first | exact pures_nil | refine pures_cons ?_ ?_ | exact trivial | exact pure_aggB rfl | exact arr_pure _ | exact Load.pure _ | exact Area.pure _ | exact dvs_pure _ | exact pure_sc | exact pure_sl)) (fixed17_d) ?_ | refine DOps.call1 (ts := [tT s, prev.tv, bt has]) rfl rfl rfl rfl rfl Tryd.func34 rfl (by kernel_rfl) rfl (by repeat (first | exact pures_nil | refine pures_cons ?_ ?_ | exact trivial | exact pure_aggB rfl | exact arr_pure _ | exact Load.pure _ | exact Area.pure _ | exact dvs_pure _ | exact pure_sc | exact pure_sl)) (dx) ?_ | refine DOps.call1 (ts := [C.tv, D.tv, prev.tv, bt has]) rfl rfl rfl rfl rfl Tryd.func27 rfl (by kernel_rfl) rfl (by repeat (first | exact pures_nil | refine pures_cons ?_ ?_ | exact trivial | exact pure_aggB rfl | exact arr_pure _ | exact Load.pure _ | exact Area.pure _ | exact dvs_pure _ | exact pure_sc | exact pure_sl)) (cC) ?_ | refine DOps.call1 (ts := [a.tv]) rfl rfl rfl rfl rfl Tryd.func32 rfl (by kernel_rfl) rfl (by repeat (first | exact pures_nil | refine pures_cons ?_ ?_ | exact trivial | exact pure_aggB rfl | exact arr_pure _ | exact Load.pure _ | exact Area.pure _ | exact dvs_pure _ | exact pure_sc | exact pure_sl)) (mA) ?_ | refine DOps.call1 (ts := [b.tv]) rfl rfl rfl rfl rfl Tryd.func32 rfl (by kernel_rfl) rfl (by repeat (first | exact pures_nil | refine pures_cons ?_ ?_ | exact trivial | exact pure_aggB rfl | exact arr_pure _ | exact Load.pure _ | exact Area.pure _ | exact dvs_pure _ | exact pure_sc | exact pure_sl)) (mB) ?_ | first | (refine DOps.valE rfl rfl rfl ?_; first | refine ⟨.v a.tv, (OpVal.cast (OpVal.load (b := 7) tt_ok rfl rfl rfl rfl rfl rfl) rfl), ?_⟩ | refine ⟨.v b.tv, (OpVal.cast (OpVal.load (b := 8) tt_ok rfl rfl rfl rfl rfl rfl) rfl), ?_⟩ | refine ⟨.v prev.tv, (OpVal.cast (OpVal.load (b := 9) tt_ok rfl rfl rfl rfl rfl rfl) rfl), ?_⟩ | refine ⟨.v C.tv, (OpVal.cast (OpVal.load (b := 10) tt_ok rfl rfl rfl rfl rfl rfl) rfl), ?_⟩ | refine ⟨.v D.tv, (OpVal.cast (OpVal.load (b := 11) tt_ok rfl rfl rfl rfl rfl rfl) rfl), ?_⟩ | refine ⟨_, (OpVal.ldS tt_ok rfl rfl rfl rfl (Int.toNat_natCast _)), ?_⟩ | refine ⟨_, (OpVal.move rfl rfl), ?_⟩ | refine ⟨_, (OpVal.moveT rfl rfl), ?_⟩ | refine ⟨_, (OpVal.assign rfl rfl), ?_⟩ | refine ⟨_, (OpVal.add rfl rfl rfl (by omega) (by omega)), ?_⟩ | refine ⟨_, (OpVal.sub rfl rfl rfl (by omega) (by omega)), ?_⟩ | refine ⟨_, (OpVal.neg64 rfl rfl (by omega) (by omega)), ?_⟩ | refine ⟨_, (OpVal.arith rfl rfl rfl rfl), ?_⟩ | refine ⟨_, (OpVal.pickT rfl rfl rfl), ?_⟩ | refine ⟨_, (OpVal.pickF rfl rfl rfl), ?_⟩ | refine ⟨_, (OpVal.notB rfl rfl), ?_⟩ | refine ⟨_, (OpVal.extract rfl rfl rfl), ?_⟩ | refine ⟨_, (OpVal.fa tt_ok rfl rfl rfl rfl rfl rfl), ?_⟩ | refine ⟨_, (OpVal.faD tt_ok rfl rfl rfl rfl rfl rfl), ?_⟩ | refine ⟨_, (OpVal.load1 tt_ok rfl rfl rfl rfl rfl rfl), ?_⟩ | refine ⟨_, (OpVal.lenD tt_ok rfl rfl rfl rfl rfl rfl rfl), ?_⟩ | refine ⟨_, (OpVal.iaA tt_ok rfl rfl rfl rfl rfl (by omega) (by omega)), ?_⟩ | refine ⟨_, (OpVal.iaD tt_ok rfl rfl rfl rfl rfl rfl (by omega) (by omega)), ?_⟩ | refine ⟨_, (OpVal.iaDA tt_ok rfl rfl rfl rfl rfl (by omega) (by omega)), ?_⟩ | refine ⟨_, (OpVal.nilCheckP rfl rfl), ?_⟩ | refine ⟨_, (OpVal.nilCheckD rfl rfl), ?_⟩ | refine ⟨_, (OpVal.buildS tt_ok rfl rfl rfl rfl rfl rfl rfl rfl), ?_⟩ | refine ⟨_, (OpVal.buildA tt_ok rfl rfl rfl rfl rfl rfl rfl rfl), ?_⟩ | refine ⟨_, (OpVal.lenT tt_ok rfl rfl rfl rfl rfl rfl rfl), ?_⟩ | refine ⟨_, (OpVal.cat rfl rfl rfl (by (try simp only [List.length_append, List.length_cons, List.length_nil, List.length_take, List.length_drop]); omega)), ?_⟩ | refine ⟨_, (OpVal.lenRow tt_ok rfl rfl rfl rfl rfl rfl rfl rfl), ?_⟩ | refine ⟨_, (OpVal.eqlST rfl rfl rfl (by first | assumption | with_reducible rfl)), ?_⟩ | refine ⟨_, (OpVal.eqlSF rfl rfl rfl (by first | assumption | with_reducible rfl)), ?_⟩ | refine ⟨_, (OpVal.neqST rfl rfl rfl (by first | assumption | with_reducible rfl)), ?_⟩ | refine ⟨_, (OpVal.neqSF rfl rfl rfl (by first | assumption | with_reducible rfl)), ?_⟩) | refine DOps.cmpT rfl rfl rfl rfl rfl rfl rfl (by omega) ?_ | refine DOps.cmpF rfl rfl rfl rfl rfl rfl rfl (by omega) ?_ | refine DOps.boxS rfl rfl rfl rfl rfl rfl ?_ | refine DOps.alS tt_ok rfl rfl rfl rfl rfl rfl rfl ?_ | refine DOps.store tt_ok rfl rfl rfl rfl rfl rfl rfl rfl (Nat.le_of_ble_eq_true rfl) rfl ?_)
        exact endQ.ret rfl (.cons (.tmp rfl) .nil) (pures_cons trivial pures_nil) rfl
    have mB := may_T mb
    by_cases mp : has = true → mayP prev
    rotate_left
    · obtain ⟨rfl, hp⟩ := Classical.not_imp.1 mp
      have mC := may_F hp
      cases k
      all_goals
        first | (have hG' := hk rfl) | skip
        repeat' (first | refine q_seq ?_ | refine q_seqX ?_ | refine q_seqR ?_ | refine q_then ?_ | refine q_thenX ?_ | refine q_thenR ?_ | refine q_block ?_ | refine q_blockX ?_ | refine q_blockY rfl ?_ | refine q_blockR ?_ | refine DCode.seq ?_ | refine DCode.region ?_ | refine DCode.block ?_ | refine DCode.skip ?_ | refine DCode.exit ?_ | refine DCode.ret ?_ | refine DCode.condT rfl ?_ | refine DCode.condF rfl ?_ | refine DCode.condD rfl (fun _ => ?_) (fun _ => ?_) | refine DOps.nil ?_ | refine DOps.off rfl rfl rfl ?_ | first | refine DOps.call1 (ts := []) rfl rfl rfl rfl rfl Tryd.func26 rfl (by kernel_rfl) rfl (by repeat (first | exact pures_nil | refine pures_cons ?_ ?_ | exact trivial | exact pure_aggB rfl | exact arr_pure _ | exact Load.pure _ | exact Area.pure _ | exact dvs_pure _ | exact pure_sc | exact pure_sl)) (fixed17_d) ?_ | refine DOps.call1 (ts := [tT s, prev.tv, bt true]) rfl rfl rfl rfl rfl Tryd.func34 rfl (by kernel_rfl) rfl (by repeat (first | exact pures_nil | refine pures_cons ?_ ?_ | exact trivial | exact pure_aggB rfl | exact arr_pure _ | exact Load.pure _ | exact Area.pure _ | exact dvs_pure _ | exact pure_sc | exact pure_sl)) (dx) ?_ | refine DOps.call1 (ts := [C.tv, D.tv, prev.tv, bt true]) rfl rfl rfl rfl rfl Tryd.func27 rfl (by kernel_rfl) rfl (by repeat (first | exact pures_nil | refine pures_cons ?_ ?_ | exact trivial | exact pure_aggB rfl | exact arr_pure _ | exact Load.pure _ | exact Area.pure _ | exact dvs_pure _ | exact pure_sc | exact pure_sl)) (cC) ?_ | refine DOps.call1 (ts := [a.tv]) rfl rfl rfl rfl rfl Tryd.func32 rfl (by kernel_rfl) rfl (by repeat (first | exact pures_nil | refine pures_cons ?_ ?_ | exact trivial | exact pure_aggB rfl | exact arr_pure _ | exact Load.pure _ | exact Area.pure _ | exact dvs_pure _ | exact pure_sc | exact pure_sl)) (mA) ?_ | refine DOps.call1 (ts := [b.tv]) rfl rfl rfl rfl rfl Tryd.func32 rfl (by kernel_rfl) rfl (by repeat (first | exact pures_nil | refine pures_cons ?_ ?_ | exact trivial | exact pure_aggB rfl | exact arr_pure _ | exact Load.pure _ | exact Area.pure _ | exact dvs_pure _ | exact pure_sc | exact pure_sl)) (mB) ?_ | refine DOps.call1 (ts := [prev.tv]) rfl rfl rfl rfl rfl Tryd.func32 rfl (by kernel_rfl) rfl (by repeat (first | exact pures_nil | refine pures_cons ?_ ?_ | exact trivial | exact pure_aggB rfl | exact arr_pure _ | exact Load.pure _ | exact Area.pure _ | exact dvs_pure _ | exact pure_sc | exact pure_sl)) (mC) ?_ | first | (refine DOps.valE rfl rfl rfl ?_; first | refine ⟨.v a.tv, (OpVal.cast (OpVal.load (b := 7) tt_ok rfl rfl rfl rfl rfl rfl) rfl), ?_⟩ | refine ⟨.v b.tv, (OpVal.cast (OpVal.load (b := 8) tt_ok rfl rfl rfl rfl rfl rfl) rfl), ?_⟩ | refine ⟨.v prev.tv, (OpVal.cast (OpVal.load (b := 9) tt_ok rfl rfl rfl rfl rfl rfl) rfl), ?_⟩ | refine ⟨.v C.tv, (OpVal.cast (OpVal.load (b := 10) tt_ok rfl rfl rfl rfl rfl rfl) rfl), ?_⟩ | refine ⟨.v D.tv, (OpVal.cast (OpVal.load (b := 11) tt_ok rfl rfl rfl rfl rfl rfl) rfl), ?_⟩ | refine ⟨_, (OpVal.ldS tt_ok rfl rfl rfl rfl (Int.toNat_natCast _)), ?_⟩ | refine ⟨_, (OpVal.move rfl rfl), ?_⟩ | refine ⟨_, (OpVal.moveT rfl rfl), ?_⟩ | refine ⟨_, (OpVal.assign rfl rfl), ?_⟩ | refine ⟨_, (OpVal.add rfl rfl rfl (by omega) (by omega)), ?_⟩ | refine ⟨_, (OpVal.sub rfl rfl rfl (by omega) (by omega)), ?_⟩ | refine ⟨_, (OpVal.neg64 rfl rfl (by omega) (by omega)), ?_⟩ | refine ⟨_, (OpVal.arith rfl rfl rfl rfl), ?_⟩ | refine ⟨_, (OpVal.pickT rfl rfl rfl), ?_⟩ | refine ⟨_, (OpVal.pickF rfl rfl rfl), ?_⟩ | refine ⟨_, (OpVal.notB rfl rfl), ?_⟩ | refine ⟨_, (OpVal.extract rfl rfl rfl), ?_⟩ | refine ⟨_, (OpVal.fa tt_ok rfl rfl rfl rfl rfl rfl), ?_⟩ | refine ⟨_, (OpVal.faD tt_ok rfl rfl rfl rfl rfl rfl), ?_⟩ | refine ⟨_, (OpVal.load1 tt_ok rfl rfl rfl rfl rfl rfl), ?_⟩ | refine ⟨_, (OpVal.lenD tt_ok rfl rfl rfl rfl rfl rfl rfl), ?_⟩ | refine ⟨_, (OpVal.iaA tt_ok rfl rfl rfl rfl rfl (by omega) (by omega)), ?_⟩ | refine ⟨_, (OpVal.iaD tt_ok rfl rfl rfl rfl rfl rfl (by omega) (by omega)), ?_⟩ | refine ⟨_, (OpVal.iaDA tt_ok rfl rfl rfl rfl rfl (by omega) (by omega)), ?_⟩ | refine ⟨_, (OpVal.nilCheckP rfl rfl), ?_⟩ | refine ⟨_, (OpVal.nilCheckD rfl rfl), ?_⟩ | refine ⟨_, (OpVal.buildS tt_ok rfl rfl rfl rfl rfl rfl rfl rfl), ?_⟩ | refine ⟨_, (OpVal.buildA tt_ok rfl rfl rfl rfl rfl rfl rfl rfl), ?_⟩ | refine ⟨_, (OpVal.lenT tt_ok rfl rfl rfl rfl rfl rfl rfl), ?_⟩ | refine ⟨_, (OpVal.cat rfl rfl rfl (by (try simp only [List.length_append, List.length_cons, List.length_nil, List.length_take, List.length_drop]); omega)), ?_⟩ | refine ⟨_, (OpVal.lenRow tt_ok rfl rfl rfl rfl rfl rfl rfl rfl), ?_⟩ | refine ⟨_, (OpVal.eqlST rfl rfl rfl (by first | assumption | with_reducible rfl)), ?_⟩ | refine ⟨_, (OpVal.eqlSF rfl rfl rfl (by first | assumption | with_reducible rfl)), ?_⟩ | refine ⟨_, (OpVal.neqST rfl rfl rfl (by first | assumption | with_reducible rfl)), ?_⟩ | refine ⟨_, (OpVal.neqSF rfl rfl rfl (by first | assumption | with_reducible rfl)), ?_⟩) | refine DOps.cmpT rfl rfl rfl rfl rfl rfl rfl (by omega) ?_ | refine DOps.cmpF rfl rfl rfl rfl rfl rfl rfl (by omega) ?_ | refine DOps.boxS rfl rfl rfl rfl rfl rfl ?_ | refine DOps.alS tt_ok rfl rfl rfl rfl rfl rfl rfl ?_ | refine DOps.store tt_ok rfl rfl rfl rfl rfl rfl rfl rfl (Nat.le_of_ble_eq_true rfl) rfl ?_)
        exact endQ.ret rfl (.cons (.tmp rfl) .nil) (pures_cons trivial pures_nil) rfl
    have c27 := format_d a b prev has
    have hFl := fmtW_len a b prev has
    have c34 := decode_d (fmtW a b prev has) prev has (by omega)
    rw [fmt_back ma mb mp] at c34
    simp only [] at c34
    generalize fmtW a b prev has = F at *
    repeat' (first | refine q_seq ?_ | refine q_seqX ?_ | refine q_seqR ?_ | refine q_then ?_ | refine q_thenX ?_ | refine q_thenR ?_ | refine q_block ?_ | refine q_blockX ?_ | refine q_blockY rfl ?_ | refine q_blockR ?_ | refine DCode.seq ?_ | refine DCode.region ?_ | refine DCode.block ?_ | refine DCode.skip ?_ | refine DCode.exit ?_ | refine DCode.ret ?_ | refine DCode.condT rfl ?_ | refine DCode.condF rfl ?_ | refine DCode.condD rfl (fun _ => ?_) (fun _ => ?_) | refine DOps.nil ?_ | refine DOps.off rfl rfl rfl ?_ | first | refine DOps.call1 (ts := [tT s, prev.tv, bt has]) rfl rfl rfl rfl rfl Tryd.func34 rfl (by kernel_rfl) rfl (by repeat (first | exact pures_nil | refine pures_cons ?_ ?_ | exact trivial | exact pure_aggB rfl | exact arr_pure _ | exact Load.pure _ | exact Area.pure _ | exact dvs_pure _ | exact pure_sc | exact pure_sl)) (dx) ?_ | first | (refine DOps.valE rfl rfl rfl ?_; first | refine ⟨.v a.tv, (OpVal.cast (OpVal.load (b := 7) tt_ok rfl rfl rfl rfl rfl rfl) rfl), ?_⟩ | refine ⟨.v b.tv, (OpVal.cast (OpVal.load (b := 8) tt_ok rfl rfl rfl rfl rfl rfl) rfl), ?_⟩ | refine ⟨.v prev.tv, (OpVal.cast (OpVal.load (b := 9) tt_ok rfl rfl rfl rfl rfl rfl) rfl), ?_⟩ | refine ⟨.v C.tv, (OpVal.cast (OpVal.load (b := 10) tt_ok rfl rfl rfl rfl rfl rfl) rfl), ?_⟩ | refine ⟨.v D.tv, (OpVal.cast (OpVal.load (b := 11) tt_ok rfl rfl rfl rfl rfl rfl) rfl), ?_⟩ | refine ⟨_, (OpVal.ldS tt_ok rfl rfl rfl rfl (Int.toNat_natCast _)), ?_⟩ | refine ⟨_, (OpVal.move rfl rfl), ?_⟩ | refine ⟨_, (OpVal.moveT rfl rfl), ?_⟩ | refine ⟨_, (OpVal.assign rfl rfl), ?_⟩ | refine ⟨_, (OpVal.add rfl rfl rfl (by omega) (by omega)), ?_⟩ | refine ⟨_, (OpVal.sub rfl rfl rfl (by omega) (by omega)), ?_⟩ | refine ⟨_, (OpVal.neg64 rfl rfl (by omega) (by omega)), ?_⟩ | refine ⟨_, (OpVal.arith rfl rfl rfl rfl), ?_⟩ | refine ⟨_, (OpVal.pickT rfl rfl rfl), ?_⟩ | refine ⟨_, (OpVal.pickF rfl rfl rfl), ?_⟩ | refine ⟨_, (OpVal.notB rfl rfl), ?_⟩ | refine ⟨_, (OpVal.extract rfl rfl rfl), ?_⟩ | refine ⟨_, (OpVal.fa tt_ok rfl rfl rfl rfl rfl rfl), ?_⟩ | refine ⟨_, (OpVal.faD tt_ok rfl rfl rfl rfl rfl rfl), ?_⟩ | refine ⟨_, (OpVal.load1 tt_ok rfl rfl rfl rfl rfl rfl), ?_⟩ | refine ⟨_, (OpVal.lenD tt_ok rfl rfl rfl rfl rfl rfl rfl), ?_⟩ | refine ⟨_, (OpVal.iaA tt_ok rfl rfl rfl rfl rfl (by omega) (by omega)), ?_⟩ | refine ⟨_, (OpVal.iaD tt_ok rfl rfl rfl rfl rfl rfl (by omega) (by omega)), ?_⟩ | refine ⟨_, (OpVal.iaDA tt_ok rfl rfl rfl rfl rfl (by omega) (by omega)), ?_⟩ | refine ⟨_, (OpVal.nilCheckP rfl rfl), ?_⟩ | refine ⟨_, (OpVal.nilCheckD rfl rfl), ?_⟩ | refine ⟨_, (OpVal.buildS tt_ok rfl rfl rfl rfl rfl rfl rfl rfl), ?_⟩ | refine ⟨_, (OpVal.buildA tt_ok rfl rfl rfl rfl rfl rfl rfl rfl), ?_⟩ | refine ⟨_, (OpVal.lenT tt_ok rfl rfl rfl rfl rfl rfl rfl), ?_⟩ | refine ⟨_, (OpVal.cat rfl rfl rfl (by (try simp only [List.length_append, List.length_cons, List.length_nil, List.length_take, List.length_drop]); omega)), ?_⟩ | refine ⟨_, (OpVal.lenRow tt_ok rfl rfl rfl rfl rfl rfl rfl rfl), ?_⟩ | refine ⟨_, (OpVal.eqlST rfl rfl rfl (by first | assumption | with_reducible rfl)), ?_⟩ | refine ⟨_, (OpVal.eqlSF rfl rfl rfl (by first | assumption | with_reducible rfl)), ?_⟩ | refine ⟨_, (OpVal.neqST rfl rfl rfl (by first | assumption | with_reducible rfl)), ?_⟩ | refine ⟨_, (OpVal.neqSF rfl rfl rfl (by first | assumption | with_reducible rfl)), ?_⟩) | refine DOps.cmpT rfl rfl rfl rfl rfl rfl rfl (by omega) ?_ | refine DOps.cmpF rfl rfl rfl rfl rfl rfl rfl (by omega) ?_ | refine DOps.boxS rfl rfl rfl rfl rfl rfl ?_ | refine DOps.alS tt_ok rfl rfl rfl rfl rfl rfl rfl ?_ | refine DOps.store tt_ok rfl rfl rfl rfl rfl rfl rfl rfl (Nat.le_of_ble_eq_true rfl) rfl ?_)
    refine DOps.cut [(61, vB false)] [30, 31, 32, 33, 34, 35, 36, 37, 38, 39, 40, 41, 42, 43, 44, 45, 46, 47, 48, 49, 50, 51, 52, 53, 54, 55, 56, 57, 58, 59, 60, 61] [] ⟨trivial, trivial⟩ trivial ?_ ?_
    · cases has
      all_goals cases k
      all_goals
        first | (have hG' := hk rfl) | skip
        first | (have mC := may_T (mp rfl)) | skip
        repeat' (first | refine DOps.nil ?_ | refine DOps.off rfl rfl rfl ?_ | refine DOps.call1 (ts := []) rfl rfl rfl rfl rfl Tryd.func26 rfl (by kernel_rfl) rfl (by repeat (first | exact pures_nil | refine pures_cons ?_ ?_ | exact trivial | exact pure_aggB rfl | exact arr_pure _ | exact Load.pure _ | exact Area.pure _ | exact dvs_pure _ | exact pure_sc | exact pure_sl)) (fixed17_d) ?_ | refine DOps.call1 (ts := [tT s, prev.tv, bt false]) rfl rfl rfl rfl rfl Tryd.func34 rfl (by kernel_rfl) rfl (by repeat (first | exact pures_nil | refine pures_cons ?_ ?_ | exact trivial | exact pure_aggB rfl | exact arr_pure _ | exact Load.pure _ | exact Area.pure _ | exact dvs_pure _ | exact pure_sc | exact pure_sl)) (dx) ?_ | refine DOps.call1 (ts := [C.tv, D.tv, prev.tv, bt false]) rfl rfl rfl rfl rfl Tryd.func27 rfl (by kernel_rfl) rfl (by repeat (first | exact pures_nil | refine pures_cons ?_ ?_ | exact trivial | exact pure_aggB rfl | exact arr_pure _ | exact Load.pure _ | exact Area.pure _ | exact dvs_pure _ | exact pure_sc | exact pure_sl)) (cC) ?_ | refine DOps.call1 (ts := []) rfl rfl rfl rfl rfl Tryd.func26 rfl (by kernel_rfl) rfl (by repeat (first | exact pures_nil | refine pures_cons ?_ ?_ | exact trivial | exact pure_aggB rfl | exact arr_pure _ | exact Load.pure _ | exact Area.pure _ | exact dvs_pure _ | exact pure_sc | exact pure_sl)) (fixed17_d) ?_ | refine DOps.call1 (ts := [tT s, prev.tv, bt true]) rfl rfl rfl rfl rfl Tryd.func34 rfl (by kernel_rfl) rfl (by repeat (first | exact pures_nil | refine pures_cons ?_ ?_ | exact trivial | exact pure_aggB rfl | exact arr_pure _ | exact Load.pure _ | exact Area.pure _ | exact dvs_pure _ | exact pure_sc | exact pure_sl)) (dx) ?_ | refine DOps.call1 (ts := [C.tv, D.tv, prev.tv, bt true]) rfl rfl rfl rfl rfl Tryd.func27 rfl (by kernel_rfl) rfl (by repeat (first | exact pures_nil | refine pures_cons ?_ ?_ | exact trivial | exact pure_aggB rfl | exact arr_pure _ | exact Load.pure _ | exact Area.pure _ | exact dvs_pure _ | exact pure_sc | exact pure_sl)) (cC) ?_ | refine DOps.call1 (ts := [a.tv]) rfl rfl rfl rfl rfl Tryd.func32 rfl (by kernel_rfl) rfl (by repeat (first | exact pures_nil | refine pures_cons ?_ ?_ | exact trivial | exact pure_aggB rfl | exact arr_pure _ | exact Load.pure _ | exact Area.pure _ | exact dvs_pure _ | exact pure_sc | exact pure_sl)) (mA) ?_ | refine DOps.call1 (ts := [b.tv]) rfl rfl rfl rfl rfl Tryd.func32 rfl (by kernel_rfl) rfl (by repeat (first | exact pures_nil | refine pures_cons ?_ ?_ | exact trivial | exact pure_aggB rfl | exact arr_pure _ | exact Load.pure _ | exact Area.pure _ | exact dvs_pure _ | exact pure_sc | exact pure_sl)) (mB) ?_ | refine DOps.call1 (ts := [prev.tv]) rfl rfl rfl rfl rfl Tryd.func32 rfl (by kernel_rfl) rfl (by repeat (first | exact pures_nil | refine pures_cons ?_ ?_ | exact trivial | exact pure_aggB rfl | exact arr_pure _ | exact Load.pure _ | exact Area.pure _ | exact dvs_pure _ | exact pure_sc | exact pure_sl)) (mC) ?_ | first | (refine DOps.valE rfl rfl rfl ?_; first | refine ⟨.v a.tv, (OpVal.cast (OpVal.load (b := 7) tt_ok rfl rfl rfl rfl rfl rfl) rfl), ?_⟩ | refine ⟨.v b.tv, (OpVal.cast (OpVal.load (b := 8) tt_ok rfl rfl rfl rfl rfl rfl) rfl), ?_⟩ | refine ⟨.v prev.tv, (OpVal.cast (OpVal.load (b := 9) tt_ok rfl rfl rfl rfl rfl rfl) rfl), ?_⟩ | refine ⟨.v C.tv, (OpVal.cast (OpVal.load (b := 10) tt_ok rfl rfl rfl rfl rfl rfl) rfl), ?_⟩ | refine ⟨.v D.tv, (OpVal.cast (OpVal.load (b := 11) tt_ok rfl rfl rfl rfl rfl rfl) rfl), ?_⟩ | refine ⟨_, (OpVal.ldS tt_ok rfl rfl rfl rfl (Int.toNat_natCast _)), ?_⟩ | refine ⟨_, (OpVal.move rfl rfl), ?_⟩ | refine ⟨_, (OpVal.moveT rfl rfl), ?_⟩ | refine ⟨_, (OpVal.assign rfl rfl), ?_⟩ | refine ⟨_, (OpVal.add rfl rfl rfl (by omega) (by omega)), ?_⟩ | refine ⟨_, (OpVal.sub rfl rfl rfl (by omega) (by omega)), ?_⟩ | refine ⟨_, (OpVal.neg64 rfl rfl (by omega) (by omega)), ?_⟩ | refine ⟨_, (OpVal.arith rfl rfl rfl rfl), ?_⟩ | refine ⟨_, (OpVal.pickT rfl rfl rfl), ?_⟩ | refine ⟨_, (OpVal.pickF rfl rfl rfl), ?_⟩ | refine ⟨_, (OpVal.notB rfl rfl), ?_⟩ | refine ⟨_, (OpVal.extract rfl rfl rfl), ?_⟩ | refine ⟨_, (OpVal.fa tt_ok rfl rfl rfl rfl rfl rfl), ?_⟩ | refine ⟨_, (OpVal.faD tt_ok rfl rfl rfl rfl rfl rfl), ?_⟩ | refine ⟨_, (OpVal.load1 tt_ok rfl rfl rfl rfl rfl rfl), ?_⟩ | refine ⟨_, (OpVal.lenD tt_ok rfl rfl rfl rfl rfl rfl rfl), ?_⟩ | refine ⟨_, (OpVal.iaA tt_ok rfl rfl rfl rfl rfl (by omega) (by omega)), ?_⟩ | refine ⟨_, (OpVal.iaD tt_ok rfl rfl rfl rfl rfl rfl (by omega) (by omega)), ?_⟩ | refine ⟨_, (OpVal.iaDA tt_ok rfl rfl rfl rfl rfl (by omega) (by omega)), ?_⟩ | refine ⟨_, (OpVal.nilCheckP rfl rfl), ?_⟩ | refine ⟨_, (OpVal.nilCheckD rfl rfl), ?_⟩ | refine ⟨_, (OpVal.buildS tt_ok rfl rfl rfl rfl rfl rfl rfl rfl), ?_⟩ | refine ⟨_, (OpVal.buildA tt_ok rfl rfl rfl rfl rfl rfl rfl rfl), ?_⟩ | refine ⟨_, (OpVal.lenT tt_ok rfl rfl rfl rfl rfl rfl rfl), ?_⟩ | refine ⟨_, (OpVal.cat rfl rfl rfl (by (try simp only [List.length_append, List.length_cons, List.length_nil, List.length_take, List.length_drop]); omega)), ?_⟩ | refine ⟨_, (OpVal.lenRow tt_ok rfl rfl rfl rfl rfl rfl rfl rfl), ?_⟩ | refine ⟨_, (OpVal.eqlST rfl rfl rfl (by first | assumption | with_reducible rfl)), ?_⟩ | refine ⟨_, (OpVal.eqlSF rfl rfl rfl (by first | assumption | with_reducible rfl)), ?_⟩ | refine ⟨_, (OpVal.neqST rfl rfl rfl (by first | assumption | with_reducible rfl)), ?_⟩ | refine ⟨_, (OpVal.neqSF rfl rfl rfl (by first | assumption | with_reducible rfl)), ?_⟩) | refine DOps.cmpT rfl rfl rfl rfl rfl rfl rfl (by omega) ?_ | refine DOps.cmpF rfl rfl rfl rfl rfl rfl rfl (by omega) ?_ | refine DOps.boxS rfl rfl rfl rfl rfl rfl ?_ | refine DOps.alS tt_ok rfl rfl rfl rfl rfl rfl rfl ?_ | refine DOps.store tt_ok rfl rfl rfl rfl rfl rfl rfl rfl (Nat.le_of_ble_eq_true rfl) rfl ?_)
        exact ⟨rfl, by (repeat (first | exact Off.refl _ _ | refine Sub.base ?_ | refine Sub.junk ?_ | refine Sub.cons (by rfl) ?_ | refine Off.cons rfl ?_ | refine Off.junks rfl ?_)), by (repeat (first | exact MSubX.nil | refine MSubX.skip rfl ?_ | refine MSubX.cons (by rfl) ?_))⟩
    · intro env' M' hw
      repeat (first | refine q_then ?_ | refine q_thenX ?_ | refine q_block ?_ | refine q_blockX ?_ | refine q_seq ?_ | refine q_seqX ?_)
      refine DCode.weak hw ?_
      repeat' (first | refine q_seq ?_ | refine q_seqX ?_ | refine q_seqR ?_ | refine q_then ?_ | refine q_thenX ?_ | refine q_thenR ?_ | refine q_block ?_ | refine q_blockX ?_ | refine q_blockY rfl ?_ | refine q_blockR ?_ | refine DCode.seq ?_ | refine DCode.region ?_ | refine DCode.block ?_ | refine DCode.skip ?_ | refine DCode.exit ?_ | refine DCode.ret ?_ | refine DCode.condT rfl ?_ | refine DCode.condF rfl ?_ | refine DCode.condD rfl (fun _ => ?_) (fun _ => ?_) | refine DOps.nil ?_ | refine DOps.off rfl rfl rfl ?_ | first | first | (refine DOps.valE rfl rfl rfl ?_; first | refine ⟨_, (OpVal.ldS tt_ok rfl rfl rfl rfl (Int.toNat_natCast _)), ?_⟩ | refine ⟨_, (OpVal.move rfl rfl), ?_⟩ | refine ⟨_, (OpVal.moveT rfl rfl), ?_⟩ | refine ⟨_, (OpVal.assign rfl rfl), ?_⟩ | refine ⟨_, (OpVal.add rfl rfl rfl (by omega) (by omega)), ?_⟩ | refine ⟨_, (OpVal.sub rfl rfl rfl (by omega) (by omega)), ?_⟩ | refine ⟨_, (OpVal.neg64 rfl rfl (by omega) (by omega)), ?_⟩ | refine ⟨_, (OpVal.arith rfl rfl rfl rfl), ?_⟩ | refine ⟨_, (OpVal.pickT rfl rfl rfl), ?_⟩ | refine ⟨_, (OpVal.pickF rfl rfl rfl), ?_⟩ | refine ⟨_, (OpVal.notB rfl rfl), ?_⟩ | refine ⟨_, (OpVal.extract rfl rfl rfl), ?_⟩ | refine ⟨_, (OpVal.fa tt_ok rfl rfl rfl rfl rfl rfl), ?_⟩ | refine ⟨_, (OpVal.faD tt_ok rfl rfl rfl rfl rfl rfl), ?_⟩ | refine ⟨_, (OpVal.load1 tt_ok rfl rfl rfl rfl rfl rfl), ?_⟩ | refine ⟨_, (OpVal.lenD tt_ok rfl rfl rfl rfl rfl rfl rfl), ?_⟩ | refine ⟨_, (OpVal.iaA tt_ok rfl rfl rfl rfl rfl (by omega) (by omega)), ?_⟩ | refine ⟨_, (OpVal.iaD tt_ok rfl rfl rfl rfl rfl rfl (by omega) (by omega)), ?_⟩ | refine ⟨_, (OpVal.iaDA tt_ok rfl rfl rfl rfl rfl (by omega) (by omega)), ?_⟩ | refine ⟨_, (OpVal.nilCheckP rfl rfl), ?_⟩ | refine ⟨_, (OpVal.nilCheckD rfl rfl), ?_⟩ | refine ⟨_, (OpVal.buildS tt_ok rfl rfl rfl rfl rfl rfl rfl rfl), ?_⟩ | refine ⟨_, (OpVal.buildA tt_ok rfl rfl rfl rfl rfl rfl rfl rfl), ?_⟩ | refine ⟨_, (OpVal.lenT tt_ok rfl rfl rfl rfl rfl rfl rfl), ?_⟩ | refine ⟨_, (OpVal.cat rfl rfl rfl (by (try simp only [List.length_append, List.length_cons, List.length_nil, List.length_take, List.length_drop]); omega)), ?_⟩ | refine ⟨_, (OpVal.lenRow tt_ok rfl rfl rfl rfl rfl rfl rfl rfl), ?_⟩ | refine ⟨_, (OpVal.eqlST rfl rfl rfl (by first | assumption | with_reducible rfl)), ?_⟩ | refine ⟨_, (OpVal.eqlSF rfl rfl rfl (by first | assumption | with_reducible rfl)), ?_⟩ | refine ⟨_, (OpVal.neqST rfl rfl rfl (by first | assumption | with_reducible rfl)), ?_⟩ | refine ⟨_, (OpVal.neqSF rfl rfl rfl (by first | assumption | with_reducible rfl)), ?_⟩) | refine DOps.cmpT rfl rfl rfl rfl rfl rfl rfl (by omega) ?_ | refine DOps.cmpF rfl rfl rfl rfl rfl rfl rfl (by omega) ?_ | refine DOps.boxS rfl rfl rfl rfl rfl rfl ?_ | refine DOps.alS tt_ok rfl rfl rfl rfl rfl rfl rfl ?_ | refine DOps.store tt_ok rfl rfl rfl rfl rfl rfl rfl rfl (Nat.le_of_ble_eq_true rfl) rfl ?_)
      refine DCode.keep [(1, .v (bt has)), (7, .v (.one (.ptr 7 0))), (8, .v (.one (.ptr 8 0))), (9, .v (.one (.ptr 9 0)))] (Sub.cons rfl (Sub.cons rfl (Sub.cons rfl (Sub.cons rfl Sub.nil)))) ?_
      refine DCode.anyW 17 rfl (by kernel_rfl) ?_
      refine DW.take 3 rfl (by repeat (first | exact NP.endQ | exact NP.endQM | refine NP.thenQ ?_ | refine NP.seqQ ?_ | refine NP.inBlockQ ?_ | exact fun _ _ _ h => by cases h.1)) (by kernel_rfl) rfl rfl (OpLz.move rfl rfl rfl rfl) rfl ?_
      refine DW.take 6 rfl (by repeat (first | exact NP.endQ | exact NP.endQM | refine NP.thenQ ?_ | refine NP.seqQ ?_ | refine NP.inBlockQ ?_ | exact fun _ _ _ h => by cases h.1)) (by kernel_rfl) rfl rfl (OpLz.move rfl rfl rfl rfl) rfl ?_
      refine DW.web (backS2 a b prev F) [77, 78, 79, 81, 82, 84, 76, 85, 86, 87, 13, 14, 15] [sv 77 a, sv 78 b, sv 79 prev, (81, ret1 [tT F]), sv 82 prev, tp 84 a b, tp 76 a b, (85, .v a.tv), (86, .v b.tv), (87, .v (bt true)), pt 13, pt 14, (15, .v (bt true))] [bx 13 a, bx 14 b] rfl ?_ ?_
      rotate_left
      · intro env' M' hw
        repeat (first | refine q_then ?_ | refine q_thenX ?_ | refine q_block ?_ | refine q_blockX ?_ | refine q_seq ?_ | refine q_seqX ?_)
        refine DCode.weak hw ?_
        repeat' (first | refine q_seq ?_ | refine q_seqX ?_ | refine q_seqR ?_ | refine q_then ?_ | refine q_thenX ?_ | refine q_thenR ?_ | refine q_block ?_ | refine q_blockX ?_ | refine q_blockY rfl ?_ | refine q_blockR ?_ | refine DCode.seq ?_ | refine DCode.region ?_ | refine DCode.block ?_ | refine DCode.skip ?_ | refine DCode.exit ?_ | refine DCode.ret ?_ | refine DCode.condT rfl ?_ | refine DCode.condF rfl ?_ | refine DCode.condD rfl (fun _ => ?_) (fun _ => ?_) | refine DOps.nil ?_ | refine DOps.off rfl rfl rfl ?_ | first | first | (refine DOps.valE rfl rfl rfl ?_; first | refine ⟨.v a.tv, (OpVal.cast (OpVal.load (b := 13) tt_ok rfl rfl rfl rfl rfl rfl) rfl), ?_⟩ | refine ⟨.v b.tv, (OpVal.cast (OpVal.load (b := 14) tt_ok rfl rfl rfl rfl rfl rfl) rfl), ?_⟩ | refine ⟨.v a.tv, (OpVal.cast (OpVal.load (b := 7) tt_ok rfl rfl rfl rfl rfl rfl) rfl), ?_⟩ | refine ⟨.v b.tv, (OpVal.cast (OpVal.load (b := 8) tt_ok rfl rfl rfl rfl rfl rfl) rfl), ?_⟩ | refine ⟨vB true, (OpVal.eqlA (xs := a.cs) (ys := a.cs) rfl rfl rfl (by kernel_rfl) (rf_eqT rfl)), ?_⟩ | refine ⟨vB true, (OpVal.eqlA (xs := b.cs) (ys := b.cs) rfl rfl rfl (by kernel_rfl) (rf_eqT rfl)), ?_⟩ | refine ⟨_, (OpVal.ldS tt_ok rfl rfl rfl rfl (Int.toNat_natCast _)), ?_⟩ | refine ⟨_, (OpVal.move rfl rfl), ?_⟩ | refine ⟨_, (OpVal.moveT rfl rfl), ?_⟩ | refine ⟨_, (OpVal.assign rfl rfl), ?_⟩ | refine ⟨_, (OpVal.add rfl rfl rfl (by omega) (by omega)), ?_⟩ | refine ⟨_, (OpVal.sub rfl rfl rfl (by omega) (by omega)), ?_⟩ | refine ⟨_, (OpVal.neg64 rfl rfl (by omega) (by omega)), ?_⟩ | refine ⟨_, (OpVal.arith rfl rfl rfl rfl), ?_⟩ | refine ⟨_, (OpVal.pickT rfl rfl rfl), ?_⟩ | refine ⟨_, (OpVal.pickF rfl rfl rfl), ?_⟩ | refine ⟨_, (OpVal.notB rfl rfl), ?_⟩ | refine ⟨_, (OpVal.extract rfl rfl rfl), ?_⟩ | refine ⟨_, (OpVal.fa tt_ok rfl rfl rfl rfl rfl rfl), ?_⟩ | refine ⟨_, (OpVal.faD tt_ok rfl rfl rfl rfl rfl rfl), ?_⟩ | refine ⟨_, (OpVal.load1 tt_ok rfl rfl rfl rfl rfl rfl), ?_⟩ | refine ⟨_, (OpVal.lenD tt_ok rfl rfl rfl rfl rfl rfl rfl), ?_⟩ | refine ⟨_, (OpVal.iaA tt_ok rfl rfl rfl rfl rfl (by omega) (by omega)), ?_⟩ | refine ⟨_, (OpVal.iaD tt_ok rfl rfl rfl rfl rfl rfl (by omega) (by omega)), ?_⟩ | refine ⟨_, (OpVal.iaDA tt_ok rfl rfl rfl rfl rfl (by omega) (by omega)), ?_⟩ | refine ⟨_, (OpVal.nilCheckP rfl rfl), ?_⟩ | refine ⟨_, (OpVal.nilCheckD rfl rfl), ?_⟩ | refine ⟨_, (OpVal.buildS tt_ok rfl rfl rfl rfl rfl rfl rfl rfl), ?_⟩ | refine ⟨_, (OpVal.buildA tt_ok rfl rfl rfl rfl rfl rfl rfl rfl), ?_⟩ | refine ⟨_, (OpVal.lenT tt_ok rfl rfl rfl rfl rfl rfl rfl), ?_⟩ | refine ⟨_, (OpVal.cat rfl rfl rfl (by (try simp only [List.length_append, List.length_cons, List.length_nil, List.length_take, List.length_drop]); omega)), ?_⟩ | refine ⟨_, (OpVal.lenRow tt_ok rfl rfl rfl rfl rfl rfl rfl rfl), ?_⟩ | refine ⟨_, (OpVal.eqlST rfl rfl rfl (by first | assumption | with_reducible rfl)), ?_⟩ | refine ⟨_, (OpVal.eqlSF rfl rfl rfl (by first | assumption | with_reducible rfl)), ?_⟩ | refine ⟨_, (OpVal.neqST rfl rfl rfl (by first | assumption | with_reducible rfl)), ?_⟩ | refine ⟨_, (OpVal.neqSF rfl rfl rfl (by first | assumption | with_reducible rfl)), ?_⟩) | refine DOps.cmpT rfl rfl rfl rfl rfl rfl rfl (by omega) ?_ | refine DOps.cmpF rfl rfl rfl rfl rfl rfl rfl (by omega) ?_ | refine DOps.boxS rfl rfl rfl rfl rfl rfl ?_ | refine DOps.alS tt_ok rfl rfl rfl rfl rfl rfl rfl ?_ | refine DOps.store tt_ok rfl rfl rfl rfl rfl rfl rfl rfl (Nat.le_of_ble_eq_true rfl) rfl ?_)
        exact endQ.ret rfl (.cons (.tmp rfl) .nil) (pures_cons trivial pures_nil) rfl
      refine WebN.cons rfl trivial trivial (.cons 1 rfl rfl rfl rfl ?_ (.cons 2 rfl rfl rfl rfl ?_ (.cons 3 rfl rfl rfl rfl ?_ (.cons 4 rfl rfl rfl rfl ?_ (.cons 5 rfl rfl rfl rfl ?_ (.cons 6 rfl rfl rfl rfl ?_ WAlts.nil)))))) ?_
      rotate_left 6
      refine WebN.cons rfl ⟨(rk _ _), trivial⟩ trivial (.cons 7 rfl rfl rfl rfl ?_ (.cons 8 rfl rfl rfl rfl ?_ (.cons 9 rfl rfl rfl rfl ?_ (.cons 10 rfl rfl rfl rfl ?_ (.cons 11 rfl rfl rfl rfl ?_ WAlts.nil))))) ?_
      rotate_left 5
      refine WebN.cons rfl ⟨(rk _ _), trivial⟩ trivial (.cons 7 rfl rfl rfl rfl ?_ (.cons 12 rfl rfl rfl rfl ?_ (.cons 13 rfl rfl rfl rfl ?_ (.cons 14 rfl rfl rfl rfl ?_ (.cons 15 rfl rfl rfl rfl ?_ WAlts.nil))))) ?_
      rotate_left 5
      refine WebN.cons rfl ⟨(rk _ _), trivial⟩ trivial (.cons 8 rfl rfl rfl rfl ?_ (.cons 12 rfl rfl rfl rfl ?_ (.cons 16 rfl rfl rfl rfl ?_ (.cons 17 rfl rfl rfl rfl ?_ (.cons 18 rfl rfl rfl rfl ?_ WAlts.nil))))) ?_
      rotate_left 5
      refine WebN.cons rfl ⟨(rk _ _), trivial⟩ trivial (.cons 9 rfl rfl rfl rfl ?_ (.cons 13 rfl rfl rfl rfl ?_ (.cons 16 rfl rfl rfl rfl ?_ (.cons 19 rfl rfl rfl rfl ?_ (.cons 20 rfl rfl rfl rfl ?_ WAlts.nil))))) ?_
      rotate_left 5
      refine WebN.cons rfl ⟨(pk rfl), trivial⟩ ⟨(bk rf0 _), trivial⟩ (.cons 10 rfl rfl rfl rfl ?_ (.cons 14 rfl rfl rfl rfl ?_ (.cons 17 rfl rfl rfl rfl ?_ (.cons 19 rfl rfl rfl rfl ?_ (.cons 21 rfl rfl rfl rfl ?_ WAlts.nil))))) ?_
      rotate_left 5
      refine WebN.cons rfl ⟨(pk rfl), trivial⟩ ⟨(bk rf0 _), trivial⟩ (.cons 11 rfl rfl rfl rfl ?_ (.cons 15 rfl rfl rfl rfl ?_ (.cons 18 rfl rfl rfl rfl ?_ (.cons 20 rfl rfl rfl rfl ?_ (.cons 21 rfl rfl rfl rfl ?_ WAlts.nil))))) ?_
      rotate_left 5
      refine WebN.cons rfl ⟨(rk _ _), (rk _ _), trivial⟩ trivial (.cons 22 rfl rfl rfl rfl ?_ (.cons 23 rfl rfl rfl rfl ?_ (.cons 24 rfl rfl rfl rfl ?_ (.cons 25 rfl rfl rfl rfl ?_ WAlts.nil)))) ?_
      rotate_left 4
      refine WebN.cons rfl ⟨(rk _ _), (rk _ _), trivial⟩ trivial (.cons 22 rfl rfl rfl rfl ?_ (.cons 26 rfl rfl rfl rfl ?_ (.cons 27 rfl rfl rfl rfl ?_ (.cons 28 rfl rfl rfl rfl ?_ WAlts.nil)))) ?_
      rotate_left 4
      refine WebN.cons rfl ⟨(rk _ _), (rk _ _), trivial⟩ trivial (.cons 23 rfl rfl rfl rfl ?_ (.cons 26 rfl rfl rfl rfl ?_ (.cons 29 rfl rfl rfl rfl ?_ (.cons 30 rfl rfl rfl rfl ?_ WAlts.nil)))) ?_
      rotate_left 4
      refine WebN.cons rfl ⟨(rk _ _), (pk rfl), trivial⟩ ⟨(bk rf0 _), trivial⟩ (.cons 24 rfl rfl rfl rfl ?_ (.cons 27 rfl rfl rfl rfl ?_ (.cons 29 rfl rfl rfl rfl ?_ (.cons 31 rfl rfl rfl rfl ?_ WAlts.nil)))) ?_
      rotate_left 4
      refine WebN.cons rfl ⟨(rk _ _), (pk rfl), trivial⟩ ⟨(bk rf0 _), trivial⟩ (.cons 25 rfl rfl rfl rfl ?_ (.cons 28 rfl rfl rfl rfl ?_ (.cons 30 rfl rfl rfl rfl ?_ (.cons 31 rfl rfl rfl rfl ?_ WAlts.nil)))) ?_
      rotate_left 4
      refine WebN.cons rfl ⟨(rk _ _), (rk _ _), trivial⟩ trivial (.cons 22 rfl rfl rfl rfl ?_ (.cons 32 rfl rfl rfl rfl ?_ (.cons 33 rfl rfl rfl rfl ?_ (.cons 34 rfl rfl rfl rfl ?_ WAlts.nil)))) ?_
      rotate_left 4
      refine WebN.cons rfl ⟨(rk _ _), (rk _ _), trivial⟩ trivial (.cons 23 rfl rfl rfl rfl ?_ (.cons 32 rfl rfl rfl rfl ?_ (.cons 35 rfl rfl rfl rfl ?_ (.cons 36 rfl rfl rfl rfl ?_ WAlts.nil)))) ?_
      rotate_left 4
      refine WebN.cons rfl ⟨(rk _ _), (pk rfl), trivial⟩ ⟨(bk rf0 _), trivial⟩ (.cons 24 rfl rfl rfl rfl ?_ (.cons 33 rfl rfl rfl rfl ?_ (.cons 35 rfl rfl rfl rfl ?_ (.cons 37 rfl rfl rfl rfl ?_ WAlts.nil)))) ?_
      rotate_left 4
      refine WebN.cons rfl ⟨(rk _ _), (pk rfl), trivial⟩ ⟨(bk rf0 _), trivial⟩ (.cons 25 rfl rfl rfl rfl ?_ (.cons 34 rfl rfl rfl rfl ?_ (.cons 36 rfl rfl rfl rfl ?_ (.cons 37 rfl rfl rfl rfl ?_ WAlts.nil)))) ?_
      rotate_left 4
      refine WebN.cons rfl ⟨(rk _ _), (rk _ _), trivial⟩ trivial (.cons 26 rfl rfl rfl rfl ?_ (.cons 32 rfl rfl rfl rfl ?_ (.cons 38 rfl rfl rfl rfl ?_ (.cons 39 rfl rfl rfl rfl ?_ WAlts.nil)))) ?_
      rotate_left 4
      refine WebN.cons rfl ⟨(rk _ _), (pk rfl), trivial⟩ ⟨(bk rf0 _), trivial⟩ (.cons 27 rfl rfl rfl rfl ?_ (.cons 33 rfl rfl rfl rfl ?_ (.cons 38 rfl rfl rfl rfl ?_ (.cons 40 rfl rfl rfl rfl ?_ WAlts.nil)))) ?_
      rotate_left 4
      refine WebN.cons rfl ⟨(rk _ _), (pk rfl), trivial⟩ ⟨(bk rf0 _), trivial⟩ (.cons 28 rfl rfl rfl rfl ?_ (.cons 34 rfl rfl rfl rfl ?_ (.cons 39 rfl rfl rfl rfl ?_ (.cons 40 rfl rfl rfl rfl ?_ WAlts.nil)))) ?_
      rotate_left 4
      refine WebN.cons rfl ⟨(rk _ _), (pk rfl), trivial⟩ ⟨(bk rf0 _), trivial⟩ (.cons 29 rfl rfl rfl rfl ?_ (.cons 35 rfl rfl rfl rfl ?_ (.cons 38 rfl rfl rfl rfl ?_ (.cons 41 rfl rfl rfl rfl ?_ WAlts.nil)))) ?_
      rotate_left 4
      refine WebN.cons rfl ⟨(rk _ _), (pk rfl), trivial⟩ ⟨(bk rf0 _), trivial⟩ (.cons 30 rfl rfl rfl rfl ?_ (.cons 36 rfl rfl rfl rfl ?_ (.cons 39 rfl rfl rfl rfl ?_ (.cons 41 rfl rfl rfl rfl ?_ WAlts.nil)))) ?_
      rotate_left 4
      refine WebN.cons rfl ⟨(pk rfl), (pk rfl), trivial⟩ ⟨(bk rf0 _), (bk rf0 _), trivial⟩ (.cons 31 rfl rfl rfl rfl ?_ (.cons 37 rfl rfl rfl rfl ?_ (.cons 40 rfl rfl rfl rfl ?_ (.cons 41 rfl rfl rfl rfl ?_ WAlts.nil)))) ?_
      rotate_left 4
      refine WebN.cons rfl ⟨(rk _ _), (rk _ _), (rk _ _), trivial⟩ trivial (.cons 42 rfl rfl rfl rfl ?_ (.cons 43 rfl rfl rfl rfl ?_ (.cons 44 rfl rfl rfl rfl ?_ (.cons 45 rfl rfl rfl rfl ?_ WAlts.nil)))) ?_
      rotate_left 4
      refine WebN.cons rfl ⟨(rk _ _), (rk _ _), (rk _ _), trivial⟩ trivial (.cons 43 rfl rfl rfl rfl ?_ (.cons 46 rfl rfl rfl rfl ?_ (.cons 47 rfl rfl rfl rfl ?_ WAlts.nil))) ?_
      rotate_left 3
      refine WebN.cons rfl ⟨(rk _ _), (rk _ _), (pk rfl), trivial⟩ ⟨(bk rf0 _), trivial⟩ (.cons 44 rfl rfl rfl rfl ?_ (.cons 46 rfl rfl rfl rfl ?_ (.cons 48 rfl rfl rfl rfl ?_ WAlts.nil))) ?_
      rotate_left 3
      refine WebN.cons rfl ⟨(rk _ _), (rk _ _), (pk rfl), trivial⟩ ⟨(bk rf0 _), trivial⟩ (.cons 45 rfl rfl rfl rfl ?_ (.cons 47 rfl rfl rfl rfl ?_ (.cons 48 rfl rfl rfl rfl ?_ WAlts.nil))) ?_
      rotate_left 3
      refine WebN.cons rfl ⟨(rk _ _), (rk _ _), (rk _ _), trivial⟩ trivial (.cons 43 rfl rfl rfl rfl ?_ (.cons 49 rfl rfl rfl rfl ?_ (.cons 50 rfl rfl rfl rfl ?_ WAlts.nil))) ?_
      rotate_left 3
      refine WebN.cons rfl ⟨(rk _ _), (rk _ _), (pk rfl), trivial⟩ ⟨(bk rf0 _), trivial⟩ (.cons 44 rfl rfl rfl rfl ?_ (.cons 49 rfl rfl rfl rfl ?_ (.cons 51 rfl rfl rfl rfl ?_ WAlts.nil))) ?_
      rotate_left 3
      refine WebN.cons rfl ⟨(rk _ _), (rk _ _), (pk rfl), trivial⟩ ⟨(bk rf0 _), trivial⟩ (.cons 45 rfl rfl rfl rfl ?_ (.cons 50 rfl rfl rfl rfl ?_ (.cons 51 rfl rfl rfl rfl ?_ WAlts.nil))) ?_
      rotate_left 3
      refine WebN.cons rfl ⟨(rk _ _), (rk _ _), (pk rfl), trivial⟩ ⟨(bk rf0 _), trivial⟩ (.cons 46 rfl rfl rfl rfl ?_ (.cons 49 rfl rfl rfl rfl ?_ (.cons 52 rfl rfl rfl rfl ?_ WAlts.nil))) ?_
      rotate_left 3
      refine WebN.cons rfl ⟨(rk _ _), (rk _ _), (pk rfl), trivial⟩ ⟨(bk rf0 _), trivial⟩ (.cons 47 rfl rfl rfl rfl ?_ (.cons 50 rfl rfl rfl rfl ?_ (.cons 52 rfl rfl rfl rfl ?_ WAlts.nil))) ?_
      rotate_left 3
      refine WebN.cons rfl ⟨(rk _ _), (pk rfl), (pk rfl), trivial⟩ ⟨(bk rf0 _), (bk rf0 _), trivial⟩ (.cons 48 rfl rfl rfl rfl ?_ (.cons 51 rfl rfl rfl rfl ?_ (.cons 52 rfl rfl rfl rfl ?_ WAlts.nil))) ?_
      rotate_left 3
      refine WebN.cons rfl ⟨(rk _ _), (rk _ _), (rk _ _), trivial⟩ trivial (.cons 43 rfl rfl rfl rfl ?_ (.cons 53 rfl rfl rfl rfl ?_ (.cons 54 rfl rfl rfl rfl ?_ WAlts.nil))) ?_
      rotate_left 3
      refine WebN.cons rfl ⟨(rk _ _), (rk _ _), (pk rfl), trivial⟩ ⟨(bk rf0 _), trivial⟩ (.cons 44 rfl rfl rfl rfl ?_ (.cons 53 rfl rfl rfl rfl ?_ (.cons 55 rfl rfl rfl rfl ?_ WAlts.nil))) ?_
      rotate_left 3
      refine WebN.cons rfl ⟨(rk _ _), (rk _ _), (pk rfl), trivial⟩ ⟨(bk rf0 _), trivial⟩ (.cons 45 rfl rfl rfl rfl ?_ (.cons 54 rfl rfl rfl rfl ?_ (.cons 55 rfl rfl rfl rfl ?_ WAlts.nil))) ?_
      rotate_left 3
      refine WebN.cons rfl ⟨(rk _ _), (rk _ _), (pk rfl), trivial⟩ ⟨(bk rf0 _), trivial⟩ (.cons 46 rfl rfl rfl rfl ?_ (.cons 53 rfl rfl rfl rfl ?_ (.cons 56 rfl rfl rfl rfl ?_ WAlts.nil))) ?_
      rotate_left 3
      refine WebN.cons rfl ⟨(rk _ _), (rk _ _), (pk rfl), trivial⟩ ⟨(bk rf0 _), trivial⟩ (.cons 47 rfl rfl rfl rfl ?_ (.cons 54 rfl rfl rfl rfl ?_ (.cons 56 rfl rfl rfl rfl ?_ WAlts.nil))) ?_
      rotate_left 3
      refine WebN.cons rfl ⟨(rk _ _), (pk rfl), (pk rfl), trivial⟩ ⟨(bk rf0 _), (bk rf0 _), trivial⟩ (.cons 48 rfl rfl rfl rfl ?_ (.cons 55 rfl rfl rfl rfl ?_ (.cons 56 rfl rfl rfl rfl ?_ WAlts.nil))) ?_
      rotate_left 3
      refine WebN.cons rfl ⟨(rk _ _), (rk _ _), (pk rfl), trivial⟩ ⟨(bk rf0 _), trivial⟩ (.cons 49 rfl rfl rfl rfl ?_ (.cons 53 rfl rfl rfl rfl ?_ (.cons 57 rfl rfl rfl rfl ?_ WAlts.nil))) ?_
      rotate_left 3
      refine WebN.cons rfl ⟨(rk _ _), (rk _ _), (pk rfl), trivial⟩ ⟨(bk rf0 _), trivial⟩ (.cons 50 rfl rfl rfl rfl ?_ (.cons 54 rfl rfl rfl rfl ?_ (.cons 57 rfl rfl rfl rfl ?_ WAlts.nil))) ?_
      rotate_left 3
      refine WebN.cons rfl ⟨(rk _ _), (pk rfl), (pk rfl), trivial⟩ ⟨(bk rf0 _), (bk rf0 _), trivial⟩ (.cons 51 rfl rfl rfl rfl ?_ (.cons 55 rfl rfl rfl rfl ?_ (.cons 57 rfl rfl rfl rfl ?_ WAlts.nil))) ?_
      rotate_left 3
      refine WebN.cons rfl ⟨(rk _ _), (pk rfl), (pk rfl), trivial⟩ ⟨(bk rf0 _), (bk rf0 _), trivial⟩ (.cons 52 rfl rfl rfl rfl ?_ (.cons 56 rfl rfl rfl rfl ?_ (.cons 57 rfl rfl rfl rfl ?_ WAlts.nil))) ?_
      rotate_left 3
      refine WebN.cons rfl ⟨(rk _ _), (rk _ _), (rk _ _), trivial, trivial⟩ trivial (.cons 58 rfl rfl rfl rfl ?_ (.cons 59 rfl rfl rfl rfl ?_ (.cons 60 rfl rfl rfl rfl ?_ WAlts.nil))) ?_
      rotate_left 3
      refine WebN.cons rfl ⟨(rk _ _), (rk _ _), (rk _ _), (rk _ _), trivial⟩ trivial (.cons 58 rfl rfl rfl rfl ?_ (.cons 61 rfl rfl rfl rfl ?_ (.cons 62 rfl rfl rfl rfl ?_ WAlts.nil))) ?_
      rotate_left 3
      refine WebN.cons rfl ⟨(rk _ _), (rk _ _), (rk _ _), (pk rfl), trivial⟩ ⟨(bk rf0 _), trivial⟩ (.cons 59 rfl rfl rfl rfl ?_ (.cons 61 rfl rfl rfl rfl ?_ (.cons 63 rfl rfl rfl rfl ?_ WAlts.nil))) ?_
      rotate_left 3
      refine WebN.cons rfl ⟨(rk _ _), (rk _ _), (rk _ _), (pk rfl), trivial⟩ ⟨(bk rf0 _), trivial⟩ (.cons 60 rfl rfl rfl rfl ?_ (.cons 62 rfl rfl rfl rfl ?_ (.cons 63 rfl rfl rfl rfl ?_ WAlts.nil))) ?_
      rotate_left 3
      refine WebN.cons rfl ⟨(rk _ _), (rk _ _), (rk _ _), (pk rfl), trivial⟩ ⟨(bk rf0 _), trivial⟩ (.cons 61 rfl rfl rfl rfl ?_ (.cons 64 rfl rfl rfl rfl ?_ WAlts.nil)) ?_
      rotate_left 2
      refine WebN.cons rfl ⟨(rk _ _), (rk _ _), (rk _ _), (pk rfl), trivial⟩ ⟨(bk rf0 _), trivial⟩ (.cons 62 rfl rfl rfl rfl ?_ (.cons 64 rfl rfl rfl rfl ?_ WAlts.nil)) ?_
      rotate_left 2
      refine WebN.cons rfl ⟨(rk _ _), (rk _ _), (pk rfl), (pk rfl), trivial⟩ ⟨(bk rf0 _), (bk rf0 _), trivial⟩ (.cons 63 rfl rfl rfl rfl ?_ (.cons 64 rfl rfl rfl rfl ?_ WAlts.nil)) ?_
      rotate_left 2
      refine WebN.cons rfl ⟨(rk _ _), (rk _ _), (rk _ _), (pk rfl), trivial⟩ ⟨(bk rf0 _), trivial⟩ (.cons 61 rfl rfl rfl rfl ?_ (.cons 65 rfl rfl rfl rfl ?_ WAlts.nil)) ?_
      rotate_left 2
      refine WebN.cons rfl ⟨(rk _ _), (rk _ _), (rk _ _), (pk rfl), trivial⟩ ⟨(bk rf0 _), trivial⟩ (.cons 62 rfl rfl rfl rfl ?_ (.cons 65 rfl rfl rfl rfl ?_ WAlts.nil)) ?_
      rotate_left 2
      refine WebN.cons rfl ⟨(rk _ _), (rk _ _), (pk rfl), (pk rfl), trivial⟩ ⟨(bk rf0 _), (bk rf0 _), trivial⟩ (.cons 63 rfl rfl rfl rfl ?_ (.cons 65 rfl rfl rfl rfl ?_ WAlts.nil)) ?_
      rotate_left 2
      refine WebN.cons rfl ⟨(rk _ _), (rk _ _), (pk rfl), (pk rfl), trivial⟩ ⟨(bk rf0 _), (bk rf0 _), trivial⟩ (.cons 64 rfl rfl rfl rfl ?_ (.cons 65 rfl rfl rfl rfl ?_ WAlts.nil)) ?_
      rotate_left 2
      refine WebN.cons rfl ⟨(rk _ _), (rk _ _), (rk _ _), (pk rfl), trivial⟩ ⟨(bk rf0 _), trivial⟩ (.cons 61 rfl rfl rfl rfl ?_ (.cons 66 rfl rfl rfl rfl ?_ WAlts.nil)) ?_
      rotate_left 2
      refine WebN.cons rfl ⟨(rk _ _), (rk _ _), (rk _ _), (pk rfl), trivial⟩ ⟨(bk rf0 _), trivial⟩ (.cons 62 rfl rfl rfl rfl ?_ (.cons 66 rfl rfl rfl rfl ?_ WAlts.nil)) ?_
      rotate_left 2
      refine WebN.cons rfl ⟨(rk _ _), (rk _ _), (pk rfl), (pk rfl), trivial⟩ ⟨(bk rf0 _), (bk rf0 _), trivial⟩ (.cons 63 rfl rfl rfl rfl ?_ (.cons 66 rfl rfl rfl rfl ?_ WAlts.nil)) ?_
      rotate_left 2
      refine WebN.cons rfl ⟨(rk _ _), (rk _ _), (pk rfl), (pk rfl), trivial⟩ ⟨(bk rf0 _), (bk rf0 _), trivial⟩ (.cons 64 rfl rfl rfl rfl ?_ (.cons 66 rfl rfl rfl rfl ?_ WAlts.nil)) ?_
      rotate_left 2
      refine WebN.cons rfl ⟨(rk _ _), (rk _ _), (pk rfl), (pk rfl), trivial⟩ ⟨(bk rf0 _), (bk rf0 _), trivial⟩ (.cons 65 rfl rfl rfl rfl ?_ (.cons 66 rfl rfl rfl rfl ?_ WAlts.nil)) ?_
      rotate_left 2
      refine WebN.cons rfl ⟨(rk _ _), (rk _ _), (rk _ _), trivial, (rk _ _), trivial⟩ trivial (.cons 67 rfl rfl rfl rfl ?_ (.cons 68 rfl rfl rfl rfl ?_ (.cons 69 rfl rfl rfl rfl ?_ WAlts.nil))) ?_
      rotate_left 3
      refine WebN.cons rfl ⟨(rk _ _), (rk _ _), (rk _ _), trivial, (pk rfl), trivial⟩ ⟨(bk rf0 _), trivial⟩ (.cons 68 rfl rfl rfl rfl ?_ (.cons 70 rfl rfl rfl rfl ?_ WAlts.nil)) ?_
      rotate_left 2
      refine WebN.cons rfl ⟨(rk _ _), (rk _ _), (rk _ _), trivial, (pk rfl), trivial⟩ ⟨(bk rf0 _), trivial⟩ (.cons 69 rfl rfl rfl rfl ?_ (.cons 70 rfl rfl rfl rfl ?_ WAlts.nil)) ?_
      rotate_left 2
      refine WebN.cons rfl ⟨(rk _ _), (rk _ _), (rk _ _), (rk _ _), (pk rfl), trivial⟩ ⟨(bk rf0 _), trivial⟩ (.cons 68 rfl rfl rfl rfl ?_ (.cons 71 rfl rfl rfl rfl ?_ WAlts.nil)) ?_
      rotate_left 2
      refine WebN.cons rfl ⟨(rk _ _), (rk _ _), (rk _ _), (rk _ _), (pk rfl), trivial⟩ ⟨(bk rf0 _), trivial⟩ (.cons 69 rfl rfl rfl rfl ?_ (.cons 71 rfl rfl rfl rfl ?_ WAlts.nil)) ?_
      rotate_left 2
      refine WebN.cons rfl ⟨(rk _ _), (rk _ _), (rk _ _), (pk rfl), (pk rfl), trivial⟩ ⟨(bk rf0 _), (bk rf0 _), trivial⟩ (.cons 70 rfl rfl rfl rfl ?_ (.cons 71 rfl rfl rfl rfl ?_ WAlts.nil)) ?_
      rotate_left 2
      refine WebN.cons rfl ⟨(rk _ _), (rk _ _), (rk _ _), (pk rfl), (pk rfl), trivial⟩ ⟨(bk rf0 _), (bk rf0 _), trivial⟩ (.cons 71 rfl rfl rfl rfl ?_ WAlts.nil) ?_
      rotate_left 1
      refine WebN.cons rfl ⟨(rk _ _), (rk _ _), (rk _ _), (pk rfl), (pk rfl), trivial⟩ ⟨(bk rf0 _), (bk rf0 _), trivial⟩ (.cons 71 rfl rfl rfl rfl ?_ WAlts.nil) ?_
      rotate_left 1
      refine WebN.cons rfl ⟨(rk _ _), (rk _ _), (rk _ _), (pk rfl), (pk rfl), trivial⟩ ⟨(bk rf0 _), (bk rf0 _), trivial⟩ (.cons 71 rfl rfl rfl rfl ?_ WAlts.nil) ?_
      rotate_left 1
      refine WebN.cons rfl ⟨(rk _ _), (rk _ _), (rk _ _), trivial, (rk _ _), (tup_ok a b true _), trivial⟩ trivial (.cons 72 rfl rfl rfl rfl ?_ (.cons 73 rfl rfl rfl rfl ?_ (.cons 74 rfl rfl rfl rfl ?_ WAlts.nil))) ?_
      rotate_left 3
      refine WebN.cons rfl ⟨(rk _ _), (rk _ _), (rk _ _), trivial, (rk _ _), (pk rfl), trivial⟩ ⟨(bk rf0 _), trivial⟩ (.cons 73 rfl rfl rfl rfl ?_ (.cons 75 rfl rfl rfl rfl ?_ WAlts.nil)) ?_
      rotate_left 2
      refine WebN.cons rfl ⟨(rk _ _), (rk _ _), (rk _ _), trivial, (rk _ _), (pk rfl), trivial⟩ ⟨(bk rf0 _), trivial⟩ (.cons 74 rfl rfl rfl rfl ?_ (.cons 75 rfl rfl rfl rfl ?_ WAlts.nil)) ?_
      rotate_left 2
      refine WebN.cons rfl ⟨(rk _ _), (rk _ _), (rk _ _), trivial, (pk rfl), (pk rfl), trivial⟩ ⟨(bk rf0 _), (bk rf0 _), trivial⟩ (.cons 75 rfl rfl rfl rfl ?_ WAlts.nil) ?_
      rotate_left 1
      refine WebN.cons rfl ⟨(rk _ _), (rk _ _), (rk _ _), (rk _ _), (pk rfl), (pk rfl), trivial⟩ ⟨(bk rf0 _), (bk rf0 _), trivial⟩ (.cons 75 rfl rfl rfl rfl ?_ WAlts.nil) ?_
      rotate_left 1
      refine WebN.cons rfl ⟨(rk _ _), (rk _ _), (rk _ _), trivial, (rk _ _), (tup_ok a b true _), (tup_ok a b true _), trivial⟩ trivial (.cons 76 rfl rfl rfl rfl ?_ (.cons 77 rfl rfl rfl rfl ?_ (.cons 78 rfl rfl rfl rfl ?_ (.cons 79 rfl rfl rfl rfl ?_ (.cons 80 rfl rfl rfl rfl ?_ WAlts.nil))))) ?_
      rotate_left 5
      refine WebN.cons rfl ⟨(rk _ _), (rk _ _), (rk _ _), trivial, (rk _ _), (tup_ok a b true _), (pk rfl), trivial⟩ ⟨(bk rf0 _), trivial⟩ (.cons 79 rfl rfl rfl rfl ?_ (.cons 81 rfl rfl rfl rfl ?_ WAlts.nil)) ?_
      rotate_left 2
      refine WebN.cons rfl ⟨(rk _ _), (rk _ _), (rk _ _), trivial, (rk _ _), (tup_ok a b true _), (pk rfl), trivial⟩ ⟨(bk rf0 _), trivial⟩ (.cons 80 rfl rfl rfl rfl ?_ (.cons 81 rfl rfl rfl rfl ?_ WAlts.nil)) ?_
      rotate_left 2
      refine WebN.cons rfl ⟨(rk _ _), (rk _ _), (rk _ _), trivial, (rk _ _), (pk rfl), (pk rfl), trivial⟩ ⟨(bk rf0 _), (bk rf0 _), trivial⟩ (.cons 81 rfl rfl rfl rfl ?_ WAlts.nil) ?_
      rotate_left 1
      refine WebN.cons rfl ⟨(rk _ _), (rk _ _), (rk _ _), trivial, (rk _ _), (tup_ok a b true _), (tup_ok a b true _), (rk _ _), trivial⟩ trivial (.cons 82 rfl rfl rfl rfl ?_ (.cons 83 rfl rfl rfl rfl ?_ (.cons 84 rfl rfl rfl rfl ?_ (.cons 85 rfl rfl rfl rfl ?_ WAlts.nil)))) ?_
      rotate_left 4
      refine WebN.cons rfl ⟨(rk _ _), (rk _ _), (rk _ _), trivial, (rk _ _), (tup_ok a b true _), (tup_ok a b true _), (rk _ _), trivial⟩ trivial (.cons 82 rfl rfl rfl rfl ?_ (.cons 86 rfl rfl rfl rfl ?_ (.cons 87 rfl rfl rfl rfl ?_ (.cons 88 rfl rfl rfl rfl ?_ WAlts.nil)))) ?_
      rotate_left 4
      refine WebN.cons rfl ⟨(rk _ _), (rk _ _), (rk _ _), trivial, (rk _ _), (tup_ok a b true _), (tup_ok a b true _), trivial, trivial⟩ trivial (.cons 83 rfl rfl rfl rfl ?_ (.cons 86 rfl rfl rfl rfl ?_ (.cons 89 rfl rfl rfl rfl ?_ (.cons 90 rfl rfl rfl rfl ?_ WAlts.nil)))) ?_
      rotate_left 4
      refine WebN.cons rfl ⟨(rk _ _), (rk _ _), (rk _ _), trivial, (rk _ _), (tup_ok a b true _), (tup_ok a b true _), (pk rfl), trivial⟩ ⟨(bk rf0 _), trivial⟩ (.cons 84 rfl rfl rfl rfl ?_ (.cons 87 rfl rfl rfl rfl ?_ (.cons 89 rfl rfl rfl rfl ?_ (.cons 91 rfl rfl rfl rfl ?_ WAlts.nil)))) ?_
      rotate_left 4
      refine WebN.cons rfl ⟨(rk _ _), (rk _ _), (rk _ _), trivial, (rk _ _), (tup_ok a b true _), (tup_ok a b true _), (pk rfl), trivial⟩ ⟨(bk rf0 _), trivial⟩ (.cons 85 rfl rfl rfl rfl ?_ (.cons 88 rfl rfl rfl rfl ?_ (.cons 90 rfl rfl rfl rfl ?_ (.cons 91 rfl rfl rfl rfl ?_ WAlts.nil)))) ?_
      rotate_left 4
      refine WebN.cons rfl ⟨(rk _ _), (rk _ _), (rk _ _), trivial, (rk _ _), (tup_ok a b true _), (pk rfl), (pk rfl), trivial⟩ ⟨(bk rf0 _), (bk rf0 _), trivial⟩ (.cons 91 rfl rfl rfl rfl ?_ WAlts.nil) ?_
      rotate_left 1
      refine WebN.cons rfl ⟨(rk _ _), (rk _ _), (rk _ _), trivial, (rk _ _), (tup_ok a b true _), (tup_ok a b true _), (rk _ _), (rk _ _), trivial⟩ trivial (.cons 92 rfl rfl rfl rfl ?_ (.cons 93 rfl rfl rfl rfl ?_ (.cons 94 rfl rfl rfl rfl ?_ WAlts.nil))) ?_
      rotate_left 3
      refine WebN.cons rfl ⟨(rk _ _), (rk _ _), (rk _ _), trivial, (rk _ _), (tup_ok a b true _), (tup_ok a b true _), (rk _ _), trivial, trivial⟩ trivial (.cons 92 rfl rfl rfl rfl ?_ (.cons 95 rfl rfl rfl rfl ?_ (.cons 96 rfl rfl rfl rfl ?_ WAlts.nil))) ?_
      rotate_left 3
      refine WebN.cons rfl ⟨(rk _ _), (rk _ _), (rk _ _), trivial, (rk _ _), (tup_ok a b true _), (tup_ok a b true _), (rk _ _), (pk rfl), trivial⟩ ⟨(bk rf0 _), trivial⟩ (.cons 93 rfl rfl rfl rfl ?_ (.cons 95 rfl rfl rfl rfl ?_ (.cons 97 rfl rfl rfl rfl ?_ WAlts.nil))) ?_
      rotate_left 3
      refine WebN.cons rfl ⟨(rk _ _), (rk _ _), (rk _ _), trivial, (rk _ _), (tup_ok a b true _), (tup_ok a b true _), (rk _ _), (pk rfl), trivial⟩ ⟨(bk rf0 _), trivial⟩ (.cons 94 rfl rfl rfl rfl ?_ (.cons 96 rfl rfl rfl rfl ?_ (.cons 97 rfl rfl rfl rfl ?_ WAlts.nil))) ?_
      rotate_left 3
      refine WebN.cons rfl ⟨(rk _ _), (rk _ _), (rk _ _), trivial, (rk _ _), (tup_ok a b true _), (tup_ok a b true _), (rk _ _), trivial, trivial⟩ trivial (.cons 92 rfl rfl rfl rfl ?_ (.cons 98 rfl rfl rfl rfl ?_ (.cons 99 rfl rfl rfl rfl ?_ WAlts.nil))) ?_
      rotate_left 3
      refine WebN.cons rfl ⟨(rk _ _), (rk _ _), (rk _ _), trivial, (rk _ _), (tup_ok a b true _), (tup_ok a b true _), (rk _ _), (pk rfl), trivial⟩ ⟨(bk rf0 _), trivial⟩ (.cons 93 rfl rfl rfl rfl ?_ (.cons 98 rfl rfl rfl rfl ?_ (.cons 100 rfl rfl rfl rfl ?_ WAlts.nil))) ?_
      rotate_left 3
      refine WebN.cons rfl ⟨(rk _ _), (rk _ _), (rk _ _), trivial, (rk _ _), (tup_ok a b true _), (tup_ok a b true _), (rk _ _), (pk rfl), trivial⟩ ⟨(bk rf0 _), trivial⟩ (.cons 94 rfl rfl rfl rfl ?_ (.cons 99 rfl rfl rfl rfl ?_ (.cons 100 rfl rfl rfl rfl ?_ WAlts.nil))) ?_
      rotate_left 3
      refine WebN.cons rfl ⟨(rk _ _), (rk _ _), (rk _ _), trivial, (rk _ _), (tup_ok a b true _), (tup_ok a b true _), trivial, (pk rfl), trivial⟩ ⟨(bk rf0 _), trivial⟩ (.cons 95 rfl rfl rfl rfl ?_ (.cons 98 rfl rfl rfl rfl ?_ (.cons 101 rfl rfl rfl rfl ?_ WAlts.nil))) ?_
      rotate_left 3
      refine WebN.cons rfl ⟨(rk _ _), (rk _ _), (rk _ _), trivial, (rk _ _), (tup_ok a b true _), (tup_ok a b true _), trivial, (pk rfl), trivial⟩ ⟨(bk rf0 _), trivial⟩ (.cons 96 rfl rfl rfl rfl ?_ (.cons 99 rfl rfl rfl rfl ?_ (.cons 101 rfl rfl rfl rfl ?_ WAlts.nil))) ?_
      rotate_left 3
      refine WebN.cons rfl ⟨(rk _ _), (rk _ _), (rk _ _), trivial, (rk _ _), (tup_ok a b true _), (tup_ok a b true _), (pk rfl), (pk rfl), trivial⟩ ⟨(bk rf0 _), (bk rf0 _), trivial⟩ (.cons 97 rfl rfl rfl rfl ?_ (.cons 100 rfl rfl rfl rfl ?_ (.cons 101 rfl rfl rfl rfl ?_ WAlts.nil))) ?_
      rotate_left 3
      refine WebN.cons rfl ⟨(rk _ _), (rk _ _), (rk _ _), trivial, (rk _ _), (tup_ok a b true _), (tup_ok a b true _), (rk _ _), (rk _ _), trivial, trivial⟩ trivial (.cons 102 rfl rfl rfl rfl ?_ (.cons 103 rfl rfl rfl rfl ?_ WAlts.nil)) ?_
      rotate_left 2
      refine WebN.cons rfl ⟨(rk _ _), (rk _ _), (rk _ _), trivial, (rk _ _), (tup_ok a b true _), (tup_ok a b true _), (rk _ _), (rk _ _), (pk rfl), trivial⟩ ⟨(bk rf0 _), trivial⟩ (.cons 102 rfl rfl rfl rfl ?_ (.cons 104 rfl rfl rfl rfl ?_ WAlts.nil)) ?_
      rotate_left 2
      refine WebN.cons rfl ⟨(rk _ _), (rk _ _), (rk _ _), trivial, (rk _ _), (tup_ok a b true _), (tup_ok a b true _), (rk _ _), (rk _ _), (pk rfl), trivial⟩ ⟨(bk rf0 _), trivial⟩ (.cons 103 rfl rfl rfl rfl ?_ (.cons 104 rfl rfl rfl rfl ?_ WAlts.nil)) ?_
      rotate_left 2
      refine WebN.cons rfl ⟨(rk _ _), (rk _ _), (rk _ _), trivial, (rk _ _), (tup_ok a b true _), (tup_ok a b true _), (rk _ _), trivial, (pk rfl), trivial⟩ ⟨(bk rf0 _), trivial⟩ (.cons 102 rfl rfl rfl rfl ?_ (.cons 105 rfl rfl rfl rfl ?_ WAlts.nil)) ?_
      rotate_left 2
      refine WebN.cons rfl ⟨(rk _ _), (rk _ _), (rk _ _), trivial, (rk _ _), (tup_ok a b true _), (tup_ok a b true _), (rk _ _), trivial, (pk rfl), trivial⟩ ⟨(bk rf0 _), trivial⟩ (.cons 103 rfl rfl rfl rfl ?_ (.cons 105 rfl rfl rfl rfl ?_ WAlts.nil)) ?_
      rotate_left 2
      refine WebN.cons rfl ⟨(rk _ _), (rk _ _), (rk _ _), trivial, (rk _ _), (tup_ok a b true _), (tup_ok a b true _), (rk _ _), (pk rfl), (pk rfl), trivial⟩ ⟨(bk rf0 _), (bk rf0 _), trivial⟩ (.cons 104 rfl rfl rfl rfl ?_ (.cons 105 rfl rfl rfl rfl ?_ (.cons 106 rfl rfl rfl rfl ?_ WAlts.nil))) ?_
      rotate_left 3
      refine WebN.cons rfl ⟨(rk _ _), (rk _ _), (rk _ _), trivial, (rk _ _), (tup_ok a b true _), (tup_ok a b true _), (rk _ _), trivial, (pk rfl), trivial⟩ ⟨(bk rf0 _), trivial⟩ (.cons 102 rfl rfl rfl rfl ?_ (.cons 107 rfl rfl rfl rfl ?_ WAlts.nil)) ?_
      rotate_left 2
      refine WebN.cons rfl ⟨(rk _ _), (rk _ _), (rk _ _), trivial, (rk _ _), (tup_ok a b true _), (tup_ok a b true _), (rk _ _), trivial, (pk rfl), trivial⟩ ⟨(bk rf0 _), trivial⟩ (.cons 103 rfl rfl rfl rfl ?_ (.cons 107 rfl rfl rfl rfl ?_ WAlts.nil)) ?_
      rotate_left 2
      refine WebN.cons rfl ⟨(rk _ _), (rk _ _), (rk _ _), trivial, (rk _ _), (tup_ok a b true _), (tup_ok a b true _), (rk _ _), (pk rfl), (pk rfl), trivial⟩ ⟨(bk rf0 _), (bk rf0 _), trivial⟩ (.cons 104 rfl rfl rfl rfl ?_ (.cons 107 rfl rfl rfl rfl ?_ WAlts.nil)) ?_
      rotate_left 2
      refine WebN.cons rfl ⟨(rk _ _), (rk _ _), (rk _ _), trivial, (rk _ _), (tup_ok a b true _), (tup_ok a b true _), trivial, (pk rfl), (pk rfl), trivial⟩ ⟨(bk rf0 _), (bk rf0 _), trivial⟩ (.cons 105 rfl rfl rfl rfl ?_ (.cons 107 rfl rfl rfl rfl ?_ WAlts.nil)) ?_
      rotate_left 2
      refine WebN.cons rfl ⟨(rk _ _), (rk _ _), (rk _ _), trivial, (rk _ _), (tup_ok a b true _), (tup_ok a b true _), (rk _ _), (rk _ _), trivial, (pk rfl), trivial⟩ ⟨(bk rf0 _), trivial⟩ (.cons 108 rfl rfl rfl rfl ?_ WAlts.nil) ?_
      rotate_left 1
      refine WebN.cons rfl ⟨(rk _ _), (rk _ _), (rk _ _), trivial, (rk _ _), (tup_ok a b true _), (tup_ok a b true _), (rk _ _), (rk _ _), trivial, (pk rfl), trivial⟩ ⟨(bk rf0 _), trivial⟩ (.cons 108 rfl rfl rfl rfl ?_ WAlts.nil) ?_
      rotate_left 1
      refine WebN.cons rfl ⟨(rk _ _), (rk _ _), (rk _ _), trivial, (rk _ _), (tup_ok a b true _), (tup_ok a b true _), (rk _ _), (rk _ _), (pk rfl), (pk rfl), trivial⟩ ⟨(bk rf0 _), (bk rf0 _), trivial⟩ (.cons 108 rfl rfl rfl rfl ?_ (.cons 109 rfl rfl rfl rfl ?_ WAlts.nil)) ?_
      rotate_left 2
      refine WebN.cons rfl ⟨(rk _ _), (rk _ _), (rk _ _), trivial, (rk _ _), (tup_ok a b true _), (tup_ok a b true _), (rk _ _), trivial, (pk rfl), (pk rfl), trivial⟩ ⟨(bk rf0 _), (bk rf0 _), trivial⟩ (.cons 108 rfl rfl rfl rfl ?_ (.cons 110 rfl rfl rfl rfl ?_ WAlts.nil)) ?_
      rotate_left 2
      refine WebN.cons rfl ⟨(rk _ _), (rk _ _), (rk _ _), trivial, (rk _ _), (tup_ok a b true _), (tup_ok a b true _), (rk _ _), (pk rfl), (pk rfl), trivial⟩ ⟨(bk _ _), (bk rf0 _), trivial⟩ (.cons 109 rfl rfl rfl rfl ?_ (.cons 110 rfl rfl rfl rfl ?_ WAlts.nil)) ?_
      rotate_left 2
      refine WebN.cons rfl ⟨(rk _ _), (rk _ _), (rk _ _), trivial, (rk _ _), (tup_ok a b true _), (tup_ok a b true _), (rk _ _), trivial, (pk rfl), (pk rfl), trivial⟩ ⟨(bk rf0 _), (bk rf0 _), trivial⟩ (.cons 108 rfl rfl rfl rfl ?_ WAlts.nil) ?_
      rotate_left 1
      refine WebN.cons rfl ⟨(rk _ _), (rk _ _), (rk _ _), trivial, (rk _ _), (tup_ok a b true _), (tup_ok a b true _), (rk _ _), (rk _ _), trivial, (pk rfl), (pk rfl), trivial⟩ ⟨(bk rf0 _), (bk rf0 _), trivial⟩ (.cons 111 rfl rfl rfl rfl ?_ WAlts.nil) ?_
      rotate_left 1
      refine WebN.cons rfl ⟨(rk _ _), (rk _ _), (rk _ _), trivial, (rk _ _), (tup_ok a b true _), (tup_ok a b true _), (rk _ _), (rk _ _), (pk rfl), (pk rfl), trivial⟩ ⟨(bk _ _), (bk rf0 _), trivial⟩ (.cons 111 rfl rfl rfl rfl ?_ (.cons 112 rfl rfl rfl rfl ?_ WAlts.nil)) ?_
      rotate_left 2
      refine WebN.cons rfl ⟨(rk _ _), (rk _ _), (rk _ _), trivial, (rk _ _), (tup_ok a b true _), (tup_ok a b true _), (rk _ _), trivial, (pk rfl), (pk rfl), trivial⟩ ⟨(bk _ _), (bk rf0 _), trivial⟩ (.cons 111 rfl rfl rfl rfl ?_ WAlts.nil) ?_
      rotate_left 1
      refine WebN.cons rfl ⟨(rk _ _), (rk _ _), (rk _ _), trivial, (rk _ _), (tup_ok a b true _), (tup_ok a b true _), (rk _ _), (rk _ _), trivial, (pk rfl), (pk rfl), trivial⟩ ⟨(bk _ _), (bk rf0 _), trivial⟩ (.cons 113 rfl rfl rfl rfl ?_ WAlts.nil) ?_
      rotate_left 1
      refine WebN.cons rfl ⟨(rk _ _), (rk _ _), (rk _ _), trivial, (rk _ _), (tup_ok a b true _), (tup_ok a b true _), (rk _ _), (rk _ _), (pk rfl), (pk rfl), trivial⟩ ⟨(bk _ _), (bk _ _), trivial⟩ (.cons 113 rfl rfl rfl rfl ?_ WAlts.nil) ?_
      rotate_left 1
      refine WebN.cons rfl ⟨(rk _ _), (rk _ _), (rk _ _), trivial, (rk _ _), (tup_ok a b true _), (tup_ok a b true _), (rk _ _), (rk _ _), trivial, (pk rfl), (pk rfl), trivial⟩ ⟨(bk _ _), (bk _ _), trivial⟩ (.cons 114 rfl rfl rfl rfl ?_ WAlts.nil) ?_
      rotate_left 1
      refine WebN.last rfl ⟨(rk _ _), (rk _ _), (rk _ _), trivial, (rk _ _), (tup_ok a b true _), (tup_ok a b true _), (rk _ _), (rk _ _), trivial, (pk rfl), (pk rfl), trivial, trivial⟩ ⟨(bk _ _), (bk _ _), trivial⟩ ?_
      exact WebN.nil
      all_goals first | refine DOps.val (r := .v a.tv) rfl rfl rfl (OpVal.cast (OpVal.load (b := 7) tt_ok rfl rfl rfl rfl rfl rfl) rfl) ?_ | refine DOps.val (r := .v b.tv) rfl rfl rfl (OpVal.cast (OpVal.load (b := 8) tt_ok rfl rfl rfl rfl rfl rfl) rfl) ?_ | refine DOps.val (r := .v prev.tv) rfl rfl rfl (OpVal.cast (OpVal.load (b := 9) tt_ok rfl rfl rfl rfl rfl rfl) rfl) ?_ | refine DOps.call1 (ts := [a.tv, b.tv, prev.tv, bt has]) rfl rfl rfl rfl rfl Tryd.func27 rfl (by kernel_rfl) rfl (by repeat (first | exact pures_nil | refine pures_cons ?_ ?_ | exact trivial | exact pure_aggB rfl | exact arr_pure _ | exact Load.pure _ | exact Area.pure _ | exact dvs_pure _ | exact pure_sc | exact pure_sl)) (c27) ?_ | refine DOps.call1 (ts := [tT F, prev.tv, bt has]) rfl rfl rfl rfl rfl Tryd.func34 rfl (by kernel_rfl) rfl (by repeat (first | exact pures_nil | refine pures_cons ?_ ?_ | exact trivial | exact pure_aggB rfl | exact arr_pure _ | exact Load.pure _ | exact Area.pure _ | exact dvs_pure _ | exact pure_sc | exact pure_sl)) (c34) ?_ | refine DOps.val rfl rfl rfl (OpVal.moveT rfl rfl) ?_ | (refine DOps.val rfl rfl rfl (OpVal.extract rfl rfl rfl) ?_) | refine DOps.alS tt_ok rfl rfl rfl rfl rfl rfl rfl ?_ | refine DOps.store tt_ok rfl rfl rfl rfl rfl rfl rfl rfl (Nat.le_of_ble_eq_true rfl) rfl ?_ | (refine DOps.val rfl rfl rfl (OpVal.assign rfl rfl) ?_)
      all_goals refine DOps.nil ?_
      all_goals exact ⟨rfl, by (repeat (first | exact Off.refl _ _ | refine Sub.base ?_ | refine Sub.junk ?_ | refine Sub.cons (by rfl) ?_ | refine Off.cons rfl ?_ | refine Off.junks rfl ?_)), by (repeat (first | exact MSubX.nil | refine MSubX.skip rfl ?_ | refine MSubX.cons (by rfl) ?_))⟩
  refine WebN.cons rfl trivial trivial (.cons 1 rfl rfl rfl rfl ?_ (.cons 2 rfl rfl rfl rfl ?_ (.cons 3 rfl rfl rfl rfl ?_ (.cons 4 rfl rfl rfl rfl ?_ (.cons 5 rfl rfl rfl rfl ?_ (.cons 6 rfl rfl rfl rfl ?_ WAlts.nil)))))) ?_
  rotate_left 6
  refine WebN.cons rfl ⟨(rk _ _), trivial⟩ trivial (.cons 7 rfl rfl rfl rfl ?_ (.cons 8 rfl rfl rfl rfl ?_ (.cons 9 rfl rfl rfl rfl ?_ (.cons 10 rfl rfl rfl rfl ?_ (.cons 11 rfl rfl rfl rfl ?_ WAlts.nil))))) ?_
  rotate_left 5
  refine WebN.cons rfl ⟨(rk _ _), trivial⟩ trivial (.cons 7 rfl rfl rfl rfl ?_ (.cons 12 rfl rfl rfl rfl ?_ (.cons 13 rfl rfl rfl rfl ?_ (.cons 14 rfl rfl rfl rfl ?_ (.cons 15 rfl rfl rfl rfl ?_ WAlts.nil))))) ?_
  rotate_left 5
  refine WebN.cons rfl ⟨(rk _ _), trivial⟩ trivial (.cons 8 rfl rfl rfl rfl ?_ (.cons 12 rfl rfl rfl rfl ?_ (.cons 16 rfl rfl rfl rfl ?_ (.cons 17 rfl rfl rfl rfl ?_ (.cons 18 rfl rfl rfl rfl ?_ WAlts.nil))))) ?_
  rotate_left 5
  refine WebN.cons rfl ⟨(pk rfl), trivial⟩ ⟨(bk rf0 _), trivial⟩ (.cons 9 rfl rfl rfl rfl ?_ (.cons 13 rfl rfl rfl rfl ?_ (.cons 16 rfl rfl rfl rfl ?_ (.cons 19 rfl rfl rfl rfl ?_ (.cons 20 rfl rfl rfl rfl ?_ WAlts.nil))))) ?_
  rotate_left 5
  refine WebN.cons rfl ⟨(pk rfl), trivial⟩ ⟨(bk rf0 _), trivial⟩ (.cons 10 rfl rfl rfl rfl ?_ (.cons 14 rfl rfl rfl rfl ?_ (.cons 17 rfl rfl rfl rfl ?_ (.cons 19 rfl rfl rfl rfl ?_ (.cons 21 rfl rfl rfl rfl ?_ WAlts.nil))))) ?_
  rotate_left 5
  refine WebN.cons rfl ⟨(pk rfl), trivial⟩ ⟨(bk rf0 _), trivial⟩ (.cons 11 rfl rfl rfl rfl ?_ (.cons 15 rfl rfl rfl rfl ?_ (.cons 18 rfl rfl rfl rfl ?_ (.cons 20 rfl rfl rfl rfl ?_ (.cons 21 rfl rfl rfl rfl ?_ WAlts.nil))))) ?_
  rotate_left 5
  refine WebN.cons rfl ⟨(rk _ _), (rk _ _), trivial⟩ trivial (.cons 22 rfl rfl rfl rfl ?_ (.cons 23 rfl rfl rfl rfl ?_ (.cons 24 rfl rfl rfl rfl ?_ (.cons 25 rfl rfl rfl rfl ?_ WAlts.nil)))) ?_
  rotate_left 4
  refine WebN.cons rfl ⟨(rk _ _), (rk _ _), trivial⟩ trivial (.cons 22 rfl rfl rfl rfl ?_ (.cons 26 rfl rfl rfl rfl ?_ (.cons 27 rfl rfl rfl rfl ?_ (.cons 28 rfl rfl rfl rfl ?_ WAlts.nil)))) ?_
  rotate_left 4
  refine WebN.cons rfl ⟨(rk _ _), (pk rfl), trivial⟩ ⟨(bk rf0 _), trivial⟩ (.cons 23 rfl rfl rfl rfl ?_ (.cons 26 rfl rfl rfl rfl ?_ (.cons 29 rfl rfl rfl rfl ?_ (.cons 30 rfl rfl rfl rfl ?_ WAlts.nil)))) ?_
  rotate_left 4
  refine WebN.cons rfl ⟨(rk _ _), (pk rfl), trivial⟩ ⟨(bk rf0 _), trivial⟩ (.cons 24 rfl rfl rfl rfl ?_ (.cons 27 rfl rfl rfl rfl ?_ (.cons 29 rfl rfl rfl rfl ?_ (.cons 31 rfl rfl rfl rfl ?_ WAlts.nil)))) ?_
  rotate_left 4
  refine WebN.cons rfl ⟨(rk _ _), (pk rfl), trivial⟩ ⟨(bk rf0 _), trivial⟩ (.cons 25 rfl rfl rfl rfl ?_ (.cons 28 rfl rfl rfl rfl ?_ (.cons 30 rfl rfl rfl rfl ?_ (.cons 31 rfl rfl rfl rfl ?_ WAlts.nil)))) ?_
  rotate_left 4
  refine WebN.cons rfl ⟨(rk _ _), (rk _ _), trivial⟩ trivial (.cons 22 rfl rfl rfl rfl ?_ (.cons 32 rfl rfl rfl rfl ?_ (.cons 33 rfl rfl rfl rfl ?_ (.cons 34 rfl rfl rfl rfl ?_ WAlts.nil)))) ?_
  rotate_left 4
  refine WebN.cons rfl ⟨(rk _ _), (pk rfl), trivial⟩ ⟨(bk rf0 _), trivial⟩ (.cons 23 rfl rfl rfl rfl ?_ (.cons 32 rfl rfl rfl rfl ?_ (.cons 35 rfl rfl rfl rfl ?_ (.cons 36 rfl rfl rfl rfl ?_ WAlts.nil)))) ?_
  rotate_left 4
  refine WebN.cons rfl ⟨(rk _ _), (pk rfl), trivial⟩ ⟨(bk rf0 _), trivial⟩ (.cons 24 rfl rfl rfl rfl ?_ (.cons 33 rfl rfl rfl rfl ?_ (.cons 35 rfl rfl rfl rfl ?_ (.cons 37 rfl rfl rfl rfl ?_ WAlts.nil)))) ?_
  rotate_left 4
  refine WebN.cons rfl ⟨(rk _ _), (pk rfl), trivial⟩ ⟨(bk rf0 _), trivial⟩ (.cons 25 rfl rfl rfl rfl ?_ (.cons 34 rfl rfl rfl rfl ?_ (.cons 36 rfl rfl rfl rfl ?_ (.cons 37 rfl rfl rfl rfl ?_ WAlts.nil)))) ?_
  rotate_left 4
  refine WebN.cons rfl ⟨(rk _ _), (pk rfl), trivial⟩ ⟨(bk rf0 _), trivial⟩ (.cons 26 rfl rfl rfl rfl ?_ (.cons 32 rfl rfl rfl rfl ?_ (.cons 38 rfl rfl rfl rfl ?_ (.cons 39 rfl rfl rfl rfl ?_ WAlts.nil)))) ?_
  rotate_left 4
  refine WebN.cons rfl ⟨(rk _ _), (pk rfl), trivial⟩ ⟨(bk rf0 _), trivial⟩ (.cons 27 rfl rfl rfl rfl ?_ (.cons 33 rfl rfl rfl rfl ?_ (.cons 38 rfl rfl rfl rfl ?_ (.cons 40 rfl rfl rfl rfl ?_ WAlts.nil)))) ?_
  rotate_left 4
  refine WebN.cons rfl ⟨(rk _ _), (pk rfl), trivial⟩ ⟨(bk rf0 _), trivial⟩ (.cons 28 rfl rfl rfl rfl ?_ (.cons 34 rfl rfl rfl rfl ?_ (.cons 39 rfl rfl rfl rfl ?_ (.cons 40 rfl rfl rfl rfl ?_ WAlts.nil)))) ?_
  rotate_left 4
  refine WebN.cons rfl ⟨(pk rfl), (pk rfl), trivial⟩ ⟨(bk rf0 _), (bk rf0 _), trivial⟩ (.cons 29 rfl rfl rfl rfl ?_ (.cons 35 rfl rfl rfl rfl ?_ (.cons 38 rfl rfl rfl rfl ?_ (.cons 41 rfl rfl rfl rfl ?_ WAlts.nil)))) ?_
  rotate_left 4
  refine WebN.cons rfl ⟨(pk rfl), (pk rfl), trivial⟩ ⟨(bk rf0 _), (bk rf0 _), trivial⟩ (.cons 30 rfl rfl rfl rfl ?_ (.cons 36 rfl rfl rfl rfl ?_ (.cons 39 rfl rfl rfl rfl ?_ (.cons 41 rfl rfl rfl rfl ?_ WAlts.nil)))) ?_
  rotate_left 4
  refine WebN.cons rfl ⟨(pk rfl), (pk rfl), trivial⟩ ⟨(bk rf0 _), (bk rf0 _), trivial⟩ (.cons 31 rfl rfl rfl rfl ?_ (.cons 37 rfl rfl rfl rfl ?_ (.cons 40 rfl rfl rfl rfl ?_ (.cons 41 rfl rfl rfl rfl ?_ WAlts.nil)))) ?_
  rotate_left 4
  refine WebN.cons rfl ⟨(rk _ _), (rk _ _), (rk _ _), trivial⟩ trivial (.cons 42 rfl rfl rfl rfl ?_ (.cons 43 rfl rfl rfl rfl ?_ (.cons 44 rfl rfl rfl rfl ?_ WAlts.nil))) ?_
  rotate_left 3
  refine WebN.cons rfl ⟨(rk _ _), (rk _ _), (pk rfl), trivial⟩ ⟨(bk rf0 _), trivial⟩ (.cons 42 rfl rfl rfl rfl ?_ (.cons 45 rfl rfl rfl rfl ?_ (.cons 46 rfl rfl rfl rfl ?_ WAlts.nil))) ?_
  rotate_left 3
  refine WebN.cons rfl ⟨(rk _ _), (rk _ _), (pk rfl), trivial⟩ ⟨(bk rf0 _), trivial⟩ (.cons 43 rfl rfl rfl rfl ?_ (.cons 45 rfl rfl rfl rfl ?_ (.cons 47 rfl rfl rfl rfl ?_ WAlts.nil))) ?_
  rotate_left 3
  refine WebN.cons rfl ⟨(rk _ _), (rk _ _), (pk rfl), trivial⟩ ⟨(bk rf0 _), trivial⟩ (.cons 44 rfl rfl rfl rfl ?_ (.cons 46 rfl rfl rfl rfl ?_ (.cons 47 rfl rfl rfl rfl ?_ WAlts.nil))) ?_
  rotate_left 3
  refine WebN.cons rfl ⟨(rk _ _), (rk _ _), (pk rfl), trivial⟩ ⟨(bk rf0 _), trivial⟩ (.cons 42 rfl rfl rfl rfl ?_ (.cons 48 rfl rfl rfl rfl ?_ (.cons 49 rfl rfl rfl rfl ?_ WAlts.nil))) ?_
  rotate_left 3
  refine WebN.cons rfl ⟨(rk _ _), (rk _ _), (pk rfl), trivial⟩ ⟨(bk rf0 _), trivial⟩ (.cons 43 rfl rfl rfl rfl ?_ (.cons 48 rfl rfl rfl rfl ?_ (.cons 50 rfl rfl rfl rfl ?_ WAlts.nil))) ?_
  rotate_left 3
  refine WebN.cons rfl ⟨(rk _ _), (rk _ _), (pk rfl), trivial⟩ ⟨(bk rf0 _), trivial⟩ (.cons 44 rfl rfl rfl rfl ?_ (.cons 49 rfl rfl rfl rfl ?_ (.cons 50 rfl rfl rfl rfl ?_ WAlts.nil))) ?_
  rotate_left 3
  refine WebN.cons rfl ⟨(rk _ _), (pk rfl), (pk rfl), trivial⟩ ⟨(bk rf0 _), (bk rf0 _), trivial⟩ (.cons 45 rfl rfl rfl rfl ?_ (.cons 48 rfl rfl rfl rfl ?_ (.cons 51 rfl rfl rfl rfl ?_ WAlts.nil))) ?_
  rotate_left 3
  refine WebN.cons rfl ⟨(rk _ _), (pk rfl), (pk rfl), trivial⟩ ⟨(bk rf0 _), (bk rf0 _), trivial⟩ (.cons 46 rfl rfl rfl rfl ?_ (.cons 49 rfl rfl rfl rfl ?_ (.cons 51 rfl rfl rfl rfl ?_ WAlts.nil))) ?_
  rotate_left 3
  refine WebN.cons rfl ⟨(rk _ _), (pk rfl), (pk rfl), trivial⟩ ⟨(bk rf0 _), (bk rf0 _), trivial⟩ (.cons 47 rfl rfl rfl rfl ?_ (.cons 50 rfl rfl rfl rfl ?_ (.cons 51 rfl rfl rfl rfl ?_ WAlts.nil))) ?_
  rotate_left 3
  refine WebN.cons rfl ⟨(rk _ _), (rk _ _), (pk rfl), trivial⟩ ⟨(bk rf0 _), trivial⟩ (.cons 42 rfl rfl rfl rfl ?_ (.cons 52 rfl rfl rfl rfl ?_ (.cons 53 rfl rfl rfl rfl ?_ WAlts.nil))) ?_
  rotate_left 3
  refine WebN.cons rfl ⟨(rk _ _), (rk _ _), (pk rfl), trivial⟩ ⟨(bk rf0 _), trivial⟩ (.cons 43 rfl rfl rfl rfl ?_ (.cons 52 rfl rfl rfl rfl ?_ (.cons 54 rfl rfl rfl rfl ?_ WAlts.nil))) ?_
  rotate_left 3
  refine WebN.cons rfl ⟨(rk _ _), (rk _ _), (pk rfl), trivial⟩ ⟨(bk rf0 _), trivial⟩ (.cons 44 rfl rfl rfl rfl ?_ (.cons 53 rfl rfl rfl rfl ?_ (.cons 54 rfl rfl rfl rfl ?_ WAlts.nil))) ?_
  rotate_left 3
  refine WebN.cons rfl ⟨(rk _ _), (pk rfl), (pk rfl), trivial⟩ ⟨(bk rf0 _), (bk rf0 _), trivial⟩ (.cons 45 rfl rfl rfl rfl ?_ (.cons 52 rfl rfl rfl rfl ?_ (.cons 55 rfl rfl rfl rfl ?_ WAlts.nil))) ?_
  rotate_left 3
  refine WebN.cons rfl ⟨(rk _ _), (pk rfl), (pk rfl), trivial⟩ ⟨(bk rf0 _), (bk rf0 _), trivial⟩ (.cons 46 rfl rfl rfl rfl ?_ (.cons 53 rfl rfl rfl rfl ?_ (.cons 55 rfl rfl rfl rfl ?_ WAlts.nil))) ?_
  rotate_left 3
  refine WebN.cons rfl ⟨(rk _ _), (pk rfl), (pk rfl), trivial⟩ ⟨(bk rf0 _), (bk rf0 _), trivial⟩ (.cons 47 rfl rfl rfl rfl ?_ (.cons 54 rfl rfl rfl rfl ?_ (.cons 55 rfl rfl rfl rfl ?_ WAlts.nil))) ?_
  rotate_left 3
  refine WebN.cons rfl ⟨(rk _ _), (pk rfl), (pk rfl), trivial⟩ ⟨(bk rf0 _), (bk rf0 _), trivial⟩ (.cons 48 rfl rfl rfl rfl ?_ (.cons 52 rfl rfl rfl rfl ?_ (.cons 56 rfl rfl rfl rfl ?_ WAlts.nil))) ?_
  rotate_left 3
  refine WebN.cons rfl ⟨(rk _ _), (pk rfl), (pk rfl), trivial⟩ ⟨(bk rf0 _), (bk rf0 _), trivial⟩ (.cons 49 rfl rfl rfl rfl ?_ (.cons 53 rfl rfl rfl rfl ?_ (.cons 56 rfl rfl rfl rfl ?_ WAlts.nil))) ?_
  rotate_left 3
  refine WebN.cons rfl ⟨(rk _ _), (pk rfl), (pk rfl), trivial⟩ ⟨(bk rf0 _), (bk rf0 _), trivial⟩ (.cons 50 rfl rfl rfl rfl ?_ (.cons 54 rfl rfl rfl rfl ?_ (.cons 56 rfl rfl rfl rfl ?_ WAlts.nil))) ?_
  rotate_left 3
  refine WebN.cons rfl ⟨(pk rfl), (pk rfl), (pk rfl), trivial⟩ ⟨(bk rf0 _), (bk rf0 _), (bk rf0 _), trivial⟩ (.cons 51 rfl rfl rfl rfl ?_ (.cons 55 rfl rfl rfl rfl ?_ (.cons 56 rfl rfl rfl rfl ?_ WAlts.nil))) ?_
  rotate_left 3
  refine WebN.cons rfl ⟨(rk _ _), (rk _ _), (rk _ _), (pk rfl), trivial⟩ ⟨(bk rf0 _), trivial⟩ (.cons 57 rfl rfl rfl rfl ?_ (.cons 58 rfl rfl rfl rfl ?_ WAlts.nil)) ?_
  rotate_left 2
  refine WebN.cons rfl ⟨(rk _ _), (rk _ _), (rk _ _), (pk rfl), trivial⟩ ⟨(bk rf0 _), trivial⟩ (.cons 57 rfl rfl rfl rfl ?_ (.cons 59 rfl rfl rfl rfl ?_ WAlts.nil)) ?_
  rotate_left 2
  refine WebN.cons rfl ⟨(rk _ _), (rk _ _), (rk _ _), (pk rfl), trivial⟩ ⟨(bk rf0 _), trivial⟩ (.cons 58 rfl rfl rfl rfl ?_ (.cons 59 rfl rfl rfl rfl ?_ WAlts.nil)) ?_
  rotate_left 2
  refine WebN.cons rfl ⟨(rk _ _), (rk _ _), (pk rfl), (pk rfl), trivial⟩ ⟨(bk rf0 _), (bk rf0 _), trivial⟩ (.cons 57 rfl rfl rfl rfl ?_ (.cons 60 rfl rfl rfl rfl ?_ WAlts.nil)) ?_
  rotate_left 2
  refine WebN.cons rfl ⟨(rk _ _), (rk _ _), (pk rfl), (pk rfl), trivial⟩ ⟨(bk rf0 _), (bk rf0 _), trivial⟩ (.cons 58 rfl rfl rfl rfl ?_ (.cons 60 rfl rfl rfl rfl ?_ WAlts.nil)) ?_
  rotate_left 2
  refine WebN.cons rfl ⟨(rk _ _), (rk _ _), (pk rfl), (pk rfl), trivial⟩ ⟨(bk rf0 _), (bk rf0 _), trivial⟩ (.cons 59 rfl rfl rfl rfl ?_ (.cons 60 rfl rfl rfl rfl ?_ WAlts.nil)) ?_
  rotate_left 2
  refine WebN.cons rfl ⟨(rk _ _), (rk _ _), (pk rfl), (pk rfl), trivial⟩ ⟨(bk rf0 _), (bk rf0 _), trivial⟩ (.cons 57 rfl rfl rfl rfl ?_ (.cons 61 rfl rfl rfl rfl ?_ WAlts.nil)) ?_
  rotate_left 2
  refine WebN.cons rfl ⟨(rk _ _), (rk _ _), (pk rfl), (pk rfl), trivial⟩ ⟨(bk rf0 _), (bk rf0 _), trivial⟩ (.cons 58 rfl rfl rfl rfl ?_ (.cons 61 rfl rfl rfl rfl ?_ WAlts.nil)) ?_
  rotate_left 2
  refine WebN.cons rfl ⟨(rk _ _), (rk _ _), (pk rfl), (pk rfl), trivial⟩ ⟨(bk rf0 _), (bk rf0 _), trivial⟩ (.cons 59 rfl rfl rfl rfl ?_ (.cons 61 rfl rfl rfl rfl ?_ WAlts.nil)) ?_
  rotate_left 2
  refine WebN.cons rfl ⟨(rk _ _), (pk rfl), (pk rfl), (pk rfl), trivial⟩ ⟨(bk rf0 _), (bk rf0 _), (bk rf0 _), trivial⟩ (.cons 60 rfl rfl rfl rfl ?_ (.cons 61 rfl rfl rfl rfl ?_ (.cons 62 rfl rfl rfl rfl ?_ WAlts.nil))) ?_
  rotate_left 3
  refine WebN.cons rfl ⟨(rk _ _), (rk _ _), (pk rfl), (pk rfl), trivial⟩ ⟨(bk rf0 _), (bk rf0 _), trivial⟩ (.cons 57 rfl rfl rfl rfl ?_ (.cons 63 rfl rfl rfl rfl ?_ WAlts.nil)) ?_
  rotate_left 2
  refine WebN.cons rfl ⟨(rk _ _), (rk _ _), (pk rfl), (pk rfl), trivial⟩ ⟨(bk rf0 _), (bk rf0 _), trivial⟩ (.cons 58 rfl rfl rfl rfl ?_ (.cons 63 rfl rfl rfl rfl ?_ WAlts.nil)) ?_
  rotate_left 2
  refine WebN.cons rfl ⟨(rk _ _), (rk _ _), (pk rfl), (pk rfl), trivial⟩ ⟨(bk rf0 _), (bk rf0 _), trivial⟩ (.cons 59 rfl rfl rfl rfl ?_ (.cons 63 rfl rfl rfl rfl ?_ WAlts.nil)) ?_
  rotate_left 2
  refine WebN.cons rfl ⟨(rk _ _), (pk rfl), (pk rfl), (pk rfl), trivial⟩ ⟨(bk rf0 _), (bk rf0 _), (bk rf0 _), trivial⟩ (.cons 60 rfl rfl rfl rfl ?_ (.cons 63 rfl rfl rfl rfl ?_ WAlts.nil)) ?_
  rotate_left 2
  refine WebN.cons rfl ⟨(rk _ _), (pk rfl), (pk rfl), (pk rfl), trivial⟩ ⟨(bk rf0 _), (bk rf0 _), (bk rf0 _), trivial⟩ (.cons 61 rfl rfl rfl rfl ?_ (.cons 63 rfl rfl rfl rfl ?_ WAlts.nil)) ?_
  rotate_left 2
  refine WebN.cons rfl ⟨(rk _ _), (rk _ _), (rk _ _), (pk rfl), (pk rfl), trivial⟩ ⟨(bk rf0 _), (bk rf0 _), trivial⟩ (.cons 64 rfl rfl rfl rfl ?_ WAlts.nil) ?_
  rotate_left 1
  refine WebN.cons rfl ⟨(rk _ _), (rk _ _), (rk _ _), (pk rfl), (pk rfl), trivial⟩ ⟨(bk rf0 _), (bk rf0 _), trivial⟩ (.cons 64 rfl rfl rfl rfl ?_ WAlts.nil) ?_
  rotate_left 1
  refine WebN.cons rfl ⟨(rk _ _), (rk _ _), (rk _ _), (pk rfl), (pk rfl), trivial⟩ ⟨(bk rf0 _), (bk rf0 _), trivial⟩ (.cons 64 rfl rfl rfl rfl ?_ WAlts.nil) ?_
  rotate_left 1
  refine WebN.cons rfl ⟨(rk _ _), (rk _ _), (pk rfl), (pk rfl), (pk rfl), trivial⟩ ⟨(bk rf0 _), (bk rf0 _), (bk rf0 _), trivial⟩ (.cons 64 rfl rfl rfl rfl ?_ (.cons 65 rfl rfl rfl rfl ?_ WAlts.nil)) ?_
  rotate_left 2
  refine WebN.cons rfl ⟨(rk _ _), (rk _ _), (pk rfl), (pk rfl), (pk rfl), trivial⟩ ⟨(bk rf0 _), (bk rf0 _), (bk rf0 _), trivial⟩ (.cons 64 rfl rfl rfl rfl ?_ (.cons 66 rfl rfl rfl rfl ?_ WAlts.nil)) ?_
  rotate_left 2
  refine WebN.cons rfl ⟨(rk _ _), (pk rfl), (pk rfl), (pk rfl), trivial⟩ ⟨(bk _ _), (bk rf0 _), (bk rf0 _), trivial⟩ (.cons 65 rfl rfl rfl rfl ?_ (.cons 66 rfl rfl rfl rfl ?_ WAlts.nil)) ?_
  rotate_left 2
  refine WebN.cons rfl ⟨(rk _ _), (rk _ _), (pk rfl), (pk rfl), (pk rfl), trivial⟩ ⟨(bk rf0 _), (bk rf0 _), (bk rf0 _), trivial⟩ (.cons 64 rfl rfl rfl rfl ?_ WAlts.nil) ?_
  rotate_left 1
  refine WebN.cons rfl ⟨(rk _ _), (rk _ _), (rk _ _), (pk rfl), (pk rfl), (pk rfl), trivial⟩ ⟨(bk rf0 _), (bk rf0 _), (bk rf0 _), trivial⟩ (.cons 67 rfl rfl rfl rfl ?_ WAlts.nil) ?_
  rotate_left 1
  refine WebN.cons rfl ⟨(rk _ _), (rk _ _), (pk rfl), (pk rfl), (pk rfl), trivial⟩ ⟨(bk _ _), (bk rf0 _), (bk rf0 _), trivial⟩ (.cons 67 rfl rfl rfl rfl ?_ (.cons 68 rfl rfl rfl rfl ?_ WAlts.nil)) ?_
  rotate_left 2
  refine WebN.cons rfl ⟨(rk _ _), (rk _ _), (pk rfl), (pk rfl), (pk rfl), trivial⟩ ⟨(bk _ _), (bk rf0 _), (bk rf0 _), trivial⟩ (.cons 67 rfl rfl rfl rfl ?_ WAlts.nil) ?_
  rotate_left 1
  refine WebN.cons rfl ⟨(rk _ _), (rk _ _), (rk _ _), (pk rfl), (pk rfl), (pk rfl), trivial⟩ ⟨(bk _ _), (bk rf0 _), (bk rf0 _), trivial⟩ (.cons 69 rfl rfl rfl rfl ?_ WAlts.nil) ?_
  rotate_left 1
  refine WebN.cons rfl ⟨(rk _ _), (rk _ _), (pk rfl), (pk rfl), (pk rfl), trivial⟩ ⟨(bk _ _), (bk _ _), (bk rf0 _), trivial⟩ (.cons 69 rfl rfl rfl rfl ?_ WAlts.nil) ?_
  rotate_left 1
  refine WebN.cons rfl ⟨(rk _ _), (rk _ _), (rk _ _), (pk rfl), (pk rfl), (pk rfl), trivial⟩ ⟨(bk _ _), (bk _ _), (bk rf0 _), trivial⟩ (.cons 70 rfl rfl rfl rfl ?_ WAlts.nil) ?_
  rotate_left 1
  refine WebN.last rfl ⟨(rk _ _), (rk _ _), (rk _ _), (pk rfl), (pk rfl), (pk rfl), trivial⟩ ⟨(bk _ _), (bk _ _), (bk _ _), trivial⟩ ?_
  exact WebN.nil
  all_goals first | refine DOps.val (r := .v a.tv) rfl rfl rfl (OpVal.cast (OpVal.loadN tt_ok rfl rfl rfl rfl rfl (Nat.le_of_ble_eq_true rfl)) rfl) ?_ | refine DOps.val (r := .v b.tv) rfl rfl rfl (OpVal.cast (OpVal.loadN tt_ok rfl rfl rfl rfl rfl (Nat.le_of_ble_eq_true rfl)) rfl) ?_ | refine DOps.val (r := .v prev.tv) rfl rfl rfl (OpVal.cast (OpVal.loadN tt_ok rfl rfl rfl rfl rfl (Nat.le_of_ble_eq_true rfl)) rfl) ?_ | refine DOps.alS tt_ok rfl rfl rfl rfl rfl rfl rfl ?_ | refine DOps.store tt_ok rfl rfl rfl rfl rfl rfl rfl rfl (Nat.le_of_ble_eq_true rfl) rfl ?_
  all_goals refine DOps.nil ?_
  all_goals exact ⟨rfl, by (repeat (first | exact Off.refl _ _ | refine Sub.base ?_ | refine Sub.junk ?_ | refine Sub.cons (by rfl) ?_ | refine Off.cons rfl ?_ | refine Off.junks rfl ?_)), by (repeat (first | exact MSubX.nil | refine MSubX.skip rfl ?_ | refine MSubX.cons (by rfl) ?_))⟩
end Go.Proofs.YtdneiepigllnkaaDoor
