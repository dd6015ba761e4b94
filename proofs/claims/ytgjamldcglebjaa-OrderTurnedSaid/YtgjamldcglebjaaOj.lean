/- Order: the document's order of a series; the fixed calls; that the two orders are one. -/
import Derived.Test.YtgjamldcglebjaaOi
namespace Go.Proofs.Ytgjamldcglebjaa
open Go Go.RowKit Go.Proofs.Ytgjamldcglebjaa.DL
set_option linter.unusedVariables false
set_option linter.unusedSimpArgs false
attribute [local irreducible] DCode DOps OpVal DCalls DCallsM DCallsB DCallsR thenQ seqQ inBlockQ endQ endQM OpNew DCf

theorem ltX_ord (l : List NoteM) : Ord (ltX l) := by
  have h : ∀ x y, ltX l x y = true ↔ (l.getD x.toNat note0).first < (l.getD y.toNat note0).first ∨ (l.getD x.toNat note0).first = (l.getD y.toNat note0).first ∧ (l.getD x.toNat note0).last > (l.getD y.toNat note0).last := fun x y => by
    rw [ltX, decide_eq_true_iff, cmpX, cmpN_lt]
  refine ⟨fun x => ?_, fun x y z h1 h2 => ?_, fun x y z h1 => ?_⟩
  · rw [Bool.eq_false_iff]
    intro h1
    have := (h x x).1 h1
    omega
  · rw [h] at *; omega
  · rw [h] at h1
    rw [h, h]; omega
theorem pairs_of {lt : Int → Int → Bool} {xs : List Int} (h : Srt lt 0 xs.length xs) : xs.Pairwise (pre lt) := by
  rw [List.pairwise_iff_getElem]
  intro i j hi hj hij
  have := h i j (Nat.zero_le _) hij hj
  rwa [gI_get hi, gI_get hj] at this
theorem srt_of {lt : Int → Int → Bool} {xs : List Int} (h : xs.Pairwise (pre lt)) : Srt lt 0 xs.length xs := fun i j _ hij hj => by
  rw [gI_get (by omega : i < xs.length), gI_get hj]
  exact List.pairwise_iff_getElem.1 h i j _ _ hij
/-- Lists of the same numbers that stand in order are the same. -/
theorem ord_uniq {lt : Int → Int → Bool} (O : Ord lt) {xs ys : List Int} (h1 : xs.Pairwise (pre lt)) (h2 : ys.Pairwise (pre lt)) (hp : xs.Perm ys) : xs = ys :=
  List.Perm.eq_of_pairwise (fun a b _ _ k1 k2 => absurd k2 (pre_asym O k1)) h1 h2 hp

end Go.Proofs.Ytgjamldcglebjaa
