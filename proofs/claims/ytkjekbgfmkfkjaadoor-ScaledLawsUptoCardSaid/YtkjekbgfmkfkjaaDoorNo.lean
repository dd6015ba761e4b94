/- law02: the laws of sums, quotients, parts. -/
import Derived.Test.YtkjekbgfmkfkjaaDoorNm
namespace Go.Proofs.YtkjekbgfmkfkjaaDoor
open Go Go.RowKit Go.Proofs.YtkjekbgfmkfkjaaDoor.DL
set_option linter.constructorNameAsVariable false
set_option linter.unusedVariables false
set_option linter.unusedSimpArgs false

namespace DL
section
variable {P : Program} {N : Nat} {ops : Array Oper} {env : Env} {M : Mem} {o : Oper}
theorem OpVal.neqBB {T : TypeId → Option TyI} (hT : TOk P T) {t t' : TypeId} {x y : Operand} {s b : Nat} {z : Value} {m n : Bool} (ho : o.op = .binOp .neq t x y t') (ht : T t = some ⟨.bool, s, b, z⟩) (hx : opv env x = vB m) (hy : opv env y = vB n) : OpVal P N env M o (vB (!decide (m = n))) :=
  OpVal.of_run (v := .bool (!decide (m = n))) trivial fun γ Pr x0 a w h => ⟨by
    have h3 := EqV.bool (m := m) (n := n) hT ht 10000 (by omega) γ Pr w (.bool m) (.bool n) ⟨rfl, rfl⟩ ⟨rfl, rfl⟩
    have h4 : (Op.equal t (.bool m) (.bool n)).run P w = .ok (decide (m = n)) w := h3
    simp only [execOp, ho, opB h hx, opB h hy, eqGuard, binOp]
    simp [h4], rfl, rfl⟩
end
end DL
theorem add_comm' (a b : Int) : addW b a = addW a b := by
  unfold addW
  rw [Int.add_comm, Bool.and_comm]
theorem sub_cases (a b : Int) : (subW a b = (a - b, true) ∧ addW (a - b) b = (a, true)) ∨ subW a b = (0, false) := by
  unfold subW addW fittedW
  by_cases h : (fitsB a && fitsB b && fitsB (a - b)) = true
  · left
    rw [if_pos h]
    simp only [Bool.and_eq_true] at h
    obtain ⟨⟨h1, h2⟩, h3⟩ := h
    rw [show a - b + b = a by omega, h1, h2, h3]
    exact ⟨rfl, rfl⟩
  · right
    rw [if_neg h]
theorem over_cases (a n : Int) : (∃ q r, overW a n = (q, r, true) ∧ q * n = a - r ∧ -1073741823 ≤ r ∧ r ≤ 1073741823 ∧ -1073741823 ≤ a ∧ a ≤ 1073741823 ∧ (r = 0 ∨ (r < 0 ∧ a < 0) ∨ (0 < r ∧ 0 < a))) ∨ overW a n = (0, 0, false) := by
  by_cases h : (fitsB a && !decide (n = 0)) = true
  · left
    have hb := over_bnd a n
    have e : overW a n = (a.tdiv n, a.tmod n, true) := by rw [overW, if_pos h]
    rw [e] at hb
    rw [Bool.and_eq_true] at h
    obtain ⟨l1, l2⟩ := fits_iff.1 h.1
    have hm := Int.mul_tdiv_add_tmod a n
    refine ⟨_, _, e, by rw [Int.mul_comm]; omega, hb.2.1, hb.2.2, l1, l2, ?_⟩
    by_cases h0 : a < 0
    · have := Int.tmod_nonneg n (show 0 ≤ -a by omega)
      rw [Int.neg_tmod] at this
      by_cases hr : a.tmod n = 0
      · exact .inl hr
      · exact .inr (.inl ⟨by omega, h0⟩)
    · have := Int.tmod_nonneg n (show 0 ≤ a by omega)
      by_cases hr : a.tmod n = 0
      · exact .inl hr
      · refine .inr (.inr ⟨by omega, ?_⟩)
        by_cases ha : a = 0
        · rw [ha, Int.zero_tmod] at hr; exact absurd rfl hr
        · omega
  · right
    rw [overW, if_neg h]
theorem part_all (a : Int) : partW a 65536 65536 = if fitsB a then (a, true) else (0, false) := by
  unfold partW
  cases h : fitsB a with
  | false => rw [if_neg (fun h' => by have := h'.1; rw [h] at this; cases this)]; rfl
  | true =>
    rw [if_pos ⟨h, by decide, by decide, by decide, by decide⟩]
    have e : partN a 65536 65536 = a := by
      unfold partN pq
      rw [show Int.toNat 65536 = 65536 from rfl]
      split <;> omega
    rw [e, fittedW, h]; rfl
theorem pq_mono {m m' : Nat} (h : m ≤ m') (n d : Nat) : pq m n d ≤ pq m' n d := by
  unfold pq
  refine Nat.div_le_div_right (Nat.add_le_add_right ?_ _)
  exact Nat.mul_le_mul_right _ (Nat.mul_le_mul_left _ h)
theorem partN_mono (a num den : Int) : partN (a - 1) num den ≤ partN a num den := by
  unfold partN
  by_cases h : a ≤ 0
  · rw [if_pos (by omega)]
    have := pq_mono (show a.natAbs ≤ (a - 1).natAbs by omega) num.toNat den.toNat
    split <;> omega
  · have := pq_mono (show (a - 1).natAbs ≤ a.natAbs by omega) num.toNat den.toNat
    rw [if_neg (by omega), if_neg (by omega)]
    omega
theorem part_true {a num den : Int} (h : (partW a num den).2 = true) : fitsB a = true ∧ (partW a num den).1 = partN a num den := by
  unfold partW at h ⊢
  by_cases hp : partOk a num den
  · rw [if_pos hp] at h ⊢
    unfold fittedW at h ⊢
    split at h
    · rename_i h'
      rw [if_pos h']; exact ⟨hp.1, rfl⟩
    · cases h
  · rw [if_neg hp] at h; cases h
/-- Parts of a number, and of one that is one less. -/
theorem part_cases (a b c : Int) : ((partW a b c).2 = false) ∨ ((partW a b c).2 = true ∧ (partW (IntKind.i64.wrap (a - 1)) b c).2 = false) ∨ ((partW a b c).2 = true ∧ (partW (IntKind.i64.wrap (a - 1)) b c).2 = true ∧ (partW (IntKind.i64.wrap (a - 1)) b c).1 ≤ (partW a b c).1) := by
  cases h1 : (partW a b c).2 with
  | false => exact .inl rfl
  | true =>
    obtain ⟨hf, e1⟩ := part_true h1
    obtain ⟨l1, l2⟩ := fits_iff.1 hf
    have hw : IntKind.i64.wrap (a - 1) = a - 1 := wrap_in64 (by omega) (by omega)
    rw [hw]
    cases h2 : (partW (a - 1) b c).2 with
    | false => exact .inr (.inl ⟨rfl, rfl⟩)
    | true =>
      refine .inr (.inr ⟨rfl, rfl, ?_⟩)
      rw [e1, (part_true h2).2]
      exact partN_mono a b c
attribute [local irreducible] DCode DOps OpVal DCalls DCallsM DCallsB DCallsR thenQ seqQ inBlockQ endQ endQM OpNew DCf
theorem part_four (a : Int) : ∃ x y, partW a 65536 65536 = (x, y) ∧ ((fitsB a = true ∧ a = x ∧ y = true) ∨ (fitsB a = false ∧ x = 0 ∧ y = false)) := by
  rw [part_all]
  cases fitsB a with
  | false => exact ⟨_, _, rfl, .inr ⟨rfl, rfl, rfl⟩⟩
  | true => exact ⟨_, _, rfl, .inl ⟨rfl, rfl, rfl⟩⟩
end Go.Proofs.YtkjekbgfmkfkjaaDoor
