/- Leaf: the plain law: the program's counting and the document's say the same. -/
import Derived.Test.YtgjamldcglebjaaH
namespace Go.Proofs.Ytgjamldcglebjaa
open Go Go.RowKit Go.Proofs.Ytgjamldcglebjaa.DL

theorem fitsB_iff (n : Int) : fitsB n = true ↔ -1073741823 ≤ n ∧ n ≤ 1073741823 := by simp [fitsB]
theorem amountB_iff (n u : Int) : amountB n u = true ↔ 0 ≤ n ∧ n ≤ 1073741823 ∧ n.tmod u = 0 := by
  simp only [amountB, Bool.and_eq_true, decide_eq_true_eq, fitsB_iff]
  constructor
  · rintro ⟨h1, ⟨_, h2⟩, h3⟩; exact ⟨h1, h2, h3⟩
  · rintro ⟨h1, h2, h3⟩; exact ⟨h1, ⟨by omega, h2⟩, h3⟩
theorem w64_in {n : Int} (h0 : -9223372036854775808 ≤ n) (h1 : n ≤ 9223372036854775807) : w64 n = n := wrap_in64 h0 h1

def sumP : List (Int × Int) → Int
  | [] => 0
  | p :: ps => p.1 + sumP ps
theorem sumP_append (ps qs : List (Int × Int)) : sumP (ps ++ qs) = sumP ps + sumP qs := by
  induction ps with
  | nil => simp [sumP]
  | cons p ps ih => rw [List.cons_append, sumP, sumP, ih]; omega
theorem sumP_bounds : ∀ (ps : List (Int × Int)), ps.all amountP = true → 0 ≤ sumP ps ∧ sumP ps ≤ 1073741823 * ps.length
  | [], _ => by simp [sumP]
  | p :: ps, h => by
    rw [List.all_cons, Bool.and_eq_true] at h
    have h1 := (amountB_iff _ _).1 h.1
    have h2 := sumP_bounds ps h.2
    rw [sumP, List.length_cons]
    omega
theorem addsC_false (s : Int) : ∀ (ps : List (Int × Int)), (addsC (s, false) ps).2 = false
  | [] => rfl
  | p :: ps => by rw [addsC_cons]; exact addsC_false s ps
theorem addsC_ok : ∀ (ps : List (Int × Int)) (s : Int), 0 ≤ s → s ≤ 1073741823 → (addsC (s, true) ps).2 = (ps.all amountP && decide (s + sumP ps ≤ 1073741823))
  | [], s, h0, h1 => by simp [addsC, sumP, h1]
  | p :: ps, s, h0, h1 => by
    rw [addsC_cons, List.all_cons, sumP]
    unfold addC
    cases ha : amountB p.1 p.2 with
    | false => simp [amountP, ha, addsC_false]
    | true =>
      have hb := (amountB_iff _ _).1 ha
      have hw : w64 (s + p.1) = s + p.1 := w64_in (by omega) (by omega)
      simp only [Bool.and_self, if_true, hw, amountP, ha, Bool.true_and]
      by_cases hf : s + p.1 ≤ 1073741823
      · rw [show fitsB (s + p.1) = true from (fitsB_iff _).2 ⟨by omega, hf⟩, addsC_ok ps (s + p.1) (by omega) hf, Int.add_assoc]
      · rw [show fitsB (s + p.1) = false by simp [fitsB]; omega, addsC_false]
        cases hall : ps.all amountP with
        | false => rfl
        | true =>
          have := sumP_bounds ps hall
          rw [Bool.true_and]
          symm
          rw [decide_eq_false_iff_not]
          omega
theorem totalW_eq : ∀ (ps : List (Int × Int)) (s : Int), ps.all amountP = true → 0 ≤ s → s + 1073741823 * ps.length ≤ 9223372036854775807 → totalW s ps = s + sumP ps
  | [], s, _, _, _ => by simp [totalW, sumP]
  | p :: ps, s, h, h0, h1 => by
    rw [List.all_cons, Bool.and_eq_true] at h
    have hb := (amountB_iff _ _).1 h.1
    rw [List.length_cons] at h1
    show totalW (w64 (s + p.1)) ps = _
    rw [w64_in (by omega) (by omega), totalW_eq ps (s + p.1) h.2 (by omega) (by omega), sumP, Int.add_assoc]

theorem rowA_length (u : Int) (xs : List Int) : (rowA u xs).length = xs.length := by simp [rowA]
theorem flat_length (u : Int) : ∀ (l : List Load), Tens l → (l.flatMap (loadA u)).length = 11 * l.length
  | [], _ => rfl
  | x :: l, h => by
    rw [List.flatMap_cons, List.length_append, flat_length u l fun y hy => h y (List.mem_cons_of_mem _ hy), loadA, List.length_cons, rowA_length, h x (List.mem_cons_self ..), List.length_cons]
    omega
theorem sumP_repl (r : Int) : ∀ (k : Nat), sumP (List.replicate k (r, 1)) = k * r
  | 0 => by simp [sumP]
  | k + 1 => by
    rw [List.replicate_succ, sumP, sumP_repl r k, Int.natCast_succ, Int.add_mul]
    omega

theorem may_same (l : List Load) (left : List Int) (a : Area) (ht : Tens l) (h10 : left.length = 10) : mayR l left a = mayW l left a := by
  unfold mayR mayW
  cases hA : areaB l.length a with
  | false => rfl
  | true =>
    have hlen : l.length ≤ 5000 := by
      simp only [areaB, Bool.and_eq_true, decide_eq_true_eq] at hA
      omega
    rw [Bool.true_and, Bool.true_and, addsC_ok _ 0 (by omega) (by omega)]
    have hall : (amounts l left a).all amountP = (amountB a.rule 1 && ((rowA a.unit left).all amountP && (l.flatMap (loadA a.unit)).all amountP)) := by
      rw [amounts, List.all_append, List.all_append, Bool.and_assoc]
      congr 1
      rw [Bool.eq_iff_iff, List.all_eq_true]
      constructor
      · intro h; exact h (a.rule, 1) (by simp)
      · intro h p hp; rw [(List.mem_replicate.1 hp).2]; exact h
    rw [hall, Int.zero_add]
    cases hr : amountB a.rule 1 with
    | false => rfl
    | true =>
      rw [Bool.true_and, Bool.true_and]
      cases h1 : (rowA a.unit left).all amountP with
      | false => rfl
      | true =>
        cases h2 : (l.flatMap (loadA a.unit)).all amountP with
        | false => rfl
        | true =>
          rw [Bool.true_and, Bool.true_and, Bool.true_and]
          have hb := (amountB_iff _ _).1 hr
          have b1 := sumP_bounds _ h1
          have b2 := sumP_bounds _ h2
          have l1 := rowA_length a.unit left
          have l2 := flat_length a.unit l ht
          rw [w64_in (by omega) (by omega), totalW_eq _ _ h1 (by omega) (by omega), totalW_eq _ _ h2 (by omega) (by omega), amounts, sumP_append, sumP_append, sumP_repl, fitsB]
          rw [Bool.eq_iff_iff, decide_eq_true_eq, decide_eq_true_eq]
          omega

theorem mayAt_iff (l : List Load) (p : Int) (left : List Int) (a : Area) : mayAt l p left a = false ↔ (p < 0 ∨ l.length < p ∨ mayW l left a = false) := by
  simp only [mayAt, Bool.and_eq_false_iff, decide_eq_false_iff_not]
  constructor
  · rintro (h | h | h)
    · exact .inl (by omega)
    · exact .inr (.inl (by omega))
    · exact .inr (.inr h)
  · rintro (h | h | h)
    · exact .inl (by omega)
    · exact .inr (.inl (by omega))
    · exact .inr (.inr h)
theorem need_same (l : List Load) (p n : Int) (left : List Int) (a : Area) (ht : Tens l) (h10 : left.length = 10) : needR l p n left a = needW l p n left a := by
  unfold needR needW
  rw [may_same l left a ht h10]
  have hi := mayAt_iff l p left a
  by_cases h : p < 0 ∨ l.length < p ∨ n < 0 ∨ mayW l left a = false
  · rw [if_pos h, if_pos]
    rcases h with h | h | h | h
    · exact .inl (hi.2 (.inl h))
    · exact .inl (hi.2 (.inr (.inl h)))
    · exact .inr h
    · exact .inl (hi.2 (.inr (.inr h)))
  · rw [if_neg h, if_neg]
    · have e : p.toNat + min n.toNat (l.length - p.toNat) = min l.length (p.toNat + min n.toNat l.length) := by omega
      rw [e]
    · rintro (h0 | h1)
      · rcases hi.1 h0 with h1 | h1 | h1
        · exact h (.inl h1)
        · exact h (.inr (.inl h1))
        · exact h (.inr (.inr (.inr h1)))
      · exact h (.inr (.inr (.inl h1)))
theorem fit_same (l : List Load) (p : Int) (left : List Int) (a : Area) (ht : Tens l) (h10 : left.length = 10) : fitR l p left a = fitW l p left a := by
  unfold fitR fitW
  rw [may_same l left a ht h10]
  by_cases h : mayAt l p left a = false
  · rw [if_pos h, if_pos ((mayAt_iff ..).1 h)]
  · rw [if_neg h, if_neg fun k => h ((mayAt_iff ..).2 k)]
end Go.Proofs.Ytgjamldcglebjaa
