/- Texts, plain: cut at a letter, cut at two dots; joined. No program in sight. -/
import Derived.Lib.SplitLaws
import Derived.Lib.IndexMore
import Derived.Lib.Join
import Derived.Lib.Strings
import Derived.Lib.ItoaNum
import Derived.Lib.ParseIntBTie
import Derived.Lib.AtoiTie
import Derived.Lib.SlTrimSet
import Derived.Lib.TrimByte

namespace Go.Proofs.YtkjekbgfmkfkjaaDoor
open Go
set_option linter.unusedVariables false
set_option linter.unusedSimpArgs false
set_option linter.constructorNameAsVariable false

/-- A text, cut at each letter c. -/
def spl (c : UInt8) : List UInt8 → List (List UInt8)
  | [] => [[]]
  | x :: l => if x = c then [] :: spl c l else (x :: (spl c l).headD []) :: (spl c l).tail
theorem spl_hit {c : UInt8} : ∀ {a : List UInt8} (b : List UInt8), c ∉ a → spl c (a ++ c :: b) = a :: spl c b
  | [], b, _ => by rw [List.nil_append, spl, if_pos rfl]
  | x :: a, b, h => by
    have h1 : x ≠ c := fun e => h (e ▸ List.mem_cons_self ..)
    have h2 : c ∉ a := fun e => h (List.mem_cons_of_mem _ e)
    rw [List.cons_append, spl, if_neg h1, spl_hit b h2]
    rfl
/-- Where a letter stands first. -/
theorem index_one_cases (c : UInt8) (l : List UInt8) : (Lib.index l [c] = -1 ∧ c ∉ l) ∨ ∃ a b, l = a ++ c :: b ∧ c ∉ a ∧ Lib.index l [c] = (a.length : Int) := by
  rw [Lib.index_one]
  induction l with
  | nil => exact .inl ⟨rfl, by simp⟩
  | cons x l ih =>
    rw [Lib.indexByte]
    by_cases hx : x = c
    · subst hx
      exact .inr ⟨[], l, rfl, by simp, by simp⟩
    · rcases ih with ⟨h1, h2⟩ | ⟨a, b, h1, h2, h3⟩
      · refine .inl ⟨?_, fun hm => (List.mem_cons.1 hm).elim (fun e => hx e.symm) h2⟩
        rw [h1]; simp [hx]
      · refine .inr ⟨x :: a, b, by rw [h1]; rfl, fun hm => (List.mem_cons.1 hm).elim (fun e => hx e.symm) h2, ?_⟩
        rw [h3]
        have : ((a.length : Int) == -1) = false := by rw [beq_eq_false_iff_ne]; omega
        simp [hx, this]
/-- A text, cut at its first letter c. -/
theorem cut_none {c : UInt8} {l : List UInt8} (h : c ∉ l) : Lib.cut l [c] = (l, [], false) := by
  rcases index_one_cases c l with ⟨h1, _⟩ | ⟨a, b, rfl, _, _⟩
  · rw [Lib.cut, h1]; rfl
  · exact absurd (by simp) h
theorem cut_hit {c : UInt8} {a b : List UInt8} (h : c ∉ a) : Lib.cut (a ++ c :: b) [c] = (a, b, true) := by
  rcases index_one_cases c (a ++ c :: b) with ⟨_, h2⟩ | ⟨a', b', h1, h2, h3⟩
  · exact absurd (by simp) h2
  · have e : a = a' ∧ b = b' := by
      have s1 := spl_hit b h
      have s2 := spl_hit b' h2
      rw [h1, s2] at s1
      obtain ⟨e1, e2⟩ := List.cons.inj s1
      subst e1
      simpa using h1
    obtain ⟨rfl, rfl⟩ := e
    rw [Lib.cut, h3, if_pos (by omega)]
    simp
theorem cut_cases (c : UInt8) (l : List UInt8) : (c ∉ l ∧ Lib.cut l [c] = (l, [], false)) ∨ ∃ a b, l = a ++ c :: b ∧ c ∉ a ∧ Lib.cut l [c] = (a, b, true) := by
  by_cases h : c ∈ l
  · rcases index_one_cases c l with ⟨_, h2⟩ | ⟨a, b, rfl, h2, _⟩
    · exact absurd h h2
    · exact .inr ⟨a, b, rfl, h2, cut_hit h2⟩
  · exact .inl ⟨h, cut_none h⟩
end Go.Proofs.YtkjekbgfmkfkjaaDoor
namespace Go.Proofs.YtkjekbgfmkfkjaaDoor
open Go
set_option linter.unusedVariables false
set_option linter.unusedSimpArgs false
set_option linter.constructorNameAsVariable false

def fitsB (n : Int) : Bool := decide (-1073741823 ≤ n ∧ n ≤ 1073741823)
def fittedW (n : Int) (ok : Bool) : Int × Bool := if ok && fitsB n then (n, true) else (0, false)
def addW (a b : Int) : Int × Bool := fittedW (a + b) (fitsB a && fitsB b)
def subW (a b : Int) : Int × Bool := fittedW (a - b) (fitsB a && fitsB b)
def timesW (a n : Int) : Int × Bool := if a = 0 then (0, true) else fittedW (a * n) (fitsB a && fitsB n)
def overW (a n : Int) : Int × Int × Bool := if fitsB a && !decide (n = 0) then (a.tdiv n, a.tmod n, true) else (0, 0, false)
/-- How much a part is, of an amount. -/
def pq (m num den : Nat) : Nat := (2 * m * num + den) / (2 * den)
def partOk (a num den : Int) : Prop := fitsB a = true ∧ fitsB num = true ∧ fitsB den = true ∧ 0 ≤ num ∧ 0 < den
instance (a num den : Int) : Decidable (partOk a num den) := inferInstanceAs (Decidable (_ ∧ _ ∧ _ ∧ _ ∧ _))
def partN (a num den : Int) : Int := if a < 0 then -(pq a.natAbs num.toNat den.toNat : Nat) else (pq a.natAbs num.toNat den.toNat : Nat)
def partW (a num den : Int) : Int × Bool := if partOk a num den then fittedW (partN a num den) true else (0, false)
theorem fits_iff {n : Int} : fitsB n = true ↔ -1073741823 ≤ n ∧ n ≤ 1073741823 := by rw [fitsB, decide_eq_true_eq]
theorem fits_not {n : Int} : fitsB n = false ↔ ¬ (-1073741823 ≤ n ∧ n ≤ 1073741823) := by rw [fitsB, decide_eq_false_iff_not]
theorem pq_two {p d : Nat} (hd : 0 < d) : (2 * p + d) / (2 * d) = p / d + if d ≤ 2 * (p % d) then 1 else 0 := by
  have h := Nat.div_add_mod p d
  have hm := Nat.mod_lt p hd
  generalize p / d = q at *
  generalize p % d = r at *
  subst h
  have e : 2 * (d * q + r) + d = 2 * d * q + (2 * r + d) := by rw [Nat.mul_add, Nat.mul_assoc]; omega
  rw [e, Nat.mul_add_div (by omega)]
  split
  · rename_i h1
    rw [show (2 * r + d) / (2 * d) = 1 from Nat.div_eq_of_lt_le (by omega) (by omega)]
  · rw [Nat.div_eq_of_lt (by omega)]
end Go.Proofs.YtkjekbgfmkfkjaaDoor
namespace Go.Proofs.YtkjekbgfmkfkjaaDoor
open Go
set_option linter.unusedVariables false
set_option linter.unusedSimpArgs false
set_option linter.constructorNameAsVariable false

theorem digit_toNat {d : Nat} (h : d < 10) : (UInt8.ofNat (48 + d)).toNat = 48 + d := by
  rw [UInt8.toNat_ofNat', Nat.mod_eq_of_lt (by omega)]
theorem dec_step (u : Nat) (h : ¬ u < 10) : Lib.decDigits u = Lib.decDigits (u / 10) ++ [UInt8.ofNat (48 + u % 10)] := by
  rw [Lib.decDigits, dif_neg h]
theorem dec_one {u : Nat} (h : u < 10) : Lib.decDigits u = [UInt8.ofNat (48 + u)] := by rw [Lib.decDigits, dif_pos h]
def isD (c : UInt8) : Bool := decide (48 ≤ c.toNat ∧ c.toNat ≤ 57)
theorem isD_iff {c : UInt8} : isD c = true ↔ 48 ≤ c.toNat ∧ c.toNat ≤ 57 := by rw [isD, decide_eq_true_eq]
theorem isD_not {c : UInt8} : isD c = false ↔ ¬ (48 ≤ c.toNat ∧ c.toNat ≤ 57) := by rw [isD, decide_eq_false_iff_not]
theorem isD_digit {d : Nat} (h : d < 10) : isD (UInt8.ofNat (48 + d)) = true := isD_iff.2 (by rw [digit_toNat h]; omega)
/-- What digits say, behind what is said. -/
def valF (acc : Nat) (l : List UInt8) : Nat := l.foldl (fun a c => a * 10 + (c.toNat - 48)) acc
def valD (l : List UInt8) : Nat := valF 0 l
theorem valF_cons (acc : Nat) (c : UInt8) (l : List UInt8) : valF acc (c :: l) = valF (acc * 10 + (c.toNat - 48)) l := by unfold valF; rw [List.foldl_cons]
theorem valF_app (acc : Nat) (a b : List UInt8) : valF acc (a ++ b) = valF (valF acc a) b := List.foldl_append
theorem valF_ge (l : List UInt8) : ∀ acc : Nat, acc * 10 ^ l.length ≤ valF acc l := by
  induction l with
  | nil => intro acc; rw [List.length_nil, Nat.pow_zero, Nat.mul_one]; exact Nat.le_refl _
  | cons c l ih =>
    intro acc
    have := ih (acc * 10 + (c.toNat - 48))
    rw [valF_cons, List.length_cons, Nat.pow_succ]
    generalize 10 ^ l.length = p at *
    refine Nat.le_trans ?_ this
    rw [Nat.mul_comm p 10, ← Nat.mul_assoc]
    exact Nat.mul_le_mul_right _ (Nat.le_add_right _ _)
theorem valF_mono : ∀ (l : List UInt8) (acc : Nat), acc ≤ valF acc l
  | [], acc => Nat.le_refl _
  | c :: l, acc => by
    have := valF_mono l (acc * 10 + (c.toNat - 48))
    rw [valF_cons]
    omega
theorem valF_lt (l : List UInt8) : ∀ acc : Nat, (∀ c ∈ l, isD c = true) → valF acc l < (acc + 1) * 10 ^ l.length := by
  induction l with
  | nil => intro acc _; rw [List.length_nil, Nat.pow_zero, Nat.mul_one]; exact Nat.lt_succ_self _
  | cons c l ih =>
    intro acc h
    have := ih (acc * 10 + (c.toNat - 48)) fun x hx => h x (List.mem_cons_of_mem _ hx)
    have hc := isD_iff.1 (h c (List.mem_cons_self ..))
    rw [valF_cons, List.length_cons, Nat.pow_succ]
    generalize 10 ^ l.length = p at *
    refine Nat.lt_of_lt_of_le this ?_
    rw [Nat.mul_comm p 10, ← Nat.mul_assoc]
    exact Nat.mul_le_mul_right _ (by omega)
theorem dw_nil {p : UInt8 → Bool} : ∀ {l : List UInt8}, l.dropWhile p = [] ↔ ∀ x ∈ l, p x = true
  | [] => by simp
  | c :: l => by
    rw [List.dropWhile_cons]
    by_cases h : p c = true
    · rw [if_pos h, dw_nil]
      constructor
      · intro h2 x hx
        rcases List.mem_cons.1 hx with rfl | hx
        · exact h
        · exact h2 x hx
      · intro h2 x hx; exact h2 x (List.mem_cons_of_mem _ hx)
    · rw [if_neg h]
      constructor
      · intro h2; cases h2
      · intro h2; exact absurd (h2 c (List.mem_cons_self ..)) h
theorem dw_head {p : UInt8 → Bool} {c : UInt8} {r : List UInt8} : ∀ {l : List UInt8}, l.dropWhile p = c :: r → p c = false
  | [], h => by simp at h
  | x :: l, h => by
    rw [List.dropWhile_cons] at h
    split at h
    · exact dw_head h
    · rename_i hx
      obtain ⟨rfl, _⟩ := List.cons.inj h
      simpa using hx
theorem dw_sub {p : UInt8 → Bool} : ∀ {l : List UInt8}, ∀ x ∈ l.dropWhile p, x ∈ l
  | [], x, h => h
  | c :: l, x, h => by
    rw [List.dropWhile_cons] at h
    split at h
    · exact List.mem_cons_of_mem _ (dw_sub x h)
    · exact h
theorem dec_all (n : Nat) : ∀ c ∈ Lib.decDigits n, isD c = true := by
  induction n using Nat.strongRecOn with
  | ind n ih =>
    intro c hc
    by_cases h : n < 10
    · rw [dec_one h, List.mem_singleton] at hc
      rw [hc]; exact isD_digit h
    · rw [dec_step n h, List.mem_append, List.mem_singleton] at hc
      rcases hc with hc | rfl
      · exact ih (n / 10) (by omega) c hc
      · exact isD_digit (Nat.mod_lt _ (by decide))
theorem dec_ne (n : Nat) : Lib.decDigits n ≠ [] := by
  by_cases h : n < 10
  · rw [dec_one h]; simp
  · rw [dec_step n h]; simp
theorem valD_dec (n : Nat) : valD (Lib.decDigits n) = n := by
  induction n using Nat.strongRecOn with
  | ind n ih =>
    by_cases h : n < 10
    · rw [dec_one h]
      show 0 * 10 + ((UInt8.ofNat (48 + n)).toNat - 48) = n
      rw [digit_toNat h]; omega
    · rw [dec_step n h, valD, valF_app]
      have e := ih (n / 10) (by omega)
      rw [valD] at e
      rw [e]
      show n / 10 * 10 + ((UInt8.ofNat (48 + n % 10)).toNat - 48) = n
      rw [digit_toNat (Nat.mod_lt _ (by decide))]; omega
theorem dec_len {n k : Nat} (h : n < 10 ^ (k + 1)) : (Lib.decDigits n).length ≤ k + 1 := by
  induction k generalizing n with
  | zero => rw [dec_one (by simpa using h)]; exact Nat.le_refl _
  | succ k ih =>
    by_cases h9 : n < 10
    · rw [dec_one h9]; simp
    · rw [dec_step n h9, List.length_append]
      have := ih (n := n / 10) (by rw [Nat.pow_succ] at h; omega)
      simp; omega
theorem itoa_nat (n : Nat) : Lib.itoa (n : Int) = Lib.decDigits n := by
  rw [Lib.itoa, if_neg (by omega)]; rfl
/-- strconv.ParseInt at digits. -/
theorem pu_val : ∀ (l : List UInt8) (acc : Nat), (∀ c ∈ l, isD c = true) → valF acc l < 1000000000000000000 → Lib.parseUint10 acc l = .ok (valF acc l)
  | [], acc, _, _ => rfl
  | c :: l, acc, h, hb => by
    have hc := isD_iff.1 (h c (List.mem_cons_self ..))
    have hm := valF_mono l (acc * 10 + (c.toNat - 48))
    rw [valF_cons] at hb ⊢
    rw [Lib.parseUint10, if_pos hc, if_neg (by omega), if_neg (by omega)]
    exact pu_val l _ (fun x hx => h x (List.mem_cons_of_mem _ hx)) hb
theorem pi_val {l : List UInt8} (h : ∀ c ∈ l, isD c = true) (hb : valD l < 1000000000000000000) : Lib.parseIntB 64 (48 :: l) = .ok (valD l : Nat) := by
  rw [Lib.parseIntB_64, Lib.atoiAll]
  have e : valF 0 (48 :: l) = valD l := rfl
  have hp : Lib.parseMag (48 :: l) = .ok (valD l) := by
    have := pu_val (48 :: l) 0 (fun c hc => by
      rcases List.mem_cons.1 hc with rfl | hc
      · rfl
      · exact h c hc) (by rw [e]; exact hb)
    rw [e] at this
    rw [← this]
    rfl
  simp only [show (48 : UInt8).toNat = 48 from rfl, show ¬ ((48 : Nat) = 43 ∨ (48 : Nat) = 45) by decide, if_false, hp]
  rw [if_neg (by omega), if_neg (by simp)]
  simp
/-- Blank of letters of a set. -/
theorem trimS_nil {l cs : List UInt8} : Lib.trimS l cs = [] ↔ ∀ x ∈ l, cs.contains x = true := by
  unfold Lib.trimS Lib.trimLeftS Lib.trimRightS
  rw [dw_nil]
  constructor
  · intro h
    cases hn : l.reverse.dropWhile (cs.contains ·) with
    | nil =>
      rw [dw_nil] at hn
      intro x hx
      exact hn x (List.mem_reverse.2 hx)
    | cons c r =>
      have hh := dw_head hn
      have := h c (List.mem_reverse.2 (by rw [hn]; exact List.mem_cons_self ..))
      rw [this] at hh
      cases hh
  · intro h x hx
    exact h x (List.mem_reverse.1 (dw_sub x (List.mem_reverse.1 hx)))
abbrev digSet : List UInt8 := [48, 49, 50, 51, 52, 53, 54, 55, 56, 57]
theorem digSet_all : ∀ n, n < 256 → digSet.contains (UInt8.ofNat n) = isD (UInt8.ofNat n) := by decide +kernel
theorem digSet_isD (x : UInt8) : digSet.contains x = isD x := by
  have h := digSet_all x.toNat (UInt8.toNat_lt x)
  rwa [UInt8.ofNat_toNat] at h
theorem dig_trim {l : List UInt8} : Lib.trimS l digSet = [] ↔ ∀ x ∈ l, isD x = true := by
  rw [trimS_nil]
  constructor
  · intro h x hx; rw [← digSet_isD]; exact h x hx
  · intro h x hx; rw [digSet_isD]; exact h x hx
/-- Noughts ahead say nothing. -/
theorem val_trim : ∀ (l : List UInt8), valD (Lib.trimLeftB l 48) = valD l
  | [] => rfl
  | c :: l => by
    unfold Lib.trimLeftB
    rw [List.dropWhile_cons]
    by_cases h : c = 48
    · subst h
      have ih := val_trim l
      unfold Lib.trimLeftB at ih
      rw [if_pos (by simp), ih]
      rfl
    · rw [if_neg (by simpa using h)]
theorem trim_big {l : List UInt8} (hd : ∀ c ∈ l, isD c = true) {k : Nat} (h : k < (Lib.trimLeftB l 48).length) : 10 ^ k ≤ valD l := by
  rw [← val_trim]
  have hs : ∀ c ∈ Lib.trimLeftB l 48, isD c = true := fun c hc => hd c (dw_sub c hc)
  cases e : Lib.trimLeftB l 48 with
  | nil => rw [e] at h; simp at h
  | cons c r =>
    rw [e] at h hs
    have hc := isD_iff.1 (hs c (List.mem_cons_self ..))
    have h48 : c.toNat ≠ 48 := fun h0 => by
      have hh : (c == (48 : UInt8)) = false := dw_head (p := (· == (48 : UInt8))) e
      rw [UInt8.toNat_inj.1 (show c.toNat = (48 : UInt8).toNat by rw [h0]; rfl)] at hh
      exact absurd hh (by decide)
    have h2 := valF_ge r (c.toNat - 48)
    have h3 : valD (c :: r) = valF (c.toNat - 48) r := by rw [valD, valF_cons, Nat.zero_mul, Nat.zero_add]
    rw [h3]
    have h4 : 10 ^ k ≤ 10 ^ r.length := Nat.pow_le_pow_right (by decide) (by rw [List.length_cons] at h; omega)
    have h5 : 1 * 10 ^ r.length ≤ (c.toNat - 48) * 10 ^ r.length := Nat.mul_le_mul_right _ (by omega)
    omega
end Go.Proofs.YtkjekbgfmkfkjaaDoor
namespace Go.Proofs.YtkjekbgfmkfkjaaDoor
open Go
set_option linter.unusedVariables false
set_option linter.unusedSimpArgs false
set_option linter.constructorNameAsVariable false

/-- What stands behind the dot, as numbers. -/
def fracN : Nat → Nat → Nat → List Nat
  | 0, _, _ => []
  | k + 1, s, d =>
    (if 65536 < d then s - 17232 else s) / 65536 :: (if 10 * ((if 65536 < d then s - 17232 else s) % 65536) ≤ 10 * d then [] else fracN k (10 * ((if 65536 < d then s - 17232 else s) % 65536)) (10 * d))
def digU (n : Nat) : UInt8 := UInt8.ofNat (48 + n)
def fracW (f : Nat) : List UInt8 := (fracN 5 (10 * f + 5) 10).map digU
def printS (n : Int) : List UInt8 := if fitsB n then (if n < 0 then [45] else []) ++ Lib.decDigits (n.natAbs / 65536) ++ [46] ++ fracW (n.natAbs % 65536) else []
def frN (l : List Nat) : Nat := l.foldr (fun c a => (a + c * 131072) / 10) 0
def frW (l : List UInt8) : Nat := l.foldr (fun c a => (a + (c.toNat - 48) * 131072) / 10) 0
def bodyS (s : List UInt8) : List UInt8 := Lib.trimPrefix s [45]
def negS (s : List UInt8) : Bool := Lib.hasPrefix s [45]
def digsB (l : List UInt8) (least most : Nat) : Bool := decide (least ≤ l.length) && decide (l.length ≤ most) && l.all isD
def okS (s : List UInt8) : Bool := digsB (Lib.cut (bodyS s) [46]).1 1 s.length && (!(Lib.cut (bodyS s) [46]).2.2 || digsB (Lib.cut (bodyS s) [46]).2.1 1 17)
def amountS (w p : List UInt8) : Nat := valD w * 65536 + (frW p + 1) / 2
def parseS (s : List UInt8) : Int × Bool :=
  if okS s then fittedW (if negS s then -(amountS (Lib.cut (bodyS s) [46]).1 (Lib.cut (bodyS s) [46]).2.1 : Nat) else (amountS (Lib.cut (bodyS s) [46]).1 (Lib.cut (bodyS s) [46]).2.1 : Nat)) true else (0, false)

/-! ### Fractions, all of them -/
def goodL (f : Nat) (L : List Nat) : Prop := (∀ d ∈ L, d < 10) ∧ 1 ≤ L.length ∧ L.length ≤ 17 ∧ (frN L + 1) / 2 = f
theorem frac_low {k s d : Nat} (h : ¬ 65536 < d) : fracN (k + 1) s d = s / 65536 :: (if 10 * (s % 65536) ≤ 10 * d then [] else fracN k (10 * (s % 65536)) (10 * d)) := by
  rw [fracN]; simp only [if_neg h]
theorem frac_high {k s d : Nat} (h : 65536 < d) : fracN (k + 1) s d = (s - 17232) / 65536 :: (if 10 * ((s - 17232) % 65536) ≤ 10 * d then [] else fracN k (10 * ((s - 17232) % 65536)) (10 * d)) := by
  rw [fracN]; simp only [if_pos h]
theorem nest2 (x y : Nat) : (x / 10 + y) / 10 = (x + 10 * y) / 100 := by omega
theorem nest3 (x y z : Nat) : (x / 10 + y + z) / 100 = (x + 10 * (y + z)) / 1000 := by omega
theorem nest4 (x y z : Nat) : (x / 10 + y + z) / 1000 = (x + 10 * (y + z)) / 10000 := by omega
theorem nest5 (x y z : Nat) : (x / 10 + y + z) / 10000 = (x + 10 * (y + z)) / 100000 := by omega
theorem fr_three {f d1 d2 d3 r1 r2 r3 : Nat} (h : f < 65536) (e1 : 10 * f + 5 = 65536 * d1 + r1) (e2 : 10 * r1 = 65536 * d2 + r2) (e3 : 10 * r2 = 65536 * d3 + r3) (_ : r1 < 65536) (_ : r2 < 65536) (_ : r3 < 65536) (c : 10 * r3 ≤ 10 * (10 * (10 * 10))) :
    ((((0 + d3 * 131072) / 10 + d2 * 131072) / 10 + d1 * 131072) / 10 + 1) / 2 = f := by
  rw [nest2, nest3]
  omega
theorem fr_four {f d1 d2 d3 d4 r1 r2 r3 r4 : Nat} (h : f < 65536) (e1 : 10 * f + 5 = 65536 * d1 + r1) (e2 : 10 * r1 = 65536 * d2 + r2) (e3 : 10 * r2 = 65536 * d3 + r3) (e4 : 10 * r3 = 65536 * d4 + r4) (_ : r1 < 65536) (_ : r2 < 65536) (_ : r3 < 65536) (_ : r4 < 65536)
    (c : 10 * r4 ≤ 10 * (10 * (10 * (10 * 10)))) : (((((0 + d4 * 131072) / 10 + d3 * 131072) / 10 + d2 * 131072) / 10 + d1 * 131072) / 10 + 1) / 2 = f := by
  rw [nest2, nest3, nest4]
  omega
theorem fr_five {f d1 d2 d3 d4 d5 r1 r2 r3 r4 r5 : Nat} (h : f < 65536) (e1 : 10 * f + 5 = 65536 * d1 + r1) (e2 : 10 * r1 = 65536 * d2 + r2) (e3 : 10 * r2 = 65536 * d3 + r3) (e4 : 10 * r3 = 65536 * d4 + r4) (e5 : 10 * r4 = 65536 * d5 + r5 + 17232) (_ : r1 < 65536) (_ : r2 < 65536) (_ : r3 < 65536) (_ : r4 < 65536) (_ : r5 < 65536) :
    ((((((0 + d5 * 131072) / 10 + d4 * 131072) / 10 + d3 * 131072) / 10 + d2 * 131072) / 10 + d1 * 131072) / 10 + 1) / 2 = f := by
  rw [nest2, nest3, nest4, nest5]
  omega
theorem good_at {f : Nat} (h : f < 65536) : goodL f (fracN 5 (10 * f + 5) 10) := by
  obtain ⟨d1, r1, hr1, e1⟩ : ∃ d r, r < 65536 ∧ 10 * f + 5 = 65536 * d + r := ⟨(10 * f + 5) / 65536, (10 * f + 5) % 65536, by omega, by omega⟩
  rw [frac_low (by decide), show (10 * f + 5) / 65536 = d1 by omega, show (10 * f + 5) % 65536 = r1 by omega]
  by_cases c1 : 10 * r1 ≤ 10 * 10
  · rw [if_pos c1]
    refine ⟨fun d hd => ?_, by simp, by simp, ?_⟩
    · simp only [List.mem_cons, List.mem_nil_iff, or_false] at hd; omega
    · simp only [frN, List.foldr_cons, List.foldr_nil]; omega
  rw [if_neg c1]
  obtain ⟨d2, r2, hr2, e2⟩ : ∃ d r, r < 65536 ∧ 10 * r1 = 65536 * d + r := ⟨(10 * r1) / 65536, (10 * r1) % 65536, by omega, by omega⟩
  rw [frac_low (by decide), show (10 * r1) / 65536 = d2 by omega, show (10 * r1) % 65536 = r2 by omega]
  by_cases c2 : 10 * r2 ≤ 10 * (10 * 10)
  · rw [if_pos c2]
    refine ⟨fun d hd => ?_, by simp, by simp, ?_⟩
    · simp only [List.mem_cons, List.mem_nil_iff, or_false] at hd; omega
    · simp only [frN, List.foldr_cons, List.foldr_nil]; omega
  rw [if_neg c2]
  obtain ⟨d3, r3, hr3, e3⟩ : ∃ d r, r < 65536 ∧ 10 * r2 = 65536 * d + r := ⟨(10 * r2) / 65536, (10 * r2) % 65536, by omega, by omega⟩
  rw [frac_low (by decide), show (10 * r2) / 65536 = d3 by omega, show (10 * r2) % 65536 = r3 by omega]
  by_cases c3 : 10 * r3 ≤ 10 * (10 * (10 * 10))
  · rw [if_pos c3]
    refine ⟨fun d hd => ?_, by simp, by simp, ?_⟩
    · simp only [List.mem_cons, List.mem_nil_iff, or_false] at hd; omega
    · simp only [frN, List.foldr_cons, List.foldr_nil]
      exact fr_three h e1 e2 e3 hr1 hr2 hr3 c3
  rw [if_neg c3]
  obtain ⟨d4, r4, hr4, e4⟩ : ∃ d r, r < 65536 ∧ 10 * r3 = 65536 * d + r := ⟨(10 * r3) / 65536, (10 * r3) % 65536, by omega, by omega⟩
  rw [frac_low (by decide), show (10 * r3) / 65536 = d4 by omega, show (10 * r3) % 65536 = r4 by omega]
  by_cases c4 : 10 * r4 ≤ 10 * (10 * (10 * (10 * 10)))
  · rw [if_pos c4]
    refine ⟨fun d hd => ?_, by simp, by simp, ?_⟩
    · simp only [List.mem_cons, List.mem_nil_iff, or_false] at hd; omega
    · simp only [frN, List.foldr_cons, List.foldr_nil]
      exact fr_four h e1 e2 e3 e4 hr1 hr2 hr3 hr4 c4
  rw [if_neg c4]
  obtain ⟨d5, r5, hr5, e5⟩ : ∃ d r, r < 65536 ∧ 10 * r4 = 65536 * d + r + 17232 := ⟨(10 * r4 - 17232) / 65536, (10 * r4 - 17232) % 65536, by omega, by omega⟩
  rw [frac_high (by decide), show (10 * r4 - 17232) / 65536 = d5 by omega, show (10 * r4 - 17232) % 65536 = r5 by omega, if_pos (by omega)]
  refine ⟨fun d hd => ?_, by simp, by simp, ?_⟩
  · simp only [List.mem_cons, List.mem_nil_iff, or_false] at hd; omega
  · simp only [frN, List.foldr_cons, List.foldr_nil]
    exact fr_five h e1 e2 e3 e4 e5 hr1 hr2 hr3 hr4 hr5
theorem frW_digU : ∀ l : List Nat, (∀ d ∈ l, d < 10) → frW (l.map digU) = frN l
  | [], _ => rfl
  | d :: l, h => by
    have ih := frW_digU l fun x hx => h x (List.mem_cons_of_mem _ hx)
    have hd := h d (List.mem_cons_self ..)
    unfold frW frN at ih ⊢
    rw [List.map_cons, List.foldr_cons, List.foldr_cons, ih, digU, digit_toNat hd]
    congr 3
    omega
theorem frac_facts {f : Nat} (h : f < 65536) : (fracW f).all isD = true ∧ 1 ≤ (fracW f).length ∧ (fracW f).length ≤ 17 ∧ (frW (fracW f) + 1) / 2 = f := by
  obtain ⟨h1, h2, h3, h4⟩ := good_at h
  unfold fracW
  refine ⟨List.all_eq_true.2 fun c hc => ?_, by rw [List.length_map]; exact h2, by rw [List.length_map]; exact h3, by rw [frW_digU _ h1]; exact h4⟩
  obtain ⟨d, hd, rfl⟩ := List.mem_map.1 hc
  exact isD_digit (h1 d hd)
theorem isD46 : isD 46 = false := by decide
theorem isD45 : isD 45 = false := by decide
theorem hp45 {l : List UInt8} (h : ∀ c ∈ l, isD c = true) (t : List UInt8) (hl : l ≠ []) : Lib.hasPrefix (l ++ t) [45] = false := by
  cases l with
  | nil => exact absurd rfl hl
  | cons c r =>
    have hc := h c (List.mem_cons_self ..)
    have : ¬ (45 : UInt8) = c := fun e => by rw [← e, isD45] at hc; cases hc
    simp [Lib.hasPrefix, List.isPrefixOf, this]
/-- A length, parsed from its print. -/
theorem parse_amount {q f : Nat} (hq : q ≤ 16383) (hf : f < 65536) (neg : Bool) (s : List UInt8) (hs : s = (if neg then [45] else []) ++ Lib.decDigits q ++ [46] ++ fracW f) (hfit : fitsB (if neg then -((q * 65536 + f : Nat) : Int) else ((q * 65536 + f : Nat) : Int)) = true) :
    parseS s = (if neg then -((q * 65536 + f : Nat) : Int) else ((q * 65536 + f : Nat) : Int), true) := by
  obtain ⟨f1, f2, f3, f4⟩ := frac_facts hf
  have hd := dec_all q
  have hne := dec_ne q
  have hn46 : (46 : UInt8) ∉ Lib.decDigits q := fun h => by have := hd _ h; rw [isD46] at this; cases this
  have hb : bodyS s = Lib.decDigits q ++ 46 :: fracW f ∧ negS s = neg := by
    subst hs
    cases neg with
    | true =>
      refine ⟨?_, ?_⟩
      · simp [bodyS, Lib.trimPrefix, Lib.hasPrefix, List.isPrefixOf]
      · simp [negS, Lib.hasPrefix, List.isPrefixOf]
    | false =>
      have h0 := hp45 hd ([46] ++ fracW f) hne
      have e : (if false = true then [45] else [] : List UInt8) ++ Lib.decDigits q ++ [46] ++ fracW f = Lib.decDigits q ++ ([46] ++ fracW f) := by simp
      rw [e]
      refine ⟨?_, h0⟩
      rw [bodyS, Lib.trimPrefix, h0]
      simp
  have hc := cut_hit (b := fracW f) hn46
  have hlen : (Lib.decDigits q).length ≤ s.length := by
    rw [hs]; simp; omega
  have hok : okS s = true := by
    rw [okS, hb.1, hc]
    have h1 : digsB (Lib.decDigits q) 1 s.length = true := by
      rw [digsB, decide_eq_true hlen, decide_eq_true (show 1 ≤ (Lib.decDigits q).length from List.length_pos_iff.2 hne), List.all_eq_true.2 hd]
      rfl
    have h2 : digsB (fracW f) 1 17 = true := by rw [digsB, decide_eq_true f2, decide_eq_true f3, f1]; rfl
    simp only [h1, h2]
    rfl
  rw [parseS, if_pos hok, hb.1, hb.2, hc]
  simp only []
  have ha : amountS (Lib.decDigits q) (fracW f) = q * 65536 + f := by rw [amountS, valD_dec, f4]
  rw [ha, fittedW, hfit]
  rfl
theorem natAbs_parts (n : Int) : n.natAbs / 65536 * 65536 + n.natAbs % 65536 = n.natAbs := by omega
theorem parse_print {n : Int} (h : fitsB n = true) : parseS (printS n) = (n, true) := by
  obtain ⟨l1, l2⟩ := fits_iff.1 h
  have hn := natAbs_parts n
  have hv : (if decide (n < 0) then -((n.natAbs / 65536 * 65536 + n.natAbs % 65536 : Nat) : Int) else ((n.natAbs / 65536 * 65536 + n.natAbs % 65536 : Nat) : Int)) = n := by
    rw [hn]
    by_cases h0 : n < 0
    · rw [decide_eq_true h0, if_pos rfl]; omega
    · rw [decide_eq_false h0, if_neg (by simp)]; omega
  have := parse_amount (q := n.natAbs / 65536) (f := n.natAbs % 65536) (by omega) (Nat.mod_lt _ (by decide)) (decide (n < 0)) (printS n) (by
    rw [printS, if_pos h]
    by_cases h0 : n < 0
    · rw [if_pos h0, decide_eq_true h0, if_pos rfl]
    · rw [if_neg h0, decide_eq_false h0, if_neg (by simp)]) (by rw [hv]; exact h)
  rw [hv] at this
  exact this
theorem print_inj {n m : Int} (h1 : fitsB n = true) (h2 : fitsB m = true) : printS m = printS n ↔ m = n := by
  constructor
  · intro h
    have a := parse_print h1
    have b := parse_print h2
    rw [h, a] at b
    exact (Prod.mk.inj b).1.symm
  · rintro rfl; rfl
theorem print_neg {a : Int} (h : fitsB a = true) (h0 : 0 < a) : printS (-a) = [45] ++ printS a := by
  obtain ⟨l1, l2⟩ := fits_iff.1 h
  rw [printS, printS, if_pos h, if_pos (fits_iff.2 ⟨by omega, by omega⟩), if_pos (by omega), if_neg (by omega), Int.natAbs_neg]
  simp
theorem print_none {n : Int} (h : fitsB n = false) : printS n = [] := by rw [printS, if_neg (by rw [h]; simp)]
/-! ### Bounds -/
theorem frW_le : ∀ l : List UInt8, (∀ c ∈ l, isD c = true) → frW l ≤ 131072
  | [], _ => by decide
  | c :: l, h => by
    have ih := frW_le l fun x hx => h x (List.mem_cons_of_mem _ hx)
    have hc := isD_iff.1 (h c (List.mem_cons_self ..))
    unfold frW at ih ⊢
    rw [List.foldr_cons]
    generalize List.foldr _ 0 l = a at *
    omega
end Go.Proofs.YtkjekbgfmkfkjaaDoor
