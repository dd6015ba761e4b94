/- Texts, plain: cut at a letter, cut at two dots; joined. No program in sight. -/
import Derived.Lib.SplitLaws
import Derived.Lib.IndexMore
import Derived.Lib.Join
import Derived.Lib.Strings
import Derived.Lib.ItoaNum
import Derived.Lib.ParseIntBTie
import Derived.Lib.AtoiTie
import Derived.Lib.SlTrimSet
import Derived.Lib.TrimByte
import Derived.IntWalk
import Derived.Laws.Bits64

set_option linter.unusedVariables false
set_option linter.unusedSimpArgs false
set_option linter.constructorNameAsVariable false
namespace Go.Proofs.YtejdeonbibbchaaGreatDoor
open Go

/-- A text, cut at each letter c. -/
def spl (c : UInt8) : List UInt8 → List (List UInt8)
  | [] => [[]]
  | x :: l => if x = c then [] :: spl c l else (x :: (spl c l).headD []) :: (spl c l).tail
theorem spl_ne (c : UInt8) (l : List UInt8) : spl c l ≠ [] := by
  cases l with
  | nil => simp [spl]
  | cons x l => rw [spl]; split <;> simp
theorem spl_none {c : UInt8} : ∀ {a : List UInt8}, c ∉ a → spl c a = [a]
  | [], _ => rfl
  | x :: a, h => by
    have h1 : x ≠ c := fun e => h (e ▸ List.mem_cons_self ..)
    have h2 : c ∉ a := fun e => h (List.mem_cons_of_mem _ e)
    rw [spl, if_neg h1, spl_none h2]
    rfl
theorem spl_hit {c : UInt8} : ∀ {a : List UInt8} (b : List UInt8), c ∉ a → spl c (a ++ c :: b) = a :: spl c b
  | [], b, _ => by rw [List.nil_append, spl, if_pos rfl]
  | x :: a, b, h => by
    have h1 : x ≠ c := fun e => h (e ▸ List.mem_cons_self ..)
    have h2 : c ∉ a := fun e => h (List.mem_cons_of_mem _ e)
    rw [List.cons_append, spl, if_neg h1, spl_hit b h2]
    rfl
theorem spl_mem {c : UInt8} : ∀ {l : List UInt8}, ∀ a ∈ spl c l, c ∉ a
  | [], a, h => by
    rw [spl, List.mem_singleton] at h; rw [h]; simp
  | x :: l, a, h => by
    rw [spl] at h
    split at h
    · rcases List.mem_cons.1 h with rfl | h
      · simp
      · exact spl_mem a h
    · rename_i hx
      rcases List.mem_cons.1 h with rfl | h
      · intro hc
        rcases List.mem_cons.1 hc with e | hc
        · exact hx e.symm
        · cases hs : spl c l with
          | nil => exact spl_ne c l hs
          | cons y r => rw [hs] at hc; exact spl_mem y (by rw [hs]; exact List.mem_cons_self ..) hc
      · exact spl_mem a (List.mem_of_mem_tail h)
theorem inter_cons (c : UInt8) (a b : List UInt8) (L : List (List UInt8)) : [c].intercalate (a :: b :: L) = a ++ c :: [c].intercalate (b :: L) := by simp [List.intercalate]
theorem inter_one (c : UInt8) (a : List UInt8) : [c].intercalate [a] = a := by simp [List.intercalate]
theorem inter_head (c x : UInt8) (a : List UInt8) (L : List (List UInt8)) : [c].intercalate ((x :: a) :: L) = x :: [c].intercalate (a :: L) := by
  cases L with
  | nil => rw [inter_one, inter_one]
  | cons b L => rw [inter_cons, inter_cons, List.cons_append]
/-- Joined again. -/
theorem spl_join (c : UInt8) : ∀ l : List UInt8, [c].intercalate (spl c l) = l
  | [] => by rw [spl, inter_one]
  | x :: l => by
    have ih := spl_join c l
    rw [spl]
    cases hs : spl c l with
    | nil => exact absurd hs (spl_ne c l)
    | cons y r =>
      rw [hs] at ih
      split
      · rename_i h
        rw [inter_cons, ih, h]; rfl
      · rw [List.headD_cons, List.tail_cons, inter_head, ih]
theorem spl_of_join {c : UInt8} : ∀ {L : List (List UInt8)}, L ≠ [] → (∀ a ∈ L, c ∉ a) → spl c ([c].intercalate L) = L
  | [], h, _ => absurd rfl h
  | [a], _, h => by
    have : [c].intercalate [a] = a := by simp [List.intercalate]
    rw [this, spl_none (h a (List.mem_cons_self ..))]
  | a :: b :: L, _, h => by
    have e : [c].intercalate (a :: b :: L) = a ++ c :: [c].intercalate (b :: L) := by simp [List.intercalate]
    rw [e, spl_hit _ (h a (List.mem_cons_self ..)), spl_of_join (by simp) fun x hx => h x (List.mem_cons_of_mem _ hx)]
/-- Where a letter stands first. -/
theorem index_one_cases (c : UInt8) (l : List UInt8) : (Lib.index l [c] = -1 ∧ c ∉ l) ∨ ∃ a b, l = a ++ c :: b ∧ c ∉ a ∧ Lib.index l [c] = (a.length : Int) := by
  rw [Lib.index_one]
  induction l with
  | nil => exact .inl ⟨rfl, by simp⟩
  | cons x l ih =>
    rw [Lib.indexByte]
    by_cases hx : x = c
    · subst hx
      exact .inr ⟨[], l, rfl, by simp, by simp⟩
    · rcases ih with ⟨h1, h2⟩ | ⟨a, b, h1, h2, h3⟩
      · refine .inl ⟨?_, fun hm => (List.mem_cons.1 hm).elim (fun e => hx e.symm) h2⟩
        rw [h1]; simp [hx]
      · refine .inr ⟨x :: a, b, by rw [h1]; rfl, fun hm => (List.mem_cons.1 hm).elim (fun e => hx e.symm) h2, ?_⟩
        rw [h3]
        have : ((a.length : Int) == -1) = false := by rw [beq_eq_false_iff_ne]; omega
        simp [hx, this]
theorem splitK_spl (c : UInt8) : ∀ (n : Nat) (l : List UInt8), Lib.count l [c] = n → Lib.splitK [c] 0 n l = spl c l
  | 0, l, h => by
    rw [Lib.count_one] at h
    rw [spl_none (List.count_eq_zero.1 h)]; rfl
  | n + 1, l, h => by
    rw [Lib.splitK]
    rcases index_one_cases c l with ⟨h1, h2⟩ | ⟨a, b, rfl, h2, h3⟩
    · rw [Lib.count_one, List.count_eq_zero.2 h2] at h; omega
    · rw [h3]
      have e1 : ¬ (((a.length : Int)) == -1) = true := fun e => by have := beq_iff_eq.1 e; omega
      rw [if_neg e1, spl_hit _ h2]
      have e2 : (a ++ c :: b).drop ((a.length : Int).toNat + [c].length) = b := by simp
      have e3 : (a ++ c :: b).take ((a.length : Int).toNat + 0) = a := by simp
      rw [e2, e3, splitK_spl c n b]
      rw [Lib.count_one] at h ⊢
      rw [List.count_append, List.count_eq_zero.2 h2, List.count_cons_self] at h
      omega
/-- A text, cut at its first letter c. -/
theorem cut_none {c : UInt8} {l : List UInt8} (h : c ∉ l) : Lib.cut l [c] = (l, [], false) := by
  rcases index_one_cases c l with ⟨h1, _⟩ | ⟨a, b, rfl, _, _⟩
  · rw [Lib.cut, h1]; rfl
  · exact absurd (by simp) h
theorem cut_hit {c : UInt8} {a b : List UInt8} (h : c ∉ a) : Lib.cut (a ++ c :: b) [c] = (a, b, true) := by
  rcases index_one_cases c (a ++ c :: b) with ⟨_, h2⟩ | ⟨a', b', h1, h2, h3⟩
  · exact absurd (by simp) h2
  · have e : a = a' ∧ b = b' := by
      have s1 := spl_hit b h
      have s2 := spl_hit b' h2
      rw [h1, s2] at s1
      obtain ⟨e1, e2⟩ := List.cons.inj s1
      subst e1
      simpa using h1
    obtain ⟨rfl, rfl⟩ := e
    rw [Lib.cut, h3, if_pos (by omega)]
    simp
theorem cut_cases (c : UInt8) (l : List UInt8) : (c ∉ l ∧ Lib.cut l [c] = (l, [], false)) ∨ ∃ a b, l = a ++ c :: b ∧ c ∉ a ∧ Lib.cut l [c] = (a, b, true) := by
  by_cases h : c ∈ l
  · rcases index_one_cases c l with ⟨_, h2⟩ | ⟨a, b, rfl, h2, _⟩
    · exact absurd h h2
    · exact .inr ⟨a, b, rfl, h2, cut_hit h2⟩
  · exact .inl ⟨h, cut_none h⟩
end Go.Proofs.YtejdeonbibbchaaGreatDoor
set_option linter.unusedVariables false
set_option linter.unusedSimpArgs false
set_option linter.constructorNameAsVariable false
namespace Go.Proofs.YtejdeonbibbchaaGreatDoor
open Go

theorem digit_toNat {d : Nat} (h : d < 10) : (UInt8.ofNat (48 + d)).toNat = 48 + d := by
  rw [UInt8.toNat_ofNat', Nat.mod_eq_of_lt (by omega)]
theorem dec_step (u : Nat) (h : ¬ u < 10) : Lib.decDigits u = Lib.decDigits (u / 10) ++ [UInt8.ofNat (48 + u % 10)] := by
  rw [Lib.decDigits, dif_neg h]
theorem dec_one {u : Nat} (h : u < 10) : Lib.decDigits u = [UInt8.ofNat (48 + u)] := by rw [Lib.decDigits, dif_pos h]
def isD (c : UInt8) : Bool := decide (48 ≤ c.toNat ∧ c.toNat ≤ 57)
theorem isD_iff {c : UInt8} : isD c = true ↔ 48 ≤ c.toNat ∧ c.toNat ≤ 57 := by rw [isD, decide_eq_true_eq]
theorem isD_digit {d : Nat} (h : d < 10) : isD (UInt8.ofNat (48 + d)) = true := isD_iff.2 (by rw [digit_toNat h]; omega)
/-- What digits say, behind what is said. -/
def valF (acc : Nat) (l : List UInt8) : Nat := l.foldl (fun a c => a * 10 + (c.toNat - 48)) acc
def valD (l : List UInt8) : Nat := valF 0 l
theorem valF_cons (acc : Nat) (c : UInt8) (l : List UInt8) : valF acc (c :: l) = valF (acc * 10 + (c.toNat - 48)) l := by unfold valF; rw [List.foldl_cons]
theorem valF_app (acc : Nat) (a b : List UInt8) : valF acc (a ++ b) = valF (valF acc a) b := List.foldl_append
theorem valF_mono : ∀ (l : List UInt8) (acc : Nat), acc ≤ valF acc l
  | [], acc => Nat.le_refl _
  | c :: l, acc => by
    have := valF_mono l (acc * 10 + (c.toNat - 48))
    rw [valF_cons]
    omega
theorem dec_all (n : Nat) : ∀ c ∈ Lib.decDigits n, isD c = true := by
  induction n using Nat.strongRecOn with
  | ind n ih =>
    intro c hc
    by_cases h : n < 10
    · rw [dec_one h, List.mem_singleton] at hc
      rw [hc]; exact isD_digit h
    · rw [dec_step n h, List.mem_append, List.mem_singleton] at hc
      rcases hc with hc | rfl
      · exact ih (n / 10) (by omega) c hc
      · exact isD_digit (Nat.mod_lt _ (by decide))
theorem dec_ne (n : Nat) : Lib.decDigits n ≠ [] := by
  by_cases h : n < 10
  · rw [dec_one h]; simp
  · rw [dec_step n h]; simp
theorem valD_dec (n : Nat) : valD (Lib.decDigits n) = n := by
  induction n using Nat.strongRecOn with
  | ind n ih =>
    by_cases h : n < 10
    · rw [dec_one h]
      show 0 * 10 + ((UInt8.ofNat (48 + n)).toNat - 48) = n
      rw [digit_toNat h]; omega
    · rw [dec_step n h, valD, valF_app]
      have e := ih (n / 10) (by omega)
      rw [valD] at e
      rw [e]
      show n / 10 * 10 + ((UInt8.ofNat (48 + n % 10)).toNat - 48) = n
      rw [digit_toNat (Nat.mod_lt _ (by decide))]; omega
theorem dec_len {n k : Nat} (h : n < 10 ^ (k + 1)) : (Lib.decDigits n).length ≤ k + 1 := by
  induction k generalizing n with
  | zero => rw [dec_one (by simpa using h)]; exact Nat.le_refl _
  | succ k ih =>
    by_cases h9 : n < 10
    · rw [dec_one h9]; simp
    · rw [dec_step n h9, List.length_append]
      have := ih (n := n / 10) (by rw [Nat.pow_succ] at h; omega)
      simp; omega
theorem itoa_nat (n : Nat) : Lib.itoa (n : Int) = Lib.decDigits n := by
  rw [Lib.itoa, if_neg (by omega)]; rfl
abbrev digSet : List UInt8 := [48, 49, 50, 51, 52, 53, 54, 55, 56, 57]
end Go.Proofs.YtejdeonbibbchaaGreatDoor
set_option linter.unusedVariables false
set_option linter.unusedSimpArgs false
set_option linter.constructorNameAsVariable false
namespace Go.Proofs.YtejdeonbibbchaaGreatDoor
open Go

def fitsB (n : Int) : Bool := decide (-1073741823 ≤ n ∧ n ≤ 1073741823)
def partOk (a num den : Int) : Prop := fitsB a = true ∧ fitsB num = true ∧ fitsB den = true ∧ 0 ≤ num ∧ 0 < den
instance (a num den : Int) : Decidable (partOk a num den) := inferInstanceAs (Decidable (_ ∧ _ ∧ _ ∧ _ ∧ _))
theorem fits_iff {n : Int} : fitsB n = true ↔ -1073741823 ≤ n ∧ n ≤ 1073741823 := by rw [fitsB, decide_eq_true_eq]
theorem fits_not {n : Int} : fitsB n = false ↔ ¬ (-1073741823 ≤ n ∧ n ≤ 1073741823) := by rw [fitsB, decide_eq_false_iff_not]
end Go.Proofs.YtejdeonbibbchaaGreatDoor
set_option linter.unusedVariables false
set_option linter.unusedSimpArgs false
set_option linter.constructorNameAsVariable false
namespace Go.Proofs.YtejdeonbibbchaaGreatDoor
open Go
set_option linter.unusedVariables false

/-! ### Numbers -/
def in64 (n : Int) : Prop := -9223372036854775808 ≤ n ∧ n ≤ 9223372036854775807
theorem pu_dec : ∀ (l : List UInt8) (acc : Nat), (∀ c ∈ l, isD c = true) → valF acc l < 18446744073709551616 → Lib.parseUint10 acc l = .ok (valF acc l)
  | [], acc, _, _ => rfl
  | c :: l, acc, h, hb => by
    have hc := isD_iff.1 (h c (List.mem_cons_self ..))
    have hm := valF_mono l (acc * 10 + (c.toNat - 48))
    rw [valF_cons] at hb ⊢
    rw [Lib.parseUint10, if_pos hc, if_neg (by omega), if_neg (by omega)]
    exact pu_dec l _ (fun x hx => h x (List.mem_cons_of_mem _ hx)) hb
theorem pm_dec {u : Nat} (h : u < 18446744073709551616) : Lib.parseMag (Lib.decDigits u) = .ok u := by
  have := pu_dec (Lib.decDigits u) 0 (dec_all u) (by rw [show valF 0 (Lib.decDigits u) = u from valD_dec u]; exact h)
  rw [Lib.parseMag, if_neg (dec_ne u), this, show valF 0 (Lib.decDigits u) = u from valD_dec u]
theorem atoi_neg (r : List UInt8) : Lib.atoiAll (45 :: r) = match Lib.parseMag r with
    | Lib.NumEnd.syntax => Lib.NumEnd.syntax
    | .range => .range
    | .ok u => if 9223372036854775808 < u then .range else .ok (-(u : Int)) := by
  have e : (if (45 : UInt8).toNat = 43 ∨ (45 : UInt8).toNat = 45 then r else 45 :: r) = r := if_pos (.inr rfl)
  rw [Lib.atoiAll]
  try simp only []
  rw [e]
  cases Lib.parseMag r with
  | ok u =>
    simp only []
    have e45 : (45 : UInt8).toNat = 45 := rfl
    rw [if_neg (fun h => h.1 rfl), if_pos e45]
    by_cases h : 9223372036854775808 < u
    · rw [if_pos h, if_pos ⟨rfl, h⟩]
    · rw [if_neg h, if_neg (fun q => h q.2)]
  | _ => rfl
theorem atoi_pos {c : UInt8} {r : List UInt8} (h1 : c.toNat ≠ 43) (h2 : c.toNat ≠ 45) : Lib.atoiAll (c :: r) = match Lib.parseMag (c :: r) with
    | Lib.NumEnd.syntax => Lib.NumEnd.syntax
    | .range => .range
    | .ok u => if 9223372036854775808 ≤ u then .range else .ok (u : Int) := by
  have e : (if c.toNat = 43 ∨ c.toNat = 45 then r else c :: r) = c :: r := if_neg (fun h => h.elim h1 h2)
  rw [Lib.atoiAll]
  try simp only []
  rw [e]
  cases Lib.parseMag (c :: r) with
  | ok u =>
    simp only []
    rw [if_neg (fun h : c.toNat = 45 ∧ _ => h2 h.1), if_neg h2]
    by_cases h : 9223372036854775808 ≤ u
    · rw [if_pos h, if_pos ⟨h2, h⟩]
    · rw [if_neg h, if_neg (fun q => h q.2)]
  | _ => rfl
theorem pi_itoa {v : Int} (h : in64 v) : Lib.parseIntB 64 (Lib.itoa v) = .ok v := by
  obtain ⟨h0, h1⟩ := h
  rw [Lib.parseIntB_64]
  by_cases hv : v < 0
  · rw [Lib.itoa, if_pos hv, atoi_neg, pm_dec (u := v.natAbs) (by omega)]
    simp only []
    rw [if_neg (by omega), show -((v.natAbs : Nat) : Int) = v by omega]
  · rw [Lib.itoa, if_neg hv]
    have hm := pm_dec (u := v.toNat) (by omega)
    cases e : Lib.decDigits v.toNat with
    | nil => exact absurd e (dec_ne _)
    | cons c r =>
      have hc := isD_iff.1 (dec_all v.toNat c (by rw [e]; exact List.mem_cons_self ..))
      rw [e] at hm
      rw [atoi_pos (by omega) (by omega), hm]
      simp only []
      rw [if_neg (by omega), show ((v.toNat : Nat) : Int) = v by omega]
theorem pi_in {s : List UInt8} {v : Int} (h : Lib.parseIntB 64 s = .ok v) : in64 v := by
  rw [Lib.parseIntB_64] at h
  cases s with
  | nil => cases h
  | cons c r =>
    by_cases hn : c.toNat = 45
    · obtain rfl : c = 45 := UInt8.toNat_inj.1 hn
      rw [atoi_neg] at h
      cases hm : Lib.parseMag r with
      | ok u =>
        rw [hm] at h
        simp only [] at h
        split at h
        · cases h
        · injection h with h
          constructor <;> omega
      | _ => rw [hm] at h; cases h
    · by_cases hp : c.toNat = 43
      · obtain rfl : c = 43 := UInt8.toNat_inj.1 hp
        have e : (if (43 : UInt8).toNat = 43 ∨ (43 : UInt8).toNat = 45 then r else 43 :: r) = r := if_pos (.inl rfl)
        rw [Lib.atoiAll] at h
        try simp only [] at h
        rw [e] at h
        cases hm : Lib.parseMag r with
        | ok u =>
          rw [hm] at h
          simp only [] at h
          rw [if_neg (fun h : (43 : UInt8).toNat = 45 ∧ _ => hn h.1), if_neg hn] at h
          split at h
          · cases h
          · rename_i hu
            injection h with h
            have : ¬ 9223372036854775808 ≤ u := fun q => hu ⟨hn, q⟩
            constructor <;> omega
        | _ => rw [hm] at h; cases h
      · rw [atoi_pos hp hn] at h
        cases hm : Lib.parseMag (c :: r) with
        | ok u =>
          rw [hm] at h
          simp only [] at h
          split at h
          · cases h
          · injection h with h
            constructor <;> omega
        | _ => rw [hm] at h; cases h
/-- A number, as its text says. -/
def numW (s : List UInt8) : Option Int :=
  match Lib.parseIntB 64 s with
  | .ok v => if Lib.itoa v = s then some v else none
  | _ => none
theorem numW_itoa {v : Int} (h : in64 v) : numW (Lib.itoa v) = some v := by rw [numW, pi_itoa h]; simp
theorem numW_some {s : List UInt8} {v : Int} (h : numW s = some v) : Lib.itoa v = s ∧ in64 v := by
  unfold numW at h
  split at h
  · rename_i u hu
    split at h
    · injection h with h
      subst h
      exact ⟨by assumption, pi_in hu⟩
    · cases h
  · cases h
theorem itoa_chars (v : Int) : ∀ c ∈ Lib.itoa v, c = 45 ∨ isD c = true := fun c hc => by
  rw [Lib.itoa] at hc
  split at hc
  · rcases List.mem_cons.1 hc with rfl | hc
    · exact .inl rfl
    · exact .inr (dec_all _ c hc)
  · exact .inr (dec_all _ c hc)
theorem itoa_no32 (v : Int) : (32 : UInt8) ∉ Lib.itoa v := fun h => by
  rcases itoa_chars v _ h with h | h <;> revert h <;> decide
theorem itoa_no10 (v : Int) : (10 : UInt8) ∉ Lib.itoa v := fun h => by
  rcases itoa_chars v _ h with h | h <;> revert h <;> decide
theorem itoa_len64 {v : Int} (h : in64 v) : (Lib.itoa v).length ≤ 21 := by
  obtain ⟨h0, h1⟩ := h
  rw [Lib.itoa]
  split
  · have := dec_len (n := v.natAbs) (k := 18) (by omega)
    simp; omega
  · have := dec_len (n := v.toNat) (k := 18) (by omega)
    omega
/-- A number as the reference reads it: up to 22 letters, wrapping. -/
def stepN (n : Int) (c : UInt8) : Int := IntKind.u64.wrap (IntKind.u64.wrap (10 * n) + IntKind.u64.wrap ((c.toNat : Int) - 48))
def foldN (n : Int) (l : List UInt8) : Int := l.foldl stepN n
def fromN (s : List UInt8) : Nat := if s.head? = some 45 then 1 else 0
def digsN (s : List UInt8) : List UInt8 := (s.take 22).drop (fromN s)
def numK (s : List UInt8) : Int := if (digsN s).all isD then (if fromN s = 1 then IntKind.i64.wrap (IntKind.u64.wrap (0 - foldN 0 (digsN s))) else IntKind.i64.wrap (foldN 0 (digsN s))) else 0
theorem foldN_val : ∀ (l : List UInt8) (acc : Nat), (∀ c ∈ l, isD c = true) → valF acc l < 18446744073709551616 → foldN (acc : Int) l = (valF acc l : Int)
  | [], acc, _, _ => rfl
  | c :: l, acc, h, hb => by
    have hc := isD_iff.1 (h c (List.mem_cons_self ..))
    have hm := valF_mono l (acc * 10 + (c.toNat - 48))
    have ih := foldN_val l (acc * 10 + (c.toNat - 48)) (fun x hx => h x (List.mem_cons_of_mem _ hx)) (by rw [← valF_cons]; exact hb)
    rw [valF_cons] at hb ⊢
    rw [← ih]
    show foldN (stepN acc c) l = _
    congr 1
    rw [stepN, IntWalk.u64_in (10 * (acc : Int)) (by omega), IntWalk.u64_in ((c.toNat : Int) - 48) (by omega), IntWalk.u64_in _ (by omega)]
    omega
theorem i64_wrap_in (n : Int) : in64 (IntKind.i64.wrap n) := by
  rw [IntKind.wrap_i64]; constructor <;> omega
theorem numK_in (s : List UInt8) : in64 (numK s) := by
  rw [numK]
  split
  · split <;> exact i64_wrap_in _
  · constructor <;> omega
theorem numK_itoa {v : Int} (h : in64 v) : numK (Lib.itoa v) = v := by
  obtain ⟨h0, h1⟩ := h
  have hl := itoa_len64 (v := v) ⟨h0, h1⟩
  by_cases hv : v < 0
  · have e : Lib.itoa v = 45 :: Lib.decDigits v.natAbs := by rw [Lib.itoa, if_pos hv]
    have ed : digsN (Lib.itoa v) = Lib.decDigits v.natAbs := by
      rw [digsN, List.take_of_length_le (by omega), fromN, e]; rfl
    have ef : fromN (Lib.itoa v) = 1 := by rw [fromN, e]; rfl
    have hf := foldN_val (Lib.decDigits v.natAbs) 0 (dec_all _) (by rw [show valF 0 (Lib.decDigits v.natAbs) = v.natAbs from valD_dec _]; omega)
    rw [show valF 0 (Lib.decDigits v.natAbs) = v.natAbs from valD_dec _] at hf
    rw [numK, ed, ef, if_pos (List.all_eq_true.2 (dec_all _)), if_pos rfl]
    rw [show foldN 0 (Lib.decDigits v.natAbs) = (v.natAbs : Int) from hf, IntKind.wrap_i64, IntKind.wrap_u64]
    omega
  · have e : Lib.itoa v = Lib.decDigits v.toNat := by rw [Lib.itoa, if_neg hv]
    have ef : fromN (Lib.itoa v) = 0 := by
      rw [fromN, e, if_neg]
      intro q
      cases hd : Lib.decDigits v.toNat with
      | nil => rw [hd] at q; cases q
      | cons c r =>
        rw [hd] at q
        injection q with q
        have := dec_all v.toNat c (by rw [hd]; exact List.mem_cons_self ..)
        rw [q] at this
        revert this; decide
    have ed : digsN (Lib.itoa v) = Lib.decDigits v.toNat := by
      rw [digsN, List.take_of_length_le (by omega), ef, e]; rfl
    have hf := foldN_val (Lib.decDigits v.toNat) 0 (dec_all _) (by rw [show valF 0 (Lib.decDigits v.toNat) = v.toNat from valD_dec _]; omega)
    rw [show valF 0 (Lib.decDigits v.toNat) = v.toNat from valD_dec _] at hf
    rw [numK, ed, ef, if_pos (List.all_eq_true.2 (dec_all _)), if_neg (by decide)]
    rw [show foldN 0 (Lib.decDigits v.toNat) = (v.toNat : Int) from hf, IntWalk.i64_in _ (by omega)]
    omega
theorem numK_some {s : List UInt8} {v : Int} (h : numW s = some v) : numK s = v ∧ Lib.itoa (numK s) = s := by
  obtain ⟨rfl, h2⟩ := numW_some h
  rw [numK_itoa h2]
  exact ⟨rfl, rfl⟩
theorem numK_none {s : List UInt8} (h : numW s = none) : ¬ Lib.itoa (numK s) = s := fun e => by
  rw [← e, numW_itoa (numK_in s)] at h; cases h
/-- What is no digit is in no number's text. -/
theorem numK_bad {s : List UInt8} (h : (digsN s).all isD = false) : numK s = 0 ∧ ¬ Lib.itoa 0 = s := by
  have e : numK s = 0 := by rw [numK, if_neg (by rw [h]; simp)]
  refine ⟨e, fun q => ?_⟩
  rw [← q] at h
  revert h
  rw [show Lib.itoa 0 = [48] by rw [Lib.itoa, if_neg (by decide)]; exact dec_one (by decide)]
  decide

/-! ### A text, cut some times -/
def spn (c : UInt8) : Nat → List UInt8 → List (List UInt8)
  | 0, l => [l]
  | k + 1, l => if (Lib.cut l [c]).2.2 then (Lib.cut l [c]).1 :: spn c k (Lib.cut l [c]).2.1 else [l]
theorem spn_none {c : UInt8} {l : List UInt8} (h : c ∉ l) : ∀ k, spn c k l = [l]
  | 0 => rfl
  | k + 1 => by rw [spn, cut_none h]; rfl
theorem spn_hit {c : UInt8} {a b : List UInt8} (h : c ∉ a) (k : Nat) : spn c (k + 1) (a ++ c :: b) = a :: spn c k b := by
  rw [spn, cut_hit h]; rfl
theorem spn_splitK (c : UInt8) : ∀ (k : Nat) (l : List UInt8), Lib.splitK [c] 0 k l = spn c k l
  | 0, l => rfl
  | k + 1, l => by
    rw [Lib.splitK]
    rcases index_one_cases c l with ⟨h1, h2⟩ | ⟨a, b, rfl, h2, h3⟩
    · rw [spn_none h2, h1]; rfl
    · rw [h3]
      have e1 : ¬ (((a.length : Int)) == -1) = true := fun e => by have := beq_iff_eq.1 e; omega
      rw [if_neg e1, spn_hit h2]
      have e2 : (a ++ c :: b).drop ((a.length : Int).toNat + [c].length) = b := by simp
      have e3 : (a ++ c :: b).take ((a.length : Int).toNat + 0) = a := by simp
      rw [e2, e3, spn_splitK c k b]
/-- Cut as often as it can be, or less often. -/
theorem spn_spl (c : UInt8) : ∀ (k : Nat) (l : List UInt8), (spl c l).length ≤ k + 1 → spn c k l = spl c l
  | 0, l, h => by
    rcases cut_cases c l with ⟨h1, _⟩ | ⟨a, b, rfl, h1, _⟩
    · rw [spn_none h1, spl_none h1]
    · rw [spl_hit b h1, List.length_cons] at h
      have := List.length_pos_iff.2 (spl_ne c b)
      omega
  | k + 1, l, h => by
    rcases cut_cases c l with ⟨h1, _⟩ | ⟨a, b, rfl, h1, _⟩
    · rw [spn_none h1, spl_none h1]
    · rw [spl_hit b h1] at h ⊢
      rw [spn_hit h1, spn_spl c k b (by simp at h; omega)]
theorem spn_len (c : UInt8) : ∀ (k : Nat) (l : List UInt8), k + 1 ≤ (spl c l).length → (spn c k l).length = k + 1
  | 0, l, h => rfl
  | k + 1, l, h => by
    rcases cut_cases c l with ⟨h1, _⟩ | ⟨a, b, rfl, h1, _⟩
    · rw [spl_none h1] at h; simp at h
    · rw [spl_hit b h1] at h
      rw [spn_hit h1, List.length_cons, spn_len c k b (by simp at h; omega)]
theorem spn_le (c : UInt8) : ∀ (k : Nat) (l : List UInt8), (spn c k l).length ≤ k + 1
  | 0, l => by simp [spn]
  | k + 1, l => by
    rcases cut_cases c l with ⟨h1, _⟩ | ⟨a, b, rfl, h1, _⟩
    · rw [spn_none h1]; simp
    · rw [spn_hit h1, List.length_cons]
      have := spn_le c k b; omega
theorem spn_ne (c : UInt8) (k : Nat) (l : List UInt8) : spn c k l ≠ [] := by
  cases k with
  | zero => simp [spn]
  | succ k => rw [spn]; split <;> simp
theorem spn_join (c : UInt8) : ∀ (k : Nat) (l : List UInt8), [c].intercalate (spn c k l) = l
  | 0, l => inter_one c l
  | k + 1, l => by
    rcases cut_cases c l with ⟨h1, _⟩ | ⟨a, b, rfl, h1, _⟩
    · rw [spn_none h1, inter_one]
    · have ih := spn_join c k b
      rw [spn_hit h1]
      cases hs : spn c k b with
      | nil => exact absurd hs (spn_ne c k b)
      | cons y r => rw [hs] at ih; rw [inter_cons, ih]
theorem spn_of_join {c : UInt8} (t : List UInt8) : ∀ {L : List (List UInt8)}, (∀ a ∈ L, c ∉ a) → spn c L.length ([c].intercalate (L ++ [t])) = L ++ [t]
  | [], _ => by rw [List.nil_append, inter_one]; rfl
  | a :: L, h => by
    have ih := spn_of_join t (L := L) fun x hx => h x (List.mem_cons_of_mem _ hx)
    rw [List.cons_append]
    cases hs : L ++ [t] with
    | nil => simp at hs
    | cons b r =>
      rw [hs] at ih
      rw [inter_cons, List.length_cons, spn_hit (h a (List.mem_cons_self ..)), ih]

/-! ### Boxes and files -/
structure Bx where
  page : Int
  kind : Int
  side : Int
  word : Int
  x : Int
  y : Int
  w : Int
  h : Int
  text : List UInt8
theorem Bx.eq_iff {a b : Bx} : a = b ↔ (a.page = b.page ∧ a.kind = b.kind ∧ a.side = b.side ∧ a.word = b.word ∧ a.x = b.x ∧ a.y = b.y ∧ a.w = b.w ∧ a.h = b.h ∧ a.text = b.text) := by cases a; cases b; simp
instance : DecidableEq Bx := fun a b => decidable_of_iff _ Bx.eq_iff.symm
abbrev bx0 : Bx := ⟨0, 0, 0, 0, 0, 0, 0, 0, []⟩
structure Fl where
  pages : Int
  width : Int
  height : Int
  boxes : List Bx
abbrev fl0 : Fl := ⟨0, 0, 0, []⟩
def amt (n : Int) : Bool := decide (0 ≤ n) && fitsB n
def rightB (f : Fl) (b : Bx) : Bool :=
  decide (1 ≤ b.page) && decide (b.page ≤ f.pages) && decide (0 ≤ b.kind) && decide (b.kind < 5) && decide (0 ≤ b.side) && decide (b.side ≤ 1) && decide (-1 ≤ b.word) && decide (b.word ≤ 999999) && amt b.x && amt b.y && amt b.w && amt b.h && decide (b.x + b.w ≤ f.width) && decide (b.y + b.h ≤ f.height) && decide (10 ∉ b.text)
def headB (f : Fl) : Bool := decide (0 ≤ f.pages) && decide (f.pages ≤ 10000) && amt f.width && amt f.height
def checkF (f : Fl) : Int := if headB f then if 50000 < f.boxes.length then 252 else if f.boxes.all (rightB f) then 0 else 251 else 250
def nums (l : List Int) : List UInt8 := [32].intercalate (l.map Lib.itoa)
def Fl.ns (f : Fl) : List Int := [f.pages, f.width, f.height]
def Bx.ns (b : Bx) : List Int := [b.page, b.kind, b.side, b.word, b.x, b.y, b.w, b.h]
def headT (f : Fl) : List UInt8 := [112, 97, 103, 101, 115, 32] ++ nums f.ns ++ [10]
def boxT (b : Bx) : List UInt8 := [98, 111, 120, 32] ++ nums b.ns ++ [32] ++ b.text ++ [10]
def printF (f : Fl) : List UInt8 := if checkF f = 0 then headT f ++ f.boxes.flatMap boxT else []

def numsOf : List (List UInt8) → Option (List Int)
  | [] => some []
  | w :: r => match numW w with
    | none => none
    | some v => match numsOf r with
      | none => none
      | some l => some (v :: l)
def readW (l : List (List UInt8)) (word : List UInt8) (many : Nat) : Option (List Int) :=
  if l.length < many + 1 ∨ l.getD 0 [] ≠ word then none else numsOf ((l.drop 1).take many)
def pagesW : List UInt8 := [112, 97, 103, 101, 115]
def boxW : List UInt8 := [98, 111, 120]
def headOf (l : List UInt8) : Option Fl :=
  if (spl 32 l).length = 4 then match readW (spl 32 l) pagesW 3 with
    | some n => some ⟨n.getD 0 0, n.getD 1 0, n.getD 2 0, []⟩
    | none => none
  else none
def boxOf (l : List UInt8) : Option Bx :=
  if (spn 32 9 l).length = 10 then match readW (spn 32 9 l) boxW 8 with
    | some n => some ⟨n.getD 0 0, n.getD 1 0, n.getD 2 0, n.getD 3 0, n.getD 4 0, n.getD 5 0, n.getD 6 0, n.getD 7 0, (spn 32 9 l).getD 9 []⟩
    | none => none
  else none
/-- Lines behind the first one: the boxes, or the line that is wrong first. -/
def linesGo (h : Fl) : List (List UInt8) → Nat → List Bx → Fl × Int × Int
  | [], _, _ => (fl0, 0, 0)
  | [l], i, out => if l = [] then (if checkF { h with boxes := out } = 0 then ({ h with boxes := out }, 0, 0) else (fl0, checkF { h with boxes := out }, -1)) else (fl0, 251, i)
  | l :: m :: r, i, out => match boxOf l with
    | none => (fl0, 251, i)
    | some b => linesGo h (m :: r) (i + 1) (out ++ [b])
def parseL : List (List UInt8) → Fl × Int × Int
  | [] => (fl0, 250, 0)
  | [_] => (fl0, 250, 0)
  | l :: m :: r => match headOf l with
    | none => (fl0, 250, 0)
    | some h => linesGo h (m :: r) 1 []
def parseF (s : List UInt8) : Fl × Int × Int := parseL (spl 10 s)

/-! ### Read again -/
theorem numsOf_itoa : ∀ {l : List Int}, (∀ v ∈ l, in64 v) → numsOf (l.map Lib.itoa) = some l
  | [], _ => rfl
  | v :: l, h => by
    rw [List.map_cons, numsOf, numW_itoa (h v (List.mem_cons_self ..)), numsOf_itoa fun x hx => h x (List.mem_cons_of_mem _ hx)]
theorem numsOf_some : ∀ {L : List (List UInt8)} {l : List Int}, numsOf L = some l → L = l.map Lib.itoa ∧ ∀ v ∈ l, in64 v
  | [], l, h => by injection h with h; subst h; exact ⟨rfl, fun v hv => by cases hv⟩
  | w :: L, l, h => by
    rw [numsOf] at h
    cases h1 : numW w with
    | none => rw [h1] at h; cases h
    | some v =>
      rw [h1] at h
      cases h2 : numsOf L with
      | none => rw [h2] at h; cases h
      | some m =>
        rw [h2] at h
        injection h with h
        subst h
        obtain ⟨e1, e2⟩ := numsOf_some h2
        obtain ⟨f1, f2⟩ := numW_some h1
        refine ⟨by rw [List.map_cons, f1, e1], fun x hx => ?_⟩
        rcases List.mem_cons.1 hx with rfl | hx
        · exact f2
        · exact e2 x hx
theorem fits64 {n : Int} (h : amt n = true) : 0 ≤ n ∧ n ≤ 1073741823 := by
  rw [amt, Bool.and_eq_true, decide_eq_true_eq, fits_iff] at h; exact ⟨h.1, h.2.2⟩
theorem head_iff {f : Fl} : headB f = true ↔ 0 ≤ f.pages ∧ f.pages ≤ 10000 ∧ amt f.width = true ∧ amt f.height = true := by
  simp only [headB, Bool.and_eq_true, decide_eq_true_eq, and_assoc]
theorem right_iff {f : Fl} {b : Bx} : rightB f b = true ↔ 1 ≤ b.page ∧ b.page ≤ f.pages ∧ 0 ≤ b.kind ∧ b.kind < 5 ∧ 0 ≤ b.side ∧ b.side ≤ 1 ∧ -1 ≤ b.word ∧ b.word ≤ 999999 ∧ amt b.x = true ∧ amt b.y = true ∧ amt b.w = true ∧ amt b.h = true ∧ b.x + b.w ≤ f.width ∧ b.y + b.h ≤ f.height ∧ 10 ∉ b.text := by
  simp only [rightB, Bool.and_eq_true, decide_eq_true_eq, and_assoc]
theorem check_iff {f : Fl} : checkF f = 0 ↔ headB f = true ∧ f.boxes.length ≤ 50000 ∧ ∀ b ∈ f.boxes, rightB f b = true := by
  rw [checkF]
  by_cases h1 : headB f = true
  · rw [if_pos h1]
    by_cases h2 : 50000 < f.boxes.length
    · rw [if_pos h2]
      exact ⟨fun h => absurd h (by decide), fun h => by omega⟩
    · rw [if_neg h2]
      by_cases h3 : f.boxes.all (rightB f) = true
      · rw [if_pos h3]
        exact ⟨fun _ => ⟨h1, by omega, List.all_eq_true.1 h3⟩, fun _ => rfl⟩
      · rw [if_neg h3]
        exact ⟨fun h => absurd h (by decide), fun h => absurd (List.all_eq_true.2 h.2.2) h3⟩
  · rw [if_neg h1]
    exact ⟨fun h => absurd h (by decide), fun h => absurd h.1 h1⟩
theorem head_in {f : Fl} (h : headB f = true) : ∀ v ∈ f.ns, in64 v := fun v hv => by
  obtain ⟨h1, h2, h3, h4⟩ := head_iff.1 h
  have := fits64 h3
  have := fits64 h4
  simp only [Fl.ns, List.mem_cons, List.mem_nil_iff, or_false] at hv
  rcases hv with rfl | rfl | rfl <;> constructor <;> omega
theorem right_in {f : Fl} {b : Bx} (hf : headB f = true) (h : rightB f b = true) : ∀ v ∈ b.ns, in64 v := fun v hv => by
  obtain ⟨h1, h2, h3, h4, h5, h6, h7, h8, h9, h10, h11, h12, h13, h14, h15⟩ := right_iff.1 h
  have := (head_iff.1 hf).2.1
  have := fits64 h9
  have := fits64 h10
  have := fits64 h11
  have := fits64 h12
  simp only [Bx.ns, List.mem_cons, List.mem_nil_iff, or_false] at hv
  rcases hv with rfl | rfl | rfl | rfl | rfl | rfl | rfl | rfl <;> constructor <;> omega
/-- A line without its end. -/
def headBody (f : Fl) : List UInt8 := [32].intercalate (pagesW :: f.ns.map Lib.itoa)
def boxBody (b : Bx) : List UInt8 := [32].intercalate ((boxW :: b.ns.map Lib.itoa) ++ [b.text])
theorem headT_body (f : Fl) : headT f = headBody f ++ [10] := by
  rw [headT, headBody, nums, Fl.ns, List.map_cons, inter_cons, pagesW]
  simp
theorem boxT_body (b : Bx) : boxT b = boxBody b ++ [10] := by
  simp only [boxT, boxBody, nums, Bx.ns, List.map_cons, List.map_nil, List.cons_append, List.nil_append, inter_cons, inter_one, boxW, List.append_assoc]
theorem headBody_no10 (f : Fl) : (10 : UInt8) ∉ headBody f := fun h => by
  simp only [headBody, Fl.ns, List.map_cons, List.map_nil, inter_cons, inter_one, List.mem_append, List.mem_cons] at h
  have h1 := itoa_no10 f.pages
  have h2 := itoa_no10 f.width
  have h3 := itoa_no10 f.height
  rcases h with h | h | h | h | h | h | h
  · revert h; decide
  · revert h; decide
  · exact h1 h
  · revert h; decide
  · exact h2 h
  · revert h; decide
  · exact h3 h
theorem boxBody_no10 {b : Bx} (ht : (10 : UInt8) ∉ b.text) : (10 : UInt8) ∉ boxBody b := fun h => by
  simp only [boxBody, Bx.ns, List.map_cons, List.map_nil, List.cons_append, List.nil_append, inter_cons, inter_one, List.mem_append, List.mem_cons] at h
  have hh : ∀ v, (10 : UInt8) ∉ Lib.itoa v := itoa_no10
  rcases h with h | h | h | h | h | h | h | h | h | h | h | h | h | h | h | h | h | h | h
  all_goals first | exact hh _ h | exact ht h | (revert h; decide)
theorem headOf_body {f : Fl} (h : ∀ v ∈ f.ns, in64 v) : headOf (headBody f) = some ⟨f.pages, f.width, f.height, []⟩ := by
  have e : spl 32 (headBody f) = pagesW :: f.ns.map Lib.itoa := spl_of_join (by simp) fun a ha => by
    rcases List.mem_cons.1 ha with rfl | ha
    · decide
    · obtain ⟨v, _, rfl⟩ := List.mem_map.1 ha
      exact itoa_no32 v
  have e2 : readW (pagesW :: f.ns.map Lib.itoa) pagesW 3 = some f.ns := by
    rw [readW, if_neg (by simp [Fl.ns])]
    exact numsOf_itoa h
  rw [headOf, e, if_pos (by simp [Fl.ns]), e2]
  rfl
theorem boxOf_body {b : Bx} (h : ∀ v ∈ b.ns, in64 v) : boxOf (boxBody b) = some b := by
  have e : spn 32 9 (boxBody b) = (boxW :: b.ns.map Lib.itoa) ++ [b.text] := spn_of_join b.text (L := boxW :: b.ns.map Lib.itoa) fun a ha => by
    rcases List.mem_cons.1 ha with rfl | ha
    · decide
    · obtain ⟨v, _, rfl⟩ := List.mem_map.1 ha
      exact itoa_no32 v
  have e2 : readW ((boxW :: b.ns.map Lib.itoa) ++ [b.text]) boxW 8 = some b.ns := by
    rw [readW, if_neg (by simp [Bx.ns])]
    exact numsOf_itoa h
  rw [boxOf, e, if_pos (by simp [Bx.ns]), e2]
  rfl
theorem four_of {l : List (List UInt8)} (h : l.length = 4) : ∃ a b c d, l = [a, b, c, d] := by
  match l, h with
  | [a, b, c, d], _ => exact ⟨a, b, c, d, rfl⟩
theorem ten_of {l : List (List UInt8)} (h : l.length = 10) : ∃ a b c d e f g i j k, l = [a, b, c, d, e, f, g, i, j, k] := by
  match l, h with
  | [a, b, c, d, e, f, g, i, j, k], _ => exact ⟨a, b, c, d, e, f, g, i, j, k, rfl⟩
theorem headOf_some {l : List UInt8} {f : Fl} (h : headOf l = some f) : l = headBody f ∧ f.boxes = [] ∧ ∀ v ∈ f.ns, in64 v := by
  rw [headOf] at h
  split at h
  · rename_i hl
    obtain ⟨a, b, c, d, e⟩ := four_of hl
    have hj := spl_join 32 l
    rw [e] at h hj
    rw [readW] at h
    by_cases hb : [a, b, c, d].length < 3 + 1 ∨ [a, b, c, d].getD 0 [] ≠ pagesW
    · rw [if_pos hb] at h; cases h
    · rw [if_neg hb] at h
      have ha : a = pagesW := Classical.byContradiction fun q => hb (.inr q)
      cases hn : numsOf (([a, b, c, d].drop 1).take 3) with
      | none => rw [hn] at h; cases h
      | some n =>
        rw [hn] at h
        injection h with h
        obtain ⟨e1, e2⟩ := numsOf_some hn
        match n, e1 with
        | [p, q, r], e1 =>
          injection e1 with e1 e3
          injection e3 with e3 e4
          injection e4 with e4 e5
          subst h
          refine ⟨?_, rfl, e2⟩
          rw [← hj, ha, e1, e3, e4]
          rfl
        | [], e1 => simp at e1
        | [p], e1 => simp at e1
        | [p, q], e1 => simp at e1
        | p :: q :: r :: s :: t, e1 => simp at e1
  · cases h
theorem boxOf_some {l : List UInt8} {b : Bx} (h : boxOf l = some b) : l = boxBody b ∧ ∀ v ∈ b.ns, in64 v := by
  rw [boxOf] at h
  split at h
  · rename_i hl
    obtain ⟨a, w1, w2, w3, w4, w5, w6, w7, w8, t, e⟩ := ten_of hl
    have hj := spn_join 32 9 l
    rw [e] at h hj
    rw [readW] at h
    by_cases hb : [a, w1, w2, w3, w4, w5, w6, w7, w8, t].length < 8 + 1 ∨ [a, w1, w2, w3, w4, w5, w6, w7, w8, t].getD 0 [] ≠ boxW
    · rw [if_pos hb] at h; cases h
    · rw [if_neg hb] at h
      have ha : a = boxW := Classical.byContradiction fun q => hb (.inr q)
      cases hn : numsOf (([a, w1, w2, w3, w4, w5, w6, w7, w8, t].drop 1).take 8) with
      | none => rw [hn] at h; cases h
      | some n =>
        rw [hn] at h
        injection h with h
        obtain ⟨e1, e2⟩ := numsOf_some hn
        have hl8 : n.length = 8 := by
          have := congrArg List.length e1
          simpa using this.symm
        match n, hl8, e1 with
        | [n1, n2, n3, n4, n5, n6, n7, n8], _, e1 =>
          simp only [List.drop_succ_cons, List.drop_zero, List.take_succ_cons, List.take_zero, List.map_cons, List.map_nil, List.cons.injEq, and_true] at e1
          obtain ⟨f1, f2, f3, f4, f5, f6, f7, f8⟩ := e1
          subst h
          refine ⟨?_, e2⟩
          rw [← hj, ha, f1, f2, f3, f4, f5, f6, f7, f8]
          rfl
  · cases h
theorem spl_lines (s : List UInt8) : ∀ (L : List Bx), (∀ b ∈ L, (10 : UInt8) ∉ b.text) → spl 10 (L.flatMap boxT ++ s) = L.map boxBody ++ spl 10 s
  | [], _ => rfl
  | b :: L, h => by
    have hn := boxBody_no10 (h b (List.mem_cons_self ..))
    have e : boxBody b ++ [10] ++ L.flatMap boxT ++ s = boxBody b ++ 10 :: (L.flatMap boxT ++ s) := by simp
    rw [List.flatMap_cons, boxT_body, e, List.map_cons, List.cons_append, spl_hit _ hn, spl_lines s L fun x hx => h x (List.mem_cons_of_mem _ hx)]
theorem lines_step {h : Fl} {l m : List UInt8} {r : List (List UInt8)} {i : Nat} {out : List Bx} {b : Bx} (e : boxOf l = some b) : linesGo h (l :: m :: r) i out = linesGo h (m :: r) (i + 1) (out ++ [b]) := by rw [linesGo, e]
theorem lines_bad {h : Fl} {l m : List UInt8} {r : List (List UInt8)} {i : Nat} {out : List Bx} (e : boxOf l = none) : linesGo h (l :: m :: r) i out = (fl0, 251, (i : Int)) := by rw [linesGo, e]
theorem lines_end {h : Fl} {i : Nat} {out : List Bx} : linesGo h [[]] i out = if checkF { h with boxes := out } = 0 then ({ h with boxes := out }, 0, 0) else (fl0, checkF { h with boxes := out }, -1) := by rw [linesGo, if_pos rfl]
theorem lines_last {h : Fl} {l : List UInt8} {i : Nat} {out : List Bx} (e : l ≠ []) : linesGo h [l] i out = (fl0, 251, (i : Int)) := by rw [linesGo, if_neg e]
theorem lines_go (h : Fl) : ∀ (L : List Bx) (i : Nat) (out : List Bx), (∀ b ∈ L, ∀ v ∈ b.ns, in64 v) → linesGo h (L.map boxBody ++ [[]]) i out = linesGo h [[]] (i + L.length) (out ++ L)
  | [], i, out, _ => by simp
  | b :: L, i, out, hb => by
    have hr : ∃ m r, L.map boxBody ++ [[]] = m :: r := by
      cases L with
      | nil => exact ⟨_, _, rfl⟩
      | cons x L => exact ⟨_, _, rfl⟩
    obtain ⟨m, r, e⟩ := hr
    have ih := lines_go h L (i + 1) (out ++ [b]) fun x hx => hb x (List.mem_cons_of_mem _ hx)
    rw [List.map_cons, List.cons_append, e, lines_step (boxOf_body (hb b (List.mem_cons_self ..))), ← e, ih, List.length_cons]
    congr 1
    · omega
    · simp
theorem lines_some (h : Fl) : ∀ (L : List (List UInt8)) (i : Nat) (out : List Bx) (f : Fl) (k : Int), L ≠ [] → linesGo h L i out = (f, 0, k) → ∃ B : List Bx, L = B.map boxBody ++ [[]] ∧ f = { h with boxes := out ++ B } ∧ checkF f = 0 ∧ k = 0
  | [], _, _, _, _, hl, _ => absurd rfl hl
  | [l], i, out, f, k, _, e => by
    by_cases hl : l = []
    · subst hl
      rw [lines_end] at e
      by_cases hc : checkF { h with boxes := out } = 0
      · rw [if_pos hc] at e
        have e1 : _ = f := congrArg (·.1) e
        have e2 : (0 : Int) = k := congrArg (·.2.2) e
        subst e1
        exact ⟨[], rfl, by simp, hc, e2.symm⟩
      · rw [if_neg hc] at e
        have e2 : checkF { h with boxes := out } = (0 : Int) := congrArg (·.2.1) e
        exact absurd e2 hc
    · rw [lines_last hl] at e
      have e2 : (251 : Int) = 0 := congrArg (·.2.1) e
      exact absurd e2 (by decide)
  | l :: m :: r, i, out, f, k, _, e => by
    cases hb : boxOf l with
    | none =>
      rw [lines_bad hb] at e
      have e2 : (251 : Int) = 0 := congrArg (·.2.1) e
      exact absurd e2 (by decide)
    | some b =>
      rw [lines_step hb] at e
      obtain ⟨B, e1, e2, e3, e4⟩ := lines_some h (m :: r) (i + 1) (out ++ [b]) f k (by simp) e
      exact ⟨b :: B, by rw [e1, (boxOf_some hb).1]; rfl, by rw [e2]; simp, e3, e4⟩
theorem inter_lines : ∀ L : List Bx, ([10] : List UInt8).intercalate (L.map boxBody ++ [[]]) = L.flatMap boxT
  | [] => rfl
  | [b] => by simp [boxT_body, List.intercalate]
  | b :: c :: L => by
    have := inter_lines (c :: L)
    rw [List.map_cons, List.cons_append] at this
    rw [List.map_cons, List.map_cons, List.cons_append, List.cons_append, inter_cons, this]
    rw [show List.flatMap boxT (b :: c :: L) = boxT b ++ List.flatMap boxT (c :: L) from rfl, boxT_body]
    simp
theorem printF_parseF {s : List UInt8} {f : Fl} {k : Int} (h : parseF s = (f, 0, k)) : checkF f = 0 ∧ printF f = s ∧ k = 0 := by
  have hj := spl_join 10 s
  rw [parseF] at h
  generalize spl 10 s = L at h hj
  match L, h, hj with
  | [], h, _ =>
    have e2 : (250 : Int) = 0 := congrArg (·.2.1) h
    exact absurd e2 (by decide)
  | [l], h, _ =>
    have e2 : (250 : Int) = 0 := congrArg (·.2.1) h
    exact absurd e2 (by decide)
  | l :: m :: r, h, hj =>
    rw [parseL] at h
    cases hh : headOf l with
    | none =>
      rw [hh] at h
      have e2 : (250 : Int) = 0 := congrArg (·.2.1) h
      exact absurd e2 (by decide)
    | some g =>
      rw [hh] at h
      obtain ⟨B, e1, e2, e3, e4⟩ := lines_some g (m :: r) 1 [] f k (by simp) h
      obtain ⟨g1, g2, g3⟩ := headOf_some hh
      refine ⟨e3, ?_, e4⟩
      rw [printF, if_pos e3, ← hj, g1, inter_cons, e1, inter_lines, headT_body, e2]
      simp [headBody, Fl.ns]
/-! ### Parts -/
end Go.Proofs.YtejdeonbibbchaaGreatDoor
