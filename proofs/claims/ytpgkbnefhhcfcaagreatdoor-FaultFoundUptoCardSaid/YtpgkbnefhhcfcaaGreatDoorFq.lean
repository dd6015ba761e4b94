/- Texts, plain: cut at a letter, cut at two dots; joined. No program in sight. -/
import Derived.Lib.SplitLaws
import Derived.Lib.IndexMore
import Derived.Lib.Join
import Derived.Lib.Strings
import Derived.Lib.ItoaNum
import Derived.Lib.ParseIntBTie
import Derived.Lib.AtoiTie
import Derived.Lib.SlTrimSet
import Derived.Lib.TrimByte
import Derived.IntWalk
import Derived.Laws.Bits64
import Derived.Lib.Split
import Derived.Lib.IndexLaws
import Derived.Lib.CountLaws

set_option linter.unusedVariables false
set_option linter.unusedSimpArgs false
set_option linter.constructorNameAsVariable false
namespace Go.Proofs.YtpgkbnefhhcfcaaGreatDoor
open Go

end Go.Proofs.YtpgkbnefhhcfcaaGreatDoor
set_option linter.unusedVariables false
set_option linter.unusedSimpArgs false
set_option linter.constructorNameAsVariable false
namespace Go.Proofs.YtpgkbnefhhcfcaaGreatDoor
open Go

theorem digit_toNat {d : Nat} (h : d < 10) : (UInt8.ofNat (48 + d)).toNat = 48 + d := by
  rw [UInt8.toNat_ofNat', Nat.mod_eq_of_lt (by omega)]
theorem dec_step (u : Nat) (h : ¬ u < 10) : Lib.decDigits u = Lib.decDigits (u / 10) ++ [UInt8.ofNat (48 + u % 10)] := by
  rw [Lib.decDigits, dif_neg h]
theorem dec_one {u : Nat} (h : u < 10) : Lib.decDigits u = [UInt8.ofNat (48 + u)] := by rw [Lib.decDigits, dif_pos h]
def isD (c : UInt8) : Bool := decide (48 ≤ c.toNat ∧ c.toNat ≤ 57)
theorem isD_iff {c : UInt8} : isD c = true ↔ 48 ≤ c.toNat ∧ c.toNat ≤ 57 := by rw [isD, decide_eq_true_eq]
theorem isD_digit {d : Nat} (h : d < 10) : isD (UInt8.ofNat (48 + d)) = true := isD_iff.2 (by rw [digit_toNat h]; omega)
/-- What digits say, behind what is said. -/
def valF (acc : Nat) (l : List UInt8) : Nat := l.foldl (fun a c => a * 10 + (c.toNat - 48)) acc
def valD (l : List UInt8) : Nat := valF 0 l
theorem valF_cons (acc : Nat) (c : UInt8) (l : List UInt8) : valF acc (c :: l) = valF (acc * 10 + (c.toNat - 48)) l := by unfold valF; rw [List.foldl_cons]
theorem valF_app (acc : Nat) (a b : List UInt8) : valF acc (a ++ b) = valF (valF acc a) b := List.foldl_append
theorem valF_mono : ∀ (l : List UInt8) (acc : Nat), acc ≤ valF acc l
  | [], acc => Nat.le_refl _
  | c :: l, acc => by
    have := valF_mono l (acc * 10 + (c.toNat - 48))
    rw [valF_cons]
    omega
theorem dec_all (n : Nat) : ∀ c ∈ Lib.decDigits n, isD c = true := by
  induction n using Nat.strongRecOn with
  | ind n ih =>
    intro c hc
    by_cases h : n < 10
    · rw [dec_one h, List.mem_singleton] at hc
      rw [hc]; exact isD_digit h
    · rw [dec_step n h, List.mem_append, List.mem_singleton] at hc
      rcases hc with hc | rfl
      · exact ih (n / 10) (by omega) c hc
      · exact isD_digit (Nat.mod_lt _ (by decide))
theorem dec_ne (n : Nat) : Lib.decDigits n ≠ [] := by
  by_cases h : n < 10
  · rw [dec_one h]; simp
  · rw [dec_step n h]; simp
theorem valD_dec (n : Nat) : valD (Lib.decDigits n) = n := by
  induction n using Nat.strongRecOn with
  | ind n ih =>
    by_cases h : n < 10
    · rw [dec_one h]
      show 0 * 10 + ((UInt8.ofNat (48 + n)).toNat - 48) = n
      rw [digit_toNat h]; omega
    · rw [dec_step n h, valD, valF_app]
      have e := ih (n / 10) (by omega)
      rw [valD] at e
      rw [e]
      show n / 10 * 10 + ((UInt8.ofNat (48 + n % 10)).toNat - 48) = n
      rw [digit_toNat (Nat.mod_lt _ (by decide))]; omega
theorem dec_len {n k : Nat} (h : n < 10 ^ (k + 1)) : (Lib.decDigits n).length ≤ k + 1 := by
  induction k generalizing n with
  | zero => rw [dec_one (by simpa using h)]; exact Nat.le_refl _
  | succ k ih =>
    by_cases h9 : n < 10
    · rw [dec_one h9]; simp
    · rw [dec_step n h9, List.length_append]
      have := ih (n := n / 10) (by rw [Nat.pow_succ] at h; omega)
      simp; omega
end Go.Proofs.YtpgkbnefhhcfcaaGreatDoor
set_option linter.unusedVariables false
set_option linter.unusedSimpArgs false
set_option linter.constructorNameAsVariable false
namespace Go.Proofs.YtpgkbnefhhcfcaaGreatDoor
open Go

def fitsB (n : Int) : Bool := decide (-1073741823 ≤ n ∧ n ≤ 1073741823)
def partOk (a num den : Int) : Prop := fitsB a = true ∧ fitsB num = true ∧ fitsB den = true ∧ 0 ≤ num ∧ 0 < den
instance (a num den : Int) : Decidable (partOk a num den) := inferInstanceAs (Decidable (_ ∧ _ ∧ _ ∧ _ ∧ _))
end Go.Proofs.YtpgkbnefhhcfcaaGreatDoor
set_option linter.unusedVariables false
set_option linter.unusedSimpArgs false
set_option linter.constructorNameAsVariable false
namespace Go.Proofs.YtpgkbnefhhcfcaaGreatDoor
open Go
set_option linter.unusedVariables false

/-! ### Numbers -/
def in64 (n : Int) : Prop := -9223372036854775808 ≤ n ∧ n ≤ 9223372036854775807
theorem pu_dec : ∀ (l : List UInt8) (acc : Nat), (∀ c ∈ l, isD c = true) → valF acc l < 18446744073709551616 → Lib.parseUint10 acc l = .ok (valF acc l)
  | [], acc, _, _ => rfl
  | c :: l, acc, h, hb => by
    have hc := isD_iff.1 (h c (List.mem_cons_self ..))
    have hm := valF_mono l (acc * 10 + (c.toNat - 48))
    rw [valF_cons] at hb ⊢
    rw [Lib.parseUint10, if_pos hc, if_neg (by omega), if_neg (by omega)]
    exact pu_dec l _ (fun x hx => h x (List.mem_cons_of_mem _ hx)) hb
theorem pm_dec {u : Nat} (h : u < 18446744073709551616) : Lib.parseMag (Lib.decDigits u) = .ok u := by
  have := pu_dec (Lib.decDigits u) 0 (dec_all u) (by rw [show valF 0 (Lib.decDigits u) = u from valD_dec u]; exact h)
  rw [Lib.parseMag, if_neg (dec_ne u), this, show valF 0 (Lib.decDigits u) = u from valD_dec u]
theorem atoi_neg (r : List UInt8) : Lib.atoiAll (45 :: r) = match Lib.parseMag r with
    | Lib.NumEnd.syntax => Lib.NumEnd.syntax
    | .range => .range
    | .ok u => if 9223372036854775808 < u then .range else .ok (-(u : Int)) := by
  have e : (if (45 : UInt8).toNat = 43 ∨ (45 : UInt8).toNat = 45 then r else 45 :: r) = r := if_pos (.inr rfl)
  rw [Lib.atoiAll]
  try simp only []
  rw [e]
  cases Lib.parseMag r with
  | ok u =>
    simp only []
    have e45 : (45 : UInt8).toNat = 45 := rfl
    rw [if_neg (fun h => h.1 rfl), if_pos e45]
    by_cases h : 9223372036854775808 < u
    · rw [if_pos h, if_pos ⟨rfl, h⟩]
    · rw [if_neg h, if_neg (fun q => h q.2)]
  | _ => rfl
theorem atoi_pos {c : UInt8} {r : List UInt8} (h1 : c.toNat ≠ 43) (h2 : c.toNat ≠ 45) : Lib.atoiAll (c :: r) = match Lib.parseMag (c :: r) with
    | Lib.NumEnd.syntax => Lib.NumEnd.syntax
    | .range => .range
    | .ok u => if 9223372036854775808 ≤ u then .range else .ok (u : Int) := by
  have e : (if c.toNat = 43 ∨ c.toNat = 45 then r else c :: r) = c :: r := if_neg (fun h => h.elim h1 h2)
  rw [Lib.atoiAll]
  try simp only []
  rw [e]
  cases Lib.parseMag (c :: r) with
  | ok u =>
    simp only []
    rw [if_neg (fun h : c.toNat = 45 ∧ _ => h2 h.1), if_neg h2]
    by_cases h : 9223372036854775808 ≤ u
    · rw [if_pos h, if_pos ⟨h2, h⟩]
    · rw [if_neg h, if_neg (fun q => h q.2)]
  | _ => rfl
theorem pi_itoa {v : Int} (h : in64 v) : Lib.parseIntB 64 (Lib.itoa v) = .ok v := by
  obtain ⟨h0, h1⟩ := h
  rw [Lib.parseIntB_64]
  by_cases hv : v < 0
  · rw [Lib.itoa, if_pos hv, atoi_neg, pm_dec (u := v.natAbs) (by omega)]
    simp only []
    rw [if_neg (by omega), show -((v.natAbs : Nat) : Int) = v by omega]
  · rw [Lib.itoa, if_neg hv]
    have hm := pm_dec (u := v.toNat) (by omega)
    cases e : Lib.decDigits v.toNat with
    | nil => exact absurd e (dec_ne _)
    | cons c r =>
      have hc := isD_iff.1 (dec_all v.toNat c (by rw [e]; exact List.mem_cons_self ..))
      rw [e] at hm
      rw [atoi_pos (by omega) (by omega), hm]
      simp only []
      rw [if_neg (by omega), show ((v.toNat : Nat) : Int) = v by omega]
theorem itoa_len64 {v : Int} (h : in64 v) : (Lib.itoa v).length ≤ 21 := by
  obtain ⟨h0, h1⟩ := h
  rw [Lib.itoa]
  split
  · have := dec_len (n := v.natAbs) (k := 18) (by omega)
    simp; omega
  · have := dec_len (n := v.toNat) (k := 18) (by omega)
    omega
structure Bx where
  page : Int
  kind : Int
  side : Int
  word : Int
  x : Int
  y : Int
  w : Int
  h : Int
  text : List UInt8
theorem Bx.eq_iff {a b : Bx} : a = b ↔ (a.page = b.page ∧ a.kind = b.kind ∧ a.side = b.side ∧ a.word = b.word ∧ a.x = b.x ∧ a.y = b.y ∧ a.w = b.w ∧ a.h = b.h ∧ a.text = b.text) := by cases a; cases b; simp
instance : DecidableEq Bx := fun a b => decidable_of_iff _ Bx.eq_iff.symm
structure Fl where
  pages : Int
  width : Int
  height : Int
  boxes : List Bx
def Fl.ns (f : Fl) : List Int := [f.pages, f.width, f.height]
def Bx.ns (b : Bx) : List Int := [b.page, b.kind, b.side, b.word, b.x, b.y, b.w, b.h]
end Go.Proofs.YtpgkbnefhhcfcaaGreatDoor
set_option linter.unusedVariables false
set_option linter.unusedSimpArgs false
set_option linter.constructorNameAsVariable false
namespace Go.Proofs.YtpgkbnefhhcfcaaGreatDoor
open Go
set_option linter.unusedVariables false

/-! ### Pieces of a text -/
theorem index_cases (sub : List UInt8) : ∀ l : List UInt8, Lib.index l sub = -1 ∨ ∃ a b, l = a ++ sub ++ b ∧ Lib.index l sub = a.length
  | [] => by
    rw [Lib.index]
    cases sub with
    | nil => exact .inr ⟨[], [], rfl, rfl⟩
    | cons c t => exact .inl rfl
  | x :: l => by
    rw [Lib.index]
    by_cases hp : sub.isPrefixOf (x :: l) = true
    · rw [if_pos hp]
      obtain ⟨t, ht⟩ := List.isPrefixOf_iff_prefix.1 hp
      exact .inr ⟨[], t, ht.symm, rfl⟩
    · rw [if_neg hp]
      rcases index_cases sub l with h | ⟨a, b, h1, h2⟩
      · rw [h]; exact .inl rfl
      · rw [h2, if_neg (by intro e; have := beq_iff_eq.1 e; omega)]
        exact .inr ⟨x :: a, b, by rw [h1]; rfl, by simp⟩
theorem index_at {c : UInt8} {a : List UInt8} (t b : List UInt8) (h : c ∉ a) : Lib.index (a ++ (c :: t) ++ b) (c :: t) = a.length := by
  refine Lib.index_first (by simp) ?_ fun j hj => ?_
  · rw [Lib.occAt, List.append_assoc, List.drop_left]
    exact List.isPrefixOf_iff_prefix.2 ⟨b, rfl⟩
  · cases e : Lib.occAt (a ++ (c :: t) ++ b) (c :: t) j with
    | false => rfl
    | true =>
      have := Lib.occAt_head rfl e
      rw [List.append_assoc, List.getElem?_append_left hj] at this
      exact absurd (List.mem_of_getElem? this) h
theorem index_no {c : UInt8} {l : List UInt8} (t : List UInt8) (h : c ∉ l) : Lib.index l (c :: t) = -1 := by
  refine Lib.index_none fun j _ => ?_
  cases e : Lib.occAt l (c :: t) j with
  | false => rfl
  | true => exact absurd (List.mem_of_getElem? (Lib.occAt_head rfl e)) h
theorem split_no {sep l : List UInt8} (h : Lib.index l sep = -1) : Lib.split l sep = [l] := by
  rw [Lib.split, Lib.count_miss h]; rfl
theorem split_cut {sep a b : List UInt8} (hs : sep ≠ []) (h : Lib.index (a ++ sep ++ b) sep = a.length) : Lib.split (a ++ sep ++ b) sep = a :: Lib.split b sep := by
  have hd : (a ++ sep ++ b).drop (a.length + sep.length) = b := by rw [← List.length_append, List.drop_left]
  have ht : (a ++ sep ++ b).take a.length = a := by rw [List.append_assoc, List.take_left]
  rw [Lib.split, Lib.count_hit hs h, hd, Nat.add_comm 1, Lib.splitK, h, if_neg (by intro e; have := beq_iff_eq.1 e; omega), Int.toNat_natCast, Nat.add_zero, hd, ht]
  rfl
theorem split_at {c : UInt8} {a : List UInt8} (t b : List UInt8) (h : c ∉ a) : Lib.split (a ++ (c :: t) ++ b) (c :: t) = a :: Lib.split b (c :: t) :=
  split_cut (by simp) (index_at t b h)

/-! ### Texts of faults -/
def colS : List UInt8 := [58, 32]
def fltW : List UInt8 := [102, 97, 117, 108, 116]
def fltS : List UInt8 := [102, 97, 117, 108, 116, 32]
def atW : List UInt8 := [97, 116]
def atS : List UInt8 := [32, 97, 116, 32]
def tailB (c p : Int) : List UInt8 := fltS ++ Lib.itoa c ++ (if p < 0 then [] else atS ++ Lib.itoa p)
def textB (c p : Int) : List (List UInt8) → List UInt8
  | [] => tailB c p
  | n :: st => n ++ colS ++ textB c p st
def isLow (c : UInt8) : Bool := decide (97 ≤ c.toNat ∧ c.toNat ≤ 122)
def nameB (n : List UInt8) : Bool := !n.isEmpty && n.all isLow
theorem itoa_mem {v : Int} {c : UInt8} (h : c ∈ Lib.itoa v) : c = 45 ∨ isD c = true := by
  rw [Lib.itoa] at h
  split at h
  · rcases List.mem_cons.1 h with rfl | h
    · exact .inl rfl
    · exact .inr (dec_all _ c h)
  · exact .inr (dec_all _ c h)
theorem itoa_n32 (v : Int) : (32 : UInt8) ∉ Lib.itoa v := fun h => by
  rcases itoa_mem h with h | h <;> revert h <;> decide
theorem itoa_no58 (v : Int) : (58 : UInt8) ∉ Lib.itoa v := fun h => by
  rcases itoa_mem h with h | h <;> revert h <;> decide
theorem tail_no58 (c p : Int) : (58 : UInt8) ∉ tailB c p := by
  have h1 := itoa_no58 c; have h2 := itoa_no58 p
  rw [tailB]
  split <;> simp [fltS, atS, h1, h2]
theorem name_no58 {n : List UInt8} (h : nameB n = true) : (58 : UInt8) ∉ n := fun hm => by
  rw [nameB, Bool.and_eq_true, List.all_eq_true] at h
  exact absurd (h.2 58 hm) (by decide)
theorem split_text (c p : Int) : ∀ st : List (List UInt8), (∀ n ∈ st, nameB n = true) → Lib.split (textB c p st) colS = st ++ [tailB c p]
  | [], _ => split_no (index_no [32] (tail_no58 c p))
  | n :: st, h => by
    rw [textB]
    rw [show colS = 58 :: [32] from rfl, split_at [32] _ (name_no58 (h n (List.mem_cons_self ..)))]
    rw [List.cons_append, ← split_text c p st fun x hx => h x (List.mem_cons_of_mem _ hx)]
    rfl
theorem split_tail (c p : Int) : Lib.split (tailB c p) [32] = if p < 0 then [fltW, Lib.itoa c] else [fltW, Lib.itoa c, atW, Lib.itoa p] := by
  have h1 := itoa_n32 c; have h2 := itoa_n32 p
  rw [tailB]
  split
  · rw [List.append_nil, show fltS ++ Lib.itoa c = fltW ++ (32 :: []) ++ Lib.itoa c from rfl, split_at [] _ (by decide), split_no (index_no [] h1)]
  · rw [show fltS ++ Lib.itoa c ++ (atS ++ Lib.itoa p) = fltW ++ (32 :: []) ++ (Lib.itoa c ++ (32 :: []) ++ (atW ++ (32 :: []) ++ Lib.itoa p)) by simp [fltS, fltW, atS, atW], split_at [] _ (by decide), split_at [] _ h1, split_at [] _ (by decide), split_no (index_no [] h2)]

/-! ### The text read: by the program -/
def atoiV (l : List UInt8) : Int := match Lib.atoiAll l with | .ok v => v | Lib.NumEnd.syntax => 0 | .range => Lib.atoiSat l
def okA (l : List UInt8) : Bool := match Lib.atoiAll l with | .ok _ => true | _ => false
theorem atoi_itoa {v : Int} (h : in64 v) : atoiV (Lib.itoa v) = v ∧ okA (Lib.itoa v) = true := by
  have e := pi_itoa h
  rw [Lib.parseIntB_64] at e
  rw [atoiV, okA, e]; exact ⟨rfl, rfl⟩
theorem atoiV_in (l : List UInt8) : in64 (atoiV l) := by
  rw [atoiV]
  split
  · rename_i v h; exact Lib.atoiAll_bounds h
  · constructor <;> omega
  · exact Lib.atoiSat_bounds l
abbrev Fd := (Int × Int) × List (List UInt8)
def stgs (s : List UInt8) : List (List UInt8) := (Lib.split s colS).dropLast
def wrds (s : List UInt8) : List (List UInt8) := Lib.split ((Lib.split s colS).getLastD []) [32]
def codeP (w : List (List UInt8)) : Int := atoiV (w.getD 1 [])
def atP (w : List (List UInt8)) : Int := if w.length = 4 then atoiV (w.getD 3 []) else -1
def goodP (s : List UInt8) : Bool := decide ((wrds s).length = 2 ∨ (wrds s).length = 4) && (stgs s).all nameB && okA ((wrds s).getD 1 []) && (decide ((wrds s).length ≠ 4) || okA ((wrds s).getD 3 [])) && decide (textB (codeP (wrds s)) (atP (wrds s)) (stgs s) = s)
def readP (s : List UInt8) : Option Fd := if goodP s = true then some ((codeP (wrds s), atP (wrds s)), stgs s) else none
def goodF (s : List UInt8) (x : Fd) : Prop := in64 x.1.1 ∧ in64 x.1.2 ∧ -1 ≤ x.1.2 ∧ (∀ n ∈ x.2, nameB n = true) ∧ textB x.1.1 x.1.2 x.2 = s
theorem stgs_text (c p : Int) {st : List (List UInt8)} (h : ∀ n ∈ st, nameB n = true) : stgs (textB c p st) = st := by
  rw [stgs, split_text c p st h, List.dropLast_concat]
theorem wrds_text (c p : Int) {st : List (List UInt8)} (h : ∀ n ∈ st, nameB n = true) : wrds (textB c p st) = if p < 0 then [fltW, Lib.itoa c] else [fltW, Lib.itoa c, atW, Lib.itoa p] := by
  rw [wrds, split_text c p st h, List.getLastD_concat, split_tail]
theorem readP_iff (s : List UInt8) (x : Fd) : readP s = some x ↔ goodF s x := by
  constructor
  · intro h
    rw [readP] at h
    split at h
    · rename_i hg
      obtain rfl := Option.some.inj h
      simp only [goodP, Bool.and_eq_true, decide_eq_true_eq, List.all_eq_true] at hg
      obtain ⟨⟨⟨⟨hl, hn⟩, h1⟩, h3⟩, ht⟩ := hg
      refine ⟨atoiV_in _, ?_, ?_, hn, ht⟩
      · show in64 (atP _)
        rw [atP]; split
        · exact atoiV_in _
        · constructor <;> omega
      · show -1 ≤ atP _
        rcases Int.lt_or_le (atP (wrds s)) 0 with hp | hp
        · have hw := wrds_text (codeP (wrds s)) (atP (wrds s)) hn
          rw [ht, if_pos hp] at hw
          rw [hw]
          rw [atP, if_neg (by simp)]
          decide
        · omega
    · cases h
  · rintro ⟨h1, h2, h3, h4, h5⟩
    obtain ⟨⟨c, p⟩, st⟩ := x
    simp only [] at h1 h2 h3 h4 h5
    subst h5
    have hs := stgs_text c p h4; have hw := wrds_text c p h4
    obtain ⟨a1, a2⟩ := atoi_itoa h1
    obtain ⟨b1, b2⟩ := atoi_itoa h2
    have hall : st.all nameB = true := List.all_eq_true.2 h4
    by_cases hp : p < 0
    · obtain rfl : p = -1 := by omega
      rw [if_pos hp] at hw
      have hc : codeP (wrds (textB c (-1) st)) = c := by rw [hw]; exact a1
      have hq : atP (wrds (textB c (-1) st)) = -1 := by rw [hw]; rfl
      rw [readP, if_pos, hc, hq, hs]
      rw [goodP, hc, hq, hs, hall, hw]
      simp [a2]
    · rw [if_neg hp] at hw
      have hc : codeP (wrds (textB c p st)) = c := by rw [hw]; exact a1
      have hq : atP (wrds (textB c p st)) = p := by rw [hw]; exact b1
      rw [readP, if_pos, hc, hq, hs]
      rw [goodP, hc, hq, hs, hall, hw]
      simp [a2, b2]

/-! ### The text read: by the reference -/
/-- The text of a chain is read as it. -/
theorem text_read {c p : Int} {st : List (List UInt8)} (h1 : in64 c) (h2 : in64 p) (h3 : -1 ≤ p) (h4 : ∀ n ∈ st, nameB n = true) : readP (textB c p st) = some ((c, p), st) :=
  (readP_iff _ _).2 ⟨h1, h2, h3, h4, rfl⟩
end Go.Proofs.YtpgkbnefhhcfcaaGreatDoor
set_option linter.unusedVariables false
set_option linter.unusedSimpArgs false
set_option linter.constructorNameAsVariable false
namespace Go.Proofs.YtpgkbnefhhcfcaaGreatDoor
open Go
set_option linter.unusedVariables false

abbrev Ft := Int × Int
def aheadF (f g : Ft) : Bool := decide (f.2 < g.2 ∨ (f.2 = g.2 ∧ f.1 < g.1))
def stepF (b : Ft × Bool) (f : Ft) : Ft × Bool := if f.1 = 0 then b else if b.2 = false ∨ aheadF f b.1 = true then (f, true) else b
def firstL (l : List Ft) : Ft × Bool := l.foldl stepF ((0, 0), false)
def FInv (l : List Ft) (b : Ft × Bool) : Prop := (b.2 = true → b.1 ∈ l ∧ b.1.1 ≠ 0 ∧ ∀ g ∈ l, g.1 ≠ 0 → aheadF g b.1 = false) ∧ (b.2 = false → b.1 = (0, 0) ∧ ∀ g ∈ l, g.1 = 0)
theorem ahead_iff {f g : Ft} : aheadF f g = true ↔ f.2 < g.2 ∨ (f.2 = g.2 ∧ f.1 < g.1) := by rw [aheadF, decide_eq_true_eq]
theorem ahead_not {f g : Ft} : aheadF f g = false ↔ ¬ (f.2 < g.2 ∨ (f.2 = g.2 ∧ f.1 < g.1)) := by rw [aheadF, decide_eq_false_iff_not]
theorem FInv.step {l : List Ft} {b : Ft × Bool} (f : Ft) (h : FInv l b) : FInv (l ++ [f]) (stepF b f) := by
  obtain ⟨h1, h2⟩ := h
  rw [stepF]
  have hm : ∀ {g}, g ∈ l ++ [f] → g ∈ l ∨ g = f := fun hg => by simpa using hg
  split
  · rename_i hf
    refine ⟨fun hb => ?_, fun hb => ?_⟩
    · obtain ⟨a1, a2, a3⟩ := h1 hb
      refine ⟨List.mem_append_left _ a1, a2, fun g hg hn => ?_⟩
      rcases hm hg with hg | rfl
      · exact a3 g hg hn
      · exact absurd hf hn
    · obtain ⟨a1, a2⟩ := h2 hb
      refine ⟨a1, fun g hg => ?_⟩
      rcases hm hg with hg | rfl
      · exact a2 g hg
      · exact hf
  · rename_i hf
    split
    · rename_i hc
      refine ⟨fun _ => ⟨by simp, hf, fun g hg hn => ?_⟩, fun hb => by cases hb⟩
      rcases hm hg with hg | rfl
      · rcases hc with hc | hc
        · exact absurd ((h2 hc).2 g hg) hn
        · cases hb : b.2 with
          | false => exact absurd ((h2 hb).2 g hg) hn
          | true =>
            have h3 := ahead_not.1 ((h1 hb).2.2 g hg hn)
            have h4 := ahead_iff.1 hc
            refine ahead_not.2 fun h5 => ?_
            simp only [] at h5
            omega
      · exact ahead_not.2 fun h5 => by simp only [] at h5; omega
    · rename_i hc
      have hb : b.2 = true := by
        cases hb : b.2 with
        | true => rfl
        | false => exact absurd (.inl hb) hc
      obtain ⟨a1, a2, a3⟩ := h1 hb
      refine ⟨fun _ => ⟨List.mem_append_left _ a1, a2, fun g hg hn => ?_⟩, fun hb' => by rw [hb] at hb'; cases hb'⟩
      rcases hm hg with hg | rfl
      · exact a3 g hg hn
      · cases e : aheadF g b.1 with
        | false => rfl
        | true => exact absurd (.inr e) hc
theorem FInv.same {l l' : List Ft} {b b' : Ft × Bool} (hl : ∀ x, x ∈ l ↔ x ∈ l') (h : FInv l b) (h' : FInv l' b') : b = b' := by
  obtain ⟨x, p⟩ := b
  obtain ⟨y, q⟩ := b'
  cases p with
  | false =>
    obtain ⟨a1, a2⟩ := h.2 rfl
    cases q with
    | false => rw [show x = (0, 0) from a1, show y = (0, 0) from (h'.2 rfl).1]
    | true =>
      obtain ⟨b1, b2, _⟩ := h'.1 rfl
      exact absurd (a2 y ((hl y).2 b1)) b2
  | true =>
    obtain ⟨a1, a2, a3⟩ := h.1 rfl
    cases q with
    | false => exact absurd ((h'.2 rfl).2 x ((hl x).1 a1)) a2
    | true =>
      obtain ⟨b1, b2, b3⟩ := h'.1 rfl
      have e1 := ahead_not.1 (a3 y ((hl y).2 b1) b2)
      have e2 := ahead_not.1 (b3 x ((hl x).1 a1) a2)
      obtain ⟨x1, x2⟩ := x
      obtain ⟨y1, y2⟩ := y
      simp only [] at e1 e2
      have : x1 = y1 ∧ x2 = y2 := by omega
      rw [this.1, this.2]
end Go.Proofs.YtpgkbnefhhcfcaaGreatDoor
