/- Texts, plain: cut at a letter, cut at two dots; joined. No program in sight. -/
import Derived.Lib.SplitLaws
import Derived.Lib.IndexMore
import Derived.Lib.Join
import Derived.Lib.Strings
import Derived.Lib.SlicesCompact

namespace Go.Proofs.YtkjekbgfmkfkjaaDoor
open Go
set_option linter.unusedVariables false
set_option linter.unusedSimpArgs false
set_option linter.constructorNameAsVariable false

/-- A text, cut at each letter c. -/
def spl (c : UInt8) : List UInt8 → List (List UInt8)
  | [] => [[]]
  | x :: l => if x = c then [] :: spl c l else (x :: (spl c l).headD []) :: (spl c l).tail
theorem spl_ne (c : UInt8) (l : List UInt8) : spl c l ≠ [] := by
  cases l with
  | nil => simp [spl]
  | cons x l => rw [spl]; split <;> simp
theorem spl_none {c : UInt8} : ∀ {a : List UInt8}, c ∉ a → spl c a = [a]
  | [], _ => rfl
  | x :: a, h => by
    have h1 : x ≠ c := fun e => h (e ▸ List.mem_cons_self ..)
    have h2 : c ∉ a := fun e => h (List.mem_cons_of_mem _ e)
    rw [spl, if_neg h1, spl_none h2]
    rfl
theorem spl_hit {c : UInt8} : ∀ {a : List UInt8} (b : List UInt8), c ∉ a → spl c (a ++ c :: b) = a :: spl c b
  | [], b, _ => by rw [List.nil_append, spl, if_pos rfl]
  | x :: a, b, h => by
    have h1 : x ≠ c := fun e => h (e ▸ List.mem_cons_self ..)
    have h2 : c ∉ a := fun e => h (List.mem_cons_of_mem _ e)
    rw [List.cons_append, spl, if_neg h1, spl_hit b h2]
    rfl
theorem inter_cons (c : UInt8) (a b : List UInt8) (L : List (List UInt8)) : [c].intercalate (a :: b :: L) = a ++ c :: [c].intercalate (b :: L) := by simp [List.intercalate]
theorem inter_one (c : UInt8) (a : List UInt8) : [c].intercalate [a] = a := by simp [List.intercalate]
theorem inter_head (c x : UInt8) (a : List UInt8) (L : List (List UInt8)) : [c].intercalate ((x :: a) :: L) = x :: [c].intercalate (a :: L) := by
  cases L with
  | nil => rw [inter_one, inter_one]
  | cons b L => rw [inter_cons, inter_cons, List.cons_append]
/-- Joined again. -/
theorem spl_join (c : UInt8) : ∀ l : List UInt8, [c].intercalate (spl c l) = l
  | [] => by rw [spl, inter_one]
  | x :: l => by
    have ih := spl_join c l
    rw [spl]
    cases hs : spl c l with
    | nil => exact absurd hs (spl_ne c l)
    | cons y r =>
      rw [hs] at ih
      split
      · rename_i h
        rw [inter_cons, ih, h]; rfl
      · rw [List.headD_cons, List.tail_cons, inter_head, ih]
theorem spl_of_join {c : UInt8} : ∀ {L : List (List UInt8)}, L ≠ [] → (∀ a ∈ L, c ∉ a) → spl c ([c].intercalate L) = L
  | [], h, _ => absurd rfl h
  | [a], _, h => by
    have : [c].intercalate [a] = a := by simp [List.intercalate]
    rw [this, spl_none (h a (List.mem_cons_self ..))]
  | a :: b :: L, _, h => by
    have e : [c].intercalate (a :: b :: L) = a ++ c :: [c].intercalate (b :: L) := by simp [List.intercalate]
    rw [e, spl_hit _ (h a (List.mem_cons_self ..)), spl_of_join (by simp) fun x hx => h x (List.mem_cons_of_mem _ hx)]
/-- Where a letter stands first. -/
theorem index_one_cases (c : UInt8) (l : List UInt8) : (Lib.index l [c] = -1 ∧ c ∉ l) ∨ ∃ a b, l = a ++ c :: b ∧ c ∉ a ∧ Lib.index l [c] = (a.length : Int) := by
  rw [Lib.index_one]
  induction l with
  | nil => exact .inl ⟨rfl, by simp⟩
  | cons x l ih =>
    rw [Lib.indexByte]
    by_cases hx : x = c
    · subst hx
      exact .inr ⟨[], l, rfl, by simp, by simp⟩
    · rcases ih with ⟨h1, h2⟩ | ⟨a, b, h1, h2, h3⟩
      · refine .inl ⟨?_, fun hm => (List.mem_cons.1 hm).elim (fun e => hx e.symm) h2⟩
        rw [h1]; simp [hx]
      · refine .inr ⟨x :: a, b, by rw [h1]; rfl, fun hm => (List.mem_cons.1 hm).elim (fun e => hx e.symm) h2, ?_⟩
        rw [h3]
        have : ((a.length : Int) == -1) = false := by rw [beq_eq_false_iff_ne]; omega
        simp [hx, this]
theorem splitK_spl (c : UInt8) : ∀ (n : Nat) (l : List UInt8), Lib.count l [c] = n → Lib.splitK [c] 0 n l = spl c l
  | 0, l, h => by
    rw [Lib.count_one] at h
    rw [spl_none (List.count_eq_zero.1 h)]; rfl
  | n + 1, l, h => by
    rw [Lib.splitK]
    rcases index_one_cases c l with ⟨h1, h2⟩ | ⟨a, b, rfl, h2, h3⟩
    · rw [Lib.count_one, List.count_eq_zero.2 h2] at h; omega
    · rw [h3]
      have e1 : ¬ (((a.length : Int)) == -1) = true := fun e => by have := beq_iff_eq.1 e; omega
      rw [if_neg e1, spl_hit _ h2]
      have e2 : (a ++ c :: b).drop ((a.length : Int).toNat + [c].length) = b := by simp
      have e3 : (a ++ c :: b).take ((a.length : Int).toNat + 0) = a := by simp
      rw [e2, e3, splitK_spl c n b]
      rw [Lib.count_one] at h ⊢
      rw [List.count_append, List.count_eq_zero.2 h2, List.count_cons_self] at h
      omega
/-- A text, cut at its first letter c. -/
theorem cut_none {c : UInt8} {l : List UInt8} (h : c ∉ l) : Lib.cut l [c] = (l, [], false) := by
  rcases index_one_cases c l with ⟨h1, _⟩ | ⟨a, b, rfl, _, _⟩
  · rw [Lib.cut, h1]; rfl
  · exact absurd (by simp) h
theorem cut_hit {c : UInt8} {a b : List UInt8} (h : c ∉ a) : Lib.cut (a ++ c :: b) [c] = (a, b, true) := by
  rcases index_one_cases c (a ++ c :: b) with ⟨_, h2⟩ | ⟨a', b', h1, h2, h3⟩
  · exact absurd (by simp) h2
  · have e : a = a' ∧ b = b' := by
      have s1 := spl_hit b h
      have s2 := spl_hit b' h2
      rw [h1, s2] at s1
      obtain ⟨e1, e2⟩ := List.cons.inj s1
      subst e1
      simpa using h1
    obtain ⟨rfl, rfl⟩ := e
    rw [Lib.cut, h3, if_pos (by omega)]
    simp
theorem cut_cases (c : UInt8) (l : List UInt8) : (c ∉ l ∧ Lib.cut l [c] = (l, [], false)) ∨ ∃ a b, l = a ++ c :: b ∧ c ∉ a ∧ Lib.cut l [c] = (a, b, true) := by
  by_cases h : c ∈ l
  · rcases index_one_cases c l with ⟨_, h2⟩ | ⟨a, b, rfl, h2, _⟩
    · exact absurd h h2
    · exact .inr ⟨a, b, rfl, h2, cut_hit h2⟩
  · exact .inl ⟨h, cut_none h⟩
end Go.Proofs.YtkjekbgfmkfkjaaDoor
namespace Go.Proofs.YtkjekbgfmkfkjaaDoor
open Go
set_option linter.unusedVariables false
set_option linter.unusedSimpArgs false
set_option linter.constructorNameAsVariable false

structure Sg where
  key : List UInt8
  name : List UInt8
theorem Sg.eq_iff {a b : Sg} : a = b ↔ a.key = b.key ∧ a.name = b.name := by cases a; cases b; simp
instance : DecidableEq Sg := fun a b => decidable_of_iff (a.key = b.key ∧ a.name = b.name) Sg.eq_iff.symm
abbrev sg0 : Sg := ⟨[], []⟩

def alnum (b : UInt8) : Bool := decide ((48 ≤ b.toNat ∧ b.toNat ≤ 57) ∨ (97 ≤ b.toNat ∧ b.toNat ≤ 122) ∨ (65 ≤ b.toNat ∧ b.toNat ≤ 90))
def keyB (s : List UInt8) : Bool := s.all alnum && decide (1 ≤ s.length ∧ s.length ≤ 8)
def nameB (s : List UInt8) : Bool := decide (10 ∉ s) && decide (1 ≤ s.length ∧ s.length ≤ 200)
/-- Where a key stands first. -/
def fI (t : List Sg) (k : List UInt8) : Nat := t.findIdx fun x => decide (x.key = k)
def findW (t : List Sg) (k : List UInt8) : Int := if fI t k < t.length then (fI t k : Nat) else -1
theorem fI_hit {t : List Sg} {k : List UInt8} {i : Nat} (h : i < t.length) (h1 : (t.getD i sg0).key = k) (h2 : ∀ j, j < i → (t.getD j sg0).key ≠ k) : fI t k = i := by
  rw [fI, List.findIdx_eq h]
  rw [List.getD_eq_getElem?_getD, List.getElem?_eq_getElem h] at h1
  refine ⟨by simpa using h1, fun j hj => ?_⟩
  have := h2 j hj
  rw [List.getD_eq_getElem?_getD, List.getElem?_eq_getElem (by omega)] at this
  simpa using this
theorem fI_none {t : List Sg} {k : List UInt8} (h2 : ∀ j, j < t.length → (t.getD j sg0).key ≠ k) : fI t k = t.length := by
  rw [fI, List.findIdx_eq_length]
  intro x hx
  obtain ⟨j, hj⟩ := List.getElem?_of_mem hx
  have hl := (List.getElem?_eq_some_iff.1 hj).1
  have := h2 j hl
  rw [List.getD_eq_getElem?_getD, hj] at this
  simpa using this
theorem findW_hit {t : List Sg} {k : List UInt8} {i : Nat} (h : i < t.length) (h1 : (t.getD i sg0).key = k) (h2 : ∀ j, j < i → (t.getD j sg0).key ≠ k) : findW t k = i := by
  rw [findW, fI_hit h h1 h2, if_pos h]
theorem findW_none {t : List Sg} {k : List UInt8} (h2 : ∀ j, j < t.length → (t.getD j sg0).key ≠ k) : findW t k = -1 := by
  rw [findW, fI_none h2, if_neg (Nat.lt_irrefl _)]
theorem findW_cases (t : List Sg) (k : List UInt8) : (findW t k = -1 ∧ ∀ j, j < t.length → (t.getD j sg0).key ≠ k) ∨ ∃ i : Nat, findW t k = i ∧ i < t.length ∧ (t.getD i sg0).key = k ∧ ∀ j, j < i → (t.getD j sg0).key ≠ k := by
  by_cases h : ∃ i, i < t.length ∧ (t.getD i sg0).key = k
  · have hc : ∃ i, (i < t.length ∧ (t.getD i sg0).key = k) ∧ ∀ j, j < i → (t.getD j sg0).key ≠ k := by
      obtain ⟨i, hi⟩ := h
      induction i using Nat.strongRecOn with
      | ind i ih =>
        by_cases hj : ∃ j, j < i ∧ (t.getD j sg0).key = k
        · obtain ⟨j, h1, h2⟩ := hj
          exact ih j h1 ⟨Nat.lt_trans h1 hi.1, h2⟩
        · exact ⟨i, hi, fun j h1 h2 => hj ⟨j, h1, h2⟩⟩
    obtain ⟨i, ⟨h1, h2⟩, h3⟩ := hc
    exact .inr ⟨i, findW_hit h1 h2 h3, h1, h2, h3⟩
  · exact .inl ⟨findW_none fun j hj he => h ⟨j, hj, he⟩, fun j hj he => h ⟨j, hj, he⟩⟩
def okAt (t : List Sg) (i : Nat) : Bool := keyB (t.getD i sg0).key && nameB (t.getD i sg0).name && decide (findW t (t.getD i sg0).key = i)
def mayT (t : List Sg) : Bool := (List.range t.length).all (okAt t) && decide (t.length ≤ 100)
def lineT (x : Sg) : List UInt8 := x.key ++ [32] ++ x.name ++ [10]
def printT (t : List Sg) : List UInt8 := if mayT t then t.flatMap lineT else []
/-- A line, as a witness. -/
def lineOf (l : List UInt8) : Option Sg := if (Lib.cut l [32]).2.2 && keyB (Lib.cut l [32]).1 && nameB (Lib.cut l [32]).2.1 then some ⟨(Lib.cut l [32]).1, (Lib.cut l [32]).2.1⟩ else none
def parseGo : List (List UInt8) → Nat → List Sg → List Sg × Int × Int
  | [], _, out => (out, 0, 0)
  | [l], i, out => if l = [] then (out, 0, 0) else ([], 130, i)
  | l :: l2 :: r, i, out =>
    match lineOf l with
    | none => ([], 130, i)
    | some x => if 0 ≤ findW out x.key then ([], 131, i) else if 100 ≤ out.length then ([], 132, i) else parseGo (l2 :: r) (i + 1) (out ++ [x])
def parseT (s : List UInt8) : List Sg × Int × Int := parseGo (spl 10 s) 0 []
/-- The places of keys, in the table's order. -/
def atW (t : List Sg) (keys : List (List UInt8)) : List Nat := (List.range t.length).filter fun i => decide ((t.getD i sg0).key ∈ keys)
/-- How many follow one behind the other. -/
def run (a : Nat) : List Nat → Nat
  | [] => 0
  | b :: r => if b = a + 1 then run b r + 1 else 0
def keyAt (t : List Sg) (i : Nat) : List UInt8 := (t.getD i sg0).key
def wordsF (t : List Sg) : Nat → List Nat → List (List UInt8)
  | 0, _ => []
  | _ + 1, [] => []
  | f + 1, a :: r => (if 3 ≤ run a r + 1 then [keyAt t a ++ [46, 46] ++ keyAt t ((a :: r).getD (run a r) 0)] else ((a :: r).take (run a r + 1)).map (keyAt t)) ++ wordsF t f (r.drop (run a r))
def wordsT (t : List Sg) (at_ : List Nat) : List (List UInt8) := wordsF t at_.length at_
def compactT (t : List Sg) (keys : List (List UInt8)) : List UInt8 × Int × Int :=
  if mayT t = false then ([], 130, -1)
  else if keys.findIdx (fun k => decide (findW t k < 0)) < keys.length then ([], 133, (keys.findIdx fun k => decide (findW t k < 0) : Nat))
  else (Lib.join (wordsT t (atW t keys)) [32], 0, 0)
def spanT (t : List Sg) (w : List UInt8) : Int × Int × Bool :=
  if (Lib.cut w [46, 46]).2.2 then (findW t (Lib.cut w [46, 46]).1, findW t (Lib.cut w [46, 46]).2.1, decide (0 ≤ findW t (Lib.cut w [46, 46]).1) && decide (findW t (Lib.cut w [46, 46]).1 < findW t (Lib.cut w [46, 46]).2.1))
  else (findW t w, findW t w, decide (0 ≤ findW t w))
def partT (t : List Sg) (a b : Int) : List (List UInt8) := ((t.take (b.toNat + 1)).drop a.toNat).map Sg.key
def expandGo (t : List Sg) : List (List UInt8) → Nat → List (List UInt8) → List (List UInt8) × Int × Int
  | [], _, out => (out, 0, 0)
  | w :: r, i, out => if (spanT t w).2.2 then expandGo t r (i + 1) (out ++ partT t (spanT t w).1 (spanT t w).2.1) else ([], 133, i)
def expandT (t : List Sg) (s : List UInt8) : List (List UInt8) × Int × Int :=
  if mayT t = false then ([], 130, -1) else if s = [] then ([], 0, 0) else expandGo t (spl 32 s) 0 []
end Go.Proofs.YtkjekbgfmkfkjaaDoor
namespace Go.Proofs.YtkjekbgfmkfkjaaDoor
open Go
set_option linter.unusedVariables false
set_option linter.unusedSimpArgs false
set_option linter.constructorNameAsVariable false

theorem alnum_not {b : UInt8} (h : alnum b = true) : b ≠ 32 ∧ b ≠ 10 ∧ b ≠ 46 := by
  have h := of_decide_eq_true h
  refine ⟨?_, ?_, ?_⟩ <;> intro e <;> subst e <;> revert h <;> decide
theorem keyB_all {s : List UInt8} (h : keyB s = true) : ∀ b ∈ s, alnum b = true := by
  rw [keyB, Bool.and_eq_true] at h
  exact List.all_eq_true.1 h.1
theorem keyB_not {s : List UInt8} (h : keyB s = true) : 32 ∉ s ∧ 10 ∉ s ∧ 46 ∉ s :=
  ⟨fun e => (alnum_not (keyB_all h _ e)).1 rfl, fun e => (alnum_not (keyB_all h _ e)).2.1 rfl, fun e => (alnum_not (keyB_all h _ e)).2.2 rfl⟩
theorem keyB_ne {s : List UInt8} (h : keyB s = true) : s ≠ [] := fun e => by subst e; revert h; decide
theorem keyB_len {s : List UInt8} (h : keyB s = true) : s.length ≤ 8 := by
  rw [keyB, Bool.and_eq_true] at h
  exact (of_decide_eq_true h.2).2
theorem nameB_not {s : List UInt8} (h : nameB s = true) : 10 ∉ s := by
  rw [nameB, Bool.and_eq_true] at h
  exact of_decide_eq_true h.1
theorem nameB_len {s : List UInt8} (h : nameB s = true) : s.length ≤ 200 := by
  rw [nameB, Bool.and_eq_true] at h
  exact (of_decide_eq_true h.2).2
theorem okAt_iff {t : List Sg} {i : Nat} : okAt t i = true ↔ keyB (t.getD i sg0).key = true ∧ nameB (t.getD i sg0).name = true ∧ findW t (t.getD i sg0).key = i := by
  simp [okAt, and_assoc]
theorem mayT_iff {t : List Sg} : mayT t = true ↔ (∀ i, i < t.length → okAt t i = true) ∧ t.length ≤ 100 := by
  rw [mayT, Bool.and_eq_true, List.all_eq_true]
  simp only [List.mem_range, decide_eq_true_eq]
theorem getD_mem {t : List Sg} {i : Nat} (h : i < t.length) : t.getD i sg0 ∈ t := by
  rw [List.getD_eq_getElem?_getD, List.getElem?_eq_getElem h]; exact List.getElem_mem h
theorem mem_getD {t : List Sg} {x : Sg} (h : x ∈ t) : ∃ i, i < t.length ∧ t.getD i sg0 = x := by
  obtain ⟨i, hi, e⟩ := List.getElem_of_mem h
  exact ⟨i, hi, by rw [List.getD_eq_getElem?_getD, List.getElem?_eq_getElem hi, e]; rfl⟩
theorem may_mem {t : List Sg} (h : mayT t = true) {x : Sg} (hx : x ∈ t) : keyB x.key = true ∧ nameB x.name = true := by
  obtain ⟨i, hi, rfl⟩ := mem_getD hx
  have := okAt_iff.1 ((mayT_iff.1 h).1 i hi)
  exact ⟨this.1, this.2.1⟩
theorem getD_app_left {a b : List Sg} {i : Nat} (h : i < a.length) : (a ++ b).getD i sg0 = a.getD i sg0 := by
  rw [List.getD_eq_getElem?_getD, List.getD_eq_getElem?_getD, List.getElem?_append_left h]
theorem getD_app_right {a b : List Sg} {i : Nat} : (a ++ b).getD (a.length + i) sg0 = b.getD i sg0 := by
  rw [List.getD_eq_getElem?_getD, List.getD_eq_getElem?_getD, List.getElem?_append_right (Nat.le_add_right _ _), Nat.add_sub_cancel_left]
/-- Unlike keys. -/
theorem find_app_left {a b : List Sg} {k : List UInt8} (h : 0 ≤ findW a k) : findW (a ++ b) k = findW a k := by
  rcases findW_cases a k with ⟨e, _⟩ | ⟨i, e, h1, h2, h3⟩
  · omega
  · rw [e]
    exact findW_hit (by rw [List.length_append]; omega) (by rw [getD_app_left h1]; exact h2) fun j hj => by rw [getD_app_left (by omega)]; exact h3 j hj
theorem find_app_right {a b : List Sg} {k : List UInt8} (h : findW a k < 0) : findW (a ++ b) k = if findW b k < 0 then -1 else a.length + findW b k := by
  rcases findW_cases a k with ⟨e, h1⟩ | ⟨i, e, _⟩
  · rcases findW_cases b k with ⟨e2, h2⟩ | ⟨i, e2, g1, g2, g3⟩
    · rw [e2, if_pos (by omega)]
      refine findW_none fun j hj => ?_
      rw [List.length_append] at hj
      by_cases hja : j < a.length
      · rw [getD_app_left hja]; exact h1 j hja
      · obtain ⟨q, rfl⟩ : ∃ q, j = a.length + q := ⟨j - a.length, by omega⟩
        rw [getD_app_right]; exact h2 q (by omega)
    · rw [e2, if_neg (by omega)]
      refine (findW_hit (i := a.length + i) (by rw [List.length_append]; omega) (by rw [getD_app_right]; exact g2) fun j hj => ?_).trans (by omega)
      by_cases hja : j < a.length
      · rw [getD_app_left hja]; exact h1 j hja
      · obtain ⟨q, rfl⟩ : ∃ q, j = a.length + q := ⟨j - a.length, by omega⟩
        rw [getD_app_right]; exact g3 q (by omega)
  · omega
theorem find_lt {a : List Sg} {k : List UInt8} : findW a k < a.length := by
  rcases findW_cases a k with ⟨e, h1⟩ | ⟨i, e, h, _⟩ <;> omega
theorem find_mem {a : List Sg} {x : Sg} (h : x ∈ a) : 0 ≤ findW a x.key := by
  rcases findW_cases a x.key with ⟨e, h1⟩ | ⟨i, e, h, _⟩
  · obtain ⟨i, hi, rfl⟩ := mem_getD h
    exact absurd rfl (h1 i hi)
  · omega
theorem may_left {a b : List Sg} (h : mayT (a ++ b) = true) : mayT a = true := by
  obtain ⟨h1, h2⟩ := mayT_iff.1 h
  rw [List.length_append] at h2
  refine mayT_iff.2 ⟨fun i hi => ?_, by omega⟩
  have := okAt_iff.1 (h1 i (by rw [List.length_append]; omega))
  rw [getD_app_left hi] at this
  exact okAt_iff.2 ⟨this.1, this.2.1, by rw [← find_app_left (b := b) (find_mem (getD_mem hi))]; exact this.2.2⟩
theorem may_next {a b : List Sg} {x : Sg} (h : mayT (a ++ x :: b) = true) : findW a x.key < 0 := by
  have h1 := okAt_iff.1 ((mayT_iff.1 h).1 a.length (by rw [List.length_append, List.length_cons]; omega))
  have e : (a ++ x :: b).getD a.length sg0 = x := by have := getD_app_right (a := a) (b := x :: b) (i := 0); rw [Nat.add_zero] at this; rw [this]; rfl
  rw [e] at h1
  rcases Int.lt_or_le (findW a x.key) 0 with h2 | h2
  · exact h2
  · have := find_app_left (b := x :: b) h2
    have := find_lt (a := a) (k := x.key)
    omega
theorem may_snoc {a : List Sg} {x : Sg} (h : mayT a = true) (hk : keyB x.key = true) (hn : nameB x.name = true) (hf : findW a x.key < 0) (hl : a.length < 100) : mayT (a ++ [x]) = true := by
  obtain ⟨h1, h2⟩ := mayT_iff.1 h
  refine mayT_iff.2 ⟨fun i hi => ?_, by rw [List.length_append]; simp; omega⟩
  rw [List.length_append] at hi
  simp only [List.length_cons, List.length_nil] at hi
  by_cases hia : i < a.length
  · have := okAt_iff.1 (h1 i hia)
    exact okAt_iff.2 ⟨by rw [getD_app_left hia]; exact this.1, by rw [getD_app_left hia]; exact this.2.1, by rw [getD_app_left hia, find_app_left (by omega)]; exact this.2.2⟩
  · obtain rfl : i = a.length + 0 := by omega
    rw [okAt_iff, getD_app_right]
    refine ⟨hk, hn, ?_⟩
    have : findW [x] x.key = 0 := findW_hit (i := 0) (by simp) rfl fun j hj => absurd hj (Nat.not_lt_zero _)
    rw [show ([x] : List Sg).getD 0 sg0 = x from rfl, find_app_right hf, this]
    simp

/-- A line, without its end. -/
def bodyT (x : Sg) : List UInt8 := x.key ++ 32 :: x.name
theorem lineT_body (x : Sg) : lineT x = bodyT x ++ [10] := by simp [lineT, bodyT]
theorem body_not {x : Sg} (hk : keyB x.key = true) (hn : nameB x.name = true) : 10 ∉ bodyT x := fun h => by
  rcases List.mem_append.1 h with h | h
  · exact (keyB_not hk).2.1 h
  · rcases List.mem_cons.1 h with h | h
    · revert h; decide
    · exact nameB_not hn h
theorem lineOf_body {x : Sg} (hk : keyB x.key = true) (hn : nameB x.name = true) : lineOf (bodyT x) = some x := by
  rw [lineOf, bodyT, cut_hit (keyB_not hk).1, hk, hn]
  rfl
theorem lineOf_some {l : List UInt8} {x : Sg} (h : lineOf l = some x) : l = bodyT x ∧ keyB x.key = true ∧ nameB x.name = true := by
  rw [lineOf] at h
  split at h
  · rename_i hc
    obtain rfl := Option.some.inj h
    simp only [Bool.and_eq_true] at hc
    refine ⟨?_, hc.1.2, hc.2⟩
    rcases cut_cases 32 l with ⟨_, e⟩ | ⟨a, b, rfl, _, e⟩
    · rw [e] at hc; exact absurd hc.1.1 (by simp)
    · rw [e]; rfl
  · cases h
theorem spl_print : ∀ (t : List Sg) (s : List UInt8), (∀ x ∈ t, keyB x.key = true ∧ nameB x.name = true) → spl 10 (t.flatMap lineT ++ s) = t.map bodyT ++ spl 10 s
  | [], s, _ => rfl
  | x :: t, s, h => by
    have hx := h x (List.mem_cons_self ..)
    rw [List.flatMap_cons, lineT_body, List.append_assoc, List.append_assoc, List.singleton_append, spl_hit _ (body_not hx.1 hx.2), spl_print t s fun y hy => h y (List.mem_cons_of_mem _ hy)]
    rfl
/-- Lines of a table, behind some that are read. -/
theorem parse_go : ∀ (t : List Sg) (L : List (List UInt8)) (i : Nat) (out : List Sg), L ≠ [] → mayT (out ++ t) = true → parseGo (t.map bodyT ++ L) i out = parseGo L (i + t.length) (out ++ t)
  | [], L, i, out, _, _ => by simp
  | x :: t, L, i, out, hL, h => by
    have hx := may_mem h (x := x) (by simp)
    have hf := may_next h
    have hl := (mayT_iff.1 h).2
    rw [List.length_append, List.length_cons] at hl
    cases hr : t.map bodyT ++ L with
    | nil => exact absurd (List.append_eq_nil_iff.1 hr).2 hL
    | cons l r =>
      rw [List.map_cons, List.cons_append, hr, parseGo, lineOf_body hx.1 hx.2]
      simp only []
      rw [if_neg (by omega), if_neg (by omega), ← hr, parse_go t L (i + 1) (out ++ [x]) hL (by simpa using h)]
      rw [List.length_cons, List.append_assoc]
      congr 1
      omega
theorem parse_print {t : List Sg} (h : mayT t = true) : parseT (printT t) = (t, 0, 0) := by
  have := spl_print t [] fun x hx => may_mem h hx
  rw [List.append_nil] at this
  rw [parseT, printT, if_pos h, this, parse_go t (spl 10 []) 0 [] (spl_ne _ _) h]
  rfl
/-- What was read. -/
theorem parse_some : ∀ (L : List (List UInt8)) (i : Nat) (out b : List Sg) (k : Int), L ≠ [] → mayT out = true → parseGo L i out = (b, 0, k) → ∃ t, b = out ++ t ∧ L = t.map bodyT ++ [[]] ∧ mayT b = true ∧ k = 0
  | [], _, _, _, _, h, _, _ => absurd rfl h
  | [l], i, out, b, k, _, hm, h => by
    rw [parseGo] at h
    split at h
    · rename_i hl
      injection h with h1 h2
      injection h2 with h2 h3
      exact ⟨[], by simp [h1], by simp [hl], by rw [← h1]; exact hm, h3.symm⟩
    · injection h with h1 h2
      injection h2 with h2 h3
      omega
  | l :: l2 :: r, i, out, b, k, _, hm, h => by
    rw [parseGo] at h
    split at h
    · injection h with h1 h2
      injection h2 with h2 h3
      omega
    · rename_i x hx
      obtain ⟨e1, e2, e3⟩ := lineOf_some hx
      split at h
      · injection h with h1 h2
        injection h2 with h2 h3
        omega
      · split at h
        · injection h with h1 h2
          injection h2 with h2 h3
          omega
        · rename_i hf hl
          obtain ⟨t, t1, t2, t3, t4⟩ := parse_some (l2 :: r) (i + 1) (out ++ [x]) b k (by simp) (may_snoc hm e2 e3 (by omega) (by omega)) h
          exact ⟨x :: t, by rw [t1]; simp, by rw [t2, e1]; rfl, t3, t4⟩
theorem inter_print : ∀ t : List Sg, ([10] : List UInt8).intercalate (t.map bodyT ++ [[]]) = t.flatMap lineT
  | [] => rfl
  | x :: t => by
    have ih := inter_print t
    rw [List.flatMap_cons, lineT_body, ← ih]
    cases hr : t.map bodyT ++ [[]] with
    | nil => exact absurd (List.append_eq_nil_iff.1 hr).2 (by simp)
    | cons y r =>
      rw [List.map_cons, List.cons_append, hr]
      simp [List.intercalate, List.intersperse]
theorem may_nil : mayT [] = true := rfl
theorem print_parse {s : List UInt8} {b : List Sg} {k : Int} (h : parseT s = (b, 0, k)) : mayT b = true ∧ printT b = s ∧ spl 10 s = b.map bodyT ++ [[]] := by
  obtain ⟨t, h1, h2, h3, _⟩ := parse_some _ _ _ _ _ (spl_ne 10 s) may_nil h
  rw [List.nil_append] at h1
  subst h1
  refine ⟨h3, ?_, h2⟩
  rw [printT, if_pos h3, ← inter_print, ← h2, spl_join]
/-- Two texts, one behind the other. -/
theorem parse_app {s t : List UInt8} {a b : List Sg} {j k : Int} (h1 : parseT s = (a, 0, j)) (h2 : parseT t = (b, 0, k)) : parseT (s ++ t) = parseGo (b.map bodyT ++ [[]]) a.length a := by
  obtain ⟨m1, p1, s1⟩ := print_parse h1
  obtain ⟨m2, p2, s2⟩ := print_parse h2
  rw [printT, if_pos m1] at p1
  have := spl_print a t fun x hx => may_mem m1 hx
  rw [p1] at this
  rw [parseT, this, s2, parse_go a _ 0 [] (by simp) m1, Nat.zero_add]
  rfl
theorem may_app {a : List Sg} (h1 : mayT a = true) : ∀ {b : List Sg}, mayT b = true → (∀ x ∈ b, findW a x.key < 0) → a.length + b.length ≤ 100 → mayT (a ++ b) = true := by
  intro b h2 h3 h4
  obtain ⟨g1, _⟩ := mayT_iff.1 h1
  obtain ⟨g2, _⟩ := mayT_iff.1 h2
  refine mayT_iff.2 ⟨fun i hi => ?_, by rw [List.length_append]; exact h4⟩
  rw [List.length_append] at hi
  by_cases hia : i < a.length
  · have := okAt_iff.1 (g1 i hia)
    exact okAt_iff.2 ⟨by rw [getD_app_left hia]; exact this.1, by rw [getD_app_left hia]; exact this.2.1, by rw [getD_app_left hia, find_app_left (by omega)]; exact this.2.2⟩
  · obtain ⟨q, rfl⟩ : ∃ q, i = a.length + q := ⟨i - a.length, by omega⟩
    have := okAt_iff.1 (g2 q (by omega))
    rw [okAt_iff, getD_app_right]
    refine ⟨this.1, this.2.1, ?_⟩
    rw [find_app_right (h3 _ (getD_mem (by omega))), this.2.2, if_neg (by omega)]
    omega
theorem parse_clear {a b : List Sg} (h1 : mayT a = true) (h2 : mayT b = true) (h3 : ∀ x ∈ b, findW a x.key < 0) (h4 : a.length + b.length ≤ 100) : parseGo (b.map bodyT ++ [[]]) a.length a = (a ++ b, 0, 0) := by
  rw [parse_go b [[]] _ _ (by simp) (may_app h1 h2 h3 h4)]
  rfl
theorem parse_twice {a b : List Sg} (h1 : mayT a = true) (h2 : mayT b = true) (h4 : a.length + b.length ≤ 100) {p : Nat} (hp : p < b.length) (hf : 0 ≤ findW a (b.getD p sg0).key) (h3 : ∀ q, q < p → findW a (b.getD q sg0).key < 0) :
    parseGo (b.map bodyT ++ [[]]) a.length a = ([], 131, ((a.length + p : Nat) : Int)) := by
  have e : b = b.take p ++ b.getD p sg0 :: b.drop (p + 1) := by
    rw [List.getD_eq_getElem?_getD, List.getElem?_eq_getElem hp, Option.getD_some, ← List.drop_eq_getElem_cons hp, List.take_append_drop]
  have hx := may_mem h2 (getD_mem hp)
  generalize hxx : b.getD p sg0 = x at *
  have m1 : mayT (b.take p) = true := by
    have h2' := h2
    rw [← List.take_append_drop p b] at h2'
    exact may_left h2'
  have hl : (b.take p).length = p := by rw [List.length_take]; omega
  have m2 : mayT (a ++ b.take p) = true := may_app h1 m1 (fun y hy => by
    obtain ⟨q, hq, rfl⟩ := mem_getD hy
    rw [hl] at hq
    have := h3 q hq
    rwa [List.getD_eq_getElem?_getD, ← List.getElem?_take_of_lt hq, ← List.getD_eq_getElem?_getD] at this) (by omega)
  have hm : b.map bodyT ++ [[]] = (b.take p).map bodyT ++ (bodyT x :: ((b.drop (p + 1)).map bodyT ++ [[]])) := by
    conv => lhs; rw [e]
    simp
  rw [hm, parse_go _ _ _ _ (by simp) m2, hl]
  cases hr : (b.drop (p + 1)).map bodyT ++ [[]] with
  | nil => exact absurd (List.append_eq_nil_iff.1 hr).2 (by simp)
  | cons y r =>
    rw [parseGo, lineOf_body hx.1 hx.2]
    simp only []
    rw [if_pos (by rw [find_app_left hf]; exact hf)]
end Go.Proofs.YtkjekbgfmkfkjaaDoor
namespace Go.Proofs.YtkjekbgfmkfkjaaDoor
open Go
set_option linter.unusedVariables false
set_option linter.unusedSimpArgs false
set_option linter.constructorNameAsVariable false

/-! ### Two dots -/
theorem occ_dots {l : List UInt8} {i : Nat} (h : Lib.occAt l [46, 46] i = true) : (46 : UInt8) ∈ l := by
  rw [Lib.occAt, List.isPrefixOf_iff_prefix] at h
  obtain ⟨r, hr⟩ := h
  exact List.mem_of_mem_drop (i := i) (by rw [← hr]; simp)
theorem cut_dots_none {l : List UInt8} (h : (46 : UInt8) ∉ l) : Lib.cut l [46, 46] = (l, [], false) := by
  rcases Lib.index_spec l [46, 46] with ⟨h1, _⟩ | ⟨i, _, _, h3, _⟩
  · rw [Lib.cut, h1]; rfl
  · exact absurd (occ_dots h3) h
theorem cut_dots_hit {a b : List UInt8} (h : (46 : UInt8) ∉ a) : Lib.cut (a ++ [46, 46] ++ b) [46, 46] = (a, b, true) := by
  have hi : Lib.index (a ++ [46, 46] ++ b) [46, 46] = a.length := by
    refine Lib.index_first (by simp) ?_ fun j hj => ?_
    · rw [Lib.occAt, List.append_assoc, List.drop_left]
      rfl
    · cases ho : Lib.occAt (a ++ [46, 46] ++ b) [46, 46] j with
      | false => rfl
      | true =>
        rw [Lib.occAt, List.isPrefixOf_iff_prefix] at ho
        obtain ⟨r, hr⟩ := ho
        have : (a ++ [46, 46] ++ b)[j]? = some 46 := by
          have := congrArg (·[0]?) hr
          simp only [List.getElem?_drop] at this
          rw [Nat.add_zero] at this
          rw [← this]
          rfl
        rw [List.append_assoc, List.getElem?_append_left hj] at this
        exact absurd (List.mem_of_getElem? this) h
  rw [Lib.cut, hi, if_pos (by omega)]
  have e1 : ((a.length : Int)).toNat = a.length := by omega
  rw [e1]
  simp

theorem keyAt_ok {t : List Sg} (h : mayT t = true) {i : Nat} (hi : i < t.length) : keyB (keyAt t i) = true ∧ findW t (keyAt t i) = i := by
  have := okAt_iff.1 ((mayT_iff.1 h).1 i hi)
  exact ⟨this.1, this.2.2⟩
theorem partT_one {t : List Sg} {i : Nat} (hi : i < t.length) : partT t i i = [keyAt t i] := by
  rw [partT, show ((i : Int)).toNat = i by omega, List.drop_take, show i + 1 - i = 1 by omega, keyAt, List.getD_eq_getElem?_getD, List.getElem?_eq_getElem hi, List.drop_eq_getElem_cons hi]
  rfl
theorem partT_many {t : List Sg} {a n : Nat} (h : a + n < t.length) : partT t a (a + n : Nat) = (List.range' a (n + 1)).map (keyAt t) := by
  rw [partT, show ((a : Int)).toNat = a by omega, show (((a + n : Nat) : Int)).toNat = a + n by omega, List.drop_take]
  apply List.ext_getElem
  · simp; omega
  · intro i h1 h2
    simp only [List.length_map, List.length_take, List.length_drop] at h1
    simp only [List.getElem_map, List.getElem_take, List.getElem_drop, List.getElem_range', Nat.one_mul, keyAt]
    rw [List.getD_eq_getElem?_getD, List.getElem?_eq_getElem (by omega)]
    rfl
theorem span_one {t : List Sg} (h : mayT t = true) {i : Nat} (hi : i < t.length) : spanT t (keyAt t i) = ((i : Int), (i : Int), true) := by
  obtain ⟨h1, h2⟩ := keyAt_ok h hi
  rw [spanT, cut_dots_none (keyB_not h1).2.2, h2]
  simp
theorem span_many {t : List Sg} (h : mayT t = true) {a b : Nat} (hab : a < b) (hb : b < t.length) : spanT t (keyAt t a ++ [46, 46] ++ keyAt t b) = ((a : Int), (b : Int), true) := by
  obtain ⟨h1, h2⟩ := keyAt_ok h (i := a) (by omega)
  obtain ⟨_, h4⟩ := keyAt_ok h hb
  rw [spanT, cut_dots_hit (keyB_not h1).2.2, if_pos rfl]
  simp only [h2, h4]
  rw [decide_eq_true (show (0 : Int) ≤ a by omega), decide_eq_true (show (a : Int) < b by omega)]
  rfl
/-- What follows one behind the other. -/
theorem run_take : ∀ (a : Nat) (r : List Nat), run a r ≤ r.length ∧ (a :: r).take (run a r + 1) = List.range' a (run a r + 1)
  | a, [] => ⟨Nat.le_refl _, rfl⟩
  | a, b :: r => by
    obtain ⟨h1, h2⟩ := run_take b r
    rw [run]
    split
    · rename_i e
      subst e
      refine ⟨by simp; omega, ?_⟩
      rw [List.take_succ_cons, h2, List.range'_succ, List.range'_succ, List.range'_succ]
    · exact ⟨Nat.zero_le _, rfl⟩
theorem run_getD (a : Nat) (r : List Nat) : (a :: r).getD (run a r) 0 = a + run a r := by
  obtain ⟨h1, h2⟩ := run_take a r
  have : ((a :: r).take (run a r + 1))[run a r]? = some (a + run a r) := by rw [h2]; simp
  rw [List.getElem?_take_of_lt (Nat.lt_succ_self _)] at this
  rw [List.getD_eq_getElem?_getD, this]
  rfl
theorem run_split (a : Nat) (r : List Nat) : a :: r = List.range' a (run a r + 1) ++ r.drop (run a r) := by
  rw [← (run_take a r).2, ← List.drop_succ_cons (a := a), List.take_append_drop]
theorem expand_one {t : List Sg} (h : mayT t = true) : ∀ (is : List Nat) (i : Nat) (L : List (List UInt8)) (out : List (List UInt8)), (∀ x ∈ is, x < t.length) → expandGo t (is.map (keyAt t) ++ L) i out = expandGo t L (i + is.length) (out ++ is.map (keyAt t))
  | [], i, L, out, _ => by simp
  | x :: is, i, L, out, hb => by
    have hx := hb x (List.mem_cons_self ..)
    rw [List.map_cons, List.cons_append, expandGo, span_one h hx, if_pos rfl, partT_one hx, expand_one h is (i + 1) L _ fun y hy => hb y (List.mem_cons_of_mem _ hy)]
    rw [List.length_cons, List.append_assoc]
    congr 1
    omega
theorem expand_words {t : List Sg} (h : mayT t = true) : ∀ (f : Nat) (at_ : List Nat) (i : Nat) (out : List (List UInt8)), at_.length ≤ f → (∀ x ∈ at_, x < t.length) → expandGo t (wordsF t f at_) i out = (out ++ at_.map (keyAt t), 0, 0)
  | 0, at_, i, out, hl, _ => by
    obtain rfl : at_ = [] := List.eq_nil_of_length_eq_zero (by omega)
    simp [wordsF, expandGo]
  | f + 1, [], i, out, _, _ => by simp [wordsF, expandGo]
  | f + 1, a :: r, i, out, hl, hb => by
    rw [wordsF]
    have hs := run_split a r
    have hg := run_getD a r
    have hm := (run_take a r).1
    have ht := (run_take a r).2
    generalize run a r = n at *
    have hd : ∀ x ∈ r.drop n, x < t.length := fun x hx => hb x (List.mem_cons_of_mem _ (List.mem_of_mem_drop hx))
    have han : a + n < t.length := by
      have : a + n ∈ a :: r := by rw [hs]; simp
      exact hb _ this
    have hld : (r.drop n).length ≤ f := by rw [List.length_drop]; rw [List.length_cons] at hl; omega
    have e : (a :: r).map (keyAt t) = (List.range' a (n + 1)).map (keyAt t) ++ (r.drop n).map (keyAt t) := by rw [← List.map_append, ← hs]
    split
    · rename_i h3
      rw [hg, List.singleton_append, expandGo, span_many h (by omega) han, if_pos rfl]
      simp only []
      rw [partT_many han, expand_words h f _ _ _ hld hd, e, List.append_assoc]
    · rw [ht, expand_one h _ _ _ _ (fun x hx => by rw [List.mem_range'_1] at hx; omega), expand_words h f _ _ _ hld hd, e, List.append_assoc]
theorem words_mem {t : List Sg} (h : mayT t = true) : ∀ (f : Nat) (at_ : List Nat), (∀ x ∈ at_, x < t.length) → ∀ w ∈ wordsF t f at_, 32 ∉ w ∧ w ≠ []
  | 0, _, _, w, hw => by simp [wordsF] at hw
  | _ + 1, [], _, w, hw => by simp [wordsF] at hw
  | f + 1, a :: r, hb, w, hw => by
    have hs := run_split a r
    have hg := run_getD a r
    have ht := (run_take a r).2
    have hd : ∀ x ∈ r.drop (run a r), x < t.length := fun x hx => hb x (List.mem_cons_of_mem _ (List.mem_of_mem_drop hx))
    have han : a + run a r < t.length := by
      have : a + run a r ∈ a :: r := by rw [hs]; simp
      exact hb _ this
    have hk : ∀ i, i < t.length → 32 ∉ keyAt t i ∧ keyAt t i ≠ [] := fun i hi => ⟨(keyB_not (keyAt_ok h hi).1).1, keyB_ne (keyAt_ok h hi).1⟩
    rw [wordsF] at hw
    rcases List.mem_append.1 hw with hw | hw
    · split at hw
      · rw [List.mem_singleton] at hw
        subst hw
        refine ⟨fun hm => ?_, by simp⟩
        rw [hg] at hm
        rcases List.mem_append.1 hm with hm | hm
        · rcases List.mem_append.1 hm with hm | hm
          · exact (hk a (by omega)).1 hm
          · revert hm; decide
        · exact (hk _ han).1 hm
      · rw [ht] at hw
        obtain ⟨i, hi, rfl⟩ := List.mem_map.1 hw
        rw [List.mem_range'_1] at hi
        exact hk i (by omega)
    · exact words_mem h f _ hd w hw
theorem words_ne {t : List Sg} {f a : Nat} {r : List Nat} : wordsF t (f + 1) (a :: r) ≠ [] := by
  rw [wordsF]
  split <;> simp
theorem atW_lt {t : List Sg} {keys : List (List UInt8)} : ∀ x ∈ atW t keys, x < t.length := fun x hx => List.mem_range.1 (List.mem_filter.1 hx).1
theorem join_ne {L : List (List UInt8)} (h : L ≠ []) (h1 : ∀ w ∈ L, w ≠ []) : Lib.join L [32] ≠ [] := by
  cases L with
  | nil => exact absurd rfl h
  | cons a r =>
    have ha := h1 a (List.mem_cons_self ..)
    rw [Lib.join]
    cases r with
    | nil => simpa [List.intercalate] using ha
    | cons b r => simp [List.intercalate, ha]
theorem expand_compact {t : List Sg} {keys : List (List UInt8)} (h : mayT t = true) : expandT t (Lib.join (wordsT t (atW t keys)) [32]) = ((atW t keys).map (keyAt t), 0, 0) := by
  have hl := atW_lt (t := t) (keys := keys)
  rw [expandT, if_neg (by rw [h]; simp)]
  generalize atW t keys = at_ at *
  cases at_ with
  | nil => rfl
  | cons a r =>
    have hne : wordsT t (a :: r) ≠ [] := words_ne
    have hw := words_mem h (a :: r).length (a :: r) hl
    rw [if_neg (join_ne hne fun w hx => (hw w hx).2), Lib.join, spl_of_join hne fun w hx => (hw w hx).1, wordsT, expand_words h _ _ _ _ (Nat.le_refl _) hl]
    rfl
theorem atW_mem {t : List Sg} {keys : List (List UInt8)} {i : Nat} : i ∈ atW t keys ↔ i < t.length ∧ keyAt t i ∈ keys := by
  rw [atW, List.mem_filter, List.mem_range, decide_eq_true_eq]; rfl
theorem keyAt_inj {t : List Sg} (h : mayT t = true) {i j : Nat} (hi : i < t.length) (hj : j < t.length) (e : keyAt t i = keyAt t j) : i = j := by
  have h1 := (keyAt_ok h hi).2
  have h2 := (keyAt_ok h hj).2
  rw [e, h2] at h1
  omega
theorem atW_again {t : List Sg} {keys : List (List UInt8)} (h : mayT t = true) : atW t ((atW t keys).map (keyAt t)) = atW t keys := by
  unfold atW
  apply List.filter_congr
  intro i hi
  rw [List.mem_range] at hi
  apply decide_eq_decide.2
  constructor
  · intro hm
    obtain ⟨j, hj, e⟩ := List.mem_map.1 hm
    obtain ⟨hj1, hj2⟩ := atW_mem.1 hj
    obtain rfl := keyAt_inj h hj1 hi e
    exact hj2
  · intro hm
    exact List.mem_map.2 ⟨i, atW_mem.2 ⟨hi, hm⟩, rfl⟩
theorem bad_none {t : List Sg} {keys : List (List UInt8)} (h : ∀ k ∈ keys, 0 ≤ findW t k) : ¬ keys.findIdx (fun k => decide (findW t k < 0)) < keys.length := by
  rw [List.findIdx_eq_length.2 fun k hk => by have := h k hk; simp; omega]
  exact Nat.lt_irrefl _
theorem compact_ok {t : List Sg} {keys : List (List UInt8)} (h : mayT t = true) (hk : ∀ k ∈ keys, 0 ≤ findW t k) : compactT t keys = (Lib.join (wordsT t (atW t keys)) [32], 0, 0) := by
  rw [compactT, if_neg (by rw [h]; simp), if_neg (bad_none hk)]
/-- All cases of a compacting. -/
theorem compact_cases (t : List Sg) (keys : List (List UInt8)) : ((compactT t keys).1 = [] ∧ (compactT t keys).2.1 ≠ 0) ∨ (mayT t = true ∧ (∀ k ∈ keys, 0 ≤ findW t k) ∧ compactT t keys = (Lib.join (wordsT t (atW t keys)) [32], 0, 0)) := by
  rw [compactT]
  by_cases hm : mayT t = true
  · rw [if_neg (by rw [hm]; simp)]
    split
    · exact .inl ⟨rfl, by show (133 : Int) ≠ 0; decide⟩
    · rename_i hf
      refine .inr ⟨hm, fun k hk => ?_, rfl⟩
      have : keys.findIdx (fun k => decide (findW t k < 0)) = keys.length := Nat.le_antisymm List.findIdx_le_length (Nat.le_of_not_lt hf)
      have := List.findIdx_eq_length.1 this k hk
      simpa using this
  · rw [if_pos (by simpa using hm)]
    exact .inl ⟨rfl, by decide⟩
theorem find_keyAt {t : List Sg} {k : List UInt8} (h : 0 ≤ findW t k) : ∃ i, i < t.length ∧ keyAt t i = k := by
  rcases findW_cases t k with ⟨e, _⟩ | ⟨i, _, h1, h2, _⟩
  · omega
  · exact ⟨i, h1, h2⟩
theorem compact_again {t : List Sg} {keys : List (List UInt8)} (h : mayT t = true) : compactT t ((atW t keys).map (keyAt t)) = (Lib.join (wordsT t (atW t keys)) [32], 0, 0) := by
  rw [compact_ok h fun k hk => ?_, atW_again h]
  obtain ⟨i, hi, rfl⟩ := List.mem_map.1 hk
  rw [(keyAt_ok h (atW_lt i hi)).2]
  omega
/-- One key. -/
theorem atW_one {t : List Sg} (h : mayT t = true) {i : Nat} (hi : i < t.length) : atW t [keyAt t i] = [i] := by
  have : ∀ n, n ≤ t.length → (List.range n).filter (fun j => decide ((t.getD j sg0).key ∈ [keyAt t i])) = if i < n then [i] else [] := by
    intro n
    induction n with
    | zero => intro _; simp
    | succ n ih =>
      intro hn
      rw [List.range_succ, List.filter_append, ih (by omega)]
      by_cases e : n = i
      · subst e
        rw [if_neg (Nat.lt_irrefl _), if_pos (Nat.lt_succ_self _)]
        simp [keyAt]
      · have hne : ¬ (t.getD n sg0).key = keyAt t i := fun e2 => e (keyAt_inj h (by omega) hi e2)
        have : (List.filter (fun j => decide ((t.getD j sg0).key ∈ [keyAt t i])) [n]) = [] := by rw [List.filter_cons, if_neg (by rw [decide_eq_true_eq, List.mem_singleton]; exact hne)]; rfl
        rw [this, List.append_nil]
        by_cases hi2 : i < n
        · rw [if_pos hi2, if_pos (by omega)]
        · rw [if_neg hi2, if_neg (by omega)]
  exact (this _ (Nat.le_refl _)).trans (if_pos hi)
theorem compact_one {t : List Sg} (h : mayT t = true) {i : Nat} (hi : i < t.length) : compactT t [keyAt t i] = (keyAt t i, 0, 0) := by
  rw [compact_ok h fun k hk => ?_, atW_one h hi]
  · simp [wordsT, wordsF, run, Lib.join, List.intercalate]
  · rw [List.mem_singleton] at hk
    rw [hk, (keyAt_ok h hi).2]
    omega
theorem atW_all {t : List Sg} {keys : List (List UInt8)} (h : ∀ i, i < t.length → keyAt t i ∈ keys) : atW t keys = List.range t.length :=
  List.filter_eq_self.2 fun i hi => decide_eq_true (h i (List.mem_range.1 hi))
theorem run_range : ∀ (n a : Nat), run a (List.range' (a + 1) n) = n
  | 0, _ => rfl
  | n + 1, a => by rw [List.range'_succ, run, if_pos rfl, run_range n (a + 1)]
theorem compact_all {t : List Sg} (h : mayT t = true) (h3 : 3 ≤ t.length) : compactT t (t.map Sg.key) = (keyAt t 0 ++ [46, 46] ++ keyAt t (t.length - 1), 0, 0) := by
  have hmem : ∀ i, i < t.length → keyAt t i ∈ t.map Sg.key := fun i hi => List.mem_map.2 ⟨_, getD_mem hi, rfl⟩
  rw [compact_ok h fun k hk => ?_, atW_all hmem]
  · obtain ⟨n, hn⟩ : ∃ n, t.length = n + 1 := ⟨t.length - 1, by omega⟩
    rw [hn, List.range_eq_range', List.range'_succ, wordsT, List.length_cons, wordsF, run_range, if_pos (by omega), Nat.add_sub_cancel]
    have e1 : (0 :: List.range' (0 + 1) n).getD n 0 = n := by have := run_getD 0 (List.range' (0 + 1) n); rw [run_range] at this; omega
    have e2 : (List.range' (0 + 1) n).drop n = [] := List.drop_eq_nil_of_le (by simp)
    rw [e1, e2]
    have e3 : ∀ f, wordsF t f [] = [] := fun f => by cases f <;> rfl
    rw [e3]
    simp [Lib.join, List.intercalate]
  · obtain ⟨x, hx, rfl⟩ := List.mem_map.1 hk
    exact find_mem hx
end Go.Proofs.YtkjekbgfmkfkjaaDoor
namespace Go.Proofs.YtkjekbgfmkfkjaaDoor
open Go
set_option linter.unusedVariables false
set_option linter.unusedSimpArgs false
set_option linter.constructorNameAsVariable false

theorem getBang {zs : List Int} {i : Nat} (hi : i < zs.length) : zs.toArray[i]! = zs[i] := by
  rw [getElem!_pos _ i (by simpa using hi)]; simp
theorem kept_before {zs : List Int} : ∀ (j : Nat), j < zs.length → ∃ i, i ≤ j ∧ Lib.keeps zs.toArray i = true ∧ zs.toArray[i]! = zs.toArray[j]!
  | 0, _ => ⟨0, Nat.le_refl _, Lib.keeps_lt_one _ 0 (by omega), rfl⟩
  | j + 1, hj => by
    have hjj : j < zs.length := Nat.lt_of_succ_lt hj
    by_cases h : zs.toArray[j + 1]! = zs.toArray[j]!
    · obtain ⟨i, h1, h2, h3⟩ := kept_before j hjj
      exact ⟨i, by omega, h2, h3.trans h.symm⟩
    · exact ⟨j + 1, Nat.le_refl _, Lib.keeps_pos (by simpa using h), rfl⟩
theorem compact_mem {zs : List Int} {x : Int} : x ∈ Lib.compact zs ↔ x ∈ zs := by
  unfold Lib.compact Lib.compactUpTo
  rw [List.mem_map]
  constructor
  · rintro ⟨i, hi, rfl⟩
    rw [List.mem_filter, List.mem_range] at hi
    rw [getBang hi.1]
    exact List.getElem_mem _
  · intro h
    obtain ⟨j, hj, rfl⟩ := List.getElem_of_mem h
    obtain ⟨i, h1, h2, h3⟩ := kept_before j hj
    exact ⟨i, List.mem_filter.2 ⟨List.mem_range.2 (by omega), h2⟩, by rw [h3, getBang hj]⟩
theorem compact_incr {zs : List Int} (h : zs.Pairwise (· ≤ ·)) : (Lib.compact zs).Pairwise (· < ·) := by
  unfold Lib.compact Lib.compactUpTo
  rw [List.pairwise_map]
  have hr : (List.range zs.length).Pairwise (· < ·) := List.pairwise_lt_range
  refine List.Pairwise.imp_of_mem (R := (· < ·)) (fun {i j} hi hj hij => ?_) (hr.filter (Lib.keeps zs.toArray))
  rw [List.mem_filter, List.mem_range] at hi hj
  rw [getBang hi.1, getBang hj.1]
  have hk : zs.toArray[j]! ≠ zs.toArray[j - 1]! := fun e => by
    have := Lib.keeps_neg (d := zs.toArray) (m := j) (by omega) e
    rw [this] at hj
    exact absurd hj.2 (by simp)
  rw [getBang hj.1, getBang (show j - 1 < zs.length by omega)] at hk
  have h1 : zs[j - 1] ≤ zs[j] := List.pairwise_iff_getElem.1 h _ _ _ _ (by omega)
  have h2 : zs[i] ≤ zs[j - 1] := by
    by_cases e : i = j - 1
    · subst e; exact Int.le_refl _
    · exact List.pairwise_iff_getElem.1 h _ _ _ _ (by omega)
  omega
theorem incr_eq : ∀ {a b : List Int}, a.Pairwise (· < ·) → b.Pairwise (· < ·) → (∀ x, x ∈ a ↔ x ∈ b) → a = b
  | [], [], _, _, _ => rfl
  | [], y :: b, _, _, h => absurd ((h y).2 (List.mem_cons_self ..)) (by simp)
  | x :: a, [], _, _, h => absurd ((h x).1 (List.mem_cons_self ..)) (by simp)
  | x :: a, y :: b, ha, hb, h => by
    obtain ⟨ha1, ha2⟩ := List.pairwise_cons.1 ha
    obtain ⟨hb1, hb2⟩ := List.pairwise_cons.1 hb
    have hxy : x = y := by
      have h1 := (h x).1 (List.mem_cons_self ..)
      have h2 := (h y).2 (List.mem_cons_self ..)
      rcases List.mem_cons.1 h1 with e | h1
      · exact e
      · rcases List.mem_cons.1 h2 with e | h2
        · exact e.symm
        · have := hb1 x h1; have := ha1 y h2; omega
    subst hxy
    congr 1
    refine incr_eq ha2 hb2 fun z => ?_
    constructor
    · intro hz
      rcases List.mem_cons.1 ((h z).1 (List.mem_cons_of_mem _ hz)) with e | hz2
      · have := ha1 z hz; omega
      · exact hz2
    · intro hz
      rcases List.mem_cons.1 ((h z).2 (List.mem_cons_of_mem _ hz)) with e | hz2
      · have := hb1 z hz; omega
      · exact hz2
theorem sort_sorted (zs : List Int) : (zs.mergeSort fun x y => decide (x ≤ y)).Pairwise (· ≤ ·) := by
  have := List.pairwise_mergeSort (le := fun (x y : Int) => decide (x ≤ y)) (fun a b c h1 h2 => by simp at *; omega) (fun a b => by simp; omega) zs
  exact this.imp fun h => of_decide_eq_true h
/-- The places of keys, sorted, each once. -/
theorem places_eq {t : List Sg} {keys : List (List UInt8)} (hk : ∀ k ∈ keys, 0 ≤ findW t k) (hm : mayT t = true) : Lib.compact ((keys.map (findW t)).mergeSort fun x y => decide (x ≤ y)) = (atW t keys).map (fun (i : Nat) => (i : Int)) := by
  refine incr_eq (compact_incr (sort_sorted _)) ?_ fun x => ?_
  · rw [List.pairwise_map]
    refine List.Pairwise.imp (fun h => ?_) (List.pairwise_lt_range.filter _ : (atW t keys).Pairwise (· < ·))
    omega
  · rw [compact_mem, (List.mergeSort_perm _ _).mem_iff, List.mem_map, List.mem_map]
    constructor
    · rintro ⟨k, hk1, rfl⟩
      obtain ⟨i, hi, rfl⟩ := find_keyAt (hk k hk1)
      exact ⟨i, atW_mem.2 ⟨hi, hk1⟩, ((keyAt_ok hm hi).2).symm⟩
    · rintro ⟨i, hi, rfl⟩
      obtain ⟨h1, h2⟩ := atW_mem.1 hi
      exact ⟨_, h2, (keyAt_ok hm h1).2⟩
theorem words_fuel {t : List Sg} : ∀ (f g : Nat) (l : List Nat), l.length ≤ f → l.length ≤ g → wordsF t f l = wordsF t g l
  | f, g, [], _, _ => by cases f <;> cases g <;> rfl
  | 0, g, a :: r, h, _ => by rw [List.length_cons] at h; omega
  | f, 0, a :: r, _, h => by rw [List.length_cons] at h; omega
  | f + 1, g + 1, a :: r, h1, h2 => by
    rw [List.length_cons] at h1 h2
    rw [wordsF, wordsF, words_fuel f g (r.drop (run a r)) (by rw [List.length_drop]; omega) (by rw [List.length_drop]; omega)]
theorem run_at {a : Nat} {r : List Nat} {n : Nat} (h : n ≤ run a r) : (a :: r).getD n 0 = a + n := by
  have h2 := (run_take a r).2
  have : ((a :: r).take (run a r + 1))[n]? = some (a + n) := by rw [h2, List.getElem?_range' (by omega), Nat.one_mul]
  rw [List.getElem?_take_of_lt (by omega)] at this
  rw [List.getD_eq_getElem?_getD, this]
  rfl
theorem run_stop : ∀ {a : Nat} {r : List Nat}, run a r < r.length → (a :: r).getD (run a r + 1) 0 ≠ a + run a r + 1
  | a, [], h => absurd h (Nat.not_lt_zero _)
  | a, b :: r, h => by
    rw [run] at h ⊢
    split
    · rename_i e
      rw [if_pos e] at h
      have := run_stop (a := b) (r := r) (by simpa using h)
      rw [show (a :: b :: r).getD (run b r + 1 + 1) 0 = (b :: r).getD (run b r + 1) 0 from rfl]
      omega
    · rename_i e
      show b ≠ a + 0 + 1
      omega
end Go.Proofs.YtkjekbgfmkfkjaaDoor
