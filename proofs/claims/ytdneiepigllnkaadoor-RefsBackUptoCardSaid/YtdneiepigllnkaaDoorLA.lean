/- The plain law of lemma (layer 15): words without their soft hyphens, counts, marks, heads. No program in sight. -/
import Derived.Lib.Join
import Derived.Lib.ReplaceLaws
import Derived.Lib.CountLaws
import Derived.Lib.ItoaNum
namespace Go.Proofs.YtdneiepigllnkaaDoor
open Go

/-! ### Plain -/
def pl : List UInt8 → List UInt8
  | [] => []
  | [x] => [x]
  | x :: y :: r => if x = 194 ∧ y = 173 then pl r else x :: pl (y :: r)
theorem pl_cons (x : UInt8) (l : List UInt8) (h : ¬ (x = 194 ∧ l[0]? = some 173)) : pl (x :: l) = x :: pl l := by
  cases l with
  | nil => rfl
  | cons y r =>
    rw [pl, if_neg]
    simpa using h
theorem pl_hit (l : List UInt8) : pl (194 :: 173 :: l) = pl l := by rw [pl, if_pos ⟨rfl, rfl⟩]
theorem pl_length (l : List UInt8) : (pl l).length ≤ l.length := by
  match l with
  | [] => exact Nat.le_refl _
  | [x] => exact Nat.le_refl _
  | x :: y :: r =>
    rw [pl]
    split
    · have := pl_length r
      simp only [List.length_cons]; omega
    · have := pl_length (y :: r)
      simp only [List.length_cons] at *; omega

section
variable (sub : List UInt8)
def repA (s : List UInt8) : List UInt8 := Lib.replaceK sub [] (Lib.count s sub) s
theorem repA_hit (h0 : sub ≠ []) (r : List UInt8) : repA sub (sub ++ r) = repA sub r := by
  have hi : Lib.index (sub ++ r) sub = ((0 : Nat) : Int) := by
    cases sub with
    | nil => exact absurd rfl h0
    | cons c t =>
      rw [List.cons_append, Lib.index, if_pos]
      · rfl
      · rw [List.isPrefixOf_iff_prefix]
        exact ⟨r, rfl⟩
  unfold repA
  rw [Lib.count_hit h0 hi, Nat.add_comm 1, Lib.replaceK_hit _ _ _ _ 0 hi]
  simp
theorem repA_miss (h0 : sub ≠ []) (b : UInt8) (l : List UInt8) (h : sub.isPrefixOf (b :: l) = false) : repA sub (b :: l) = b :: repA sub l := by
  have hix : Lib.index (b :: l) sub = if Lib.index l sub == -1 then -1 else Lib.index l sub + 1 := by rw [Lib.index, h]; simp
  unfold repA
  by_cases hm : Lib.index l sub = -1
  · have h2 : Lib.index (b :: l) sub = -1 := by rw [hix, if_pos (beq_iff_eq.2 hm)]
    rw [Lib.count_miss hm, Lib.count_miss h2]
    rfl
  · have hge := Lib.index_ge l sub
    obtain ⟨j, hj⟩ : ∃ j : Nat, Lib.index l sub = j := ⟨(Lib.index l sub).toNat, by omega⟩
    have hix' : Lib.index (b :: l) sub = ((j + 1 : Nat) : Int) := by rw [hix, if_neg (fun e => hm (beq_iff_eq.1 e)), hj]; omega
    rw [Lib.count_hit h0 hix', Lib.count_hit h0 hj, Nat.add_comm 1, Nat.add_comm 1, Lib.replaceK_hit _ _ _ _ _ hix', Lib.replaceK_hit _ _ _ _ _ hj]
    have e : (b :: l).drop (j + 1 + sub.length) = l.drop (j + sub.length) := by rw [show j + 1 + sub.length = (j + sub.length) + 1 by omega, List.drop_succ_cons]
    rw [e]
    simp
end
theorem repA_pl : ∀ s : List UInt8, repA [194, 173] s = pl s
  | [] => by unfold repA; rw [Lib.count_miss (by simp [Lib.index])]; rfl
  | [x] => by rw [repA_miss _ (by simp) _ _ (by simp [List.isPrefixOf]), repA_pl []]; rfl
  | x :: y :: r => by
    rw [pl]
    by_cases h : x = 194 ∧ y = 173
    · obtain ⟨rfl, rfl⟩ := h
      rw [if_pos ⟨rfl, rfl⟩]
      exact (repA_hit [194, 173] (by simp) r).trans (repA_pl r)
    · rw [if_neg h, repA_miss _ (by simp) _ _ (by
        simp only [List.isPrefixOf, Bool.and_true]
        rw [Bool.eq_false_iff]
        intro hc
        simp only [Bool.and_eq_true, beq_iff_eq] at hc
        exact h ⟨hc.1.symm, hc.2.symm⟩), repA_pl (y :: r)]
theorem replace_pl (s : List UInt8) : Lib.replaceAll s [194, 173] [] = pl s := by
  rw [Lib.replaceAll, Lib.replace, if_neg (by decide), Lib.replaceNum, if_pos (by simp)]
  exact repA_pl s

/-! ### Numbers -/
theorem nDigits_le : ∀ (k u : Nat), u < 10 ^ (k + 1) → Lib.nDigits u ≤ k + 1
  | 0, u, h => by rw [Lib.nDigits_small (by simpa using h)]; exact Nat.le_refl _
  | k + 1, u, h => by
    by_cases h9 : u < 10
    · rw [Lib.nDigits_small h9]; omega
    · rw [Lib.nDigits_big h9]
      have := nDigits_le k (u / 10) (by rw [Nat.pow_succ] at h; omega)
      omega
theorem dec_length (u : Nat) (h : u < 18446744073709551616) : (Lib.decDigits u).length ≤ 20 := by
  rw [Lib.decDigits_length]
  exact nDigits_le 19 u (by omega)
theorem itoa_length (n : Int) (h0 : -9223372036854775808 ≤ n) (h1 : n ≤ 9223372036854775807) : (Lib.itoa n).length ≤ 21 := by
  unfold Lib.itoa
  split
  · have := dec_length n.natAbs (by omega)
    rw [List.length_cons]; omega
  · have := dec_length n.toNat (by omega)
    omega
theorem dec_step (u : Nat) (h : ¬ u < 10) : Lib.decDigits u = Lib.decDigits (u / 10) ++ [UInt8.ofNat (48 + u % 10)] := by
  rw [Lib.decDigits, dif_neg h]

/-! ### Words of a line -/
def bnd (L : List (List UInt8)) (B : Nat) : Prop := ∀ x ∈ L, x.length ≤ B
theorem getD_bnd {L : List (List UInt8)} {B : Nat} (h : bnd L B) (i : Nat) : (L.getD i []).length ≤ B := by
  rw [List.getD_eq_getElem?_getD]
  cases e : L[i]? with
  | none => exact Nat.zero_le _
  | some x => exact h x (List.mem_of_getElem? e)

/-- How many of the first k words are plain as x. -/
def same (L : List (List UInt8)) (x : List UInt8) (k : Nat) : Nat := (L.take k).countP fun y => decide (pl y = pl x)
theorem same_zero (L : List (List UInt8)) (x : List UInt8) : same L x 0 = 0 := rfl
theorem same_succ {L : List (List UInt8)} (x : List UInt8) {k : Nat} (h : k < L.length) : same L x (k + 1) = same L x k + if pl (L.getD k []) = pl x then 1 else 0 := by
  unfold same
  rw [List.take_succ_eq_append_getElem h, List.countP_append, List.countP_cons, List.countP_nil, List.getD_eq_getElem?_getD, List.getElem?_eq_getElem h, Option.getD_some]
  simp
theorem same_le (L : List (List UInt8)) (x : List UInt8) (k : Nat) : same L x k ≤ k := Nat.le_trans (List.countP_le_length) (by rw [List.length_take]; omega)
theorem same_mono (L : List (List UInt8)) (x : List UInt8) {j k : Nat} (h : j ≤ k) : same L x j ≤ same L x k := by
  unfold same
  exact List.Sublist.countP_le (List.take_sublist_take_left h)

/-- The which a word is of those like it, and how many these are. -/
def cnt (L : List (List UInt8)) (at_ : Int) : Nat × Nat :=
  if 0 ≤ at_ ∧ at_ < L.length then (same L (L.getD at_.toNat []) (at_.toNat + 1), same L (L.getD at_.toNat []) L.length) else (0, 0)
def mark (L : List (List UInt8)) (at_ : Int) : List UInt8 :=
  if (cnt L at_).2 = 0 then [] else if (cnt L at_).2 = 1 then pl (L.getD at_.toNat []) else pl (L.getD at_.toNat []) ++ ([94] ++ Lib.itoa (cnt L at_).1)
/-- At most three words; of more the first one and the last one. -/
def joinW (L : List (List UInt8)) : List UInt8 := if 3 < L.length then L.getD 0 [] ++ [32, 46, 46, 46, 32] ++ L.getD (L.length - 1) [] else Lib.join L [32]
def shortW (L : List (List UInt8)) : List UInt8 := joinW (L.map pl)
def marks (L : List (List UInt8)) (a b : Nat) : List (List UInt8) := (List.range (b - a)).map fun i => mark L ((a + i : Nat) : Int)
def headW (L : List (List UInt8)) (a b : Int) : List UInt8 := if a < 0 ∨ b > L.length ∨ a ≥ b then [] else joinW (marks L a.toNat b.toNat)
theorem marks_snoc (L : List (List UInt8)) {a b : Nat} (h : a ≤ b) : marks L a (b + 1) = marks L a b ++ [mark L (b : Int)] := by
  unfold marks
  rw [show b + 1 - a = (b - a) + 1 by omega, List.range_succ, List.map_append, List.map_cons, List.map_nil, show a + (b - a) = b by omega]
theorem marks_self (L : List (List UInt8)) (a : Nat) : marks L a a = [] := by unfold marks; simp
theorem marks_length (L : List (List UInt8)) (a b : Nat) : (marks L a b).length = b - a := by unfold marks; simp
theorem cnt_le (L : List (List UInt8)) (at_ : Int) : (cnt L at_).1 ≤ L.length ∧ (cnt L at_).2 ≤ L.length := by
  unfold cnt
  split
  · rename_i h
    have h1 := same_le L (L.getD at_.toNat []) (at_.toNat + 1)
    have h2 := same_le L (L.getD at_.toNat []) L.length
    exact ⟨by simp only []; omega, h2⟩
  · exact ⟨Nat.zero_le _, Nat.zero_le _⟩
theorem mark_length {L : List (List UInt8)} {B : Nat} (hB : bnd L B) (hL : L.length ≤ 4294967296) (at_ : Int) : (mark L at_).length ≤ B + 22 := by
  have h1 := getD_bnd hB at_.toNat
  have h2 := pl_length (L.getD at_.toNat [])
  have h3 := cnt_le L at_
  have h4 := itoa_length ((cnt L at_).1 : Int) (by omega) (by omega)
  unfold mark
  split
  · exact Nat.zero_le _
  · split
    · omega
    · simp only [List.length_append, List.length_cons, List.length_nil]; omega
theorem bnd_map_pl {L : List (List UInt8)} {B : Nat} (h : bnd L B) : bnd (L.map pl) B := fun x hx => by
  obtain ⟨y, hy, rfl⟩ := List.mem_map.1 hx
  exact Nat.le_trans (pl_length y) (h y hy)
theorem bnd_marks {L : List (List UInt8)} {B : Nat} (h : bnd L B) (hL : L.length ≤ 4294967296) (a b : Nat) : bnd (marks L a b) (B + 22) := fun x hx => by
  obtain ⟨y, hy, rfl⟩ := List.mem_map.1 hx
  exact mark_length h hL _

/-- What the document's loop has joined of the first k words. -/
def joinI (L : List (List UInt8)) (k : Nat) : List UInt8 :=
  if 3 < L.length then (if k = 0 then [] else if k < L.length then L.getD 0 [] else L.getD 0 [] ++ [32, 46, 46, 46] ++ [32] ++ L.getD (L.length - 1) []) else Lib.join (L.take k) [32]
theorem joinI_all (L : List (List UInt8)) : joinI L L.length = joinW L := by
  unfold joinI joinW
  by_cases h : 3 < L.length
  · rw [if_pos h, if_pos h, if_neg (by omega), if_neg (by omega)]
    simp
  · rw [if_neg h, if_neg h, List.take_length]
theorem joinI_zero (L : List (List UInt8)) : joinI L 0 = [] := by
  unfold joinI
  split
  · rfl
  · rfl
theorem join_snoc (L : List (List UInt8)) (x sep : List UInt8) (h : L ≠ []) : Lib.join (L ++ [x]) sep = Lib.join L sep ++ sep ++ x := by
  cases L with
  | nil => exact absurd rfl h
  | cons y r => rw [List.cons_append, Lib.join_cons, Lib.join_cons, Lib.joinTail, Lib.joinTail]; simp
theorem take_snoc {L : List (List UInt8)} {k : Nat} (h : k < L.length) : L.take (k + 1) = L.take k ++ [L.getD k []] := by
  rw [List.take_succ_eq_append_getElem h, List.getD_eq_getElem?_getD, List.getElem?_eq_getElem h, Option.getD_some]
theorem joinI_skip {L : List (List UInt8)} {k : Nat} (h : 3 < L.length) (h0 : 0 < k) (h1 : k < L.length - 1) : joinI L (k + 1) = joinI L k := by
  unfold joinI
  rw [if_pos h, if_pos h, if_neg (by omega), if_pos (by omega), if_neg (by omega), if_pos (by omega)]
theorem joinI_first {L : List (List UInt8)} (h : 0 < L.length) : joinI L 1 = joinI L 0 ++ L.getD 0 [] := by
  rw [joinI_zero, List.nil_append]
  unfold joinI
  by_cases h3 : 3 < L.length
  · rw [if_pos h3, if_neg (by omega), if_pos (by omega)]
  · rw [if_neg h3, show (1 : Nat) = 0 + 1 from rfl, take_snoc h, List.take_zero, List.nil_append, Lib.join_one]
theorem joinI_last {L : List (List UInt8)} (h : 3 < L.length) : joinI L (L.length - 1 + 1) = joinI L (L.length - 1) ++ [32, 46, 46, 46] ++ [32] ++ L.getD (L.length - 1) [] := by
  unfold joinI
  rw [if_pos h, if_pos h, if_neg (by omega), if_neg (by omega), if_neg (by omega), if_pos (by omega)]
theorem joinI_few {L : List (List UInt8)} {k : Nat} (h : ¬ 3 < L.length) (h0 : 0 < k) (h1 : k < L.length) : joinI L (k + 1) = joinI L k ++ [32] ++ L.getD k [] := by
  unfold joinI
  rw [if_neg h, if_neg h, take_snoc h1, join_snoc _ _ _ (by
    intro e
    have := congrArg List.length e
    rw [List.length_take, List.length_nil] at this
    omega)]
theorem join_len {L : List (List UInt8)} {B : Nat} (hB : bnd L B) : (Lib.join L [32]).length ≤ L.length * (B + 1) := by
  induction L with
  | nil => simp [Lib.join_nil]
  | cons x r ih =>
    rw [Lib.join_cons, List.length_append, List.length_cons, Nat.succ_mul]
    have h1 := hB x (List.mem_cons_self ..)
    have h2 : (Lib.joinTail [32] r).length ≤ r.length * (B + 1) := by
      clear ih
      have hr : bnd r B := fun y hy => hB y (List.mem_cons_of_mem _ hy)
      induction r with
      | nil => simp [Lib.joinTail]
      | cons y t ih =>
        have := ih (fun z hz => hB z (by
          rcases List.mem_cons.1 hz with e | e
          · exact e ▸ List.mem_cons_self ..
          · exact List.mem_cons_of_mem _ (List.mem_cons_of_mem _ e))) fun z hz => hr z (List.mem_cons_of_mem _ hz)
        have h3 := hr y (List.mem_cons_self ..)
        simp only [Lib.joinTail, List.map_cons, List.flatten_cons, List.length_append, List.length_cons, List.length_nil] at *
        rw [Nat.succ_mul]
        omega
    omega
theorem joinI_len {L : List (List UInt8)} {B : Nat} (hB : bnd L B) (k : Nat) : (joinI L k).length ≤ 3 * B + 8 := by
  have h0 := getD_bnd hB 0
  have h1 := getD_bnd hB (L.length - 1)
  unfold joinI
  by_cases h : 3 < L.length
  · rw [if_pos h]
    split
    · exact Nat.zero_le _
    · split
      · omega
      · simp only [List.length_append, List.length_cons, List.length_nil]; omega
  · rw [if_neg h]
    have := join_len (L := L.take k) (B := B) fun x hx => hB x (List.mem_of_mem_take hx)
    have h2 : (L.take k).length ≤ 3 := by rw [List.length_take]; omega
    have h3 : (L.take k).length * (B + 1) ≤ 3 * (B + 1) := Nat.mul_le_mul_right _ h2
    omega
end Go.Proofs.YtdneiepigllnkaaDoor
