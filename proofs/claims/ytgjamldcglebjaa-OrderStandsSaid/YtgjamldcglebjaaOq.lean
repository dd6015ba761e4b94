/- law18: OrderStands: the plain law. -/
import Derived.Test.YtgjamldcglebjaaOm
namespace Go.Proofs.Ytgjamldcglebjaa
open Go Go.RowKit Go.Proofs.Ytgjamldcglebjaa.DL
set_option linter.unusedVariables false
set_option linter.unusedSimpArgs false

def serX (l : List NoteM) (x : Int) : Int := (l.getD x.toNat note0).series
def seenP (l : List NoteM) (T : List Int) (x : Int) : Bool := T.any fun y => decide (serX l y = serX l x)
def cntS (l : List NoteM) (S : List Int) : Nat → Nat
  | 0 => 0
  | i + 1 => cntS l S i + if seenP l (S.take i) (S.getD i 0) then 0 else (S.filter (keepP l (serX l (S.getD i 0)))).length
theorem filter_or_len {p q : Int → Bool} (h : ∀ x, p x = true → q x = false) : ∀ xs : List Int, (xs.filter fun x => p x || q x).length = (xs.filter p).length + (xs.filter q).length
  | [] => rfl
  | x :: xs => by
    have := filter_or_len h xs
    have hx := h x
    cases hp : p x <;> cases hq : q x <;> simp [List.filter_cons, hp, hq] at hx ⊢ <;> omega
theorem seen_take (l : List NoteM) {S : List Int} {i : Nat} (hi : i < S.length) (x : Int) : seenP l (S.take (i + 1)) x = (seenP l (S.take i) x || keepP l (serX l (S.getD i 0)) x) := by
  rw [seenP, seenP, List.take_succ_eq_append_getElem hi, List.any_append, List.getD_eq_getElem?_getD, List.getElem?_eq_getElem hi]
  simp only [List.any_cons, List.any_nil, Bool.or_false, Option.getD_some]
  congr 1
  show decide (serX l S[i] = serX l x) = decide (serX l x = serX l S[i])
  exact decide_eq_decide.2 eq_comm
theorem cntS_eq (l : List NoteM) (S : List Int) : ∀ i, i ≤ S.length → cntS l S i = (S.filter (seenP l (S.take i))).length
  | 0, _ => by
    have : S.filter (seenP l (S.take 0)) = [] := List.filter_eq_nil_iff.2 fun x _ => by simp [seenP]
    rw [this]; rfl
  | i + 1, hi => by
    rw [cntS, cntS_eq l S i (by omega)]
    have hs : seenP l (S.take (i + 1)) = fun x => seenP l (S.take i) x || keepP l (serX l (S.getD i 0)) x := funext fun x => seen_take l (by omega) x
    cases hc : seenP l (S.take i) (S.getD i 0) with
    | true =>
      rw [if_pos rfl, hs, Nat.add_zero]
      congr 2
      funext x
      cases hk : keepP l (serX l (S.getD i 0)) x with
      | false => rw [Bool.or_false]
      | true =>
        rw [Bool.or_true]
        have hk : serX l x = serX l (S.getD i 0) := of_decide_eq_true hk
        rw [seenP] at hc ⊢
        rw [hk]; exact hc
    | false =>
      rw [if_neg (by simp), hs, filter_or_len fun x hx => ?_]
      rw [Bool.eq_false_iff]
      intro hk
      have hk : serX l x = serX l (S.getD i 0) := of_decide_eq_true hk
      rw [seenP] at hc hx
      rw [hk, hc] at hx
      cases hx
theorem cntS_le (l : List NoteM) (S : List Int) {i : Nat} (hi : i ≤ S.length) : cntS l S i ≤ S.length := by
  rw [cntS_eq l S i hi]; exact List.length_filter_le _ _
theorem cntS_all (l : List NoteM) (S : List Int) : cntS l S S.length = S.length := by
  rw [cntS_eq l S _ (Nat.le_refl _), List.take_length]
  congr 1
  rw [List.filter_eq_self]
  intro x hx
  rw [seenP, List.any_eq_true]
  exact ⟨x, hx, decide_eq_true rfl⟩
/-- What stands ahead. -/
theorem stands {l : List NoteM} {S : List Int} (hp : S.Pairwise (pre (ltX l))) {k i : Nat} (hk : k < i) (hi : i < S.length) : pre (ltX l) (S.getD k 0) (S.getD i 0) := srt_of hp k i (Nat.zero_le _) hk hi
end Go.Proofs.Ytgjamldcglebjaa
