/- A logic of data for Go functions: a statement whose order is open, walked in each of its orders. No program in sight. -/
import Derived.Test.YtgjamldcglebjaaD9
namespace Go.Proofs.Ytgjamldcglebjaa.DL
open Go.RowKit

section
variable {P : Program} {N : Nat} {ops : Array Oper} {Q : DPost} {env : Env} {M M0 : Mem} {o : Oper} {rest : List Oper}

theorem wp_exits {Q0 Q1 : Exit → Act → World → Prop} {a : Act} {w : World} {K K' : Act → World → Prop} (hK : ∀ a w, K a w → K' a w) (hQ : ∀ e a w, e ≠ .normal → Q0 e a w → Q1 e a w)
    (hh : o.wp P a w K Q0) : o.wp P a w K' Q1 := by
  unfold Oper.wp at *
  generalize (execOp a.eval o).run P w = r at *
  have out : LetsOut Q0 → LetsOut Q1 := fun ⟨a, w, h⟩ => ⟨a, w, hQ _ _ _ (by simp) h⟩
  cases r with
  | ok n w' =>
    cases n <;> simp only [Oper.upon] at hh ⊢ <;>
      first
        | exact hK _ _ hh
        | exact Calls.mono hh (fun e w'' he => by cases e <;> first | exact hK _ _ he | exact hQ _ _ _ (by simp) he | exact out he)
        | exact Rows.mono hh (fun _ _ he => hK _ _ he)
  | halt x w' => cases x <;> simp only [Oper.upon] at hh ⊢ <;> first | exact hh | exact hQ _ _ _ (by simp) hh

def DAny (P : Program) (N : Nat) (M0 : Mem) (ops : Array Oper) (Q : DPost) : Nat → Array Bool → Env → Mem → Prop
  | 0, listed, env, M => Region.ready .any ops listed = [] ∧ Q .normal env M
  | f + 1, listed, env, M => (Region.ready .any ops listed = [] → Q .normal env M) ∧
      ∀ i ∈ Region.ready .any ops listed, ∀ o, ops[i]? = some o → DOps P N M0 ops (thenQ (DAny P N M0 ops Q f (listed.setIfInBounds i true)) Q) [o] env M

theorem DAny.wp : ∀ (f : Nat) (listed : Array Bool) (env : Env) (M : Mem), DAny P N M0 ops Q f listed env M → ∀ x0 a w, x0.M0 = M0 → At x0 N env M a w → wpAny P .any ops (up x0 N Q) f listed a w
  | 0, listed, env, M, h, x0, a, w, _, hat => ⟨h.1, env, M, hat, h.2⟩
  | f + 1, listed, env, M, h, x0, a, w, hx, hat => ⟨fun e => ⟨env, M, hat, h.1 e⟩, fun i hi => by
      have K : ∀ a' w', wpList P ops (up x0 N (thenQ (DAny P N M0 ops Q f (listed.setIfInBounds i true)) Q)) [] a' w' → wpAny P .any ops (up x0 N Q) f (listed.setIfInBounds i true) a' w' := fun a' w' ⟨env', M', hat', hq⟩ => DAny.wp f _ env' M' hq x0 a' w' hx hat'
      have hQ : ∀ e a w, e ≠ .normal → up x0 N (thenQ (DAny P N M0 ops Q f (listed.setIfInBounds i true)) Q) e a w → up x0 N Q e a w := fun e a w hne ⟨env', M', hat', hq⟩ => ⟨env', M', hat', by cases e <;> first | exact absurd rfl hne | exact hq⟩
      unfold wpOp
      cases ho : ops[i]? with
      | none =>
        simp only [Region.ready, List.mem_filter, ho] at hi
        simp at hi
      | some o =>
        have h1 := h.2 i hi o ho x0 a w hx hat
        unfold wpList at h1
        simp only
        split
        · rename_i hw
          rw [if_pos hw] at h1
          exact h1.imp (wp_exits K hQ) fun ⟨h2, a2, _, h3⟩ => ⟨h2, a2, _, hQ _ _ _ (by simp) h3⟩
        · rename_i hw
          rw [if_neg hw] at h1
          exact K _ _ h1⟩

def readyL (l : List Oper) (L : List Bool) : List Nat :=
  (List.range l.length).filter fun i => !L.getD i true && match l[i]? with | none => false | some o => (ons o).all fun j => L.getD j false
theorem readyL_eq (l : List Oper) (L : List Bool) : Region.ready .any l.toArray L.toArray = readyL l L := by
  unfold Region.ready readyL
  simp only [List.size_toArray, List.getElem?_toArray]
  apply List.filter_congr
  intro i _
  have e1 : L.toArray.getD i true = L.getD i true := by simp [Array.getD_eq_getD_getElem?, List.getD_eq_getElem?_getD]
  rw [e1]
  cases l[i]? with
  | none => rfl
  | some o =>
    simp only [Option.map_some, Option.getD_some, ons]
    congr 1
    rw [Bool.eq_iff_iff, Array.all_eq_true', List.all_eq_true]
    simp only [List.mem_map, List.mem_filter, Array.mem_toList_iff]
    constructor
    · rintro h j ⟨e, ⟨he, hb⟩, rfl⟩
      have := h e he
      simpa [hb, Array.getD_eq_getD_getElem?, List.getD_eq_getElem?_getD] using this
    · intro h e he
      cases hb : Region.binds .any e with
      | false => rfl
      | true =>
        have := h e.on ⟨e, ⟨he, hb⟩, rfl⟩
        simpa [Array.getD_eq_getD_getElem?, List.getD_eq_getElem?_getD] using this

theorem DCode.any {id : Nat} {l : List Oper} (n : Nat) (hn : l.length = n) (hm : P.follows .mixedOrders = true) (h : DAny P N M0 l.toArray Q n (List.replicate n false).toArray env M) : DCode P N M0 (.region id l.toArray true) Q env M := fun x0 a w hx hat => by
  subst hn
  refine wp_region_any hm (DAny.wp _ _ _ _ ?_ x0 a _ hx hat.drew)
  simpa using h

def DAlts (P : Program) (N : Nat) (M0 : Mem) (l : List Oper) (Q : DPost) (f : Nat) (L : List Bool) (env : Env) (M : Mem) : List Nat → Prop
  | [] => True
  | i :: r => (∃ o, l[i]? = some o ∧ DOps P N M0 l.toArray (thenQ (DAny P N M0 l.toArray Q f (L.set i true).toArray) Q) [o] env M) ∧ DAlts P N M0 l Q f L env M r

section
variable {l : List Oper} {f : Nat} {L : List Bool}
theorem DAlts.all : ∀ {is : List Nat}, DAlts P N M0 l Q f L env M is → ∀ i ∈ is, ∀ o, l.toArray[i]? = some o → DOps P N M0 l.toArray (thenQ (DAny P N M0 l.toArray Q f (L.toArray.setIfInBounds i true)) Q) [o] env M
  | [], _, i, hi, _, _ => by cases hi
  | j :: r, ⟨⟨o', h1, h2⟩, h3⟩, i, hi, o, ho => by
    rcases List.mem_cons.1 hi with rfl | hi
    · rw [List.getElem?_toArray, h1] at ho
      obtain rfl := Option.some.inj ho
      rw [List.setIfInBounds_toArray]
      exact h2
    · exact h3.all i hi o ho

theorem DAny.intro (i : Nat) (is : List Nat) (hr : readyL l L = i :: is) (h : DAlts P N M0 l Q f L env M (i :: is)) : DAny P N M0 l.toArray Q (f + 1) L.toArray env M := by
  have e : Region.ready .any l.toArray L.toArray = i :: is := by rw [readyL_eq, hr]
  exact ⟨fun e' => (by rw [e] at e'; cases e'), by rw [e]; exact h.all⟩
theorem DAny.fin (hr : readyL l L = []) (h : Q .normal env M) : DAny P N M0 l.toArray Q f L.toArray env M := by
  have e : Region.ready .any l.toArray L.toArray = [] := by rw [readyL_eq, hr]
  cases f with
  | zero => exact ⟨e, h⟩
  | succ f => exact ⟨fun _ => h, by rw [e]; intro i hi; cases hi⟩
theorem DAlts.cons {i : Nat} {r : List Nat} (ho : l[i]? = some o) (h : DOps P N M0 l.toArray (thenQ (DAny P N M0 l.toArray Q f (L.set i true).toArray) Q) [o] env M) (hr : DAlts P N M0 l Q f L env M r) : DAlts P N M0 l Q f L env M (i :: r) := ⟨⟨o, ho, h⟩, hr⟩
theorem DAlts.nil : DAlts P N M0 l Q f L env M [] := trivial
end
end
end Go.Proofs.Ytgjamldcglebjaa.DL
