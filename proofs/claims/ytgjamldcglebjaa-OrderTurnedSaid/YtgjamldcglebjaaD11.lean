/- A logic of data for Go functions: a statement whose order is open: pure operations first, then the rest in each of its orders. No program in sight. -/
import Derived.Test.YtgjamldcglebjaaD10
namespace Go.Proofs.Ytgjamldcglebjaa.DL
open Go.RowKit

section
variable {P : Program} {N : Nat} {ops : Array Oper} {Q : DPost} {env : Env} {M M0 : Mem} {o : Oper} {rest : List Oper}

/-- What an operation waits for, and what that waits for .. -/
inductive Reach (l : List Oper) : Nat → Nat → Prop
  | one {i j : Nat} {o : Oper} (ho : l[i]? = some o) (h : j ∈ ons o) : Reach l i j
  | more {i m j : Nat} {o : Oper} (ho : l[i]? = some o) (h : m ∈ ons o) (r : Reach l m j) : Reach l i j

def maskOf (ms : List Nat) (o : Oper) : Nat := (ons o).foldl (fun s j => s ||| (2 ^ j ||| ms.getD j 0)) 0
def masks (l : List Oper) : List Nat := l.foldl (fun ms o => ms ++ [maskOf ms o]) []

theorem maskOf_bit (ms : List Nat) (o : Oper) (j : Nat) (h : (maskOf ms o).testBit j = true) : ∃ m ∈ ons o, m = j ∨ (ms.getD m 0).testBit j = true := by
  have key : ∀ (js : List Nat) (s : Nat), (js.foldl (fun s j => s ||| (2 ^ j ||| ms.getD j 0)) s).testBit j = true → s.testBit j = true ∨ ∃ m ∈ js, m = j ∨ (ms.getD m 0).testBit j = true := by
    intro js
    induction js with
    | nil => intro s h; exact .inl h
    | cons a js ih =>
      intro s h
      rcases ih _ h with h | ⟨m, hm, hh⟩
      · rw [Nat.testBit_or, Nat.testBit_or, Bool.or_eq_true, Bool.or_eq_true, Nat.testBit_two_pow] at h
        rcases h with h | h | h
        · exact .inl h
        · exact .inr ⟨a, by simp, .inl (by simpa using h)⟩
        · exact .inr ⟨a, by simp, .inr h⟩
      · exact .inr ⟨m, by simp [hm], hh⟩
  rcases key _ 0 h with h | h
  · simp at h
  · exact h

theorem masks_reach (l : List Oper) : ∀ (i j : Nat), ((masks l).getD i 0).testBit j = true → Reach l i j := by
  have key : ∀ (r p : List Oper) (ms : List Nat), p ++ r = l → ms.length = p.length → (∀ i j, (ms.getD i 0).testBit j = true → Reach l i j) →
      ∀ i j, ((r.foldl (fun ms o => ms ++ [maskOf ms o]) ms).getD i 0).testBit j = true → Reach l i j := by
    intro r
    induction r with
    | nil => intro p ms _ _ h; exact h
    | cons o r ih =>
      intro p ms hp hl h
      refine ih (p ++ [o]) _ (by simp [← hp]) (by simp [hl]) fun i j hb => ?_
      by_cases hi : i < ms.length
      · refine h i j ?_
        rw [List.getD_eq_getElem?_getD, List.getElem?_append_left hi, ← List.getD_eq_getElem?_getD] at hb
        exact hb
      · by_cases he : i = ms.length
        · subst he
          rw [List.getD_eq_getElem?_getD, List.getElem?_append_right (Nat.le_refl _)] at hb
          simp only [Nat.sub_self, List.getElem?_cons_zero, Option.getD_some] at hb
          obtain ⟨m, hm, hh⟩ := maskOf_bit ms o j hb
          have ho : l[ms.length]? = some o := by rw [← hp, hl, List.getElem?_append_right (Nat.le_refl _)]; simp
          rcases hh with rfl | hh
          · exact .one ho hm
          · exact .more ho hm (h m j hh)
        · rw [List.getD_eq_getElem?_getD, List.getElem?_append_right (by omega), List.getElem?_eq_none (by simp; omega)] at hb
          simp at hb
  exact key l [] [] rfl rfl fun i j h => by simp at h

theorem reach_listed {l : List Oper} {S : Nat → Bool} (hcl : ∀ (i : Nat) o, l[i]? = some o → S i = true → ∀ j ∈ ons o, S j = true) {i j : Nat} (h : Reach l i j) : (∀ o, l[i]? = some o → ∀ j ∈ ons o, S j = true) → S j = true := by
  induction h with
  | one ho h => exact fun k => k _ ho _ h
  | more ho h r ih => exact fun k => ih fun o ho' j hj => hcl _ o ho' (k _ ho _ h) j hj

theorem DAny.more : ∀ (f g : Nat) (L : Array Bool) (env : Env) (M : Mem), f ≤ g → DAny P N M0 ops Q f L env M → DAny P N M0 ops Q g L env M
  | 0, 0, _, _, _, _, h => h
  | 0, g + 1, L, env, M, _, h => ⟨fun _ => h.2, fun i hi => (by rw [h.1] at hi; cases hi)⟩
  | f + 1, g + 1, L, env, M, hle, h => ⟨h.1, fun i hi o ho => by
      intro x0 a w hx hat
      have h1 := h.2 i hi o ho x0 a w hx hat
      have hup : ∀ e a w, up x0 N (thenQ (DAny P N M0 ops Q f (L.setIfInBounds i true)) Q) e a w → up x0 N (thenQ (DAny P N M0 ops Q g (L.setIfInBounds i true)) Q) e a w := fun e a w ⟨env', M', hat', hq⟩ => ⟨env', M', hat', by
        cases e with
        | normal => exact DAny.more f g _ _ _ (by omega) hq
        | _ => exact hq⟩
      unfold wpList at h1 ⊢
      split
      · rename_i hw
        rw [if_pos hw] at h1
        exact h1.imp (wp_exits (fun a w h => hup _ _ _ h) fun e a w _ h => hup e a w h) fun ⟨h2, a2, w2, h3⟩ => ⟨h2, a2, w2, hup _ _ _ h3⟩
      · rename_i hw
        rw [if_neg hw] at h1
        exact hup _ _ _ h1⟩

/-- The same, step by step. -/
def DDr2 (P : Program) (N : Nat) (M0 : Mem) (l0 : List Oper) (Q : DPost) (k0 : Nat) : Nat → List Oper → Env → Mem → Prop
  | 0, _, env, M => DAny P N M0 l0.toArray Q (l0.length - k0) (List.replicate k0 true ++ List.replicate (l0.length - k0) false).toArray env M
  | k + 1, o :: l, env, M => ∃ r d, o.dst = some d ∧ Nat.blt d N = true ∧ OpQ P N M0 l0.toArray (restr env (o.looksAt l0.toArray)) M o r ∧ DDr2 P N M0 l0 Q k0 k l ((d, r) :: env) M
  | _ + 1, [], _, _ => False

theorem DDr2.split {l0 : List Oper} {k0 : Nat} : ∀ (k : Nat) (l : List Oper) (env : Env), DDr2 P N M0 l0 Q k0 k l env M → ∃ dr : List (Nat × SV), dr.length = k ∧ k ≤ l.length ∧
    (∀ (i d : Nat) (r : SV), dr[i]? = some (d, r) → ∃ o, l[i]? = some o ∧ o.dst = some d ∧ d < N ∧ OpQ P N M0 l0.toArray (restr ((dr.take i).reverse ++ env) (o.looksAt l0.toArray)) M o r) ∧ DDr2 P N M0 l0 Q k0 0 [] (dr.reverse ++ env) M
  | 0, l, env, h => ⟨[], rfl, Nat.zero_le _, fun i d r hi => by simp at hi, h⟩
  | k + 1, [], env, h => h.elim
  | k + 1, o :: l, env, h => by
    obtain ⟨r, d, h1, h2, h3, h4⟩ := h
    obtain ⟨dr, a1, a2, a3, a4⟩ := DDr2.split k l _ h4
    refine ⟨(d, r) :: dr, by simp [a1], by simpa using a2, fun i d' r' hi => ?_, by simpa using a4⟩
    cases i with
    | zero =>
      simp at hi
      obtain ⟨rfl, rfl⟩ := hi
      exact ⟨o, rfl, h1, by simpa using h2, by simpa using h3⟩
    | succ i =>
      obtain ⟨o', b1, b2, b3, b4⟩ := a3 i d' r' (by simpa using hi)
      exact ⟨o', by simpa using b1, b2, b3, by simpa using b4⟩

theorem DDr2.val {l0 l : List Oper} {k0 k d : Nat} {r : SV} (hg : gd l0.toArray (restr env (o.looksAt l0.toArray)) o = some true) (hd : o.dst = some d) (hN : Nat.blt d N = true) (hv : OpVal P N (restr env (o.looksAt l0.toArray)) M o r) (h : DDr2 P N M0 l0 Q k0 k l ((d, r) :: env) M) :
    DDr2 P N M0 l0 Q k0 (k + 1) (o :: l) env M := by
  refine ⟨r, d, hd, hN, .inr ⟨hg, fun γ Pr x0 a w Q' hx hr hf => ?_⟩, h⟩
  obtain ⟨hok, v, hrun, hrep⟩ := hv γ Pr x0 a w hr
  unfold Oper.wp
  rw [hrun, Oper.upon_value]
  exact ⟨v, Pr, rfl, hrep, hok, fun e2 h2 => ⟨h2, hf⟩⟩
theorem DDr2.off {l0 l : List Oper} {k0 k d : Nat} (hg : gd l0.toArray (restr env (o.looksAt l0.toArray)) o = some false) (hd : o.dst = some d) (hN : Nat.blt d N = true) (h : DDr2 P N M0 l0 Q k0 k l ((d, .tup []) :: env) M) : DDr2 P N M0 l0 Q k0 (k + 1) (o :: l) env M :=
  ⟨.tup [], d, hd, hN, .inl ⟨hg, rfl⟩, h⟩
theorem DDr2.call {l0 l : List Oper} {k0 k d : Nat} {cl : Call} {f : FuncId} {fn : Func} {c : Code} {ts rs : List TV} (hg : gd l0.toArray (restr env (o.looksAt l0.toArray)) o = some true) (hd : o.dst = some d) (hN : Nat.blt d N = true) (ho : o.op = .call cl) (hcl : cl.callee = .value (.func f))
    (hf : P.funcs[f]? = some fn) (hb : fn.body = some c) (hn : (fn.name == "runtime.NumGoroutine") = false) (hx : opvs (restr env (o.looksAt l0.toArray)) cl.args.toList = some ts) (hp : ∀ t ∈ ts, t.pure) (hc : DCalls P f ts (· = rs))
    (h : DDr2 P N M0 l0 Q k0 k l ((d, ret1 rs) :: env) M) : DDr2 P N M0 l0 Q k0 (k + 1) (o :: l) env M := by
  refine ⟨ret1 rs, d, hd, hN, .inr ⟨hg, fun γ Pr x0 a w Q' _ hr hfr => ?_⟩, h⟩
  unfold Oper.wp
  rw [run_call ho hcl hf hb hn a.eval rfl, Oper.upon_enter]
  have hargs : cl.args.map a.eval = (cl.args.toList.map a.eval).toArray := by apply Array.ext'; rw [Array.toList_map]
  rw [hargs]
  refine (hc Pr w _ hr.prot ((opvs_rep hr _ _ hx).pure hp)).mono fun e w' ⟨us, rs', Pr', he, hB, hE, hV, hR, hP, hQ⟩ => ?_
  subst he
  subst hQ
  exact ⟨_, Pr', rfl, SRep.ret1 (hR.pure hP), ret1_ok hP, fun e2 h2 => ⟨h2.called hB hE hV, hfr.called hr hB hE⟩⟩
/-- The first ones are through: the rest, in each of its orders. -/
theorem DDr2.done {l0 l : List Oper} {k0 : Nat} {L : List Bool} (n : Nat) (hn : l0.length - k0 = n) (hL : List.replicate k0 true ++ List.replicate (l0.length - k0) false = L) (h : DAny P N M0 l0.toArray Q n L.toArray env M) : DDr2 P N M0 l0 Q k0 0 l env M := by
  subst hn hL
  exact h

/-- What is known behind a statement, told once: up's slots, ds are forgotten; mup's blocks. -/
theorem DCode.cut {c : Code} (up : Env) (ds : List Nat) (mup : Mem) (hu : okE (mup ++ M) up) (hm : okM (mup ++ M) mup)
    (h1 : DCode P N M0 c (fun e env' M' => e = .normal ∧ Sub (up ++ junks ds env) env' ∧ MSubX [] (mup ++ M) M') env M)
    (h2 : ∀ env' M', Wk N M0 env' M' (up ++ junks ds env) (mup ++ M) → Q .normal env' M') : DCode P N M0 c Q env M := by
  intro x0 a w hx hat
  obtain ⟨γ, Pr, hrel, hfr⟩ := hat
  have hh := okM_has (M := M) mup hm
  refine wp_mono (h1 x0 a w hx ⟨γ, Pr, hrel, hfr⟩) fun e a' w' ⟨env', M', hat', he, hs, hms⟩ => ?_
  subst he
  refine ⟨_, _, hat', ?_⟩
  refine h2 _ _ (Wk.both hs hms.sub (okE_lk _ _ hu fun i => ?_) (okM_get _ hm fun b k hk => Blk.ok_le hh (hrel.memB b k hk)) fun b hb => hh b (hfr.has b (by rw [hx]; exact hb)))
  rw [lk_junks]
  split
  · trivial
  · exact SV.ok_le hh (hrel.slotB i)
/-- Data told in another way. -/
theorem OpVal.re {x y : DV} (h : OpVal P N env M o (.v (.one (.d x)))) (e : DEq x y) : OpVal P N env M o (.v (.one (.d y))) := fun γ Pr x0 a w hr => by
  obtain ⟨_, v, h1, h2⟩ := h γ Pr x0 a w hr
  exact ⟨trivial, v, h1, e _ _ _ h2⟩
end
end Go.Proofs.Ytgjamldcglebjaa.DL
