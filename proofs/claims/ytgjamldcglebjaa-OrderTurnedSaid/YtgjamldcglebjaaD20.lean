/- A logic of data for Go functions: a statement whose order is open, of which some operations may come at any time ahead of what needs them. No program in sight. -/
import Derived.Test.YtgjamldcglebjaaD19
namespace Go.Proofs.Ytgjamldcglebjaa.DL
open Go.RowKit

section
variable {P : Program} {N : Nat} {ops : Array Oper} {Q : DPost} {env : Env} {M M0 : Mem} {γ : Cn} {Pr : Prot} {x0 : Ctx} {w : World} {a : Act} {o : Oper} {rest : List Oper}

/-- Nothing is asked of a panic: there is none. -/
def NP (Q : DPost) : Prop := ∀ c env M, ¬ Q (.panic c) env M
theorem NP.thenQ {K : Env → Mem → Prop} (h : NP Q) : NP (thenQ K Q) := fun c env M hq => h c env M hq
theorem NP.seqQ {y : Code} (h : NP Q) : NP (seqQ P N M0 y Q) := fun c env M hq => h c env M hq
theorem NP.inBlockQ {id : Nat} (h : NP Q) : NP (inBlockQ id Q) := fun c env M hq => h c env M hq
theorem NP.endQ {T : TypeId → Option TyI} {rs : List ResultVar} {R : List TV → Prop} : NP (endQ T rs R) := fun _ _ _ hq => hq
theorem NP.endQM {T : TypeId → Option TyI} {rs : List ResultVar} {M1 : Mem} {R : List TV → Mem → Prop} : NP (endQM T rs M1 R) := fun _ _ _ hq => hq

/-- An operation's value, whatever the world. -/
def OpLz (P : Program) (N : Nat) (ops : Array Oper) (env : Env) (o : Oper) (r : SV) : Prop :=
  gd ops env o = some true ∧ ∀ γ Pr x0 a w M, Rel γ Pr x0 N env M a w → r.ok M ∧ ∃ v, (∀ w', (execOp a.eval o).run P w' = .ok (.value v) w') ∧ SRep γ Pr w r v

def noSel (o : Oper) : Bool := match o.op with | .select .. => false | _ => true
/-- Step by step: the first ones, of which the lazy ones' values hang on no world. -/
def DDr3 (P : Program) (N : Nat) (M0 : Mem) (l0 : List Oper) (Q : DPost) (k0 : Nat) (lz : List Nat) : Nat → Nat → List Oper → Env → Mem → Prop
  | _, 0, _, env, M => DAny P N M0 l0.toArray Q (l0.length - k0) (List.replicate k0 true ++ List.replicate (l0.length - k0) false).toArray env M
  | i, k + 1, o :: l, env, M => ∃ r d, o.dst = some d ∧ Nat.blt d N = true ∧ OpQ P N M0 l0.toArray (restr env (o.looksAt l0.toArray)) M o r ∧ (lz.contains i = true → OpLz P N l0.toArray (restr env (o.looksAt l0.toArray)) o r) ∧ DDr3 P N M0 l0 Q k0 lz (i + 1) k l ((d, r) :: env) M
  | _, _ + 1, [], _, _ => False

theorem DDr3.split {l0 : List Oper} {k0 : Nat} {lz : List Nat} : ∀ (k n : Nat) (l : List Oper) (env : Env), DDr3 P N M0 l0 Q k0 lz n k l env M → ∃ dr : List (Nat × SV), dr.length = k ∧ k ≤ l.length ∧
    (∀ (i d : Nat) (r : SV), dr[i]? = some (d, r) → ∃ o, l[i]? = some o ∧ o.dst = some d ∧ d < N ∧ OpQ P N M0 l0.toArray (restr ((dr.take i).reverse ++ env) (o.looksAt l0.toArray)) M o r ∧ (lz.contains (n + i) = true → OpLz P N l0.toArray (restr ((dr.take i).reverse ++ env) (o.looksAt l0.toArray)) o r)) ∧ DDr3 P N M0 l0 Q k0 lz (n + k) 0 [] (dr.reverse ++ env) M
  | 0, n, l, env, h => ⟨[], rfl, Nat.zero_le _, fun i d r hi => by simp at hi, h⟩
  | k + 1, n, [], env, h => h.elim
  | k + 1, n, o :: l, env, h => by
    obtain ⟨r, d, h1, h2, h3, hz, h4⟩ := h
    obtain ⟨dr, a1, a2, a3, a4⟩ := DDr3.split k (n + 1) l _ h4
    refine ⟨(d, r) :: dr, by simp [a1], by simpa using a2, fun i d' r' hi => ?_, by rw [show n + (k + 1) = n + 1 + k by omega]; simpa using a4⟩
    cases i with
    | zero =>
      simp at hi
      obtain ⟨rfl, rfl⟩ := hi
      exact ⟨o, rfl, h1, by simpa using h2, by simpa using h3, by simpa using hz⟩
    | succ i =>
      obtain ⟨o', b1, b2, b3, b4, b5⟩ := a3 i d' r' (by simpa using hi)
      exact ⟨o', by simpa using b1, b2, b3, by simpa using b4, by rw [show n + (i + 1) = n + 1 + i by omega]; simpa using b5⟩

section
variable {l0 l : List Oper} {k0 i k d : Nat} {lz : List Nat} {r : SV}
theorem DDr3.val (hz : lz.contains i = false) (hg : gd l0.toArray (restr env (o.looksAt l0.toArray)) o = some true) (hd : o.dst = some d) (hN : Nat.blt d N = true) (hv : OpVal P N (restr env (o.looksAt l0.toArray)) M o r) (h : DDr3 P N M0 l0 Q k0 lz (i + 1) k l ((d, r) :: env) M) :
    DDr3 P N M0 l0 Q k0 lz i (k + 1) (o :: l) env M := by
  refine ⟨r, d, hd, hN, .inr ⟨hg, fun γ Pr x0 a w Q' hx hr hf => ?_⟩, fun e => (by rw [hz] at e; cases e), h⟩
  obtain ⟨hok, v, hrun, hrep⟩ := hv γ Pr x0 a w hr
  unfold Oper.wp
  rw [hrun, Oper.upon_value]
  exact ⟨v, Pr, rfl, hrep, hok, fun e2 h2 => ⟨h2, hf⟩⟩
theorem DDr3.off (hz : lz.contains i = false) (hg : gd l0.toArray (restr env (o.looksAt l0.toArray)) o = some false) (hd : o.dst = some d) (hN : Nat.blt d N = true) (h : DDr3 P N M0 l0 Q k0 lz (i + 1) k l ((d, .tup []) :: env) M) : DDr3 P N M0 l0 Q k0 lz i (k + 1) (o :: l) env M :=
  ⟨.tup [], d, hd, hN, .inl ⟨hg, rfl⟩, fun e => (by rw [hz] at e; cases e), h⟩
theorem DDr3.call {cl : Call} {f : FuncId} {fn : Func} {c : Code} {ts rs : List TV} (hz : lz.contains i = false) (hg : gd l0.toArray (restr env (o.looksAt l0.toArray)) o = some true) (hd : o.dst = some d) (hN : Nat.blt d N = true) (ho : o.op = .call cl) (hcl : cl.callee = .value (.func f))
    (hf : P.funcs[f]? = some fn) (hb : fn.body = some c) (hn : (fn.name == "runtime.NumGoroutine") = false) (hx : opvs (restr env (o.looksAt l0.toArray)) cl.args.toList = some ts) (hp : ∀ t ∈ ts, t.pure) (hc : DCalls P f ts (· = rs))
    (h : DDr3 P N M0 l0 Q k0 lz (i + 1) k l ((d, ret1 rs) :: env) M) : DDr3 P N M0 l0 Q k0 lz i (k + 1) (o :: l) env M := by
  refine ⟨ret1 rs, d, hd, hN, .inr ⟨hg, fun γ Pr x0 a w Q' _ hr hfr => ?_⟩, fun e => (by rw [hz] at e; cases e), h⟩
  unfold Oper.wp
  rw [run_call ho hcl hf hb hn a.eval rfl, Oper.upon_enter]
  have hargs : cl.args.map a.eval = (cl.args.toList.map a.eval).toArray := by apply Array.ext'; rw [Array.toList_map]
  rw [hargs]
  refine (hc Pr w _ hr.prot ((opvs_rep hr _ _ hx).pure hp)).mono fun e w' ⟨us, rs', Pr', he, hB, hE, hV, hR, hP, hQ⟩ => ?_
  subst he
  subst hQ
  exact ⟨_, Pr', rfl, SRep.ret1 (hR.pure hP), ret1_ok hP, fun e2 h2 => ⟨h2.called hB hE hV, hfr.called hr hB hE⟩⟩
theorem DDr3.done {L : List Bool} (n : Nat) (hn : l0.length - k0 = n) (hL : List.replicate k0 true ++ List.replicate (l0.length - k0) false = L) (h : DAny P N M0 l0.toArray Q n L.toArray env M) : DDr3 P N M0 l0 Q k0 lz i 0 l env M := by
  subst hn hL
  exact h
/-- A lazy one: its value hangs on no world. -/
theorem DDr3.lazy (hd : o.dst = some d) (hN : Nat.blt d N = true) (hz : OpLz P N l0.toArray (restr env (o.looksAt l0.toArray)) o r) (h : DDr3 P N M0 l0 Q k0 lz (i + 1) k l ((d, r) :: env) M) : DDr3 P N M0 l0 Q k0 lz i (k + 1) (o :: l) env M := by
  refine ⟨r, d, hd, hN, .inr ⟨hz.1, fun γ Pr x0 a w Q' hx hr hf => ?_⟩, fun _ => hz, h⟩
  obtain ⟨hok, v, hrun, hrep⟩ := hz.2 γ Pr x0 a w M hr
  unfold Oper.wp
  rw [hrun w, Oper.upon_value]
  exact ⟨v, Pr, rfl, hrep, hok, fun e2 h2 => ⟨h2, hf⟩⟩
def SV.free : SV → Bool
  | .v (.one (.d _)) | .v (.one (.row _ _)) | .v (.one (.rp _ _ _)) | .v (.agg []) => true
  | _ => false
theorem SV.free_ok {r : SV} (h : r.free = true) (M : Mem) : r.ok M := by
  unfold SV.free at h
  split at h
  · trivial
  · trivial
  · trivial
  · intro c hc; cases hc
  · cases h
theorem OpLz.move {x : Operand} (hg : gd ops env o = some true) (ho : o.op = .move x) (hx : opv env x = r) (hf : r.free = true) : OpLz P N ops env o r := by
  refine ⟨hg, fun γ Pr x0 a w M h => ⟨SV.free_ok hf M, a.eval x, fun w' => ?_, ?_⟩⟩
  · simp [execOp, ho]
  · have := h.opv x
    rwa [hx] at this
end
end
end Go.Proofs.Ytgjamldcglebjaa.DL
