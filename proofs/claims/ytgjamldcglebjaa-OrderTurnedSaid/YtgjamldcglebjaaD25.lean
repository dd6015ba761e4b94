/- A logic of data for Go functions: a statement whose order is open, told by its states: for each set of operations that may have been run, what is known then. No program in sight. -/
import Derived.Test.YtgjamldcglebjaaD24
namespace Go.Proofs.Ytgjamldcglebjaa.DL
open Go.RowKit

section
variable {P : Program} {N : Nat} {ops : Array Oper} {Q : DPost} {env : Env} {M M0 : Mem} {γ : Cn} {Pr : Prot} {x0 : Ctx} {w : World} {a : Act} {o : Oper} {rest : List Oper}
variable {l : List Oper} {f : Nat} {L : List Bool}

/-- A memoryless operation, whose value may hang on what blocks there are. -/
def OpLzM (P : Program) (N : Nat) (ops : Array Oper) (env : Env) (M : Mem) (o : Oper) (r : SV) : Prop :=
  gd ops env o = some true ∧ ∀ γ Pr x0 a w, Rel γ Pr x0 N env M a w → r.ok M ∧ ∃ v, (∀ w', (execOp a.eval o).run P w' = .ok (.value v) w') ∧ SRep γ Pr w r v
theorem OpLzM.iaA {T : TypeId → Option TyI} (hT : TOk P T) {t e : Nat} {x y : Operand} {b k len s0 b0 s1 b1 : Nat} {z0 z1 : Value} {d1 : TypeDesc} {kd : IntKind} {n : Int} (hg : gd ops env o = some true) (ho : o.op = .indexAddr t x y) (ht : T t = some ⟨.array len e, s0, b0, z0⟩) (hj : T e = some ⟨d1, s1, b1, z1⟩)
    (hx : opv env x = .v (.one (.ptr b k))) (hy : opv env y = vI kd n) (h0 : 0 ≤ n) (h1 : n < len) : OpLzM P N ops env M o (.v (.one (.ptr b (k + n.toNat * s1)))) := by
  refine ⟨hg, fun γ Pr x0 a w h => ?_⟩
  have h2 := h.opv x; have h3 := opv_ok h.slotB x; have h4 := opI h hy
  rw [hx] at h2 h3
  have he : a.eval x = .pointer (some ⟨γ.blk b, k, none⟩) := h2
  refine ⟨h3, .pointer (some ⟨γ.blk b, k + n.toNat * s1, none⟩), fun w' => ?_, rfl⟩
  have hu := run_under (w := w') hT ht
  simp only [] at hu
  simp only [execOp, ho, he, h4, Instr.indexAt, asIntOf, Sem.run_bind, Sem.run_pure, Result.andThen_ok, hu]
  simp [Instr.sureAddr, hu, h0, h1, run_sizeOf hT hj, Addr.add_mid]
abbrev WState : Type := Nat × List Bool × Env × Mem
/-- Operation j may be run at s, and leads to t. -/
def WOne (P : Program) (N : Nat) (M0 : Mem) (l : List Oper) (ds : List Nat) (env : Env) (M : Mem) (S : List WState) (s : WState) (j : Nat) : Prop :=
  ∃ o t, l[j]? = some o ∧ t ∈ S ∧ s.1 = t.1 + 1 ∧ s.2.1.set j true = t.2.1 ∧
    DOps P N M0 l.toArray (fun e E' M' => e = .normal ∧ Sub (t.2.2.1 ++ junks ds env) E' ∧ MSubX [] (t.2.2.2 ++ M) M') [o] (s.2.2.1 ++ junks ds env) (s.2.2.2 ++ M)
def WAlts (P : Program) (N : Nat) (M0 : Mem) (l : List Oper) (ds : List Nat) (env : Env) (M : Mem) (S : List WState) (s : WState) : List Nat → Prop
  | [] => True
  | j :: r => WOne P N M0 l ds env M S s j ∧ WAlts P N M0 l ds env M S s r
def WebN (P : Program) (N : Nat) (M0 : Mem) (l : List Oper) (ds : List Nat) (env : Env) (M : Mem) (ue : Env) (me : Mem) (S : List WState) : List WState → Prop
  | [] => True
  | s :: r => (okE (s.2.2.2 ++ M) s.2.2.1 ∧ okM (s.2.2.2 ++ M) s.2.2.2 ∧ (readyL l s.2.1 = [] → s.1 = 0 ∧ s.2.2 = (ue, me)) ∧ WAlts P N M0 l ds env M S s (readyL l s.2.1)) ∧ WebN P N M0 l ds env M ue me S r
section
variable {ds : List Nat} {S : List WState} {s : WState} {ue : Env} {me : Mem}
theorem WAlts.all : ∀ {is : List Nat}, WAlts P N M0 l ds env M S s is → ∀ i ∈ is, WOne P N M0 l ds env M S s i
  | [], _, i, hi => by cases hi
  | j :: r, ⟨h1, h3⟩, i, hi => by
    rcases List.mem_cons.1 hi with rfl | hi
    · exact h1
    · exact h3.all i hi
theorem WebN.all : ∀ {R : List WState}, WebN P N M0 l ds env M ue me S R → ∀ s ∈ R, okE (s.2.2.2 ++ M) s.2.2.1 ∧ okM (s.2.2.2 ++ M) s.2.2.2 ∧ (readyL l s.2.1 = [] → s.1 = 0 ∧ s.2.2 = (ue, me)) ∧ WAlts P N M0 l ds env M S s (readyL l s.2.1)
  | [], _, i, hi => by cases hi
  | j :: r, ⟨h1, h3⟩, i, hi => by
    rcases List.mem_cons.1 hi with rfl | hi
    · exact h1
    · exact h3.all i hi
theorem WAlts.nil : WAlts P N M0 l ds env M S s [] := trivial
theorem WAlts.cons {j : Nat} {r : List Nat} {f f' : Nat} {L L' : List Bool} {u u' : Env} {m m' : Mem} (t : Nat) (ho : l[j]? = some o) (ht : S[t]? = some (f', L', u', m')) (hf : f = f' + 1) (hL : L.set j true = L')
    (h : DOps P N M0 l.toArray (fun e E' M' => e = .normal ∧ Sub (u' ++ junks ds env) E' ∧ MSubX [] (m' ++ M) M') [o] (u ++ junks ds env) (m ++ M)) (hr : WAlts P N M0 l ds env M S (f, L, u, m) r) : WAlts P N M0 l ds env M S (f, L, u, m) (j :: r) :=
  ⟨⟨o, (f', L', u', m'), ho, List.mem_of_getElem? ht, hf, hL, h⟩, hr⟩
theorem WebN.nil : WebN P N M0 l ds env M ue me S [] := trivial
theorem WebN.cons {R : List WState} {j : Nat} {js : List Nat} {f : Nat} {L : List Bool} {u : Env} {m : Mem} (hr : readyL l L = j :: js) (h1 : okE (m ++ M) u) (h2 : okM (m ++ M) m) (h3 : WAlts P N M0 l ds env M S (f, L, u, m) (j :: js)) (h4 : WebN P N M0 l ds env M ue me S R) : WebN P N M0 l ds env M ue me S ((f, L, u, m) :: R) :=
  ⟨⟨h1, h2, (fun e => by rw [hr] at e; cases e), (by rw [hr]; exact h3)⟩, h4⟩
theorem WebN.last {R : List WState} {L : List Bool} (hr : readyL l L = []) (h1 : okE (me ++ M) ue) (h2 : okM (me ++ M) me) (h4 : WebN P N M0 l ds env M ue me S R) : WebN P N M0 l ds env M ue me S ((0, L, ue, me) :: R) :=
  ⟨⟨h1, h2, fun _ => ⟨rfl, rfl⟩, (by rw [hr]; exact WAlts.nil)⟩, h4⟩

end
end
end Go.Proofs.Ytgjamldcglebjaa.DL
