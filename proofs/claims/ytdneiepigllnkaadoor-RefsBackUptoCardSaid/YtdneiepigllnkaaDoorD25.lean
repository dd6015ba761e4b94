/- A logic of data for Go functions: a statement whose order is open, told by its states: for each set of operations that may have been run, what is known then. No program in sight. -/
import Derived.Test.YtdneiepigllnkaaDoorD24
namespace Go.Proofs.YtdneiepigllnkaaDoor.DL
open Go.RowKit

section
variable {P : Program} {N : Nat} {ops : Array Oper} {Q : DPost} {env : Env} {M M0 : Mem} {γ : Cn} {Pr : Prot} {x0 : Ctx} {w : World} {a : Act} {o : Oper} {rest : List Oper}
variable {l : List Oper} {f : Nat} {L : List Bool}

/-- A memoryless operation, whose value may hang on what blocks there are. -/
def OpLzM (P : Program) (N : Nat) (ops : Array Oper) (env : Env) (M : Mem) (o : Oper) (r : SV) : Prop :=
  gd ops env o = some true ∧ ∀ γ Pr x0 a w, Rel γ Pr x0 N env M a w → r.ok M ∧ ∃ v, (∀ w', (execOp a.eval o).run P w' = .ok (.value v) w') ∧ SRep γ Pr w r v
theorem OpLzM.iaA {T : TypeId → Option TyI} (hT : TOk P T) {t e : Nat} {x y : Operand} {b k len s0 b0 s1 b1 : Nat} {z0 z1 : Value} {d1 : TypeDesc} {kd : IntKind} {n : Int} (hg : gd ops env o = some true) (ho : o.op = .indexAddr t x y) (ht : T t = some ⟨.array len e, s0, b0, z0⟩) (hj : T e = some ⟨d1, s1, b1, z1⟩)
    (hx : opv env x = .v (.one (.ptr b k))) (hy : opv env y = vI kd n) (h0 : 0 ≤ n) (h1 : n < len) : OpLzM P N ops env M o (.v (.one (.ptr b (k + n.toNat * s1)))) := by
  refine ⟨hg, fun γ Pr x0 a w h => ?_⟩
  have h2 := h.opv x; have h3 := opv_ok h.slotB x; have h4 := opI h hy
  rw [hx] at h2 h3
  have he : a.eval x = .pointer (some ⟨γ.blk b, k, none⟩) := h2
  refine ⟨h3, .pointer (some ⟨γ.blk b, k + n.toNat * s1, none⟩), fun w' => ?_, rfl⟩
  have hu := run_under (w := w') hT ht
  simp only [] at hu
  simp only [execOp, ho, he, h4, Instr.indexAt, asIntOf, Sem.run_bind, Sem.run_pure, Result.andThen_ok, hu]
  simp [Instr.sureAddr, hu, h0, h1, run_sizeOf hT hj, Addr.add_mid]
theorem DW.takeM (i : Nat) {d : Nat} {r : SV} {L' : List Bool} (ho : l[i]? = some o) (np : NP Q) (hfr : freeOk l L i o = true) (hd : o.dst = some d) (hN : Nat.blt d N = true) (hz : OpLzM P N l.toArray env M o r) (hL : L.set i true = L') (h : DW P N M0 l Q f L' ((d, r) :: env) M) : DW P N M0 l Q (f + 1) L env M := by
  subst hL
  intro x0 a w hx ⟨γ, Pr, hr, hf⟩
  obtain ⟨hg, hq⟩ := hz
  obtain ⟨hok, v, hrun, hrep⟩ := hq γ Pr x0 a w hr
  rw [freeOk, Bool.and_eq_true, Bool.and_eq_true, Bool.and_eq_true] at hfr
  obtain ⟨⟨⟨f1, f2⟩, f3⟩, f4⟩ := hfr
  have g : ∀ (j : Nat) b, L.toArray.getD j b = L.getD j b := fun j b => by simp [Array.getD_eq_getD_getElem?, List.getD_eq_getElem?_getD]
  have hon : l.toArray[i]? = some o := by simpa using ho
  have hsel : ∀ (j : Nat) (p : Oper) cs b, l.toArray[j]? = some p → p.op ≠ .select cs b := fun j p cs b hj e => by
    have := List.all_eq_true.1 f1 p (List.mem_of_getElem? (by simpa using hj))
    rw [noSel, e] at this
    cases this
  refine wpAny_first (oi := o) (v := v) hon hsel (fun c a w hp => ?_) f L.toArray a w (fun j oj hj hne hlj hno => ?_) ?_ (.inl ⟨gd_wanted (ops := l.toArray) hr hg, hrun⟩) ?_
  · obtain ⟨env', M', _, hp⟩ := hp
    exact absurd hp (np c env' M')
  · have hj' : l[j]? = some oj := by simpa using hj
    have h2 := List.all_eq_true.1 f4 j (List.mem_range.2 (List.getElem?_eq_some_iff.1 hj').1)
    rw [hj'] at h2
    simp only [] at h2
    rw [Bool.or_eq_true, Bool.or_eq_true, Bool.or_eq_true] at h2
    rcases h2 with (h2 | h2) | h2 | h2
    · exact absurd (by simpa using h2) hne
    · rw [g] at hlj; rw [hlj] at h2; cases h2
    · obtain ⟨e, he, hb, hon⟩ := mem_ons.1 h2
      exact absurd hon (hno e (by simpa using he) hb)
    · exact h2
  · refine ready_of (by simpa using (List.getElem?_eq_some_iff.1 ho).1) (by rw [g]; simpa using f2) hon fun e he hb => ?_
    rw [g]
    exact List.all_eq_true.1 f3 e.on (by simp only [ons, List.mem_map, List.mem_filter]; exact ⟨e, ⟨he, hb⟩, rfl⟩)
  · have hput : a.put o.dst v = a.put (some d) v := by rw [hd]
    rw [List.setIfInBounds_toArray, hput]
    exact h x0 _ w hx ⟨γ, Pr, hr.put (dst := some d) (fun d' h => by injection h with h; rw [← h]; exact Nat.le_of_ble_eq_true hN) hrep hok, hf⟩

abbrev WState : Type := Nat × List Bool × Env × Mem
/-- Operation j may be run at s, and leads to t. -/
def WOne (P : Program) (N : Nat) (M0 : Mem) (l : List Oper) (ds : List Nat) (env : Env) (M : Mem) (S : List WState) (s : WState) (j : Nat) : Prop :=
  ∃ o t, l[j]? = some o ∧ t ∈ S ∧ s.1 = t.1 + 1 ∧ s.2.1.set j true = t.2.1 ∧
    DOps P N M0 l.toArray (fun e E' M' => e = .normal ∧ Sub (t.2.2.1 ++ junks ds env) E' ∧ MSubX [] (t.2.2.2 ++ M) M') [o] (s.2.2.1 ++ junks ds env) (s.2.2.2 ++ M)
def WAlts (P : Program) (N : Nat) (M0 : Mem) (l : List Oper) (ds : List Nat) (env : Env) (M : Mem) (S : List WState) (s : WState) : List Nat → Prop
  | [] => True
  | j :: r => WOne P N M0 l ds env M S s j ∧ WAlts P N M0 l ds env M S s r
def WebN (P : Program) (N : Nat) (M0 : Mem) (l : List Oper) (ds : List Nat) (env : Env) (M : Mem) (ue : Env) (me : Mem) (S : List WState) : List WState → Prop
  | [] => True
  | s :: r => (okE (s.2.2.2 ++ M) s.2.2.1 ∧ okM (s.2.2.2 ++ M) s.2.2.2 ∧ (readyL l s.2.1 = [] → s.1 = 0 ∧ s.2.2 = (ue, me)) ∧ WAlts P N M0 l ds env M S s (readyL l s.2.1)) ∧ WebN P N M0 l ds env M ue me S r
section
variable {ds : List Nat} {S : List WState} {s : WState} {ue : Env} {me : Mem}
theorem WAlts.all : ∀ {is : List Nat}, WAlts P N M0 l ds env M S s is → ∀ i ∈ is, WOne P N M0 l ds env M S s i
  | [], _, i, hi => by cases hi
  | j :: r, ⟨h1, h3⟩, i, hi => by
    rcases List.mem_cons.1 hi with rfl | hi
    · exact h1
    · exact h3.all i hi
theorem WebN.all : ∀ {R : List WState}, WebN P N M0 l ds env M ue me S R → ∀ s ∈ R, okE (s.2.2.2 ++ M) s.2.2.1 ∧ okM (s.2.2.2 ++ M) s.2.2.2 ∧ (readyL l s.2.1 = [] → s.1 = 0 ∧ s.2.2 = (ue, me)) ∧ WAlts P N M0 l ds env M S s (readyL l s.2.1)
  | [], _, i, hi => by cases hi
  | j :: r, ⟨h1, h3⟩, i, hi => by
    rcases List.mem_cons.1 hi with rfl | hi
    · exact h1
    · exact h3.all i hi
theorem WAlts.nil : WAlts P N M0 l ds env M S s [] := trivial
theorem WAlts.cons {j : Nat} {r : List Nat} {f f' : Nat} {L L' : List Bool} {u u' : Env} {m m' : Mem} (t : Nat) (ho : l[j]? = some o) (ht : S[t]? = some (f', L', u', m')) (hf : f = f' + 1) (hL : L.set j true = L')
    (h : DOps P N M0 l.toArray (fun e E' M' => e = .normal ∧ Sub (u' ++ junks ds env) E' ∧ MSubX [] (m' ++ M) M') [o] (u ++ junks ds env) (m ++ M)) (hr : WAlts P N M0 l ds env M S (f, L, u, m) r) : WAlts P N M0 l ds env M S (f, L, u, m) (j :: r) :=
  ⟨⟨o, (f', L', u', m'), ho, List.mem_of_getElem? ht, hf, hL, h⟩, hr⟩
theorem WebN.nil : WebN P N M0 l ds env M ue me S [] := trivial
theorem WebN.cons {R : List WState} {j : Nat} {js : List Nat} {f : Nat} {L : List Bool} {u : Env} {m : Mem} (hr : readyL l L = j :: js) (h1 : okE (m ++ M) u) (h2 : okM (m ++ M) m) (h3 : WAlts P N M0 l ds env M S (f, L, u, m) (j :: js)) (h4 : WebN P N M0 l ds env M ue me S R) : WebN P N M0 l ds env M ue me S ((f, L, u, m) :: R) :=
  ⟨⟨h1, h2, (fun e => by rw [hr] at e; cases e), (by rw [hr]; exact h3)⟩, h4⟩
theorem WebN.last {R : List WState} {L : List Bool} (hr : readyL l L = []) (h1 : okE (me ++ M) ue) (h2 : okM (me ++ M) me) (h4 : WebN P N M0 l ds env M ue me S R) : WebN P N M0 l ds env M ue me S ((0, L, ue, me) :: R) :=
  ⟨⟨h1, h2, fun _ => ⟨rfl, rfl⟩, (by rw [hr]; exact WAlts.nil)⟩, h4⟩

theorem DW.web (S : List WState) (ds : List Nat) (ue : Env) (me : Mem) (h0 : S[0]? = some (f, L, [], []))
    (hweb : WebN P N M0 l ds env M ue me S S) (h2 : ∀ env' M', Wk N M0 env' M' (ue ++ junks ds env) (me ++ M) → Q .normal env' M') : DW P N M0 l Q f L env M := by
  have key : ∀ (f : Nat), ∀ s ∈ S, s.1 = f → ∀ env' M', Wk N M0 env' M' (s.2.2.1 ++ junks ds env) (s.2.2.2 ++ M) → (∀ i, (lk env i).ok M) → (∀ b k, mget M b = some k → k.ok M) → (∀ b, has M0 b → has M b) → DW P N M0 l Q f s.2.1 env' M' := by
    intro f
    induction f with
    | zero =>
      intro s hs hf env' M' hw _ _ _
      obtain ⟨_, _, he, ha⟩ := hweb.all s hs
      cases hr : readyL l s.2.1 with
      | nil =>
        have := (he hr).2
        refine DW.fin hr (h2 env' M' ?_)
        rw [this] at hw
        exact hw
      | cons i is =>
        rw [hr] at ha
        obtain ⟨_, t, _, _, e, _⟩ := ha.1
        omega
    | succ f ih =>
      intro s hs hf env' M' hw g1 g2 g3
      obtain ⟨_, _, he, ha⟩ := hweb.all s hs
      cases hr : readyL l s.2.1 with
      | nil =>
        have := (he hr).1
        omega
      | cons i is =>
        rw [hr] at ha
        refine DW.weak hw (DW.intro i is hr ?_)
        have : ∀ js, WAlts P N M0 l ds env M S s js → DWAlts P N M0 l Q f s.2.1 (s.2.2.1 ++ junks ds env) (s.2.2.2 ++ M) js := by
          intro js
          induction js with
          | nil => intro _; trivial
          | cons j r ih2 =>
            intro ⟨⟨o, t, ho, ht, hf', hL, hd⟩, h5⟩
            refine ⟨⟨o, ho, fun x0 a w hx hat => ?_⟩, ih2 h5⟩
            obtain ⟨k1, k2, _⟩ := hweb.all t ht
            have hh := okM_has (M := M) t.2.2.2 k2
            refine wpList_up (fun e a' w' ⟨env2, M2, hat', he, hs2, hms⟩ => ?_) _ a w (hd x0 a w hx hat)
            subst he
            refine ⟨_, _, hat', ?_⟩
            show DW P N M0 l Q f (s.2.1.set j true) env2 M2
            rw [hL]
            refine ih t ht (by omega) env2 M2 (Wk.both hs2 hms.sub (okE_lk _ _ k1 fun i => ?_) (okM_get _ k2 fun b k hk => Blk.ok_le hh (g2 b k hk)) fun b hb => hh b (g3 b hb)) g1 g2 g3
            rw [lk_junks]
            split
            · trivial
            · exact SV.ok_le hh (g1 i)
        exact this _ ha
  intro x0 a w hx hat
  obtain ⟨γ, Pr, hrel, hfr⟩ := hat
  refine key f _ (List.mem_of_getElem? h0) rfl env M (Wk.slots fun i => ?_) hrel.slotB hrel.memB (fun b hb => hfr.has b (by rw [hx]; exact hb)) x0 a w hx ⟨γ, Pr, hrel, hfr⟩
  show lk (junks ds env) i = .junk ∨ lk (junks ds env) i = lk env i
  rw [lk_junks]
  split
  · exact .inl rfl
  · exact .inr rfl
end
end
end Go.Proofs.YtdneiepigllnkaaDoor.DL
