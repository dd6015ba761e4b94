/- A logic of data for Go functions: loops that forget what they made. No program in sight. -/
import Derived.Test.YtgjamldcglebjaaD8
namespace Go.Proofs.Ytgjamldcglebjaa.DL
open Go.RowKit

section
variable {P : Program} {N : Nat} {ops : Array Oper} {Q : DPost} {env : Env} {M M0 : Mem} {γ γ' : Cn} {Pr Pr' : Prot} {x0 : Ctx} {w w' : World} {a : Act} {o : Oper} {rest : List Oper}

/-- What is told of Mt, but for the blocks ex, is so in M. -/
def MSubX (ex : List Nat) (Mt M : Mem) : Prop := ∀ b, ex.contains b = false → mget Mt b = none ∨ mget Mt b = mget M b
theorem MSubX.nil {ex : List Nat} : MSubX ex [] M := fun _ _ => .inl rfl
theorem MSubX.skip {ex : List Nat} {d : Nat} {X : Option Blk} {Mt : Mem} (hd : ex.contains d = true) (h : MSubX ex Mt M) : MSubX ex ((d, X) :: Mt) M := fun b hb => by
  rw [mget_cons]
  split
  · rename_i e; subst e; rw [hd] at hb; cases hb
  · exact h b hb
theorem MSubX.cons {ex : List Nat} {d : Nat} {X : Option Blk} {Mt : Mem} (hd : mget M d = X) (h : MSubX (d :: ex) Mt M) : MSubX ex ((d, X) :: Mt) M := fun b hb => by
  rw [mget_cons]
  split
  · rename_i e; subst e; exact .inr hd.symm
  · rename_i e
    refine h b ?_
    simp only [List.contains_cons, Bool.or_eq_false_iff, hb, and_true, beq_eq_false_iff_ne, ne_eq]
    exact fun h => e h.symm
theorem MSubX.sub {Mt : Mem} (h : MSubX [] Mt M) : MSub Mt M := fun b => h b rfl

def okE (M : Mem) : Env → Prop
  | [] => True
  | p :: r => p.2.ok M ∧ okE M r
def okM (M : Mem) : Mem → Prop
  | [] => True
  | p :: r => (∃ k, p.2 = some k ∧ k.ok M) ∧ okM M r
theorem okE_lk {M' : Mem} : ∀ (u e : Env), okE M' u → (∀ i, (lk e i).ok M') → ∀ i, (lk (u ++ e) i).ok M'
  | [], _, _, h => h
  | p :: r, e, ⟨h1, h2⟩, h => fun i => by
    rw [List.cons_append, lk_cons]
    split
    · exact h1
    · exact okE_lk r e h2 h i
theorem okM_get {M' : Mem} : ∀ (u : Mem), okM M' u → (∀ b k, mget M b = some k → k.ok M') → ∀ b k, mget (u ++ M) b = some k → k.ok M'
  | [], _, h => h
  | p :: r, ⟨⟨k1, h1, h2⟩, h3⟩, h => fun b k hk => by
    rw [List.cons_append, mget_cons] at hk
    split at hk
    · rw [h1] at hk; obtain rfl := Option.some.inj hk; exact h2
    · exact okM_get r h3 h b k hk
theorem okM_has {M' : Mem} : ∀ (u : Mem), okM M' u → ∀ b, has M b → has (u ++ M) b
  | [], _, _, hb => hb
  | p :: r, ⟨⟨k1, h1, _⟩, h3⟩, b, hb => by
    unfold has at *
    rw [List.cons_append, mget_cons]
    split
    · rw [h1]; simp
    · exact okM_has r h3 b hb

/-- A loop that forgets: what it made of its own stays behind. -/
theorem DCode.loopF {c : Code} {ι : Type} (up : ι → Env) (ds : List Nat) (mup : ι → Mem) (inv : ι → Prop) (μ : ι → Nat) (i0 : ι) (hi : inv i0) (hu : ∀ i, inv i → okE (mup i ++ M) (up i)) (hm : ∀ i, inv i → okM (mup i ++ M) (mup i)) (h0 : Wk N M0 env M (up i0 ++ junks ds env) (mup i0 ++ M))
    (hr : ∀ i, inv i → DCode P N M0 c (thenQ (fun env' M' => ∃ i', inv i' ∧ μ i' < μ i ∧ Sub (up i' ++ junks ds env) env' ∧ MSubX [] (mup i' ++ M) M') Q) (up i ++ junks ds env) (mup i ++ M)) : DCode P N M0 (.loop c) Q env M := by
  intro x0 a w hx ha
  obtain ⟨γ, Pr, hrel, hfr⟩ := ha
  have wk : ∀ (i' : ι), inv i' → ∀ env' M', Sub (up i' ++ junks ds env) env' → MSubX [] (mup i' ++ M) M' → Wk N M0 env' M' (up i' ++ junks ds env) (mup i' ++ M) := fun i' hi' env' M' h1 h2 => by
    have hh := okM_has (M := M) (mup i') (hm i' hi')
    refine Wk.both h1 h2.sub (okE_lk _ _ (hu i' hi') fun i => ?_) (okM_get _ (hm i' hi') fun b k hk => Blk.ok_le hh (hrel.memB b k hk)) fun b hb => hh b (hfr.has b (by rw [hx]; exact hb))
    rw [lk_junks]
    split
    · trivial
    · exact SV.ok_le hh (hrel.slotB i)
  exact DCode.loopM up ds mup inv μ i0 hi h0 (fun i hi => DCode.mono (hr i hi) fun e env' M' hq => by
    cases e with
    | normal => obtain ⟨i', h1, h2, h3, h4⟩ := hq; exact ⟨i', h1, h2, wk i' h1 _ _ h3 h4⟩
    | _ => exact hq) x0 a w hx ⟨γ, Pr, hrel, hfr⟩

theorem DCode.loopG {c : Code} {ι : Type} (up : ι → Env) (ds : List Nat) (mup : ι → Mem) (inv : ι → Prop) (μ : ι → Nat) (i0 : ι) (hi : inv i0) (hu : ∀ i, inv i → okE (mup i ++ M) (up i)) (hm : ∀ i, inv i → okM (mup i ++ M) (mup i)) (h0 : Sub (up i0 ++ junks ds env) env) (h1 : MSubX [] (mup i0 ++ M) M)
    (hr : ∀ i, inv i → DCode P N M0 c (thenQ (fun env' M' => ∃ i', inv i' ∧ μ i' < μ i ∧ Sub (up i' ++ junks ds env) env' ∧ MSubX [] (mup i' ++ M) M') Q) (up i ++ junks ds env) (mup i ++ M)) : DCode P N M0 (.loop c) Q env M := by
  intro x0 a w hx ha
  obtain ⟨γ, Pr, hrel, hfr⟩ := ha
  refine DCode.loopF up ds mup inv μ i0 hi hu hm ?_ hr x0 a w hx ⟨γ, Pr, hrel, hfr⟩
  exact fun x1 a1 w1 hx1 ⟨γ1, Pr1, hrel1, hfr1⟩ => by
    have hh := okM_has (M := M) (mup i0) (hm i0 hi)
    refine Wk.both (M0 := M0) h0 h1.sub (okE_lk _ _ (hu i0 hi) fun i => ?_) (okM_get _ (hm i0 hi) fun b k hk => Blk.ok_le hh (hrel1.memB b k hk)) (fun b hb => hh b (hfr1.has b (by rw [hx1]; exact hb))) x1 a1 w1 hx1 ⟨γ1, Pr1, hrel1, hfr1⟩
    rw [lk_junks]
    split
    · trivial
    · exact SV.ok_le hh (hrel1.slotB i)

/-- Blocks called as the slots that lead to them. -/
theorem DOps.boxS {d : Nat} {T : TypeId} {x : Operand} {t : TV} (hg : gd ops env o = some true) (hd : o.dst = some d) (hN : Nat.blt d N = true) (ho : o.op = .box T x) (hx : opv env x = .v t) (hb : mget M d = none)
    (h : DOps P N M0 ops Q rest ((d, .v (.one (.ptr d 0))) :: env) ((d, some (.box T t.cells)) :: M)) : DOps P N M0 ops Q (o :: rest) env M := DOps.box d hg hd hN ho hx hb h
theorem DOps.alS {T : TypeId → Option TyI} (hT : TOk P T) {t s0 b0 d : Nat} {z0 : Value} {d0 : TypeDesc} (hg : gd ops env o = some true) (hd : o.dst = some d) (hN : Nat.blt d N = true) (ho : o.op = .alloc t) (ht : T t = some ⟨d0, s0, b0, z0⟩)
    (hz1 : z0.cells.toList.all (·.oneCell') = true) (hb : mget M d = none) (h : DOps P N M0 ops Q rest ((d, .v (.one (.ptr d 0))) :: env) ((d, some (.box t (dvs z0))) :: M)) : DOps P N M0 ops Q (o :: rest) env M := DOps.al hT d hg hd hN ho ht hz1 hb h
theorem getD_of {ds : List DV} (z : DV) : ∀ j d, ds[j]? = some d → ds.getD j z = d := fun j d h => by rw [List.getD_eq_getElem?_getD, h]; rfl
theorem dvs_pure (v : Value) : (TV.agg (dvs v)).pure := fun c hc => by
  simp only [dvs, List.mem_map] at hc
  obtain ⟨u, _, rfl⟩ := hc
  trivial
theorem OpVal.slL {T : TypeId → Option TyI} (hT : TOk P T) {t e : TypeId} {x y1 : Operand} {n k s0 b0 s1 b1 : Nat} {z0 z1 : Value} {d1 : TypeDesc} {k1 : IntKind} {el : Nat → Nat → DV} (l : Nat) (ho : o.op = .slice t x (some y1) none none) (ht : T t = some ⟨.slice e, s0, b0, z0⟩) (hj : T e = some ⟨d1, s1, b1, z1⟩)
    (hx : opv env x = .v (.one (.d (.sl n k el)))) (hk : s1 = k) (hlo : opv env y1 = vI k1 l) (h1 : l ≤ n) : OpVal P N env M o (.v (.one (.d (.sl (n - l) k fun p q => el (l + p) q)))) :=
  OpVal.sliceD hT (h := n) ho ht rfl hj hk hx ⟨_, hlo⟩ rfl h1 (Nat.le_refl _)
theorem OpVal.slH {T : TypeId → Option TyI} (hT : TOk P T) {t e : TypeId} {x y2 : Operand} {n k s0 b0 s1 b1 : Nat} {z0 z1 : Value} {d1 : TypeDesc} {k2 : IntKind} {el : Nat → Nat → DV} (h : Nat) (ho : o.op = .slice t x none (some y2) none) (ht : T t = some ⟨.slice e, s0, b0, z0⟩) (hj : T e = some ⟨d1, s1, b1, z1⟩)
    (hx : opv env x = .v (.one (.d (.sl n k el)))) (hk : s1 = k) (hhi : opv env y2 = vI k2 h) (h2 : h ≤ n) : OpVal P N env M o (.v (.one (.d (.sl (h - 0) k fun p q => el (0 + p) q)))) :=
  OpVal.sliceD hT (l := 0) ho ht rfl hj hk hx rfl ⟨_, hhi⟩ (Nat.zero_le _) h2
end
end Go.Proofs.Ytgjamldcglebjaa.DL
