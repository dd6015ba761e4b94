/- A logic of data for Go functions: tests both ways; steps as they are taken in a proof. No program in sight. -/
import Derived.Test.YtgjamldcglebjaaD5
namespace Go.Proofs.Ytgjamldcglebjaa.DL
open Go.RowKit

section
variable {P : Program} {N : Nat} {ops : Array Oper} {Q : DPost} {env : Env} {M M0 : Mem} {o : Oper} {rest : List Oper}

theorem q_then {K : Env → Mem → Prop} (h : K env M) : thenQ K Q .normal env M := h
theorem q_thenX {K : Env → Mem → Prop} {id : Nat} (h : Q (.exit id) env M) : thenQ K Q (.exit id) env M := h
theorem q_thenR {K : Env → Mem → Prop} (h : Q .ret env M) : thenQ K Q .ret env M := h
theorem q_seq {y : Code} (h : DCode P N M0 y Q env M) : seqQ P N M0 y Q .normal env M := h
theorem q_seqX {y : Code} {id : Nat} (h : Q (.exit id) env M) : seqQ P N M0 y Q (.exit id) env M := h
theorem q_seqR {y : Code} (h : Q .ret env M) : seqQ P N M0 y Q .ret env M := h
theorem q_block {id : Nat} (h : Q .normal env M) : inBlockQ id Q .normal env M := h
theorem q_blockX {id : Nat} (h : Q .normal env M) : inBlockQ id Q (.exit id) env M := by simp only [inBlockQ, if_true]; exact h
theorem q_blockY {id id' : Nat} (hne : Nat.beq id' id = false) (h : Q (.exit id') env M) : inBlockQ id Q (.exit id') env M := by
  have : ¬ id' = id := fun e => by subst e; simp at hne
  simp only [inBlockQ, if_neg this]; exact h
theorem q_blockR {id : Nat} (h : Q .ret env M) : inBlockQ id Q .ret env M := h

theorem DOps.splitAt {p : Prop} [Decidable p] (d : Nat) {l : List Oper} (hd : lk env d = vB (decide p)) (h1 : p → DOps P N M0 ops Q l ((d, vB true) :: env) M) (h2 : ¬ p → DOps P N M0 ops Q l ((d, vB false) :: env) M) : DOps P N M0 ops Q l env M := by
  have weak : ∀ b, decide p = b → DOps P N M0 ops Q l ((d, vB b) :: env) M → DOps P N M0 ops Q l env M := fun b hb h => by
    refine DOps.weak (Wk.slots fun i => ?_) h
    rw [lk_cons]
    split
    · rename_i e; subst e; rw [hd, hb]; exact .inr rfl
    · exact .inr rfl
  by_cases hp : p
  · exact weak true (decide_eq_true hp) (h1 hp)
  · exact weak false (decide_eq_false hp) (h2 hp)
theorem DOps.splitB {b : Bool} (d : Nat) {l : List Oper} (hd : lk env d = vB b) (h1 : b = true → DOps P N M0 ops Q l ((d, vB true) :: env) M) (h2 : b = false → DOps P N M0 ops Q l ((d, vB false) :: env) M) : DOps P N M0 ops Q l env M := by
  have hd' : lk env d = vB (decide (b = true)) := by rw [hd]; cases b <;> rfl
  exact DOps.splitAt d hd' h1 (fun h => h2 (by simpa using h))
theorem DCode.condD {p : Prop} [Decidable p] {c : Operand} {x y : Code} (hc : opv env c = vB (decide p)) (h1 : p → DCode P N M0 x Q env M) (h2 : ¬ p → DCode P N M0 y Q env M) : DCode P N M0 (.cond c x y) Q env M := by
  by_cases hp : p
  · exact DCode.condT (by rw [hc, decide_eq_true hp]) (h1 hp)
  · exact DCode.condF (by rw [hc, decide_eq_false hp]) (h2 hp)
theorem DCode.condB {b : Bool} {c : Operand} {x y : Code} (hc : opv env c = vB b) (h1 : b = true → DCode P N M0 x Q env M) (h2 : b = false → DCode P N M0 y Q env M) : DCode P N M0 (.cond c x y) Q env M := by
  cases b
  · exact DCode.condF hc (h2 rfl)
  · exact DCode.condT hc (h1 rfl)

/-- A comparison of whole numbers, as a proposition. -/
def cmpP (op : BinOp) (m n : Int) : Option Prop :=
  match op with
  | .lss => some (m < n)
  | .leq => some (m ≤ n)
  | .gtr => some (n < m)
  | .geq => some (n ≤ m)
  | .eql => some (m = n)
  | .neq => some (m ≠ n)
  | _ => none
theorem OpVal.cmp {op : BinOp} {t t' : TypeId} {x y : Operand} {k : IntKind} {m n : Int} {p : Prop} (ho : o.op = .binOp op t x y t') (hx : opv env x = vI k m) (hy : opv env y = vI k n) (hp : cmpP op m n = some p) :
    (p → OpVal P N env M o (vB true)) ∧ (¬ p → OpVal P N env M o (vB false)) := by
  cases op <;> simp only [cmpP, Option.some.injEq, reduceCtorEq] at hp <;> subst hp
  · have h := OpVal.eqlI (P := P) (N := N) (M := M) ho hx hy
    exact ⟨fun hp => by rw [decide_eq_true hp] at h; exact h, fun hp => by rw [decide_eq_false hp] at h; exact h⟩
  · have h := OpVal.neqI (P := P) (N := N) (M := M) ho hx hy
    exact ⟨fun hp => by rw [decide_eq_false hp] at h; exact h, fun hp => by rw [decide_eq_true (Decidable.not_not.1 hp)] at h; exact h⟩
  · have h := OpVal.lss (P := P) (N := N) (M := M) ho hx hy
    exact ⟨fun hp => by rw [decide_eq_true hp] at h; exact h, fun hp => by rw [decide_eq_false hp] at h; exact h⟩
  · have h := OpVal.leq (P := P) (N := N) (M := M) ho hx hy
    exact ⟨fun hp => by rw [decide_eq_true hp] at h; exact h, fun hp => by rw [decide_eq_false hp] at h; exact h⟩
  · have h := OpVal.gtr (P := P) (N := N) (M := M) ho hx hy
    exact ⟨fun hp => by rw [decide_eq_true hp] at h; exact h, fun hp => by rw [decide_eq_false hp] at h; exact h⟩
  · have h := OpVal.geq (P := P) (N := N) (M := M) ho hx hy
    exact ⟨fun hp => by rw [decide_eq_true hp] at h; exact h, fun hp => by rw [decide_eq_false hp] at h; exact h⟩

theorem DOps.cmpT {op : BinOp} {t t' : TypeId} {x y : Operand} {k : IntKind} {m n : Int} {p : Prop} (hg : gd ops env o = some true) {d : Nat} (hd : o.dst = some d) (hN : Nat.blt d N = true) (ho : o.op = .binOp op t x y t') (hx : opv env x = vI k m) (hy : opv env y = vI k n)
    (hc : cmpP op m n = some p) (hp : p) (h : DOps P N M0 ops Q rest ((d, vB true) :: env) M) : DOps P N M0 ops Q (o :: rest) env M := DOps.val hg hd hN ((OpVal.cmp ho hx hy hc).1 hp) h
theorem DOps.cmpF {op : BinOp} {t t' : TypeId} {x y : Operand} {k : IntKind} {m n : Int} {p : Prop} (hg : gd ops env o = some true) {d : Nat} (hd : o.dst = some d) (hN : Nat.blt d N = true) (ho : o.op = .binOp op t x y t') (hx : opv env x = vI k m) (hy : opv env y = vI k n)
    (hc : cmpP op m n = some p) (hp : ¬ p) (h : DOps P N M0 ops Q rest ((d, vB false) :: env) M) : DOps P N M0 ops Q (o :: rest) env M := DOps.val hg hd hN ((OpVal.cmp ho hx hy hc).2 hp) h
theorem DOps.cmp {op : BinOp} {t t' : TypeId} {x y : Operand} {k : IntKind} {m n : Int} {p : Prop} (hg : gd ops env o = some true) {d : Nat} (hd : o.dst = some d) (hN : Nat.blt d N = true) (ho : o.op = .binOp op t x y t') (hx : opv env x = vI k m) (hy : opv env y = vI k n)
    (hc : cmpP op m n = some p) (h1 : p → DOps P N M0 ops Q rest ((d, vB true) :: env) M) (h2 : ¬ p → DOps P N M0 ops Q rest ((d, vB false) :: env) M) : DOps P N M0 ops Q (o :: rest) env M := by
  by_cases hp : p
  · exact DOps.cmpT hg hd hN ho hx hy hc hp (h1 hp)
  · exact DOps.cmpF hg hd hN ho hx hy hc hp (h2 hp)

/-- A loop: slots up are told by i, slots ds are written besides; memory: mup, ahead of what there was. -/
theorem DCode.loopM {c : Code} {ι : Type} (up : ι → Env) (ds : List Nat) (mup : ι → Mem) (inv : ι → Prop) (μ : ι → Nat) (i0 : ι) (hi : inv i0) (h0 : Wk N M0 env M (up i0 ++ junks ds env) (mup i0 ++ M))
    (hr : ∀ i, inv i → DCode P N M0 c (thenQ (fun env' M' => ∃ i', inv i' ∧ μ i' < μ i ∧ Wk N M0 env' M' (up i' ++ junks ds env) (mup i' ++ M)) Q) (up i ++ junks ds env) (mup i ++ M)) : DCode P N M0 (.loop c) Q env M :=
  DCode.loop (ι := { i : ι // inv i }) (fun i => up i.1 ++ junks ds env) (fun i => mup i.1 ++ M) (fun i => μ i.1) ⟨i0, hi⟩ h0 (fun i => DCode.mono (hr i.1 i.2) fun e env' M' hq => by
    cases e with
    | normal => obtain ⟨i', h1, h2, h3⟩ := hq; exact ⟨⟨i', h1⟩, h2, h3⟩
    | _ => exact hq)
theorem DCode.loopS {c : Code} {ι : Type} (up : ι → Env) (ds : List Nat) (inv : ι → Prop) (μ : ι → Nat) (i0 : ι) (hi : inv i0) (h0 : Sub (up i0 ++ junks ds env) env)
    (hr : ∀ i, inv i → DCode P N M0 c (thenQ (fun env' M' => ∃ i', inv i' ∧ μ i' < μ i ∧ Wk N M0 env' M' (up i' ++ junks ds env) M) Q) (up i ++ junks ds env) M) : DCode P N M0 (.loop c) Q env M :=
  DCode.loopM up ds (fun _ => []) inv μ i0 hi (Wk.slots h0) hr

theorem ResTs.nil {T : TypeId → Option TyI} : ResTs T env M [] [] := trivial
theorem ResTs.cons {T : TypeId → Option TyI} {r : ResultVar} {rs : List ResultVar} {t : TV} {ts : List TV} (h : ResT T env M r t) (hs : ResTs T env M rs ts) : ResTs T env M (r :: rs) (t :: ts) := ⟨h, hs⟩
theorem ResT.tmp {T : TypeId → Option TyI} {s : Nat} {t : TV} (h : lk env s = .v t) : ResT T env M (.tmp s) t := h
theorem ResT.cell {T : TypeId → Option TyI} {c b : Nat} {ty tb : TypeId} {i : TyI} {cs : List CV} (h1 : lk env c = .v (.one (.ptr b 0))) (h2 : mget M b = some (.box tb cs)) (h3 : T ty = some i) (ha : aggD i.desc = true) (hl : cs.length = i.size) : ResT T env M (.cell c ty) (.agg cs) :=
  ⟨b, tb, cs, i, h1, h2, h3, by rw [if_pos ha]; exact ⟨hl, rfl⟩⟩
theorem endQ.ret {T : TypeId → Option TyI} {rs rs' : List ResultVar} {R : List TV → Prop} {ts : List TV} (hrs : rs = rs') (h : ResTs T env M rs' ts) (hp : ∀ t ∈ ts, t.pure) (hR : R ts) : endQ T rs R .ret env M := ⟨ts, hrs ▸ h, hp, hR⟩
theorem endQ.norm {T : TypeId → Option TyI} {rs rs' : List ResultVar} {R : List TV → Prop} {ts : List TV} (hrs : rs = rs') (h : ResTs T env M rs' ts) (hp : ∀ t ∈ ts, t.pure) (hR : R ts) : endQ T rs R .normal env M := ⟨ts, hrs ▸ h, hp, hR⟩
theorem vI_congr {k : IntKind} {a b : Int} (h : a = b) : vI k a = vI k b := by rw [h]
theorem pure_sc {v : Value} : (TV.one (.d (.sc v))).pure := trivial
theorem pures_nil : ∀ t ∈ ([] : List TV), t.pure := fun _ h => by cases h
theorem pures_cons {t : TV} {ts : List TV} (h : t.pure) (hs : ∀ t ∈ ts, t.pure) : ∀ x ∈ t :: ts, x.pure := fun x hx => by
  rcases List.mem_cons.1 hx with rfl | hx
  · exact h
  · exact hs x hx
theorem pure_map {α : Type} {f : α → DV} (xs : List α) : (TV.agg (xs.map fun x => .d (f x))).pure := fun c hc => by
  simp only [List.mem_map] at hc
  obtain ⟨x, _, rfl⟩ := hc
  trivial

/-- Data told in another way. -/
def DEq (x y : DV) : Prop := ∀ Pr w v, DRep Pr w x v → DRep Pr w y v
theorem DEq.sl {n k : Nat} {el el' : Nat → Nat → DV} (h : ∀ i j, i < n → j < k → el i j = el' i j) : DEq (.sl n k el) (.sl n k el') := fun Pr w v ⟨A, c, hv, hn, hh⟩ =>
  ⟨A, c, hv, hn, fun h0 => let ⟨b, o, hA, hc⟩ := hh h0; ⟨b, o, hA, fun i hi j hj => let ⟨hp, u, hu, hd⟩ := hc i hi j hj; ⟨hp, u, hu, by rw [← h i j hi hj]; exact hd⟩⟩⟩
theorem DEq.pp {n : Nat} {el el' : Nat → DV} (h : ∀ j, j < n → el j = el' j) : DEq (.pp n el) (.pp n el') := fun Pr w v ⟨b, o, hv, hc⟩ =>
  ⟨b, o, hv, fun j hj => let ⟨hp, u, hu, hd⟩ := hc j hj; ⟨hp, u, hu, by rw [← h j hj]; exact hd⟩⟩
theorem Wk.re {d : Nat} {x y : DV} (hd : lk env d = .v (.one (.d x))) (h : DEq x y) : Wk N M0 env M ((d, .v (.one (.d y))) :: env) M := fun x0 a w _ ⟨γ, Pr, hr, hf⟩ =>
  ⟨γ, Pr, { size := hr.size, slot := fun i => (by
              rw [lk_cons]
              split
              · rename_i e
                subst e
                have := hr.slot d
                rw [hd] at this
                exact h _ _ _ this
              · exact hr.slot i), slotB := fun i => (by
              rw [lk_cons]
              split
              · trivial
              · exact hr.slotB i), mem := hr.mem, memB := hr.memB, apart := hr.apart, below := hr.below, prot := hr.prot, defers := hr.defers }, hf⟩
theorem DOps.re {l : List Oper} {x y : DV} (d : Nat) (hd : lk env d = .v (.one (.d x))) (h : DEq x y) (hk : DOps P N M0 ops Q l ((d, .v (.one (.d y))) :: env) M) : DOps P N M0 ops Q l env M := DOps.weak (Wk.re hd h) hk
theorem DCode.re {c : Code} {x y : DV} (d : Nat) (hd : lk env d = .v (.one (.d x))) (h : DEq x y) (hk : DCode P N M0 c Q ((d, .v (.one (.d y))) :: env) M) : DCode P N M0 c Q env M := DCode.weak (Wk.re hd h) hk
theorem OpVal.cast {r r' : SV} (h : OpVal P N env M o r) (e : r = r') : OpVal P N env M o r' := e ▸ h

theorem memo_same {d : Nat} {X : Option Blk} (h : mget M d = X) : ∀ b, mget ((d, X) :: M) b = mget M b := fun b => by
  rw [mget_cons]
  split
  · rename_i e; subst e; exact h.symm
  · rfl
theorem memo_shadow {d : Nat} {X X' Y : Option Blk} (h : X' = X) : ∀ b, mget ((d, X') :: M) b = mget ((d, X) :: (d, Y) :: M) b := fun b => by
  rw [mget_cons, mget_cons, mget_cons, h]
  split <;> rfl

abbrev bt (b : Bool) : TV := .one (.d (.sc (.bool b)))
abbrev it (n : Int) : TV := .one (.d (.sc (.int .i64 n)))
abbrev st (s : ByteArray) : TV := .one (.d (.sc (.string s)))
theorem bt1 {a b : Bool} (h : a = b) : [bt a] = [bt b] := by rw [h]
theorem it1 {a b : Int} (h : a = b) : [it a] = [it b] := by rw [h]
/-- A call that tells yes or no. -/
theorem DOps.callB {cl : Call} {f : FuncId} {fn : Func} {c : Code} {ts : List TV} {b : Bool} {d : Nat} (hg : gd ops env o = some true) (hd : o.dst = some d) (hN : Nat.blt d N = true) (ho : o.op = .call cl) (hcl : cl.callee = .value (.func f))
    (hf : P.funcs[f]? = some fn) (hb : fn.body = some c) (hn : (fn.name == "runtime.NumGoroutine") = false) (hx : opvs env cl.args.toList = some ts) (hp : ∀ t ∈ ts, t.pure) (hc : DCalls P f ts (fun us => us = [bt b]))
    (h1 : b = true → DOps P N M0 ops Q rest ((d, vB true) :: env) M) (h2 : b = false → DOps P N M0 ops Q rest ((d, vB false) :: env) M) : DOps P N M0 ops Q (o :: rest) env M :=
  DOps.call hg hd hN ho hcl hf hb hn hx hp hc fun us hu => by
    subst hu
    cases b
    · exact h2 rfl
    · exact h1 rfl
/-- A call of which it is told what it returns. -/
theorem DOps.call1 {cl : Call} {f : FuncId} {fn : Func} {c : Code} {ts rs : List TV} {d : Nat} (hg : gd ops env o = some true) (hd : o.dst = some d) (hN : Nat.blt d N = true) (ho : o.op = .call cl) (hcl : cl.callee = .value (.func f))
    (hf : P.funcs[f]? = some fn) (hb : fn.body = some c) (hn : (fn.name == "runtime.NumGoroutine") = false) (hx : opvs env cl.args.toList = some ts) (hp : ∀ t ∈ ts, t.pure) (hc : DCalls P f ts (fun us => us = rs))
    (h : DOps P N M0 ops Q rest ((d, ret1 rs) :: env) M) : DOps P N M0 ops Q (o :: rest) env M :=
  DOps.call hg hd hN ho hcl hf hb hn hx hp hc fun us hu => by
    subst hu
    exact h

theorem OpVal.neg64 {t : TypeId} {x : Operand} {n : Int} (ho : o.op = .unOp .neg t x) (hx : opv env x = vI .i64 n) (h0 : -9223372036854775807 ≤ n) (h1 : n ≤ 9223372036854775807) : OpVal P N env M o (vI .i64 (-n)) :=
  OpVal.cast (OpVal.neg ho hx) (vI_congr (by rw [wrap_in64 (by omega) (by omega)]; omega))

theorem pure_sl {x : DV} : (TV.one (.d x)).pure := trivial

/-! ### The same with a type's row taken apart -/
section
variable {T : TypeId → Option TyI} (hT : TOk P T)
include hT
theorem OpVal.fa {t ft off : Nat} {x : Operand} {n b k s0 b0 s1 b1 bo : Nat} {z0 z1 : Value} {d1 : TypeDesc} {fs : Array Field} {nm tag pkg : String} {em : Bool} (ho : o.op = .fieldAddr t x n) (ht : T t = some ⟨.struct fs, s0, b0, z0⟩) (hf : fs.toList[n]? = some ⟨nm, ft, off, em, tag, pkg, bo⟩)
    (hj : T ft = some ⟨d1, s1, b1, z1⟩) (hs : Nat.beq s1 0 = false) (hx : opv env x = .v (.one (.ptr b k))) : OpVal P N env M o (.v (.one (.ptr b (k + off)))) :=
  OpVal.fieldAddr hT ho ht rfl (by rw [← Array.getElem?_toList]; exact hf) hj (fun e => by simp only at e; rw [e] at hs; cases hs) hx
theorem OpVal.faD {t ft off : Nat} {x : Operand} {n m s0 b0 s1 b1 bo : Nat} {z0 z1 : Value} {d1 : TypeDesc} {fs : Array Field} {nm tag pkg : String} {em : Bool} {el : Nat → DV} (ho : o.op = .fieldAddr t x n) (ht : T t = some ⟨.struct fs, s0, b0, z0⟩) (hf : fs.toList[n]? = some ⟨nm, ft, off, em, tag, pkg, bo⟩)
    (hj : T ft = some ⟨d1, s1, b1, z1⟩) (hs : Nat.beq s1 0 = false) (hx : opv env x = .v (.one (.d (.pp m el)))) : OpVal P N env M o (.v (.one (.d (.pp (m - off) fun q => el (off + q))))) :=
  OpVal.fieldAddrD hT ho ht rfl (by rw [← Array.getElem?_toList]; exact hf) hj (fun e => by simp only at e; rw [e] at hs; cases hs) hx
theorem OpVal.iaA {t e : Nat} {x y : Operand} {b k len s0 b0 s1 b1 : Nat} {z0 z1 : Value} {d1 : TypeDesc} {kd : IntKind} {n : Int} (ho : o.op = .indexAddr t x y) (ht : T t = some ⟨.array len e, s0, b0, z0⟩) (hj : T e = some ⟨d1, s1, b1, z1⟩)
    (hx : opv env x = .v (.one (.ptr b k))) (hy : opv env y = vI kd n) (h0 : 0 ≤ n) (h1 : n < len) : OpVal P N env M o (.v (.one (.ptr b (k + n.toNat * s1)))) := OpVal.indexAddrA hT ho ht rfl hj hx hy h0 h1
theorem OpVal.iaD {t e : Nat} {x y : Operand} {m k s0 b0 s1 b1 : Nat} {z0 z1 : Value} {d1 : TypeDesc} {el : Nat → Nat → DV} {kd : IntKind} {n : Int} (ho : o.op = .indexAddr t x y) (ht : T t = some ⟨.slice e, s0, b0, z0⟩) (hj : T e = some ⟨d1, s1, b1, z1⟩)
    (hx : opv env x = .v (.one (.d (.sl m k el)))) (hk : s1 = k) (hy : opv env y = vI kd n) (h0 : 0 ≤ n) (h1 : n < m) : OpVal P N env M o (.v (.one (.d (.pp k (el n.toNat))))) := OpVal.indexAddrD hT ho ht rfl hj hk hx hy h0 h1
theorem OpVal.iaDA {t e : Nat} {x y : Operand} {m len s0 b0 s1 b1 : Nat} {z0 z1 : Value} {d1 : TypeDesc} {el : Nat → DV} {kd : IntKind} {n : Int} (ho : o.op = .indexAddr t x y) (ht : T t = some ⟨.array len e, s0, b0, z0⟩) (hj : T e = some ⟨d1, s1, b1, z1⟩)
    (hx : opv env x = .v (.one (.d (.pp m el)))) (hy : opv env y = vI kd n) (h0 : 0 ≤ n) (h1 : n < len) : OpVal P N env M o (.v (.one (.d (.pp (m - n.toNat * s1) fun q => el (n.toNat * s1 + q))))) := OpVal.indexAddrDA hT ho ht rfl hj hx hy h0 h1
theorem DOps.al (b : Nat) {t s0 b0 d : Nat} {z0 : Value} {d0 : TypeDesc} (hg : gd ops env o = some true) (hd : o.dst = some d) (hN : Nat.blt d N = true) (ho : o.op = .alloc t) (ht : T t = some ⟨d0, s0, b0, z0⟩)
    (hz1 : z0.cells.toList.all (·.oneCell') = true) (hb : mget M b = none) (h : DOps P N M0 ops Q rest ((d, .v (.one (.ptr b 0))) :: env) ((b, some (.box t (dvs z0))) :: M)) : DOps P N M0 ops Q (o :: rest) env M :=
  DOps.alloc b hT hg hd hN ho ht rfl hz1 hb h
/-- One cell of read-only memory. -/
theorem OpVal.ld {t s0 b0 n : Nat} {z0 : Value} {d0 : TypeDesc} {x : Operand} {el : Nat → DV} {y : DV} (ho : o.op = .load t x) (ht : T t = some ⟨d0, s0, b0, z0⟩) (ha : aggD d0 = false) (hx : opv env x = .v (.one (.d (.pp n el)))) (hn : 0 < n) (hy : el 0 = y) : OpVal P N env M o (.v (.one (.d y))) := by
  subst hy
  exact OpVal.loadD1 hT ho ht ha hx hn
end
end
end Go.Proofs.Ytgjamldcglebjaa.DL
