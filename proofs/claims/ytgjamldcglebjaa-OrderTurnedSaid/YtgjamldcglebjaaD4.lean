/- A logic of data for Go functions: calls, results, loops, values that are built. No program in sight. -/
import Derived.Test.YtgjamldcglebjaaD3
namespace Go.Proofs.Ytgjamldcglebjaa.DL
open Go.RowKit

def CV.pure : CV → Prop
  | .d _ => True
  | _ => False
def TV.pure : TV → Prop
  | .one c => c.pure
  | .agg cs => ∀ c ∈ cs, c.pure

def γ0 : Cn := ⟨fun _ => 0⟩

section
variable {γ γ' : Cn} {Pr Pr' : Prot} {w w' : World} {M : Mem}
theorem CRep.pure {c : CV} (hp : c.pure) {v : Value} (h : CRep γ Pr w c v) : CRep γ' Pr w c v := by
  cases c <;> first | exact h | exact hp.elim
theorem TRep.pure {t : TV} (hp : t.pure) {v : Value} (h : TRep γ Pr w t v) : TRep γ' Pr w t v := by
  cases t with
  | one c => exact CRep.pure hp h
  | agg cs =>
    obtain ⟨vs, hv, hl, hh⟩ := h
    exact ⟨vs, hv, hl, fun i c hc => let ⟨u, hu, hr⟩ := hh i c hc; ⟨u, hu, CRep.pure (hp c (List.mem_of_getElem? hc)) hr⟩⟩
theorem CV.pure_ok {c : CV} (hp : c.pure) : c.ok M := by
  cases c <;> first | trivial | exact hp.elim
theorem TV.pure_ok {t : TV} (hp : t.pure) : t.ok M := by
  cases t with
  | one c => exact CV.pure_ok hp
  | agg cs => exact fun c hc => CV.pure_ok (hp c hc)
theorem TRep.kept (hk : Kept Pr w Pr' w') {t : TV} (hp : t.pure) {v : Value} (h : TRep γ Pr w t v) : TRep γ Pr' w' t v :=
  TRep.move (M := []) (fun _ hb => absurd rfl hb) hk (TV.pure_ok hp) h
end

/-- Arguments, results. -/
def TsRep (γ : Cn) (Pr : Prot) (w : World) (ts : List TV) (vs : List Value) : Prop :=
  vs.length = ts.length ∧ ∀ (i : Nat) t, ts[i]? = some t → ∃ u, vs[i]? = some u ∧ TRep γ Pr w t u

def joined (vs : List Value) : Value := match vs with | [v] => v | vs => .tuple vs.toArray

/-- A call of data: it returns, writes nothing that was there, and what it returns is data of which Q holds. -/
def DCalls (P : Program) (f : FuncId) (args : List TV) (Q : List TV → Prop) : Prop :=
  ∀ Pr w vs, PV Pr w → TsRep γ0 Pr w args vs →
    Calls P f vs.toArray w fun e w' => ∃ us ts Pr', e = .returned (joined us) ∧ Below w.heap.size w w' ∧ PExt Pr Pr' (fun k => w.heap.size ≤ k) ∧ (∀ b o, Pr' b o → b < w'.heap.size) ∧
      TsRep γ0 Pr' w' ts us ∧ (∀ t ∈ ts, t.pure) ∧ Q ts

theorem DCalls.mono {P : Program} {f : FuncId} {args : List TV} {Q Q' : List TV → Prop} (h : DCalls P f args Q) (hq : ∀ ts, Q ts → Q' ts) : DCalls P f args Q' :=
  fun Pr w vs hp hr => (h Pr w vs hp hr).mono fun _ _ ⟨us, ts, Pr', h1, h2, h3, h4, h5, h6, h7⟩ => ⟨us, ts, Pr', h1, h2, h3, h4, h5, h6, hq _ h7⟩

def ret1 : List TV → SV
  | [t] => .v t
  | ts => .tup ts

section
variable {P : Program} {N : Nat} {ops : Array Oper} {Q : DPost} {env : Env} {M M0 : Mem} {γ γ' : Cn} {Pr Pr' : Prot} {x0 : Ctx} {w w' : World} {a : Act} {o : Oper} {rest : List Oper}

theorem PExt.kept {may : Nat → Prop} (h : PExt Pr Pr' may) (hb : Below w.heap.size w w') (hp : ∀ b o, Pr b o → b < w.heap.size) : Kept Pr w Pr' w' :=
  ⟨h.sub, fun b o hx => heap_cell (hb.block b (hp b o hx)) o⟩

/-- Behind a call that writes nothing that was there. -/
theorem Rel.called (h : Rel γ Pr x0 N env M a w) (hb : Below w.heap.size w w') (he : PExt Pr Pr' (fun k => w.heap.size ≤ k)) (hv : ∀ b o, Pr' b o → b < w'.heap.size) : Rel γ Pr' x0 N env M a w' := by
  have K : Kept Pr w Pr' w' := he.kept hb h.prot
  have G := Cn.agree_refl M γ
  exact { size := h.size, slot := fun i => SRep.move G K (h.slotB i) (h.slot i), slotB := h.slotB,
          mem := fun b k hm => BRep.move G (by rw [has, hm]; simp) K (fun g hg => hb.block g ((h.mem b k hm).lt g hg).2) (fun g hg o hp => (he.new g o hp).elim id fun hle => absurd ((h.mem b k hm).lt g hg).2 (by omega)) (h.memB b k hm) (h.mem b k hm),
          memB := h.memB, apart := h.apart, below := h.below.below hb, prot := h.prot.kept K hv, defers := h.defers }
theorem From.called (h : From x0 γ Pr M w) (hr : Rel γ Pr x0 N env M a w) (hb : Below w.heap.size w w') (he : PExt Pr Pr' (fun k => w.heap.size ≤ k)) : From x0 γ Pr' M w' :=
  h.step (Cn.agree_refl M γ) (he.kept hb hr.prot) (he.mono fun _ hle => .inl (Nat.le_trans hr.below.size hle)) (fun _ h => h)

theorem run_call {cl : Call} {f : FuncId} {fn : Func} {c : Code} (ho : o.op = .call cl) (hcl : cl.callee = .value (.func f)) (hf : P.funcs[f]? = some fn) (hb : fn.body = some c) (hn : (fn.name == "runtime.NumGoroutine") = false) (ρ : Operand → Value) (hρ : ρ (.func f) = .func (.func f) #[] #[]) :
    (execOp ρ o).run P w = .ok (.enter f (cl.args.map ρ)) w := by
  simp only [execOp, ho, resolve, hcl, hρ, Deferred.ofValue, Sem.run_bind, Sem.run_pure, Result.andThen_ok, invoke, callFunc, run_program, hf, hn, hb]
  simp

/-- Operands that hold values, in order. -/
def opvs (env : Env) : List Operand → Option (List TV)
  | [] => some []
  | x :: r => match opv env x, opvs env r with
    | .v t, some ts => some (t :: ts)
    | _, _ => none

theorem opvs_rep (h : Rel γ Pr x0 N env M a w) : ∀ (l : List Operand) (ts : List TV), opvs env l = some ts → TsRep γ Pr w ts (l.map a.eval)
  | [], ts, hl => by simp [opvs] at hl; subst hl; exact ⟨rfl, fun i t ht => by simp at ht⟩
  | x :: r, ts, hl => by
    simp only [opvs] at hl
    have h1 := h.opv x
    split at hl
    · rename_i t us hx hr
      obtain rfl := Option.some.inj hl
      obtain ⟨h2, h3⟩ := opvs_rep h r us hr
      refine ⟨by simp [h2], fun i t' ht => ?_⟩
      cases i with
      | zero => simp at ht; subst ht; rw [hx] at h1; exact ⟨_, rfl, h1⟩
      | succ i => exact h3 i t' ht
    · cases hl

theorem TsRep.pure {ts : List TV} {vs : List Value} (hp : ∀ t ∈ ts, t.pure) (h : TsRep γ Pr w ts vs) : TsRep γ' Pr w ts vs :=
  ⟨h.1, fun i t ht => let ⟨u, hu, hr⟩ := h.2 i t ht; ⟨u, hu, TRep.pure (hp t (List.mem_of_getElem? ht)) hr⟩⟩

theorem SRep.ret1 {ts : List TV} {us : List Value} (h : TsRep γ Pr w ts us) : SRep γ Pr w (DL.ret1 ts) (joined us) := by
  match ts, us, h with
  | [t], [u], h =>
    obtain ⟨y, hy, hr⟩ := h.2 0 t rfl
    simp at hy
    subst hy
    exact hr
  | [], [], h => exact ⟨[], rfl, rfl, h.2⟩
  | t :: t' :: ts, u :: u' :: us, h => exact ⟨u :: u' :: us, rfl, h.1, h.2⟩
  | [], _ :: _, h => simp [TsRep] at h
  | [_], [], h => simp [TsRep] at h
  | [_], _ :: _ :: _, h => simp [TsRep] at h
  | _ :: _ :: _, [], h => simp [TsRep] at h
  | _ :: _ :: _, [_], h => simp [TsRep] at h

theorem ret1_ok {ts : List TV} (hp : ∀ t ∈ ts, t.pure) : (DL.ret1 ts).ok M := by
  match ts, hp with
  | [t], hp => exact TV.pure_ok (hp t (by simp))
  | [], hp => exact fun t ht => TV.pure_ok (hp t ht)
  | t :: t' :: ts, hp => exact fun t ht => TV.pure_ok (hp t ht)

theorem DOps.call {cl : Call} {f : FuncId} {fn : Func} {c : Code} {ts : List TV} {R : List TV → Prop} (hg : gd ops env o = some true) {d : Nat} (hd : o.dst = some d) (hN : Nat.blt d N = true) (ho : o.op = .call cl) (hcl : cl.callee = .value (.func f))
    (hf : P.funcs[f]? = some fn) (hb : fn.body = some c) (hn : (fn.name == "runtime.NumGoroutine") = false) (hx : opvs env cl.args.toList = some ts) (hp : ∀ t ∈ ts, t.pure) (hc : DCalls P f ts R)
    (h : ∀ us, R us → DOps P N M0 ops Q rest ((d, ret1 us) :: env) M) : DOps P N M0 ops Q (o :: rest) env M := by
  have he : ∀ us, putd o.dst (ret1 us) env = (d, ret1 us) :: env := fun us => by rw [hd]; rfl
  have h : ∀ us, R us → DOps P N M0 ops Q rest (putd o.dst (ret1 us) env) M := fun us hu => by rw [he]; exact h us hu
  have hd := dstOk_of hd hN
  intro x0 a w hx0 ⟨γ, Pr, hr, hpe⟩
  have hw := gd_wanted (ops := ops) hr hg
  unfold wpList
  rw [if_pos hw]
  refine .inl ?_
  unfold Oper.wp
  rw [run_call ho hcl hf hb hn a.eval rfl, Oper.upon_enter]
  have hargs : cl.args.map a.eval = (cl.args.toList.map a.eval).toArray := by apply Array.ext'; rw [Array.toList_map]
  rw [hargs]
  refine (hc Pr w _ hr.prot ((opvs_rep hr _ _ hx).pure hp)).mono fun e w' ⟨us, rs, Pr', he, hB, hE, hV, hR, hP, hQ⟩ => ?_
  subst he
  have hr' := hr.called hB hE hV
  exact h rs hQ x0 _ w' hx0 ⟨γ, Pr', hr'.put (dstOk_spec hd) (SRep.ret1 (hR.pure hP)) (ret1_ok hP), hpe.called hr hB hE⟩

/-! ### A function's own results -/
def ResT (T : TypeId → Option TyI) (env : Env) (M : Mem) : ResultVar → TV → Prop
  | .tmp t, x => lk env t = .v x
  | .cell c ty, x => ∃ b tb cs i, lk env c = .v (.one (.ptr b 0)) ∧ mget M b = some (.box tb cs) ∧ T ty = some i ∧ (if aggD i.desc then cs.length = i.size ∧ x = .agg cs else ∃ c, cs[0]? = some c ∧ x = .one c)

def ResTs (T : TypeId → Option TyI) (env : Env) (M : Mem) : List ResultVar → List TV → Prop
  | [], [] => True
  | r :: rs, t :: ts => ResT T env M r t ∧ ResTs T env M rs ts
  | _, _ => False

/-- What must hold where a function ends. -/
def endQ (T : TypeId → Option TyI) (rs : List ResultVar) (R : List TV → Prop) : DPost := fun e env M =>
  match e with
  | .normal | .ret => ∃ ts, ResTs T env M rs ts ∧ (∀ t ∈ ts, t.pure) ∧ R ts
  | _ => False

def resSem (tmps : Array Value) : ResultVar → Sem Value
  | .tmp t => pure (tmps.getD t undef)
  | .cell a t => do loadVar t (← asAddr (tmps.getD a undef))

theorem run_result {T : TypeId → Option TyI} (hT : TOk P T) (h : Rel γ Pr x0 N env M a w) {r : ResultVar} {t : TV} (hr : ResT T env M r t) :
    ∃ v, (resSem a.tmps r).run P w = .ok v w ∧ TRep γ Pr w t v := by
  cases r with
  | tmp s =>
    have := h.slot s
    rw [show lk env s = .v t from hr] at this
    exact ⟨_, rfl, this⟩
  | cell c ty =>
    obtain ⟨b, tb, cs, i, h1, h2, h3, h4⟩ := hr
    have hs := h.slot c
    rw [h1] at hs
    have hs' : a.tmps.getD c undef = .pointer (some ⟨γ.blk b, 0, none⟩) := hs
    obtain ⟨_, ⟨vs, hv, hl⟩, _⟩ := h.mem b _ h2
    simp only [resSem, hs']
    split at h4
    · rename_i ha
      obtain ⟨hc, rfl⟩ := h4
      refine ⟨.agg vs.toArray, ?_, vs, rfl, hl⟩
      have := run_loadN (w := w) hT h3 ha (g := γ.blk b) (k := 0) (vs := vs) (by rw [hl.1, hc]) (fun j v hj => by rw [blk_cell' hv]; simpa using hj)
      simpa [asAddr, Instr.loadAt, Instr.sureAddr] using this
    · rename_i ha
      obtain ⟨c, hc, rfl⟩ := h4
      obtain ⟨u, hu, hr⟩ := hl.2 0 c hc
      refine ⟨u, ?_, hr⟩
      have hcell : w.cell? ⟨γ.blk b, 0, none⟩ = some u := by rw [blk_cell' hv]; simpa using hu
      have := run_load1 (w := w) hT h3 (by simpa using ha) hcell
      simpa [asAddr, Instr.loadAt, Instr.sureAddr] using this

theorem run_results {T : TypeId → Option TyI} (hT : TOk P T) (h : Rel γ Pr x0 N env M a w) {fn : Func} {ts : List TV} (hr : ResTs T env M fn.results.toList ts) :
    ∃ us, (results fn a.tmps).run P w = .ok (joined us) w ∧ TsRep γ Pr w ts us := by
  have key : ∀ (l : List ResultVar) (ts : List TV), ResTs T env M l ts → ∃ us : List Value, (l.mapM (resSem a.tmps)).run P w = .ok us w ∧ TsRep γ Pr w ts us := by
    intro l
    induction l with
    | nil =>
      intro ts hr
      cases ts with
      | nil => exact ⟨[], by simp, rfl, fun i t ht => by simp at ht⟩
      | cons t ts => exact hr.elim
    | cons r l ih =>
      intro ts hr
      cases ts with
      | nil => exact hr.elim
      | cons t ts =>
        obtain ⟨h1, h2⟩ := hr
        obtain ⟨v, hv, ht⟩ := run_result hT h h1
        obtain ⟨us, hu, hts⟩ := ih ts h2
        refine ⟨v :: us, ?_, by simp [hts.1], fun i t' ht' => ?_⟩
        · rw [List.mapM_cons, Sem.run_bind, hv]
          simp [hu]
        · cases i with
          | zero => simp at ht'; subst ht'; exact ⟨v, rfl, ht⟩
          | succ i => exact hts.2 i t' ht'
  obtain ⟨us, hu, hts⟩ := key _ ts hr
  refine ⟨us, ?_, hts⟩
  have hm : (fn.results.mapM (resSem a.tmps)).run P w = .ok us.toArray w := by
    rw [← Array.toArray_toList (xs := fn.results), List.mapM_toArray]
    simp [hu]
  have he : results fn a.tmps = (do let vs ← fn.results.mapM (resSem a.tmps); pure (if h : vs.size = 1 then vs[0] else .tuple vs)) := by
    unfold results
    congr 1
  rw [he, Sem.run_bind, hm]
  match us with
  | [] => rfl
  | [u] => rfl
  | u :: u' :: us => rfl

def envOf (args : List TV) : Env := go 0 args
where go : Nat → List TV → Env
  | _, [] => []
  | i, t :: r => (i, .v t) :: go (i + 1) r

theorem lk_envOf_go : ∀ (args : List TV) (k i : Nat), lk (envOf.go k args) i = if k ≤ i then (match args[i - k]? with | some t => .v t | none => .junk) else .junk
  | [], k, i => by simp [envOf.go, lk]
  | t :: r, k, i => by
    rw [envOf.go, lk_cons, lk_envOf_go r (k + 1) i]
    by_cases h : k = i
    · subst h; simp
    · rw [if_neg h]
      by_cases h2 : k + 1 ≤ i
      · rw [if_pos h2, if_pos (by omega), show i - k = (i - (k + 1)) + 1 by omega, List.getElem?_cons_succ]
      · rw [if_neg h2, if_neg (by omega)]

theorem DCalls.enter {f : FuncId} {fn : Func} {c : Code} {T : TypeId → Option TyI} (hT : TOk P T) {args : List TV} {R : List TV → Prop} (hf : P.funcs[f]? = some fn) (hb : fn.body = some c) (hN : fn.ntmps = N) (hle : args.length ≤ N)
    (hp : ∀ t ∈ args, t.pure) (h : DCode P N [] c (endQ T fn.results.toList R) (envOf args) []) : DCalls P f args R := by
  intro Pr w vs hpr hts
  refine calls_of_wp hf hb ?_
  have hsz : (vs.toArray ++ Array.replicate (fn.ntmps - vs.toArray.size) undef).size = N := by
    have := hts.1
    simp [hN]; omega
  have hrel : Rel γ0 Pr ⟨w, Pr, γ0, []⟩ N (envOf args) [] { tmps := vs.toArray ++ Array.replicate (fn.ntmps - vs.toArray.size) undef, defers := [] } w := by
    refine { size := hsz, slot := fun i => ?_, slotB := fun i => ?_, mem := fun b k hm => by simp [mget] at hm, memB := fun b k hm => by simp [mget] at hm, apart := fun b b' k k' hm => by simp [mget] at hm,
             below := Sim.refl ⟨w, Pr, γ0, []⟩, prot := hpr, defers := rfl }
    · rw [envOf, lk_envOf_go, if_pos (Nat.zero_le _), Nat.sub_zero]
      cases ha : args[i]? with
      | none => trivial
      | some t =>
        obtain ⟨u, hu, hr⟩ := hts.2 i t ha
        have hlt : i < vs.length := (List.getElem?_eq_some_iff.1 hu).1
        have : (vs.toArray ++ Array.replicate (fn.ntmps - vs.toArray.size) undef).getD i undef = u := by
          simp only [Array.getD_eq_getD_getElem?, Array.getElem?_append, List.size_toArray, hlt, if_true, List.getElem?_toArray, hu, Option.getD_some]
        show TRep γ0 Pr w t _
        rw [this]
        exact hr
    · rw [envOf, lk_envOf_go, if_pos (Nat.zero_le _), Nat.sub_zero]
      cases ha : args[i]? with
      | none => trivial
      | some t => exact TV.pure_ok (hp t (List.mem_of_getElem? ha))
  have hfrom : From ⟨w, Pr, γ0, []⟩ γ0 Pr [] w := ⟨PExt.refl _ _, fun _ _ _ => rfl, Cn.agree_refl _ _, fun _ h => h⟩
  refine wp_mono (h ⟨w, Pr, γ0, []⟩ _ w rfl ⟨γ0, Pr, hrel, hfrom⟩) fun e a' w' ⟨env', M', ⟨γ', Pr', hr', hpe⟩, hQ⟩ => ?_
  have hmay : ∀ k, Ctx.may ⟨w, Pr, γ0, []⟩ k → w.heap.size ≤ k := fun k hk => hk.elim id fun ⟨b, l, hb, _⟩ => by simp [mget] at hb
  have hbel : Below w.heap.size w w' := ⟨hr'.below.os, hr'.below.tape, hr'.below.output, hr'.below.size, fun k hk => hr'.below.block k fun hm => absurd (hmay k hm) (by omega)⟩
  have fin : (∃ ts, ResTs T env' M' fn.results.toList ts ∧ (∀ t ∈ ts, t.pure) ∧ R ts) → a'.defers = [] ∧ ∃ v, (results fn a'.tmps).run P w' = .ok v w' ∧ ∃ us ts Pr', Ending.returned v = .returned (joined us) ∧ Below w.heap.size w w' ∧ PExt Pr Pr' (fun k => w.heap.size ≤ k) ∧ (∀ b o, Pr' b o → b < w'.heap.size) ∧
      TsRep γ0 Pr' w' ts us ∧ (∀ t ∈ ts, t.pure) ∧ R ts := fun ⟨ts, h1, h2, h3⟩ => by
    obtain ⟨us, hu, hts⟩ := run_results hT hr' h1
    exact ⟨hr'.defers, _, hu, us, ts, Pr', rfl, hbel, hpe.ext.mono hmay, hr'.prot.lt, hts.pure h2, h2, h3⟩
  cases e with
  | normal => exact fin hQ
  | ret => exact fin hQ
  | _ => exact hQ.elim

/-! ### Calls that are handed memory -/
/-- Memory alone. -/
structure MRel (γ : Cn) (Pr : Prot) (c : Ctx) (M : Mem) (w : World) : Prop where
  mem : ∀ b k, mget M b = some k → BRep γ Pr w c b k
  memB : ∀ b k, mget M b = some k → Blk.ok M k
  apart : ∀ b b' k k', mget M b = some k → mget M b' = some k' → b ≠ b' → ∀ g, blockOf γ b k = some g → blockOf γ b' k' ≠ some g

/-- The blocks that a memory tells of. -/
def blocks (γ : Cn) (M : Mem) (k : Nat) : Prop := ∃ b l, mget M b = some l ∧ blockOf γ b l = some k

/-- A call that is handed a memory: what it returns, and what has become of that memory. -/
def DCallsM (P : Program) (f : FuncId) (args : List TV) (M : Mem) (R : List TV → Mem → Prop) : Prop :=
  ∀ γ Pr w vs, PV Pr w → MRel γ Pr ⟨w, Pr, γ, M⟩ M w → (∀ t ∈ args, t.ok M) → TsRep γ Pr w args vs →
    Calls P f vs.toArray w fun e w' => ∃ us ts γ' Pr' M', e = .returned (joined us) ∧ Sim ⟨w, Pr, γ, M⟩ w' ∧ PExt Pr Pr' (Ctx.may ⟨w, Pr, γ, M⟩) ∧ (∀ b o, Pr b o → w'.cell? ⟨b, o, none⟩ = w.cell? ⟨b, o, none⟩) ∧ (∀ b o, Pr' b o → b < w'.heap.size) ∧
      MRel γ' Pr' ⟨w, Pr, γ, M⟩ M' w' ∧ Cn.agree M γ γ' ∧ (∀ b, has M b ↔ has M' b) ∧ TsRep γ' Pr' w' ts us ∧ (∀ t ∈ ts, t.ok M') ∧ R ts M'

def endQM (T : TypeId → Option TyI) (rs : List ResultVar) (M0 : Mem) (R : List TV → Mem → Prop) : DPost := fun e env M =>
  match e with
  | .normal | .ret => ∃ ts M', ResTs T env M rs ts ∧ (∀ b, mget M' b = none ∨ mget M' b = mget M b) ∧ (∀ b, has M0 b ↔ has M' b) ∧ (∀ b k, mget M' b = some k → k.ok M') ∧ (∀ t ∈ ts, t.ok M') ∧ R ts M'
  | _ => False

theorem DCallsM.enter {f : FuncId} {fn : Func} {c : Code} {T : TypeId → Option TyI} (hT : TOk P T) {args : List TV} {R : List TV → Mem → Prop} (hf : P.funcs[f]? = some fn) (hb : fn.body = some c) (hN : fn.ntmps = N) (hle : args.length ≤ N)
    (h : DCode P N M c (endQM T fn.results.toList M R) (envOf args) M) : DCallsM P f args M R := by
  intro γ Pr w vs hpr hmr hp hts
  refine calls_of_wp hf hb ?_
  have hsz : (vs.toArray ++ Array.replicate (fn.ntmps - vs.toArray.size) undef).size = N := by
    have := hts.1
    simp [hN]; omega
  have hrel : Rel γ Pr ⟨w, Pr, γ, M⟩ N (envOf args) M { tmps := vs.toArray ++ Array.replicate (fn.ntmps - vs.toArray.size) undef, defers := [] } w := by
    refine { size := hsz, slot := fun i => ?_, slotB := fun i => ?_, mem := hmr.mem, memB := hmr.memB, apart := hmr.apart, below := Sim.refl ⟨w, Pr, γ, M⟩, prot := hpr, defers := rfl }
    · rw [envOf, lk_envOf_go, if_pos (Nat.zero_le _), Nat.sub_zero]
      cases ha : args[i]? with
      | none => trivial
      | some t =>
        obtain ⟨u, hu, hr⟩ := hts.2 i t ha
        have hlt : i < vs.length := (List.getElem?_eq_some_iff.1 hu).1
        have : (vs.toArray ++ Array.replicate (fn.ntmps - vs.toArray.size) undef).getD i undef = u := by
          simp only [Array.getD_eq_getD_getElem?, Array.getElem?_append, List.size_toArray, hlt, if_true, List.getElem?_toArray, hu, Option.getD_some]
        show TRep γ Pr w t _
        rw [this]
        exact hr
    · rw [envOf, lk_envOf_go, if_pos (Nat.zero_le _), Nat.sub_zero]
      cases ha : args[i]? with
      | none => trivial
      | some t => exact hp t (List.mem_of_getElem? ha)
  have hfrom : From ⟨w, Pr, γ, M⟩ γ Pr M w := ⟨PExt.refl _ _, fun _ _ _ => rfl, Cn.agree_refl _ _, fun _ h => h⟩
  refine wp_mono (h ⟨w, Pr, γ, M⟩ _ w rfl ⟨γ, Pr, hrel, hfrom⟩) fun e a' w' ⟨env', M', ⟨γ', Pr', hr', hpe⟩, hQ⟩ => ?_
  have fin : (∃ ts M'', ResTs T env' M' fn.results.toList ts ∧ (∀ b, mget M'' b = none ∨ mget M'' b = mget M' b) ∧ (∀ b, has M b ↔ has M'' b) ∧ (∀ b k, mget M'' b = some k → k.ok M'') ∧ (∀ t ∈ ts, t.ok M'') ∧ R ts M'') →
      a'.defers = [] ∧ ∃ v, (results fn a'.tmps).run P w' = .ok v w' ∧ ∃ us ts γ' Pr' M', Ending.returned v = .returned (joined us) ∧ Sim ⟨w, Pr, γ, M⟩ w' ∧ PExt Pr Pr' (Ctx.may ⟨w, Pr, γ, M⟩) ∧ (∀ b o, Pr b o → w'.cell? ⟨b, o, none⟩ = w.cell? ⟨b, o, none⟩) ∧ (∀ b o, Pr' b o → b < w'.heap.size) ∧
      MRel γ' Pr' ⟨w, Pr, γ, M⟩ M' w' ∧ Cn.agree M γ γ' ∧ (∀ b, has M b ↔ has M' b) ∧ TsRep γ' Pr' w' ts us ∧ (∀ t ∈ ts, t.ok M') ∧ R ts M' := fun ⟨ts, M'', h1, h2, h3, h4, h5, h6⟩ => by
    obtain ⟨us, hu, hts⟩ := run_results hT hr' h1
    have get : ∀ b k, mget M'' b = some k → mget M' b = some k := fun b k hk => by
      rcases h2 b with e | e
      · rw [e] at hk; cases hk
      · rw [← e]; exact hk
    exact ⟨hr'.defers, _, hu, us, ts, γ', Pr', M'', rfl, hr'.below, hpe.ext, hpe.cell, hr'.prot.lt, ⟨fun b k hk => hr'.mem b k (get b k hk), h4, fun b b' k k' hk hk' => hr'.apart b b' k k' (get b k hk) (get b' k' hk')⟩, hpe.lie, h3, hts, h5, h6⟩
  cases e with
  | normal => exact fin hQ
  | ret => exact fin hQ
  | _ => exact hQ.elim

theorem ret1_okM {ts : List TV} (hp : ∀ t ∈ ts, t.ok M) : (DL.ret1 ts).ok M := by
  match ts, hp with
  | [t], hp => exact hp t (by simp)
  | [], hp => exact fun t ht => hp t ht
  | t :: t' :: ts, hp => exact fun t ht => hp t ht

theorem blockOf_agree {Ms : Mem} (hg : Cn.agree Ms γ γ') {b : Nat} (hb : has Ms b) (k : Blk) : blockOf γ' b k = blockOf γ b k := by
  cases k with
  | box t cs => simp [blockOf, hg b hb]
  | row e k n v cs fz => rfl
theorem BRep.ctx {c c' : Ctx} {b : Nat} {k : Blk} (h : BRep γ Pr w c b k) (hm : ∀ g, blockOf γ b k = some g → c.may g → c'.may g) : BRep γ Pr w c' b k := by
  cases k with
  | box t cs => exact ⟨hm _ rfl h.1, h.2⟩
  | row e k n v cs fz =>
    obtain ⟨vs, h1, h2, h3⟩ := h
    exact ⟨vs, h1, h2, fun g hg => ⟨hm g hg (h3 g hg).1, (h3 g hg).2⟩⟩

/-- The parts of a memory that are handed to a call are told as the call leaves them. -/
def Cn.join (Ms : Mem) (γ γ' : Cn) : Cn := ⟨fun b => if (mget Ms b).isSome then γ'.blk b else γ.blk b⟩

theorem has_iff {b : Nat} : has M b ↔ (mget M b).isSome = true := by
  unfold has
  cases mget M b <;> simp

theorem opvs_ok (h : ∀ i, (lk env i).ok M) : ∀ (l : List Operand) (ts : List TV), opvs env l = some ts → ∀ t ∈ ts, t.ok M
  | [], ts, hl => by simp [opvs] at hl; subst hl; exact fun t ht => by cases ht
  | x :: r, ts, hl => by
    simp only [opvs] at hl
    have h1 := opv_ok h x
    split at hl
    · rename_i t us hx hr
      obtain rfl := Option.some.inj hl
      rw [hx] at h1
      exact fun t' ht => (List.mem_cons.1 ht).elim (fun e => by rw [e]; exact h1) (fun ht => opvs_ok h r us hr t' ht)
    · cases hl

theorem DOps.callM (Ms : Mem) {cl : Call} {f : FuncId} {fn : Func} {c : Code} {ts : List TV} {R : List TV → Mem → Prop} (hg : gd ops env o = some true) (hd : dstOk N o = true) (ho : o.op = .call cl) (hcl : cl.callee = .value (.func f))
    (hf : P.funcs[f]? = some fn) (hb : fn.body = some c) (hn : (fn.name == "runtime.NumGoroutine") = false) (hx : opvs env cl.args.toList = some ts) (hs : ∀ b k, mget Ms b = some k → mget M b = some k) (hsB0 : ∀ γ Pr x0 a w, Rel γ Pr x0 N env M a w → ∀ b k, mget Ms b = some k → k.ok Ms) (hp0 : ∀ γ Pr x0 a w, Rel γ Pr x0 N env M a w → ∀ t ∈ ts, t.ok Ms) (hc : DCallsM P f ts Ms R)
    (h : ∀ us M', R us M' → (∀ b, has Ms b ↔ has M' b) → ∀ Mn, (∀ b, mget Mn b = if (mget Ms b).isSome then mget M' b else mget M b) → DOps P N M0 ops Q rest (putd o.dst (ret1 us) env) Mn)
    (mk : ∀ M', (∀ b, has Ms b ↔ has M' b) → ∃ Mn : Mem, ∀ b, mget Mn b = if (mget Ms b).isSome then mget M' b else mget M b) : DOps P N M0 ops Q (o :: rest) env M := by
  intro x0 a w hx0 ⟨γ, Pr, hr, hpe⟩
  have hsB := hsB0 γ Pr x0 a w hr
  have hp := hp0 γ Pr x0 a w hr
  have hw := gd_wanted (ops := ops) hr hg
  unfold wpList
  rw [if_pos hw]
  refine .inl ?_
  unfold Oper.wp
  rw [run_call ho hcl hf hb hn a.eval rfl, Oper.upon_enter]
  have hargs : cl.args.map a.eval = (cl.args.toList.map a.eval).toArray := by apply Array.ext'; rw [Array.toList_map]
  rw [hargs]
  have hmr : MRel γ Pr ⟨w, Pr, γ, Ms⟩ Ms w := ⟨fun b k hk => (hr.mem b k (hs b k hk)).ctx fun g hg _ => .inr ⟨b, k, hk, hg⟩, hsB, fun b b' k k' hk hk' => hr.apart b b' k k' (hs b k hk) (hs b' k' hk')⟩
  refine (hc γ Pr w _ hr.prot hmr hp (opvs_rep hr _ _ hx)).mono fun e w' ⟨us, rs, γ', Pr', M', he, hS, hE, hcell, hV, hM, hlie, hhas, hR, hok, hQ⟩ => ?_
  subst he
  obtain ⟨Mn, hMn⟩ := mk M' hhas
  have K : Kept Pr w Pr' w' := ⟨hE.sub, hcell⟩
  have up : ∀ k, Ctx.may ⟨w, Pr, γ, Ms⟩ k → x0.may k := fun k hk => hk.elim (fun hle => .inl (Nat.le_trans hr.below.size hle)) fun ⟨b, l, hb, hl⟩ => ((hr.mem b l (hs b l hb)).lt k hl).1
  have G : Cn.agree M γ (Cn.join Ms γ γ') := fun b hb => by
    by_cases hm : (mget Ms b).isSome = true
    · simp only [Cn.join, hm, if_true]; exact hlie b (has_iff.2 hm)
    · simp [Cn.join, hm]
  have G' : Cn.agree M' γ' (Cn.join Ms γ γ') := fun b hb => by
    have hm := has_iff.1 ((hhas b).2 hb)
    simp [Cn.join, hm]
  have hMn1 : ∀ b, (mget Ms b).isSome = true → mget Mn b = mget M' b := fun b hb => by rw [hMn, if_pos hb]
  have hMn2 : ∀ b, ¬ (mget Ms b).isSome = true → mget Mn b = mget M b := fun b hb => by rw [hMn, if_neg hb]
  have hasN : ∀ b, has M b → has Mn b := fun b hb => by
    by_cases hm : (mget Ms b).isSome = true
    · rw [has, hMn1 b hm]; exact (hhas b).1 (has_iff.2 hm)
    · rw [has, hMn2 b hm]; exact hb
  have hasN' : ∀ b, has M' b → has Mn b := fun b hb => by
    rw [has, hMn1 b (has_iff.1 ((hhas b).2 hb))]; exact hb
  have far : ∀ b k, ¬ (mget Ms b).isSome = true → mget M b = some k → ∀ g, blockOf γ b k = some g → ¬ Ctx.may ⟨w, Pr, γ, Ms⟩ g := fun b k hm hk g hg hmay => by
    rcases hmay with hle | ⟨b', l, hb', hl⟩
    · exact absurd ((hr.mem b k hk).lt g hg).2 (Nat.not_lt.2 hle)
    · exact hr.apart b' b l k (hs b' l hb') hk (fun e => hm (by rw [← e, hb']; rfl)) g hl hg
  have hrel : Rel (Cn.join Ms γ γ') Pr' x0 N env Mn a w' := by
    refine { size := hr.size, slot := fun i => SRep.move G K (hr.slotB i) (hr.slot i), slotB := fun i => SV.ok_le hasN (hr.slotB i), mem := fun b k hk => ?_, memB := fun b k hk => ?_, apart := fun b b' k k' hk hk' hne g hg => ?_,
             below := ⟨hS.os.trans hr.below.os, hS.tape.trans hr.below.tape, hS.output.trans hr.below.output, Nat.le_trans hr.below.size hS.size, fun k hk => (hS.block k fun hm => hk (up k hm)).trans (hr.below.block k hk)⟩, prot := hr.prot.kept K hV, defers := hr.defers }
    · by_cases hm : (mget Ms b).isSome = true
      · rw [hMn1 b hm] at hk
        exact (BRep.move G' (by rw [has, hk]; simp) (Kept.refl _ _) (fun _ _ => rfl) (fun _ _ _ p => p) (hM.memB b k hk) (hM.mem b k hk)).ctx fun g _ hmay => up g hmay
      · rw [hMn2 b hm] at hk
        exact BRep.move G (by rw [has, hk]; simp) K (fun g hg => hS.block g (far b k hm hk g hg)) (fun g hg o hp => (hE.new g o hp).elim id fun hmay => absurd hmay (far b k hm hk g hg)) (hr.memB b k hk) (hr.mem b k hk)
    · by_cases hm : (mget Ms b).isSome = true
      · rw [hMn1 b hm] at hk
        exact Blk.ok_le hasN' (hM.memB b k hk)
      · rw [hMn2 b hm] at hk
        exact Blk.ok_le hasN (hr.memB b k hk)
    · have inB : ∀ b k, (mget Ms b).isSome = true → mget Mn b = some k → ∀ g, blockOf (Cn.join Ms γ γ') b k = some g → mget M' b = some k ∧ blockOf γ' b k = some g ∧ Ctx.may ⟨w, Pr, γ, Ms⟩ g := fun b k hm hk g hg => by
        rw [hMn1 b hm] at hk
        rw [blockOf_agree G' (by rw [has, hk]; simp)] at hg
        exact ⟨hk, hg, ((hM.mem b k hk).lt g hg).1⟩
      have outB : ∀ b k, ¬ (mget Ms b).isSome = true → mget Mn b = some k → ∀ g, blockOf (Cn.join Ms γ γ') b k = some g → mget M b = some k ∧ blockOf γ b k = some g ∧ ¬ Ctx.may ⟨w, Pr, γ, Ms⟩ g := fun b k hm hk g hg => by
        rw [hMn2 b hm] at hk
        rw [blockOf_agree G (by rw [has, hk]; simp)] at hg
        exact ⟨hk, hg, far b k hm hk g hg⟩
      intro hg'
      by_cases h1 : (mget Ms b).isSome = true
      · obtain ⟨a1, a2, a3⟩ := inB b k h1 hk g hg
        by_cases h2 : (mget Ms b').isSome = true
        · obtain ⟨b1, b2, _⟩ := inB b' k' h2 hk' g hg'
          exact hM.apart b b' k k' a1 b1 hne g a2 b2
        · exact (outB b' k' h2 hk' g hg').2.2 a3
      · obtain ⟨a1, a2, a3⟩ := outB b k h1 hk g hg
        by_cases h2 : (mget Ms b').isSome = true
        · exact a3 (inB b' k' h2 hk' g hg').2.2
        · obtain ⟨b1, b2, _⟩ := outB b' k' h2 hk' g hg'
          exact hr.apart b b' k k' a1 b1 hne g a2 b2
  have hfrom : From x0 (Cn.join Ms γ γ') Pr' Mn w' := hpe.step G K (hE.mono up) hasN
  have hres : TsRep (Cn.join Ms γ γ') Pr' w' rs us := ⟨hR.1, fun i t ht => let ⟨u, hu, hr2⟩ := hR.2 i t ht; ⟨u, hu, TRep.move G' (Kept.refl _ _) (hok t (List.mem_of_getElem? ht)) hr2⟩⟩
  exact h rs M' hQ hhas Mn hMn x0 _ w' hx0 ⟨_, Pr', hrel.put (dstOk_spec hd) (SRep.ret1 hres) (ret1_okM fun t ht => TV.ok_le hasN' (hok t ht)), hfrom⟩

/-- All of one's memory is handed to the call. -/
theorem DOps.callA {cl : Call} {f : FuncId} {fn : Func} {c : Code} {ts : List TV} {R : List TV → Mem → Prop} (hg : gd ops env o = some true) (hd : dstOk N o = true) (ho : o.op = .call cl) (hcl : cl.callee = .value (.func f))
    (hf : P.funcs[f]? = some fn) (hb : fn.body = some c) (hn : (fn.name == "runtime.NumGoroutine") = false) (hx : opvs env cl.args.toList = some ts) (hc : DCallsM P f ts M R)
    (h : ∀ us M', R us M' → DOps P N M0 ops Q rest (putd o.dst (ret1 us) env) M') : DOps P N M0 ops Q (o :: rest) env M := by
  have same : ∀ M' : Mem, (∀ b, has M b ↔ has M' b) → ∀ b, mget M' b = if (mget M b).isSome then mget M' b else mget M b := fun M' hh b => by
    split
    · rfl
    · rename_i hb
      cases hM' : mget M' b with
      | none => cases hm : mget M b with
        | none => rfl
        | some k => rw [hm] at hb; simp at hb
      | some k => exact absurd (has_iff.1 ((hh b).2 (by rw [has, hM']; simp))) hb
  refine DOps.callM M hg hd ho hcl hf hb hn hx (fun _ _ h => h) (fun _ _ _ _ _ hr => hr.memB) (fun _ _ _ _ _ hr => opvs_ok hr.slotB _ _ hx) hc (fun us M' hR hhas Mn hMn => ?_) (fun M' hh => ⟨M', same M' hh⟩)
  have he : ∀ b, mget M' b = mget Mn b := fun b => (same M' hhas b).trans (hMn b).symm
  intro x0 a w hx0 ⟨γ, Pr, hr, hfr⟩
  have hh : ∀ b, has Mn b → has M' b := fun b hb => by
    unfold has at *
    rw [he]
    exact hb
  have get : ∀ b k, mget M' b = some k → mget Mn b = some k := fun b k hk => (he b).symm.trans hk
  have hrel : Rel γ Pr x0 N (putd o.dst (ret1 us) env) M' a w :=
    { size := hr.size
      slot := hr.slot
      slotB := fun i => SV.ok_le hh (hr.slotB i)
      mem := fun b k hk => hr.mem b k (get b k hk)
      memB := fun b k hk => Blk.ok_le hh (hr.memB b k (get b k hk))
      apart := fun b b' k k' hk hk' => hr.apart b b' k k' (get b k hk) (get b' k' hk')
      below := hr.below
      prot := hr.prot
      defers := hr.defers }
  exact h us M' hR x0 a w hx0 ⟨γ, Pr, hrel, ⟨hfr.ext, hfr.cell, hfr.lie, fun b hb => hh b (hfr.has b hb)⟩⟩
end
end Go.Proofs.Ytgjamldcglebjaa.DL
