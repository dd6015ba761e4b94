/- A logic of data for Go functions: function values as data; variables that are no longer written. No program in sight. -/
import Derived.Test.YtgjamldcglebjaaD14
namespace Go.Proofs.Ytgjamldcglebjaa.DL
open Go.RowKit

section
variable {P : Program} {N : Nat} {ops : Array Oper} {Q : DPost} {env : Env} {M M0 : Mem} {γ γ' : Cn} {Pr Pr' : Prot} {x0 : Ctx} {w w' : World} {a : Act} {o : Oper} {rest : List Oper}

/-- From now on the variable is only read: its address is data. -/
theorem At.freezeBox (h : At x0 N env M a w) {b d n : Nat} {tb : TypeId} {ds : List DV} {el : Nat → DV} (hm : mget M b = some (.box tb (ds.map .d))) (hs : lk env d = .v (.one (.ptr b 0))) 
    (hel : ∀ p, p < n → ds[p]? = some (el p)) : At x0 N ((d, .v (.one (.d (.pp n el)))) :: env) ((b, some (.row 0 0 0 (.slice none 0 0) [] true)) :: M) a w := by
  obtain ⟨γ, Pr, hr, hf⟩ := h
  obtain ⟨hmay, ⟨vs, hheap, hl⟩, hnp⟩ := hr.mem b _ hm
  have h1 := hr.slot d
  rw [hs] at h1
  have hv : a.tmps.getD d undef = .pointer (some ⟨γ.blk b, 0, none⟩) := h1
  let Pr' : Prot := fun g o => Pr g o ∨ g = γ.blk b
  have K : Kept Pr w Pr' w := ⟨fun _ _ x => .inl x, fun _ _ _ => rfl⟩
  have G := Cn.agree_refl M γ
  have hlt := blk_lt' hheap
  have hsub : ∀ x, has M x → has ((b, some (Blk.row 0 0 0 (.slice none 0 0) [] true)) :: M) x := has_cons
  have hE : PExt Pr Pr' x0.may := ⟨fun _ _ x => .inl x, fun g o hp => hp.imp id fun e => by rw [e]; exact hmay⟩
  have hpp : DRep Pr' w (.pp n el) (.pointer (some ⟨γ.blk b, 0, none⟩)) := by
    refine ⟨γ.blk b, 0, rfl, fun j hj => ⟨.inr rfl, ?_⟩⟩
    obtain ⟨u, hu, hd⟩ := LRep.drep hl (hel j hj)
    refine ⟨u, ?_, DRep.kept K _ _ hd⟩
    rw [Nat.zero_add, blk_cell' hheap]
    simpa using hu
  refine ⟨γ, Pr', ⟨hr.size, fun i => ?_, fun i => ?_, fun x l hx => ?_, fun x l hx => ?_, fun x y l l' hx hy hne g hg => ?_, hr.below, hr.prot.kept K fun g o hp => ?_, hr.defers⟩, ⟨hf.ext.trans hE, hf.cell, hf.lie, fun x hx => hsub x (hf.has x hx)⟩⟩
  · rw [lk]
    cases e : Nat.beq d i with
    | true =>
      obtain rfl := Nat.eq_of_beq_eq_true e
      show DRep Pr' w (.pp n el) (a.tmps.getD d undef)
      rw [hv]; exact hpp
    | false => exact SRep.move (M := M) G K (hr.slotB i) (hr.slot i)
  · rw [lk]
    cases e : Nat.beq d i with
    | true => trivial
    | false => exact SV.ok_le hsub (hr.slotB i)
  · rw [mget_cons] at hx
    split at hx
    · rename_i e1
      obtain rfl := Option.some.inj hx
      exact ⟨[], World.ownsRow_nil w 0 _ _, ⟨rfl, fun i c hc => by simp at hc⟩, fun g hg => by simp [Value.ownBlock] at hg⟩
    · rename_i e1
      refine BRep.move G (by rw [has, hx]; simp) K (fun _ _ => rfl) (fun g hgx o hp => hp.elim id fun h => absurd hgx (hr.apart b x _ l hm hx e1 g (by rw [h]; rfl))) (hr.memB x l hx) (hr.mem x l hx)
  · rw [mget_cons] at hx
    split at hx
    · obtain rfl := Option.some.inj hx
      intro c hc; cases hc
    · exact Blk.ok_le hsub (hr.memB x l hx)
  · rw [mget_cons] at hx hy
    split at hx
    · obtain rfl := Option.some.inj hx
      simp [blockOf, Value.ownBlock] at hg
    · split at hy
      · obtain rfl := Option.some.inj hy
        simp [blockOf, Value.ownBlock]
      · exact hr.apart x y l l' hx hy hne g hg
  · rcases hp with hp | e
    · exact hr.prot g o hp
    · rw [e]; exact hlt
theorem DOps.freezeBox {b d n : Nat} {tb : TypeId} (ds : List DV) (el : Nat → DV) (hm : mget M b = some (.box tb (ds.map .d))) (hs : lk env d = .v (.one (.ptr b 0))) 
    (hel : ∀ p, p < n → ds[p]? = some (el p)) (h : DOps P N M0 ops Q rest ((d, .v (.one (.d (.pp n el)))) :: env) ((b, some (.row 0 0 0 (.slice none 0 0) [] true)) :: M)) : DOps P N M0 ops Q rest env M :=
  fun x0 a w hx hat => h x0 a w hx (hat.freezeBox hm hs hel)

/-- Captured values. -/
def capsOf (env : Env) : List Operand → Option (List DV)
  | [] => some []
  | x :: r => match opv env x, capsOf env r with
    | .v (.one (.d c)), some cs => some (c :: cs)
    | _, _ => none
theorem capsOf_rep (h : Rel γ Pr x0 N env M a w) : ∀ (l : List Operand) (ds : List DV), capsOf env l = some ds → ds.length = l.length ∧ ∀ (j : Nat) d, ds[j]? = some d → ∃ u, (l.map a.eval)[j]? = some u ∧ DRep Pr w d u
  | [], ds, hl => by simp [capsOf] at hl; subst hl; exact ⟨rfl, fun j d h => by simp at h⟩
  | x :: r, ds, hl => by
    simp only [capsOf] at hl
    have h1 := h.opv x
    split at hl
    · rename_i c cs hx hr
      obtain rfl := Option.some.inj hl
      obtain ⟨h2, h3⟩ := capsOf_rep h r cs hr
      rw [hx] at h1
      refine ⟨by simp [h2], fun j d hd => ?_⟩
      cases j with
      | zero => simp at hd; subst hd; exact ⟨_, rfl, h1⟩
      | succ j => exact h3 j d (by simpa using hd)
    · cases hl
/-- A function value, of data alone. -/
theorem OpVal.fn {f : FuncId} {caps : Array Operand} {ds : List DV} (z : DV) (ho : o.op = .makeFunc (.func f) #[] caps) (hc : capsOf env caps.toList = some ds) : OpVal P N env M o (.v (.one (.d (.fn f ds.length fun j => ds.getD j z)))) := fun γ Pr x0 a w h => by
  obtain ⟨h1, h2⟩ := capsOf_rep h _ _ hc
  refine ⟨trivial, .func (.func f) #[] (caps.map a.eval), ?_, caps.toList.map a.eval, ?_, by simp [h1], fun j hj => ?_⟩
  · simp [execOp, ho, Instr.makeFunc]
  · congr 1
    apply Array.ext'
    simp
  · have hd : ds[j]? = some ds[j] := List.getElem?_eq_getElem hj
    obtain ⟨u, hu, hr⟩ := h2 j _ hd
    refine ⟨u, hu, ?_⟩
    show DRep Pr w (ds.getD j z) u
    rw [List.getD_eq_getElem?_getD, hd]; exact hr

def capTs (n : Nat) (cap : Nat → DV) : List TV := (List.range n).map fun j => .one (.d (cap j))
theorem DOps.callV {cl : Call} {x : Operand} {f : FuncId} {n : Nat} {cap : Nat → DV} {fn : Func} {c : Code} {ts rs : List TV} {d : Nat} (hg : gd ops env o = some true) (hd : o.dst = some d) (hN : Nat.blt d N = true) (ho : o.op = .call cl) (hcl : cl.callee = .value x)
    (hv : opv env x = .v (.one (.d (.fn f n cap)))) (hf : P.funcs[f]? = some fn) (hb : fn.body = some c) (hn : (fn.name == "runtime.NumGoroutine") = false) (hx : opvs env cl.args.toList = some ts) (hp : ∀ t ∈ ts, t.pure)
    (hc : DCalls P f (ts ++ capTs n cap) (fun us => us = rs)) (h : DOps P N M0 ops Q rest ((d, ret1 rs) :: env) M) : DOps P N M0 ops Q (o :: rest) env M := by
  have he : putd o.dst (ret1 rs) env = (d, ret1 rs) :: env := by rw [hd]; rfl
  rw [← he] at h
  have hd := dstOk_of hd hN
  intro x0 a w hx0 ⟨γ, Pr, hr, hpe⟩
  have hw := gd_wanted (ops := ops) hr hg
  unfold wpList
  rw [if_pos hw]
  refine .inl ?_
  unfold Oper.wp
  have h1 := hr.opv x
  rw [hv] at h1
  obtain ⟨vs, hvv, hvl, hvc⟩ := h1
  have hrun : (execOp a.eval o).run P w = .ok (.enter f ((cl.args.toList.map a.eval) ++ vs).toArray) w := by
    have hargs : cl.args.map a.eval ++ vs.toArray = ((cl.args.toList.map a.eval) ++ vs).toArray := by
      apply Array.ext'
      simp
    simp only [execOp, ho, resolve, hcl, hvv, Deferred.ofValue, Sem.run_bind, Sem.run_pure, Result.andThen_ok, invoke, callFunc, run_program, hf, hn, hb, Array.empty_append, hargs]
    simp
  rw [hrun, Oper.upon_enter]
  have hts := (opvs_rep hr _ _ hx).pure (γ' := γ0) hp
  have hall : TsRep γ0 Pr w (ts ++ capTs n cap) ((cl.args.toList.map a.eval) ++ vs) := by
    refine ⟨by simp [capTs, hts.1, hvl], fun i t ht => ?_⟩
    by_cases hi : i < ts.length
    · rw [List.getElem?_append_left hi] at ht
      obtain ⟨u, hu, hr⟩ := hts.2 i t ht
      exact ⟨u, by rw [List.getElem?_append_left (by rw [hts.1]; exact hi)]; exact hu, hr⟩
    · rw [List.getElem?_append_right (by omega), capTs, List.getElem?_map, Option.map_eq_some_iff] at ht
      obtain ⟨j, hj, rfl⟩ := ht
      obtain ⟨hjl, rfl⟩ := List.getElem?_eq_some_iff.1 hj
      simp only [List.length_range] at hjl
      obtain ⟨u, hu, hr⟩ := hvc _ hjl
      refine ⟨u, by rw [List.getElem?_append_right (by rw [hts.1]; omega), hts.1]; exact hu, ?_⟩
      simp only [List.getElem_range]
      exact hr
  refine (hc Pr w _ hr.prot hall).mono fun e w' ⟨us, rs', Pr', he, hB, hE, hV, hR, hP, hQ⟩ => ?_
  subst he hQ
  have hr' := hr.called hB hE hV
  exact h x0 _ w' hx0 ⟨γ, Pr', hr'.put (dstOk_spec hd) (SRep.ret1 (hR.pure hP)) (ret1_ok hP), hpe.called hr hB hE⟩
theorem DEq.fn {f : FuncId} {n : Nat} {c c' : Nat → DV} (h : ∀ j, j < n → c j = c' j) : DEq (.fn f n c) (.fn f n c') := fun Pr w v ⟨vs, hv, hl, hc⟩ =>
  ⟨vs, hv, hl, fun j hj => let ⟨u, hu, hd⟩ := hc j hj; ⟨u, hu, by rw [← h j hj]; exact hd⟩⟩
/-- A nil slice, as data of no element. -/
theorem DEq.nil (k : Nat) (el : Nat → Nat → DV) : DEq (.sc (.slice none 0 0)) (.sl 0 k el) := fun Pr w v ⟨_, hv⟩ =>
  ⟨none, 0, hv, Nat.le_refl _, fun h => absurd h (Nat.lt_irrefl _)⟩
/-- An argument told in another way. -/
theorem DCalls.arg {f : FuncId} {t t' : TV} {ts : List TV} {R : List TV → Prop} (h : DCalls P f (t' :: ts) R) (e : ∀ γ Pr w v, TRep γ Pr w t v → TRep γ Pr w t' v) : DCalls P f (t :: ts) R := fun Pr w vs hp hr => by
  refine h Pr w vs hp ⟨hr.1, fun i x hx => ?_⟩
  cases i with
  | zero =>
    simp at hx; subst hx
    obtain ⟨u, hu, hr⟩ := hr.2 0 t rfl
    exact ⟨u, hu, e _ _ _ _ hr⟩
  | succ i => exact hr.2 (i + 1) x (by simpa using hx)
end
end Go.Proofs.Ytgjamldcglebjaa.DL
