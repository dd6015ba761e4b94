/- A logic of data for Go functions: one's own memory: new blocks, loads, stores. No program in sight. -/
import Derived.Test.YtgjamldcglebjaaD1
namespace Go.Proofs.Ytgjamldcglebjaa.DL
open Go.RowKit

section
variable {P : Program} {N : Nat} {ops : Array Oper} {Q : DPost} {env : Env} {M M0 : Mem} {γ γ' : Cn} {Pr Pr' : Prot} {x0 : Ctx} {w w' : World} {a : Act} {o : Oper} {rest : List Oper}

theorem heap_cell {w w' : World} {g : Nat} (h : w'.heap[g]? = w.heap[g]?) (o : Nat) : w'.cell? ⟨g, o, none⟩ = w.cell? ⟨g, o, none⟩ := by
  simp [World.cell?, h]
theorem blk_set' {w : World} {g : Nat} {t : TypeId} {cs : Array Value} (h : w.heap[g]? = some (.cells cs t (0, 0))) (i : Nat) (u : Value) :
    (w.setCell ⟨g, i, none⟩ u).heap[g]? = some (.cells (cs.setIfInBounds i u) t (0, 0)) := by
  simp [World.setCell, Array.getElem?_modify, h]
theorem blk_lt' {w : World} {g : Nat} {o : Obj} (h : w.heap[g]? = some o) : g < w.heap.size := (Array.getElem?_eq_some_iff.1 h).1
theorem blk_cell' {w : World} {g : Nat} {t : TypeId} {cs : Array Value} (h : w.heap[g]? = some (.cells cs t (0, 0))) (i : Nat) : w.cell? ⟨g, i, none⟩ = cs[i]? := cell_of_row w g i cs t (0, 0) h
theorem blk_frozen' {w : World} {g : Nat} {t : TypeId} {cs : Array Value} (h : w.heap[g]? = some (.cells cs t (0, 0))) (i : Nat) : w.frozen? ⟨g, i, none⟩ = false := by simp [World.frozen?, h]

theorem BRep.move {b : Nat} {k : Blk} (hg : Cn.agree M γ γ') (hh : has M b) (hk : Kept Pr w Pr' w')
    (hheap : ∀ g, blockOf γ b k = some g → w'.heap[g]? = w.heap[g]?) (hpr : ∀ g, blockOf γ b k = some g → ∀ o, Pr' g o → Pr g o) (hok : k.ok M)
    (h : BRep γ Pr w x0 b k) : BRep γ' Pr' w' x0 b k := by
  cases k with
  | box t cs =>
    obtain ⟨h1, ⟨vs, hv, hl⟩, h3⟩ := h
    have e := hg b hh
    refine ⟨by rw [e]; exact h1, ⟨vs, by rw [e, hheap _ rfl]; exact hv, LRep.move hg hk hok hl⟩, fun o ho => ?_⟩
    rw [e] at ho
    exact h3 o (hpr _ rfl o ho)
  | row e k n v cs fz =>
    obtain ⟨vs, hown, hl, h3⟩ := h
    refine ⟨vs, ?_, LRep.move hg hk hok hl, fun g hgg => ?_⟩
    · refine ⟨hown.1, hown.2.imp id fun ⟨g, cap, cur, hv, hb, hc, hr⟩ => ⟨g, cap, cur, hv, hb, ?_, hr⟩⟩
      rw [hheap g (by simp only [blockOf]; rw [hv]; rfl)]
      exact hc
    · obtain ⟨hm, h4, h5⟩ := h3 g hgg
      exact ⟨hm, fun o ho hp => h4 o ho (hpr g hgg o hp), fun hf o hp => h5 hf o (hpr g hgg o hp)⟩

theorem BRep.lt {b : Nat} {k : Blk} (h : BRep γ Pr w x0 b k) : ∀ g, blockOf γ b k = some g → x0.may g ∧ g < w.heap.size := by
  intro g hg
  cases k with
  | box t cs =>
    obtain ⟨h1, ⟨vs, hv, _⟩, _⟩ := h
    simp [blockOf] at hg
    subst hg
    exact ⟨h1, blk_lt' hv⟩
  | row e k n v cs fz =>
    obtain ⟨vs, hown, _, h3⟩ := h
    exact ⟨(h3 g hg).1, (hown.lt g hg).2⟩

theorem Sim.refl (c : Ctx) : Sim c c.w0 := ⟨rfl, rfl, rfl, Nat.le_refl _, fun _ _ => rfl⟩
theorem may_lt {k : Nat} (h : ¬ x0.may k) : k < x0.w0.heap.size := Nat.lt_of_not_le fun hle => h (.inl hle)
theorem Sim.alloc (h : Sim x0 w) (o : Obj) : Sim x0 (w.alloc o) :=
  ⟨h.os, h.tape, h.output, Nat.le_trans h.size (by simp), fun k hk => (Below.heap_alloc w o k (Nat.lt_of_lt_of_le (may_lt hk) h.size)).trans (h.block k hk)⟩
theorem Sim.below (h : Sim x0 w) (hb : Below w.heap.size w w') : Sim x0 w' :=
  ⟨hb.os.trans h.os, hb.tape.trans h.tape, hb.output.trans h.output, Nat.le_trans h.size hb.size, fun k hk => (hb.block k (Nat.lt_of_lt_of_le (may_lt hk) h.size)).trans (h.block k hk)⟩

theorem has_cons {b : Nat} {k : Blk} : ∀ x, has M x → has ((b, some k) :: M) x := by
  intro x hx
  unfold has at *
  rw [mget_cons]
  split
  · simp
  · exact hx

def Cn.setBlk (γ : Cn) (b g : Nat) : Cn := { γ with blk := fun x => if x = b then g else γ.blk x }
theorem Cn.agree_setBlk {b g : Nat} (hb : mget M b = none) : Cn.agree M γ (γ.setBlk b g) := by
  intro x hx
  have : x ≠ b := fun e => hx (by rw [e]; exact hb)
  simp [Cn.setBlk, this]

/-- A new block. -/
theorem Rel.newBox (h : Rel γ Pr x0 N env M a w) {b : Nat} (hb : mget M b = none) {t : TypeId} {cs : List CV} {vs : List Value} (hl : LRep γ Pr w cs vs) (hok : ∀ c ∈ cs, c.ok M) :
    Rel (γ.setBlk b w.heap.size) Pr x0 N env ((b, some (.box t cs)) :: M) a (w.alloc (.cells vs.toArray t)) := by
  have hcell : ∀ g o, Pr g o → (w.alloc (.cells vs.toArray t)).cell? ⟨g, o, none⟩ = w.cell? ⟨g, o, none⟩ := fun g o hp => heap_cell (Below.heap_alloc w _ g (h.prot g o hp)) o
  have K : Kept Pr w Pr (w.alloc (.cells vs.toArray t)) := ⟨fun _ _ x => x, hcell⟩
  have G : Cn.agree M γ (γ.setBlk b w.heap.size) := Cn.agree_setBlk hb
  have hbl : (γ.setBlk b w.heap.size).blk b = w.heap.size := by simp [Cn.setBlk]
  have bo : ∀ x k, mget M x = some k → blockOf (γ.setBlk b w.heap.size) x k = blockOf γ x k := fun x k hx => by
    have := G x (by rw [has, hx]; simp)
    cases k with
    | box t cs => simp [blockOf, this]
    | row e k n v cs fz => rfl
  refine { size := h.size, slot := fun i => SRep.move G K (h.slotB i) (h.slot i), slotB := fun i => SV.ok_le has_cons (h.slotB i), mem := fun x k hm => ?_, memB := fun x k hm => ?_,
           apart := fun x y k l hx hy hne g hg => ?_, below := h.below.alloc _, prot := h.prot.kept K fun b o hp => ?_, defers := h.defers }
  · rw [mget_cons] at hm
    split at hm
    · rename_i e
      subst e
      obtain rfl := Option.some.inj hm
      refine ⟨by rw [hbl]; exact .inl h.below.size, ⟨vs, by rw [hbl]; exact heap_alloc_new w _, LRep.move G K hok hl⟩, fun o ho => ?_⟩
      rw [hbl] at ho
      exact absurd (h.prot _ _ ho) (Nat.lt_irrefl _)
    · have hx : has M x := by rw [has, hm]; simp
      exact BRep.move G hx K (fun g hg => Below.heap_alloc w _ g ((h.mem x k hm).lt g hg).2) (fun _ _ _ p => p) (h.memB x k hm) (h.mem x k hm)
  · rw [mget_cons] at hm
    split at hm
    · obtain rfl := Option.some.inj hm
      exact fun c hc => CV.ok_le has_cons (hok c hc)
    · exact Blk.ok_le has_cons (h.memB x k hm)
  · rw [mget_cons] at hx hy
    have new : ∀ z k, mget M z = some k → blockOf (γ.setBlk b w.heap.size) z k ≠ some w.heap.size := fun z k hz e => by
      rw [bo z k hz] at e
      exact absurd ((h.mem z k hz).lt _ e).2 (Nat.lt_irrefl _)
    split at hx
    · rename_i e1
      subst e1
      obtain rfl := Option.some.inj hx
      rw [if_neg hne] at hy
      simp only [blockOf, hbl, Option.some.injEq] at hg
      rw [← hg]
      exact new y l hy
    · split at hy
      · rename_i e2
        subst e2
        obtain rfl := Option.some.inj hy
        intro e3
        simp only [blockOf, hbl, Option.some.injEq] at e3
        rw [← e3] at hg
        exact new x k hx hg
      · rw [bo x k hx] at hg
        rw [bo y l hy]
        exact h.apart x y k l hx hy hne g hg
  · have := h.prot b o hp
    simp only [World.alloc, Array.size_push]
    omega

theorem run_box (t : TypeId) (v : Value) : (Instr.box t v).run P w = .ok (.pointer (some ⟨w.heap.size, 0, none⟩)) (w.alloc (.cells v.cells t)) := by
  simp [Instr.box, newVar, newRow]

theorem At.put {v : Value} {dst : Option Tmp} {r : SV} (h : Rel γ Pr x0 N env M a w) (hp : From x0 γ Pr M w) (hd : ∀ d, dst = some d → d < N) (hr : SRep γ Pr w r v) (hok : r.ok M) :
    At x0 N (putd dst r env) M (a.put dst v) w := ⟨γ, Pr, h.put hd hr hok, hp⟩
theorem From.newBox (h : From x0 γ Pr M w) (hr : Rel γ Pr x0 N env M a w) {b : Nat} (hb : mget M b = none) (k : Blk) (o : Obj) : From x0 (γ.setBlk b w.heap.size) Pr ((b, some k) :: M) (w.alloc o) :=
  h.step (Cn.agree_setBlk hb) ⟨fun _ _ x => x, fun g j hp => heap_cell (Below.heap_alloc w _ g (hr.prot g j hp)) j⟩ (PExt.refl _ _) has_cons

def TV.cells : TV → List CV
  | .one c => [c]
  | .agg cs => cs

theorem TRep.cells {t : TV} {v : Value} (h : TRep γ Pr w t v) : ∃ vs : List Value, v.cells = vs.toArray ∧ LRep γ Pr w t.cells vs := by
  cases t with
  | one c =>
    refine ⟨[v], ?_, rfl, fun i c' hc => ?_⟩
    · have h1 := CRep.one h
      cases v <;> first | rfl | simp [Value.oneCell'] at h1
    · simp only [TV.cells] at hc
      match i, hc with
      | 0, hc => simp at hc; subst hc; exact ⟨v, rfl, h⟩
      | i + 1, hc => simp at hc
  | agg cs =>
    obtain ⟨vs, rfl, hl⟩ := h
    exact ⟨vs, rfl, hl⟩
theorem TV.cells_ok {t : TV} (h : t.ok M) : ∀ c ∈ t.cells, c.ok M := by
  cases t with
  | one c => intro c' hc; simp [TV.cells] at hc; subst hc; exact h
  | agg cs => exact h

theorem has_new {b : Nat} {k : Blk} : has ((b, some k) :: M) b := by simp [has, mget_cons]

theorem DOps.box (b : Nat) {T : TypeId} {x : Operand} {t : TV} (hg : gd ops env o = some true) {d : Nat} (hd : o.dst = some d) (hN : Nat.blt d N = true) (ho : o.op = .box T x) (hx : opv env x = .v t) (hb : mget M b = none)
    (h : DOps P N M0 ops Q rest ((d, .v (.one (.ptr b 0))) :: env) ((b, some (.box T t.cells)) :: M)) : DOps P N M0 ops Q (o :: rest) env M := by
  have he : putd o.dst (.v (.one (.ptr b 0))) env = (d, .v (.one (.ptr b 0))) :: env := by rw [hd]; rfl
  rw [← he] at h
  have hd := dstOk_of hd hN
  refine DOps.eff hg (fun x0 a w _ ⟨γ, Pr, hr, hp⟩ => ?_) h
  have h1 := hr.opv x; have h2 := opv_ok hr.slotB x
  rw [hx] at h1 h2
  obtain ⟨vs, hc, hl⟩ := TRep.cells h1
  have hn := hr.newBox (t := T) hb hl (TV.cells_ok h2)
  refine ⟨_, w.alloc (.cells vs.toArray T), .inl (by simp only [execOp, ho]; simp [run_box, hc]; rfl), At.put hn (hp.newBox hr hb _ _) (dstOk_spec hd) ?_ has_new⟩
  simp [SRep, TRep, CRep, Cn.setBlk]

theorem run_zeroValue {T : TypeId → Option TyI} (hT : TOk P T) {t : TypeId} {i : TyI} (ht : T t = some i) : (zeroValue t).run P w = .ok i.zero w := by
  obtain ⟨_, info, h1, _, _, h4⟩ := hT t i ht
  simp [zeroValue, typeInfo, h1, h4]
theorem run_sizeOf {T : TypeId → Option TyI} (hT : TOk P T) {t : TypeId} {i : TyI} (ht : T t = some i) : (sizeOf t).run P w = .ok i.size w := by
  obtain ⟨_, info, h1, h2, _⟩ := hT t i ht
  simp [sizeOf, typeInfo, h1, h2]
theorem run_under {T : TypeId → Option TyI} (hT : TOk P T) {t : TypeId} {i : TyI} (ht : T t = some i) : (underlying t).run P w = .ok i.desc w :=
  run_underlying (hT t i ht).1 w

/-- A value without addresses, as data. -/
def dvs (v : Value) : List CV := v.cells.toList.map fun u => .d (.sc u)
theorem dvs_rep {v : Value} (h : v.cells.toList.all (·.oneCell') = true) : LRep γ Pr w (dvs v) v.cells.toList := by
  refine ⟨by simp [dvs], fun i c hc => ?_⟩
  simp only [dvs, List.getElem?_map, Option.map_eq_some_iff] at hc
  obtain ⟨u, hu, rfl⟩ := hc
  exact ⟨u, hu, List.all_eq_true.1 h u (List.mem_of_getElem? hu), rfl⟩
theorem dvs_ok (v : Value) : ∀ c ∈ dvs v, c.ok M := by
  intro c hc
  simp only [dvs, List.mem_map] at hc
  obtain ⟨u, _, rfl⟩ := hc
  trivial

theorem DOps.alloc (b : Nat) {T : TypeId → Option TyI} (hT : TOk P T) {t : TypeId} {i : TyI} {zs : List CV} (hg : gd ops env o = some true) {d : Nat} (hd : o.dst = some d) (hN : Nat.blt d N = true) (ho : o.op = .alloc t) (ht : T t = some i)
    (hz : dvs i.zero = zs) (hz1 : i.zero.cells.toList.all (·.oneCell') = true) (hb : mget M b = none)
    (h : DOps P N M0 ops Q rest ((d, .v (.one (.ptr b 0))) :: env) ((b, some (.box t zs)) :: M)) : DOps P N M0 ops Q (o :: rest) env M := by
  have he : putd o.dst (.v (.one (.ptr b 0))) env = (d, .v (.one (.ptr b 0))) :: env := by rw [hd]; rfl
  rw [← he] at h
  have hd := dstOk_of hd hN
  subst hz
  refine DOps.eff hg (fun x0 a w _ ⟨γ, Pr, hr, hp⟩ => ?_) h
  have hn := hr.newBox (t := t) hb (dvs_rep hz1) (dvs_ok i.zero)
  refine ⟨_, w.alloc (.cells i.zero.cells.toList.toArray t), .inl (by simp only [execOp, ho]; simp [Instr.alloc, run_zeroValue hT ht, newVar, newRow]; rfl), At.put hn (hp.newBox hr hb _ _) (dstOk_spec hd) ?_ has_new⟩
  simp [SRep, TRep, CRep, Cn.setBlk]

/-! ### Loads -/
def aggD : TypeDesc → Bool
  | .struct _ | .array _ _ => true
  | _ => false
theorem run_isAgg {T : TypeId → Option TyI} (hT : TOk P T) {t : TypeId} {i : TyI} (ht : T t = some i) : (isAgg t).run P w = .ok (aggD i.desc) w := by
  unfold isAgg
  rw [Sem.run_bind, run_under hT ht]
  cases i.desc <;> simp [aggD]

theorem run_load1 {T : TypeId → Option TyI} (hT : TOk P T) {t : TypeId} {i : TyI} (ht : T t = some i) (ha : aggD i.desc = false) {g k : Nat} {v : Value} (hc : w.cell? ⟨g, k, none⟩ = some v) :
    (Instr.loadAt t (.pointer (some ⟨g, k, none⟩))).run P w = .ok v w := by
  simp [Instr.loadAt, Instr.sureAddr, loadVar, run_isAgg hT ht, ha, hc]
theorem run_loadN {T : TypeId → Option TyI} (hT : TOk P T) {t : TypeId} {i : TyI} (ht : T t = some i) (ha : aggD i.desc = true) {g k : Nat} {vs : List Value} (hl : vs.length = i.size)
    (hc : ∀ j v, vs[j]? = some v → w.cell? ⟨g, k + j, none⟩ = some v) : (Instr.loadAt t (.pointer (some ⟨g, k, none⟩))).run P w = .ok (.agg vs.toArray) w := by
  have h1 := run_loadCells_list (P := P) w ⟨g, k, none⟩ vs (fun j v hv => by rw [Addr.add_mid]; exact hc j v hv)
  simp [Instr.loadAt, Instr.sureAddr, loadVar, run_isAgg hT ht, ha, run_sizeOf hT ht, ← hl, h1]

theorem LRep.part {cs : List CV} {vs : List Value} (h : LRep γ Pr w cs vs) (k n : Nat) : LRep γ Pr w ((cs.drop k).take n) ((vs.drop k).take n) := by
  refine ⟨by simp [h.1], fun i c hc => ?_⟩
  simp only [List.getElem?_take, List.getElem?_drop] at hc ⊢
  split at hc
  · rename_i hi
    rw [if_pos hi]
    exact h.2 _ c hc
  · cases hc

theorem OpVal.load1 {T : TypeId → Option TyI} (hT : TOk P T) {t : TypeId} {i : TyI} {x : Operand} {b k : Nat} {tb : TypeId} {cs : List CV} {c : CV} (ho : o.op = .load t x) (ht : T t = some i) (ha : aggD i.desc = false)
    (hx : opv env x = .v (.one (.ptr b k))) (hm : mget M b = some (.box tb cs)) (hc : cs[k]? = some c) : OpVal P N env M o (.v (.one c)) := fun γ Pr x0 a w h => by
  have h1 := h.opv x
  rw [hx] at h1
  obtain ⟨_, ⟨vs, hv, hl⟩, _⟩ := h.mem b _ hm
  obtain ⟨u, hu, hr⟩ := hl.2 k c hc
  refine ⟨h.memB b _ hm c (List.mem_of_getElem? hc), u, ?_, hr⟩
  have he : a.eval x = .pointer (some ⟨γ.blk b, k, none⟩) := h1
  simp only [execOp, ho, he]
  have hcell : w.cell? ⟨γ.blk b, k, none⟩ = some u := by rw [blk_cell' hv]; simpa using hu
  rw [Sem.run_bind, run_load1 hT ht ha hcell]
  rfl

theorem OpVal.loadN {T : TypeId → Option TyI} (hT : TOk P T) {t : TypeId} {i : TyI} {x : Operand} {b k : Nat} {tb : TypeId} {cs : List CV} (ho : o.op = .load t x) (ht : T t = some i) (ha : aggD i.desc = true)
    (hx : opv env x = .v (.one (.ptr b k))) (hm : mget M b = some (.box tb cs)) (hc : k + i.size ≤ cs.length) : OpVal P N env M o (.v (.agg ((cs.drop k).take i.size))) := fun γ Pr x0 a w h => by
  have h1 := h.opv x
  rw [hx] at h1
  obtain ⟨_, ⟨vs, hv, hl⟩, _⟩ := h.mem b _ hm
  refine ⟨fun c hcm => h.memB b _ hm c (List.mem_of_mem_drop (List.mem_of_mem_take hcm)), .agg ((vs.drop k).take i.size).toArray, ?_, _, rfl, hl.part k i.size⟩
  have he : a.eval x = .pointer (some ⟨γ.blk b, k, none⟩) := h1
  simp only [execOp, ho, he]
  rw [Sem.run_bind, run_loadN hT ht ha (vs := (vs.drop k).take i.size) (by simp [hl.1]; omega)]
  · rfl
  · intro j v hj
    rw [blk_cell' hv]
    simp only [List.getElem?_take, List.getElem?_drop] at hj
    split at hj
    · simpa using hj
    · cases hj

/-- A whole variable. -/
theorem OpVal.load {T : TypeId → Option TyI} (hT : TOk P T) {t : TypeId} {i : TyI} {x : Operand} {b : Nat} {tb : TypeId} {cs : List CV} (ho : o.op = .load t x) (ht : T t = some i) (ha : aggD i.desc = true)
    (hx : opv env x = .v (.one (.ptr b 0))) (hm : mget M b = some (.box tb cs)) (hc : cs.length = i.size) : OpVal P N env M o (.v (.agg cs)) := by
  have := OpVal.loadN (N := N) (P := P) hT ho ht ha hx hm (by omega)
  rw [List.drop_zero, List.take_of_length_le (by omega)] at this
  exact this

/-- Read-only memory. -/
theorem OpVal.loadD1 {T : TypeId → Option TyI} (hT : TOk P T) {t : TypeId} {i : TyI} {x : Operand} {n : Nat} {el : Nat → DV} (ho : o.op = .load t x) (ht : T t = some i) (ha : aggD i.desc = false)
    (hx : opv env x = .v (.one (.d (.pp n el)))) (hn : 0 < n) : OpVal P N env M o (.v (.one (.d (el 0)))) := fun γ Pr x0 a w h => by
  have h1 := h.opv x
  rw [hx] at h1
  obtain ⟨b, k, he, hc⟩ := h1
  obtain ⟨_, u, hu, hr⟩ := hc 0 hn
  refine ⟨trivial, u, ?_, hr⟩
  rw [Nat.add_zero] at hu
  simp only [execOp, ho, he]
  rw [Sem.run_bind, run_load1 hT ht ha hu]
  rfl
theorem OpVal.loadDN {T : TypeId → Option TyI} (hT : TOk P T) {t : TypeId} {i : TyI} {x : Operand} {n : Nat} {el : Nat → DV} (ds : List DV) (ho : o.op = .load t x) (ht : T t = some i) (ha : aggD i.desc = true)
    (hx : opv env x = .v (.one (.d (.pp n el)))) (hn : i.size ≤ n) (hl : ds.length = i.size) (hd : ∀ j d, ds[j]? = some d → el j = d) : OpVal P N env M o (.v (.agg (ds.map .d))) := fun γ Pr x0 a w h => by
  have h1 := h.opv x
  rw [hx] at h1
  obtain ⟨b, k, he, hc⟩ := h1
  refine ⟨fun c hcm => by simp only [List.mem_map] at hcm; obtain ⟨d, _, rfl⟩ := hcm; trivial, ?_⟩
  have : ∀ m, m ≤ n → ∃ vs : List Value, vs.length = m ∧ ∀ j, j < m → ∃ u, vs[j]? = some u ∧ w.cell? ⟨b, k + j, none⟩ = some u ∧ DRep Pr w (el j) u := by
    intro m
    induction m with
    | zero => exact fun _ => ⟨[], rfl, fun j hj => by omega⟩
    | succ m ih =>
      intro hm
      obtain ⟨vs, hl, hh⟩ := ih (by omega)
      obtain ⟨_, u, hu, hr⟩ := hc m (by omega)
      refine ⟨vs ++ [u], by simp [hl], fun j hj => ?_⟩
      by_cases hjm : j < m
      · obtain ⟨u', h1, h2, h3⟩ := hh j hjm
        exact ⟨u', by rw [List.getElem?_append_left (by omega)]; exact h1, h2, h3⟩
      · obtain rfl : j = m := by omega
        exact ⟨u, by rw [List.getElem?_append_right (by omega), hl]; simp, hu, hr⟩
  obtain ⟨vs, hvl, hh⟩ := this i.size hn
  refine ⟨.agg vs.toArray, ?_, vs, rfl, by simp [hvl, hl], fun j c hcj => ?_⟩
  · simp only [execOp, ho, he]
    rw [Sem.run_bind, run_loadN hT ht ha hvl]
    · rfl
    · intro j v hj
      have hjl : j < i.size := by have := (List.getElem?_eq_some_iff.1 hj).1; omega
      obtain ⟨u, h1, h2, _⟩ := hh j hjl
      rw [hj] at h1
      obtain rfl := Option.some.inj h1
      exact h2
  · simp only [List.getElem?_map, Option.map_eq_some_iff] at hcj
    obtain ⟨d, hd1, rfl⟩ := hcj
    have hjl : j < i.size := by have := (List.getElem?_eq_some_iff.1 hd1).1; omega
    obtain ⟨u, h1, _, h3⟩ := hh j hjl
    exact ⟨u, h1, by rw [← hd j d hd1]; exact h3⟩
end
end Go.Proofs.Ytgjamldcglebjaa.DL
