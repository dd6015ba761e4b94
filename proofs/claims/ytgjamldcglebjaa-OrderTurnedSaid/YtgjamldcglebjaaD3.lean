/- A logic of data for Go functions: stores, addresses, parts, lengths. No program in sight. -/
import Derived.Test.YtgjamldcglebjaaD2
namespace Go.Proofs.Ytgjamldcglebjaa.DL
open Go.RowKit

/-- Cells from place k on are written. -/
def splice {α : Type} : List α → Nat → List α → List α
  | cs, _, [] => cs
  | cs, k, v :: r => splice (cs.set k v) (k + 1) r
theorem splice_length {α : Type} : ∀ (ns : List α) (cs : List α) (k : Nat), (splice cs k ns).length = cs.length
  | [], _, _ => rfl
  | v :: r, cs, k => by rw [splice, splice_length r]; simp
theorem splice_get {α : Type} : ∀ (ns : List α) (cs : List α) (k i : Nat), k + ns.length ≤ cs.length → (splice cs k ns)[i]? = if k ≤ i ∧ i < k + ns.length then ns[i - k]? else cs[i]?
  | [], cs, k, i, _ => by rw [splice, if_neg (by simp only [List.length_nil]; omega)]
  | v :: r, cs, k, i, h => by
    rw [splice, splice_get r _ (k + 1) i (by simp at *; omega)]
    simp only [List.length_cons] at *
    by_cases h1 : k + 1 ≤ i ∧ i < k + 1 + r.length
    · rw [if_pos h1, if_pos (by omega), show i - k = (i - (k + 1)) + 1 by omega, List.getElem?_cons_succ]
    · rw [if_neg h1]
      by_cases h2 : i = k
      · subst h2
        rw [if_pos (by omega), Nat.sub_self, List.getElem?_set_self (by omega)]
        rfl
      · rw [if_neg (by omega), List.getElem?_set_ne (by omega)]
theorem splice_whole {α : Type} (ns cs : List α) (h : ns.length = cs.length) : splice cs 0 ns = ns := by
  apply List.ext_getElem?
  intro i
  rw [splice_get ns cs 0 i (by omega)]
  simp only [Nat.zero_le, true_and, Nat.zero_add, Nat.sub_zero]
  split
  · rfl
  · rw [List.getElem?_eq_none (by omega), List.getElem?_eq_none (by omega)]

section
variable {P : Program} {N : Nat} {ops : Array Oper} {Q : DPost} {env : Env} {M M0 : Mem} {γ γ' : Cn} {Pr Pr' : Prot} {x0 : Ctx} {w w' : World} {a : Act} {o : Oper} {rest : List Oper}

theorem LRep.splice {cs ns : List CV} {vs us : List Value} (h : LRep γ Pr w cs vs) (k : LRep γ Pr w ns us) (n : Nat) (hn : n + ns.length ≤ cs.length) : LRep γ Pr w (DL.splice cs n ns) (DL.splice vs n us) := by
  refine ⟨by rw [splice_length, splice_length, h.1], fun i c hc => ?_⟩
  rw [splice_get _ _ _ _ hn] at hc
  rw [splice_get _ _ _ _ (by rw [h.1, k.1]; exact hn), k.1]
  split at hc
  · rename_i hi
    rw [if_pos hi]
    exact k.2 _ c hc
  · rename_i hi
    rw [if_neg hi]
    exact h.2 _ c hc

theorem heap_setCells (g : Nat) : ∀ (us : List Value) (k : Nat) (w : World) (vs : List Value) (t : TypeId), w.heap[g]? = some (.cells vs.toArray t (0, 0)) →
    (w.setCells g k us).heap[g]? = some (.cells (DL.splice vs k us).toArray t (0, 0))
  | [], _, _, _, _, h => h
  | u :: r, k, w, vs, t, h => by
    rw [World.setCells, DL.splice]
    refine heap_setCells g r (k + 1) _ (vs.set k u) t ?_
    have := blk_set' h k u
    rw [this]
    simp
theorem heap_setCells_far (g g' : Nat) (hne : g' ≠ g) : ∀ (us : List Value) (k : Nat) (w : World), (w.setCells g k us).heap[g']? = w.heap[g']?
  | [], _, _ => rfl
  | u :: r, k, w => by
    rw [World.setCells, heap_setCells_far g g' hne r]
    exact Below.heap_setCell _ _ _ _ hne
theorem size_setCells (g : Nat) : ∀ (us : List Value) (k : Nat) (w : World), (w.setCells g k us).heap.size = w.heap.size
  | [], _, _ => rfl
  | u :: r, k, w => by rw [World.setCells, size_setCells g r]; simp [World.setCell]
theorem meta_setCells (g : Nat) : ∀ (us : List Value) (k : Nat) (w : World), (w.setCells g k us).os = w.os ∧ (w.setCells g k us).tape = w.tape ∧ (w.setCells g k us).output = w.output
  | [], _, _ => ⟨rfl, rfl, rfl⟩
  | u :: r, k, w => by rw [World.setCells]; exact meta_setCells g r (k + 1) (w.setCell ⟨g, k, none⟩ u)
theorem Sim.setCells (h : Sim x0 w) {g : Nat} (hg : x0.may g) (us : List Value) (k : Nat) : Sim x0 (w.setCells g k us) := by
  obtain ⟨h1, h2, h3⟩ := meta_setCells g us k w
  exact ⟨h1.trans h.os, h2.trans h.tape, h3.trans h.output, by rw [size_setCells]; exact h.size, fun q hq => (heap_setCells_far g q (fun e => hq (e ▸ hg)) us k w).trans (h.block q hq)⟩

theorem has_same {b : Nat} {k : Blk} (x : Nat) : has ((b, some k) :: M) x → x = b ∨ has M x := by
  intro hx
  by_cases e : x = b
  · exact .inl e
  · refine .inr ?_
    unfold has at *
    rw [mget_cons, if_neg (Ne.symm e)] at hx
    exact hx

/-- A variable in memory is written. -/
theorem Rel.setBox (h : Rel γ Pr x0 N env M a w) {b : Nat} {t : TypeId} {cs ns : List CV} {us : List Value} (hm : mget M b = some (.box t cs)) (hl : LRep γ Pr w ns us) (hok : ∀ c ∈ ns, c.ok M) (k : Nat)
    (hk : k + ns.length ≤ cs.length) : Rel γ Pr x0 N env ((b, some (.box t (DL.splice cs k ns))) :: M) a (w.setCells (γ.blk b) k us) := by
  obtain ⟨hB, ⟨vs, hv, hvl⟩, hpr⟩ := h.mem b _ hm
  have hfar : ∀ g, g ≠ γ.blk b → (w.setCells (γ.blk b) k us).heap[g]? = w.heap[g]? := fun g hg => heap_setCells_far _ g hg us k w
  have K : Kept Pr w Pr (w.setCells (γ.blk b) k us) := ⟨fun _ _ x => x, fun g o hp => heap_cell (hfar g (fun e => hpr o (by rw [← e]; exact hp))) o⟩
  have G := Cn.agree_refl M γ
  have hsub : ∀ x, has M x → has ((b, some (.box t (DL.splice cs k ns))) :: M) x := has_cons
  have hcs : ∀ c ∈ DL.splice cs k ns, c.ok M := fun c hc => by
    obtain ⟨i, hi⟩ := List.getElem?_of_mem hc
    rw [splice_get _ _ _ _ hk] at hi
    split at hi
    · exact hok c (List.mem_of_getElem? hi)
    · exact h.memB b _ hm c (List.mem_of_getElem? hi)
  have bs := h.below.setCells hB us k
  have hsz := size_setCells (γ.blk b) us k w
  refine { size := h.size, slot := fun i => SRep.move G K (h.slotB i) (h.slot i), slotB := fun i => SV.ok_le hsub (h.slotB i), mem := fun x l hx => ?_, memB := fun x l hx => ?_, apart := fun x y l l' hx hy hne g hg => ?_,
           below := bs, prot := h.prot.kept K fun b o hp => by rw [hsz]; exact h.prot b o hp, defers := h.defers }
  · rw [mget_cons] at hx
    split at hx
    · rename_i e
      subst e
      obtain rfl := Option.some.inj hx
      exact ⟨hB, ⟨_, heap_setCells _ us k w vs t hv, LRep.move G K hcs (LRep.splice hvl hl k hk)⟩, hpr⟩
    · rename_i e
      refine BRep.move G (by rw [has, hx]; simp) K (fun g hg => hfar g (fun e2 => ?_)) (fun _ _ _ p => p) (h.memB x l hx) (h.mem x l hx)
      exact h.apart x b l _ hx hm (Ne.symm e) g hg (by rw [e2]; rfl)
  · rw [mget_cons] at hx
    split at hx
    · obtain rfl := Option.some.inj hx
      exact fun c hc => CV.ok_le hsub (hcs c hc)
    · exact Blk.ok_le hsub (h.memB x l hx)
  · rw [mget_cons] at hx hy
    split at hx
    · rename_i e1
      subst e1
      obtain rfl := Option.some.inj hx
      rw [if_neg hne] at hy
      exact h.apart _ y _ l' hm hy hne g hg
    · split at hy
      · rename_i e1 e2
        subst e2
        obtain rfl := Option.some.inj hy
        exact h.apart x _ l _ hx hm hne g hg
      · exact h.apart x y l l' hx hy hne g hg

theorem From.setBox (h : From x0 γ Pr M w) (hr : Rel γ Pr x0 N env M a w) {b : Nat} {t : TypeId} {cs : List CV} (hm : mget M b = some (.box t cs)) (k : Nat) (l : Blk) (us : List Value) : From x0 γ Pr ((b, some l) :: M) (w.setCells (γ.blk b) k us) := by
  obtain ⟨_, _, hpr⟩ := hr.mem b _ hm
  exact h.step (Cn.agree_refl M γ) ⟨fun _ _ x => x, fun g o hp => heap_cell (heap_setCells_far _ g (fun e => hpr o (by rw [← e]; exact hp)) us k w) o⟩ (PExt.refl _ _) has_cons

theorem LRep.one {cs : List CV} {vs : List Value} (h : LRep γ Pr w cs vs) : ∀ v ∈ vs, v.oneCell' = true := by
  intro v hv
  obtain ⟨i, hi⟩ := List.getElem?_of_mem hv
  have hlt := (List.getElem?_eq_some_iff.1 hi).1
  have hlt' : i < cs.length := by rw [← h.1]; exact hlt
  obtain ⟨u, hu, hr⟩ := h.2 i cs[i] (List.getElem?_eq_getElem hlt')
  rw [hi] at hu
  obtain rfl := Option.some.inj hu
  exact CRep.one hr

theorem run_storeAt {T : TypeId → Option TyI} (hT : TOk P T) {t : TypeId} {i : TyI} (ht : T t = some i) {g k : Nat} {v : Value} {vs us : List Value} {tb : TypeId} (hv : v.cells = us.toArray) (hs : us.length = i.size)
    (hb : w.heap[g]? = some (.cells vs.toArray tb (0, 0))) (hk : k + us.length ≤ vs.length) (h1 : ∀ u ∈ us, u.oneCell' = true) :
    (Instr.storeAt t (.pointer (some ⟨g, k, none⟩)) v).run P w = .ok () (w.setCells g k us) := by
  have hst := run_storeCells_cells (P := P) g k us 0 w (fun j hj => by rw [blk_cell' hb]; simp; omega) (fun j hj => blk_frozen' hb _) h1
  simp only [Nat.add_zero] at hst
  have hsz : (sizeOf t).run P w = .ok i.size w := run_sizeOf hT ht
  simp only [Instr.storeAt, Instr.sureAddr, Sem.run_bind, Sem.run_pure, Result.andThen_ok, storeVar, hsz, hv, List.size_toArray, hs]
  simp [hst]

theorem DOps.store {T : TypeId → Option TyI} (hT : TOk P T) {t : TypeId} {i : TyI} {x y : Operand} {b k : Nat} {tb : TypeId} {cs cs' : List CV} {tv : TV} (hg : gd ops env o = some true) (hd : o.dst = none) (ho : o.op = .store t x y)
    (ht : T t = some i) (hx : opv env x = .v (.one (.ptr b k))) (hy : opv env y = .v tv) (hm : mget M b = some (.box tb cs)) (hs : tv.cells.length = i.size) (hk : k + tv.cells.length ≤ cs.length)
    (hc : DL.splice cs k tv.cells = cs') (h : DOps P N M0 ops Q rest env ((b, some (.box tb cs')) :: M)) : DOps P N M0 ops Q (o :: rest) env M := by
  subst hc
  refine DOps.eff hg (fun x0 a w _ ⟨γ, Pr, hr, hp⟩ => ?_) h
  have h1 := hr.opv x; have h2 := hr.opv y; have h3 := opv_ok hr.slotB y
  rw [hx] at h1; rw [hy] at h2 h3
  obtain ⟨us, hu, hl⟩ := TRep.cells h2
  obtain ⟨hB, ⟨vs, hv, hvl⟩, hpr⟩ := hr.mem b _ hm
  have he : a.eval x = .pointer (some ⟨γ.blk b, k, none⟩) := h1
  refine ⟨undef, w.setCells (γ.blk b) k us, .inr ⟨?_, rfl⟩, γ, Pr, ?_, hp.setBox hr hm k _ us⟩
  · simp only [execOp, ho, he]
    rw [Sem.run_bind, run_storeAt hT ht hu (by rw [hl.1, hs]) hv (by rw [hl.1, hvl.1]; exact hk) hl.one]
    rfl
  · rw [hd]
    exact hr.setBox hm hl (TV.cells_ok h3) k hk

/-! ### Addresses -/
theorem OpVal.fieldAddr {T : TypeId → Option TyI} (hT : TOk P T) {t : TypeId} {i j : TyI} {x : Operand} {n b k : Nat} {fs : Array Field} {f : Field} (ho : o.op = .fieldAddr t x n) (ht : T t = some i) (hd : i.desc = .struct fs) (hf : fs[n]? = some f)
    (hj : T f.type = some j) (hs : j.size ≠ 0) (hx : opv env x = .v (.one (.ptr b k))) : OpVal P N env M o (.v (.one (.ptr b (k + f.offset)))) := fun γ Pr x0 a w h => by
  have h1 := h.opv x; have h2 := opv_ok h.slotB x
  rw [hx] at h1 h2
  have he : a.eval x = .pointer (some ⟨γ.blk b, k, none⟩) := h1
  refine ⟨h2, .pointer (some ⟨γ.blk b, k + f.offset, none⟩), ?_, rfl⟩
  have hu := run_under (w := w) hT ht
  rw [hd] at hu
  simp only [execOp, ho, he, Instr.fieldAt, Sem.run_bind, hu, Result.andThen_ok, hf]
  simp [Instr.sureAddr, fieldPlace, run_sizeOf hT hj, hs, Addr.add_mid]
theorem OpVal.fieldAddrD {T : TypeId → Option TyI} (hT : TOk P T) {t : TypeId} {i j : TyI} {x : Operand} {n m : Nat} {el : Nat → DV} {fs : Array Field} {f : Field} (ho : o.op = .fieldAddr t x n) (ht : T t = some i) (hd : i.desc = .struct fs) (hf : fs[n]? = some f)
    (hj : T f.type = some j) (hs : j.size ≠ 0) (hx : opv env x = .v (.one (.d (.pp m el)))) : OpVal P N env M o (.v (.one (.d (.pp (m - f.offset) fun q => el (f.offset + q))))) := fun γ Pr x0 a w h => by
  have h1 := h.opv x
  rw [hx] at h1
  obtain ⟨b, k, he, hc⟩ := h1
  refine ⟨trivial, .pointer (some ⟨b, k + f.offset, none⟩), ?_, b, k + f.offset, rfl, fun q hq => ?_⟩
  · have hu := run_under (w := w) hT ht
    rw [hd] at hu
    simp only [execOp, ho, he, Instr.fieldAt, Sem.run_bind, hu, Result.andThen_ok, hf]
    simp [Instr.sureAddr, fieldPlace, run_sizeOf hT hj, hs, Addr.add_mid]
  · have := hc (f.offset + q) (by omega)
    rw [Nat.add_assoc]
    exact this

theorem OpVal.indexAddrA {T : TypeId → Option TyI} (hT : TOk P T) {t e : TypeId} {i j : TyI} {x y : Operand} {b k len : Nat} {kd : IntKind} {n : Int} (ho : o.op = .indexAddr t x y) (ht : T t = some i) (hd : i.desc = .array len e) (hj : T e = some j)
    (hx : opv env x = .v (.one (.ptr b k))) (hy : opv env y = vI kd n) (h0 : 0 ≤ n) (h1 : n < len) : OpVal P N env M o (.v (.one (.ptr b (k + n.toNat * j.size)))) := fun γ Pr x0 a w h => by
  have h2 := h.opv x; have h3 := opv_ok h.slotB x; have h4 := opI h hy
  rw [hx] at h2 h3
  have he : a.eval x = .pointer (some ⟨γ.blk b, k, none⟩) := h2
  refine ⟨h3, .pointer (some ⟨γ.blk b, k + n.toNat * j.size, none⟩), ?_, rfl⟩
  have hu := run_under (w := w) hT ht
  rw [hd] at hu
  simp only [execOp, ho, he, h4, Instr.indexAt, asIntOf, Sem.run_bind, Sem.run_pure, Result.andThen_ok, hu]
  simp [Instr.sureAddr, hu, h0, h1, run_sizeOf hT hj, Addr.add_mid]
theorem OpVal.indexAddrD {T : TypeId → Option TyI} (hT : TOk P T) {t e : TypeId} {i j : TyI} {x y : Operand} {m k : Nat} {el : Nat → Nat → DV} {kd : IntKind} {n : Int} (ho : o.op = .indexAddr t x y) (ht : T t = some i) (hd : i.desc = .slice e) (hj : T e = some j)
    (hk : j.size = k) (hx : opv env x = .v (.one (.d (.sl m k el)))) (hy : opv env y = vI kd n) (h0 : 0 ≤ n) (h1 : n < m) : OpVal P N env M o (.v (.one (.d (.pp k (el n.toNat))))) := fun γ Pr x0 a w h => by
  have h2 := h.opv x; have h4 := opI h hy
  rw [hx] at h2
  obtain ⟨A, c, he, hc, hh⟩ := h2
  obtain ⟨b, q, rfl, hcell⟩ := hh (by omega)
  refine ⟨trivial, .pointer (some ⟨b, q + n.toNat * k, none⟩), ?_, b, q + n.toNat * k, rfl, fun r hr => ?_⟩
  · have hu := run_under (w := w) hT ht
    rw [hd] at hu
    simp only [execOp, ho, he, h4, Instr.indexAt, asIntOf, Sem.run_bind, Sem.run_pure, Result.andThen_ok, hu]
    simp [h0, h1, run_sizeOf hT hj, hk, Addr.add_mid]
  · have := hcell n.toNat (by omega) r hr
    rw [← Nat.add_assoc] at this
    exact this

/-- An element of an array that lies in read-only memory. -/
theorem OpVal.indexAddrDA {T : TypeId → Option TyI} (hT : TOk P T) {t e : TypeId} {i j : TyI} {x y : Operand} {m len : Nat} {el : Nat → DV} {kd : IntKind} {n : Int} (ho : o.op = .indexAddr t x y) (ht : T t = some i) (hd : i.desc = .array len e) (hj : T e = some j)
    (hx : opv env x = .v (.one (.d (.pp m el)))) (hy : opv env y = vI kd n) (h0 : 0 ≤ n) (h1 : n < len) : OpVal P N env M o (.v (.one (.d (.pp (m - n.toNat * j.size) fun q => el (n.toNat * j.size + q))))) := fun γ Pr x0 a w h => by
  have h2 := h.opv x; have h4 := opI h hy
  rw [hx] at h2
  obtain ⟨b, k, he, hc⟩ := h2
  refine ⟨trivial, .pointer (some ⟨b, k + n.toNat * j.size, none⟩), ?_, b, k + n.toNat * j.size, rfl, fun q hq => ?_⟩
  · have hu := run_under (w := w) hT ht
    rw [hd] at hu
    simp only [execOp, ho, he, h4, Instr.indexAt, asIntOf, Sem.run_bind, Sem.run_pure, Result.andThen_ok, hu]
    simp [Instr.sureAddr, hu, h0, h1, run_sizeOf hT hj, Addr.add_mid]
  · have := hc (n.toNat * j.size + q) (by omega)
    rw [Nat.add_assoc]
    exact this

/-! ### Parts of values -/
theorem run_part {T : TypeId → Option TyI} (hT : TOk P T) {t : TypeId} {i : TyI} (ht : T t = some i) {cs : List CV} {vs : List Value} (hl : LRep γ Pr w cs vs) {k : Nat} {tv : TV}
    (h : if aggD i.desc then k + i.size ≤ cs.length ∧ tv = .agg ((cs.drop k).take i.size) else ∃ c, cs[k]? = some c ∧ tv = .one c) :
    ∃ v, (part t vs.toArray k).run P w = .ok v w ∧ TRep γ Pr w tv v := by
  unfold part
  rw [Sem.run_bind, run_isAgg hT ht]
  split at h
  · rename_i ha
    obtain ⟨hk, rfl⟩ := h
    refine ⟨.agg ((vs.drop k).take i.size).toArray, ?_, _, rfl, hl.part k i.size⟩
    simp [ha, run_sizeOf hT ht]
  · rename_i ha
    obtain ⟨c, hc, rfl⟩ := h
    obtain ⟨u, hu, hr⟩ := hl.2 k c hc
    refine ⟨u, ?_, hr⟩
    simp [ha, hu]

theorem OpVal.field {T : TypeId → Option TyI} (hT : TOk P T) {t : TypeId} {i j : TyI} {x : Operand} {n : Nat} {fs : Array Field} {f : Field} {cs : List CV} {tv : TV} (ho : o.op = .field t x n) (ht : T t = some i) (hd : i.desc = .struct fs) (hf : fs[n]? = some f)
    (hj : T f.type = some j) (hx : opv env x = .v (.agg cs))
    (h : if aggD j.desc then f.offset + j.size ≤ cs.length ∧ tv = .agg ((cs.drop f.offset).take j.size) else ∃ c, cs[f.offset]? = some c ∧ tv = .one c) : OpVal P N env M o (.v tv) := fun γ Pr x0 a w hr => by
  have h1 := hr.opv x; have h2 := opv_ok hr.slotB x
  rw [hx] at h1 h2
  obtain ⟨vs, he, hl⟩ := h1
  obtain ⟨v, hv, ht2⟩ := run_part (P := P) hT hj hl h
  refine ⟨?_, v, ?_, ht2⟩
  · split at h
    · obtain ⟨_, rfl⟩ := h
      exact fun c hc => h2 c (List.mem_of_mem_drop (List.mem_of_mem_take hc))
    · obtain ⟨c, hc, rfl⟩ := h
      exact h2 c (List.mem_of_getElem? hc)
  · have hu := run_under (w := w) hT ht
    rw [hd] at hu
    simp only [execOp, ho, he, Instr.field, Sem.run_bind, hu, Result.andThen_ok, hf, asAgg, Sem.run_pure, hv]

/-- An element of an array's value. -/
theorem OpVal.indexA {T : TypeId → Option TyI} (hT : TOk P T) {t e : TypeId} {i j : TyI} {x y : Operand} {len : Nat} {kd : IntKind} {n : Int} {cs : List CV} {c : CV} (ho : o.op = .index t x y) (ht : T t = some i) (hd : i.desc = .array len e) (hj : T e = some j)
    (ha : aggD j.desc = false) (hs : j.size = 1) (hx : opv env x = .v (.agg cs)) (hy : opv env y = vI kd n) (h0 : 0 ≤ n) (h1 : n < len) (hc : cs[n.toNat]? = some c) : OpVal P N env M o (.v (.one c)) := fun γ Pr x0 a w hr => by
  have h2 := hr.opv x; have h3 := opv_ok hr.slotB x; have h4 := opI hr hy
  rw [hx] at h2 h3
  obtain ⟨vs, he, hl⟩ := h2
  obtain ⟨v, hv, ht2⟩ := run_part (P := P) (k := n.toNat) (tv := .one c) hT hj hl (by rw [ha]; exact ⟨c, hc, rfl⟩)
  refine ⟨h3 c (List.mem_of_getElem? hc), v, ?_, ht2⟩
  have hu := run_under (w := w) hT ht
  rw [hd] at hu
  simp only [execOp, ho, he, h4, Instr.index, asIntOf, Sem.run_bind, Sem.run_pure, Result.andThen_ok, hu]
  simp only [h0, h1, and_self, if_true, Sem.run_bind, run_sizeOf hT hj, hs, Nat.mul_one, Result.andThen_ok, hv]

/-! ### Lengths -/
theorem OpVal.lenD {T : TypeId → Option TyI} (hT : TOk P T) {t e : TypeId} {i : TyI} {x : Operand} {n k : Nat} {el : Nat → Nat → DV} {cl : Call} (ho : o.op = .call cl) (hcl : cl.callee = .builtin .len) (hargs : cl.args = #[x]) (hty : cl.argTypes = #[t])
    (ht : T t = some i) (hd : i.desc = .slice e) (hx : opv env x = .v (.one (.d (.sl n k el)))) : OpVal P N env M o (vI .i64 n) := fun γ Pr x0 a w h => by
  have h2 := h.opv x
  rw [hx] at h2
  obtain ⟨A, c, he, hc, _⟩ := h2
  have hu := run_under (w := w) hT ht
  rw [hd] at hu
  refine ⟨trivial, .int .i64 n, ?_, rfl, rfl⟩
  simp [execOp, ho, resolve, hcl, hargs, hty, he, invoke, builtin, Builtin.len_, hu, goInt]
theorem OpVal.lenRow {T : TypeId → Option TyI} (hT : TOk P T) {t e e' : TypeId} {i : TyI} {x : Operand} {b n k : Nat} {v : Value} {cs : List CV} {fz : Bool} {cl : Call} (ho : o.op = .call cl) (hcl : cl.callee = .builtin .len) (hargs : cl.args = #[x]) (hty : cl.argTypes = #[t])
    (ht : T t = some i) (hd : i.desc = .slice e) (hx : opv env x = .v (.one (.row b v))) (hm : mget M b = some (.row e' k n v cs fz)) : OpVal P N env M o (vI .i64 n) := fun γ Pr x0 a w h => by
  have h2 := h.opv x
  rw [hx] at h2
  have hu := run_under (w := w) hT ht
  rw [hd] at hu
  obtain ⟨vs, hown, _⟩ := h.mem b _ hm
  have he : a.eval x = v := h2.1
  refine ⟨trivial, .int .i64 n, ?_, rfl, rfl⟩
  rcases hown.2 with ⟨hv, hn⟩ | ⟨g, cap, cur, hv, _⟩
  · rw [hv] at he
    subst hn
    simp [execOp, ho, resolve, hcl, hargs, hty, he, invoke, builtin, Builtin.len_, hu, goInt]
  · rw [hv] at he
    simp [execOp, ho, resolve, hcl, hargs, hty, he, invoke, builtin, Builtin.len_, hu, goInt]
theorem OpVal.lenS {T : TypeId → Option TyI} (hT : TOk P T) {t : TypeId} {i : TyI} {x : Operand} {s : ByteArray} {cl : Call} (ho : o.op = .call cl) (hcl : cl.callee = .builtin .len) (hargs : cl.args = #[x]) (hty : cl.argTypes = #[t])
    (ht : T t = some i) (hd : i.desc = .string) (hx : opv env x = vS s) : OpVal P N env M o (vI .i64 s.size) := fun γ Pr x0 a w h => by
  have he := opS h hx
  have hu := run_under (w := w) hT ht
  rw [hd] at hu
  refine ⟨trivial, .int .i64 s.size, ?_, rfl, rfl⟩
  simp [execOp, ho, resolve, hcl, hargs, hty, he, invoke, builtin, Builtin.len_, hu, goInt]

def mn (x y : Int) : Int := if y < x then y else x
def mx (x y : Int) : Int := if y > x then y else x
theorem OpVal.min2 {x y : Operand} {k : IntKind} {m n : Int} {cl : Call} (ho : o.op = .call cl) (hcl : cl.callee = .builtin .min) (hargs : cl.args = #[x, y]) (hx : opv env x = vI k m) (hy : opv env y = vI k n) : OpVal P N env M o (vI k (mn m n)) := fun γ Pr x0 a w h =>
  ⟨trivial, .int k (mn m n), by simp [execOp, ho, resolve, hcl, hargs, opI h hx, opI h hy, invoke, builtin, Builtin.min_, Builtin.min2, mn], rfl, rfl⟩
theorem OpVal.max2 {x y : Operand} {k : IntKind} {m n : Int} {cl : Call} (ho : o.op = .call cl) (hcl : cl.callee = .builtin .max) (hargs : cl.args = #[x, y]) (hx : opv env x = vI k m) (hy : opv env y = vI k n) : OpVal P N env M o (vI k (mx m n)) := fun γ Pr x0 a w h =>
  ⟨trivial, .int k (mx m n), by simp [execOp, ho, resolve, hcl, hargs, opI h hx, opI h hy, invoke, builtin, Builtin.max_, Builtin.max2, mx], rfl, rfl⟩

/-! ### Slices of slices -/
theorem OpVal.sliceD {T : TypeId → Option TyI} (hT : TOk P T) {t e : TypeId} {i j : TyI} {x : Operand} {lo hi : Option Operand} {n k : Nat} {el : Nat → Nat → DV} {l h : Nat} (ho : o.op = .slice t x lo hi none) (ht : T t = some i) (hd : i.desc = .slice e) (hj : T e = some j)
    (hk : j.size = k) (hx : opv env x = .v (.one (.d (.sl n k el)))) (hlo : match lo with | none => l = 0 | some y => ∃ kd, opv env y = vI kd l) (hhi : match hi with | none => h = n | some y => ∃ kd, opv env y = vI kd h) (h1 : l ≤ h) (h2 : h ≤ n) :
    OpVal P N env M o (.v (.one (.d (.sl (h - l) k fun p q => el (l + p) q)))) := fun γ Pr x0 a w hr => by
  have hx2 := hr.opv x
  rw [hx] at hx2
  obtain ⟨A, c, he, hc, hh⟩ := hx2
  have hu := run_under (w := w) hT ht
  rw [hd] at hu
  have hl2 : (match lo.map a.eval with | some v => Instr.sliceBound v h .sliceB | none => pure 0).run P w = .ok l w := by
    cases lo with
    | none => subst hlo; simp
    | some y =>
      obtain ⟨kd, hy⟩ := hlo
      simp only [Option.map_some, opI hr hy]
      simp [Instr.sliceBound, asIntOf, h1]
  have hh2 : (match hi.map a.eval with | some v => Instr.sliceBound v c .sliceAcap | none => pure n).run P w = .ok h w := by
    cases hi with
    | none => subst hhi; simp
    | some y =>
      obtain ⟨kd, hy⟩ := hhi
      simp only [Option.map_some, opI hr hy]
      have : h ≤ c := by omega
      simp [Instr.sliceBound, asIntOf, this]
  have hb : (Instr.sliceBounds true n c (lo.map a.eval) (hi.map a.eval) none).run P w = .ok (l, h, c) w := by
    unfold Instr.sliceBounds
    simp only [Sem.run_bind, Sem.run_pure, Result.andThen_ok, if_true]
    cases hhi2 : hi.map a.eval with
    | none =>
      rw [hhi2] at hh2
      simp only [Sem.run_pure] at hh2
      obtain rfl : n = h := by injection hh2
      cases hlo2 : lo.map a.eval with
      | none => rw [hlo2] at hl2; simp only [Sem.run_pure] at hl2; injection hl2 with e1; subst e1; simp
      | some v => rw [hlo2] at hl2; simp only at hl2; simp [hl2]
    | some u =>
      rw [hhi2] at hh2
      simp only at hh2
      cases hlo2 : lo.map a.eval with
      | none => rw [hlo2] at hl2; simp only [Sem.run_pure] at hl2; injection hl2 with e1; subst e1; simp [hh2]
      | some v => rw [hlo2] at hl2; simp only at hl2; simp [hh2, hl2]
  refine ⟨trivial, .slice (if c = l then A else A.map (·.add (l * k))) (h - l) (c - l), ?_, _, _, rfl, by omega, fun h0 => ?_⟩
  · simp only [execOp, ho, he]
    simp only [Instr.sliceAt, Sem.run_bind, hu, Result.andThen_ok, Instr.slice, Option.map_none, hb, run_sizeOf hT hj, hk, Sem.run_pure]
  · obtain ⟨b, q, rfl, hcell⟩ := hh (by omega)
    rw [if_neg (by omega)]
    refine ⟨b, q + l * k, by simp [Addr.add_mid], fun p hp r hr2 => ?_⟩
    have := hcell (l + p) (by omega) r hr2
    rw [Nat.add_mul] at this
    rw [show q + l * k + (p * k + r) = q + (l * k + p * k + r) by omega]
    exact this
end
end Go.Proofs.Ytgjamldcglebjaa.DL
