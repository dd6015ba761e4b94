/- A logic of data for Go functions: rows of one's own, read and written in place; calls that are handed a row. No program in sight. -/
import Derived.Test.YtgjamldcglebjaaD16
namespace Go.Proofs.Ytgjamldcglebjaa.DL
open Go.RowKit

section
variable {P : Program} {N : Nat} {ops : Array Oper} {Q : DPost} {env : Env} {M M0 : Mem} {γ γ' : Cn} {Pr Pr' : Prot} {x0 : Ctx} {w w' : World} {a : Act} {o : Oper} {rest : List Oper}

/-- A row that has elements lies in a block. -/
theorem row_block {e : TypeId} {k n : Nat} {v : Value} {vs : List Value} (h : w.ownsRow 0 e k v n vs) (hn : 0 < n) : ∃ g cap cur, v = .slice (some ⟨g, 0, none⟩) n cap ∧ w.heap[g]? = some (.cells cur e (0, 0)) ∧ n ≤ cap ∧ cap ≤ maxLen ∧ cur.size = cap * k ∧ cur.toList.take (n * k) = vs := by
  rcases h.2 with ⟨_, h0⟩ | ⟨g, cap, cur, h1, _, h2, h3, h4, h5, h6⟩
  · omega
  · exact ⟨g, cap, cur, h1, h2, h3, h4, h5, h6⟩

/-- The address of an element. -/
theorem OpVal.indexAddrR {T : TypeId → Option TyI} (hT : TOk P T) {t e e' : TypeId} {i j : TyI} {x y : Operand} {b k n : Nat} {v : Value} {cs : List CV} {fz : Bool} {kd : IntKind} {q : Int} (ho : o.op = .indexAddr t x y) (ht : T t = some i) (hd : i.desc = .slice e) (hj : T e = some j)
    (hk : j.size = k) (hx : opv env x = .v (.one (.row b v))) (hm : mget M b = some (.row e' k n v cs fz)) (hy : opv env y = vI kd q) (h0 : 0 ≤ q) (h1 : q < n) : OpVal P N env M o (.v (.one (.rp b v (q.toNat * k)))) := fun γ Pr x0 a w h => by
  have h2 := h.opv x; have h4 := opI h hy
  rw [hx] at h2
  obtain ⟨vs, hown, _, _⟩ := h.mem b _ hm
  obtain ⟨g, cap, cur, hv, _⟩ := row_block hown (by omega)
  have he : a.eval x = .slice (some ⟨g, 0, none⟩) n cap := h2.1.trans hv
  refine ⟨trivial, .pointer (some ⟨g, q.toNat * k, none⟩), ?_, g, by rw [hv]; rfl, rfl⟩
  have hu := run_under (w := w) hT ht
  rw [hd] at hu
  simp only [execOp, ho, he, h4, Instr.indexAt, asIntOf, Sem.run_bind, Sem.run_pure, Result.andThen_ok, hu]
  simp [h0, h1, run_sizeOf hT hj, hk, Addr.add_mid]

theorem row_cell {e : TypeId} {k n : Nat} {v : Value} {vs : List Value} (h : w.ownsRow 0 e k v n vs) {g : Nat} (hg : v.ownBlock = some g) {i : Nat} {u : Value} (hu : vs[i]? = some u) : w.cell? ⟨g, i, none⟩ = some u := by
  rcases h.2 with ⟨rfl, _⟩ | ⟨g', cap, cur, rfl, _, h2, _, _, _, h6⟩
  · simp [Value.ownBlock] at hg
  · simp only [Value.ownBlock, Option.some.injEq] at hg
    subst hg
    rw [cell_of_row _ _ _ _ _ _ h2]
    rw [← h6] at hu
    rw [List.getElem?_take] at hu
    split at hu
    · simpa using hu
    · cases hu

theorem OpVal.loadR1 {T : TypeId → Option TyI} (hT : TOk P T) {t e : TypeId} {i : TyI} {x : Operand} {b k n off : Nat} {v : Value} {cs : List CV} {fz : Bool} {c : CV} (ho : o.op = .load t x) (ht : T t = some i) (ha : aggD i.desc = false)
    (hx : opv env x = .v (.one (.rp b v off))) (hm : mget M b = some (.row e k n v cs fz)) (hc : cs[off]? = some c) : OpVal P N env M o (.v (.one c)) := fun γ Pr x0 a w h => by
  have h1 := h.opv x
  rw [hx] at h1
  obtain ⟨g, hg, he⟩ := h1
  obtain ⟨vs, hown, hl, _⟩ := h.mem b _ hm
  obtain ⟨u, hu, hr⟩ := hl.2 off c hc
  refine ⟨h.memB b _ hm c (List.mem_of_getElem? hc), u, ?_, hr⟩
  simp only [execOp, ho, he]
  rw [Sem.run_bind, run_load1 hT ht ha (row_cell hown hg hu)]
  rfl

/-- An element is written. -/
theorem DOps.storeR {T : TypeId → Option TyI} (hT : TOk P T) {t e : TypeId} {i : TyI} {x y : Operand} {b k n off : Nat} {v : Value} {cs cs' : List CV} {tv : TV} (hg : gd ops env o = some true) (hd : o.dst = none) (ho : o.op = .store t x y)
    (ht : T t = some i) (hx : opv env x = .v (.one (.rp b v off))) (hy : opv env y = .v tv) (hm : mget M b = some (.row e k n v cs false)) (hs : tv.cells.length = i.size) (hk : off + tv.cells.length ≤ cs.length)
    (hc : DL.splice cs off tv.cells = cs') (h : DOps P N M0 ops Q rest env ((b, some (.row e k n v cs' false)) :: M)) : DOps P N M0 ops Q (o :: rest) env M := by
  subst hc
  refine DOps.eff hg (fun x0 a w _ ⟨γ, Pr, hr, hp⟩ => ?_) h
  have h1 := hr.opv x; have h2 := hr.opv y; have h3 := opv_ok hr.slotB y
  rw [hx] at h1; rw [hy] at h2 h3
  obtain ⟨us, hu, hl⟩ := TRep.cells h2
  obtain ⟨g, hgv, he⟩ := h1
  obtain ⟨vs, hown, hvl, hgg⟩ := hr.mem b _ hm
  obtain ⟨hmay, _, hnp⟩ := hgg g hgv
  have hnp : ∀ o, ¬ Pr g o := hnp rfl
  -- the block
  obtain ⟨g', cap, cur, hv, hheap, hnc, hcm, hcs, htake⟩ : ∃ g' cap cur, v = .slice (some ⟨g', 0, none⟩) n cap ∧ w.heap[g']? = some (.cells cur e (0, 0)) ∧ n ≤ cap ∧ cap ≤ maxLen ∧ cur.size = cap * k ∧ cur.toList.take (n * k) = vs := by
    rcases hown.2 with ⟨hv, _⟩ | ⟨g', cap, cur, h1, _, h2, h3, h4, h5, h6⟩
    · rw [hv] at hgv; simp [Value.ownBlock] at hgv
    · exact ⟨g', cap, cur, h1, h2, h3, h4, h5, h6⟩
  obtain rfl : g' = g := by rw [hv] at hgv; simpa [Value.ownBlock] using hgv
  have hul : us.length = tv.cells.length := hl.1
  have hvsl : vs.length = cs.length := hvl.1
  have hvs_le : vs.length ≤ cur.toList.length := by rw [← htake, List.length_take]; omega
  have hcur : cur = cur.toList.toArray := by simp
  rw [hcur] at hheap
  have hfar : ∀ q, q ≠ g' → (w.setCells g' off us).heap[q]? = w.heap[q]? := fun q hq => heap_setCells_far _ q hq us off w
  have K : Kept Pr w Pr (w.setCells g' off us) := ⟨fun _ _ x => x, fun q o hp => heap_cell (hfar q (fun e => hnp o (by rw [← e]; exact hp))) o⟩
  have G := Cn.agree_refl M γ
  have hcok : ∀ c ∈ DL.splice cs off tv.cells, c.ok M := fun c hc => by
    obtain ⟨i, hi⟩ := List.getElem?_of_mem hc
    rw [splice_get _ _ _ _ hk] at hi
    split at hi
    · exact TV.cells_ok h3 c (List.mem_of_getElem? hi)
    · exact hr.memB b _ hm c (List.mem_of_getElem? hi)
  have hnk : vs.length = n * k := hown.1
  have hnew : BRep γ Pr (w.setCells g' off us) x0 b (.row e k n v (DL.splice cs off tv.cells) false) := by
    refine ⟨DL.splice vs off us, ⟨by rw [splice_length]; exact hnk, .inr ⟨g', cap, (DL.splice cur.toList off us).toArray, hv, Nat.zero_le _, heap_setCells _ us off w cur.toList e hheap, hnc, hcm, by simp [splice_length, hcs], ?_⟩⟩,
      LRep.move G K hcok (LRep.splice hvl hl off (by rw [hul] at *; omega)), fun q hq => ?_⟩
    · apply List.ext_getElem?
      intro i
      rw [List.getElem?_take, splice_get _ _ _ _ (show off + us.length ≤ vs.length by omega)]
      show (if i < n * k then (DL.splice cur.toList off us)[i]? else none) = _
      rw [splice_get _ _ _ _ (show off + us.length ≤ cur.toList.length by omega)]
      by_cases hi : i < n * k
      · rw [if_pos hi]
        split
        · rfl
        · rw [← htake, List.getElem?_take, if_pos hi]
      · rw [if_neg hi, if_neg (by omega), List.getElem?_eq_none (by omega)]
    · obtain ⟨a1, a2, a3⟩ := hgg q hq
      exact ⟨a1, a2, a3⟩
  have hsim := hr.below.setCells hmay us off
  have hrel := hr.setB (b := b) hsim (by rw [size_setCells]; exact Nat.le_refl _) K hnew hcok fun x l q hxb hmx hbx => by
    have hne : q ≠ g' := fun e => hr.apart b x _ l hm hmx (Ne.symm hxb) g' hgv (by rw [← e]; exact hbx)
    exact ⟨hfar q hne, fun e2 => hr.apart b x _ l hm hmx (Ne.symm hxb) q e2 hbx⟩
  refine ⟨undef, w.setCells g' off us, .inr ⟨?_, rfl⟩, γ, Pr, ?_, hp.setB K b _⟩
  · simp only [execOp, ho, he]
    rw [Sem.run_bind, run_storeAt hT ht hu (by rw [hl.1, hs]) hheap (by omega) hl.one]
    rfl
  · rw [hd]
    exact hrel

/-- Numbers: one of them is written. -/
theorem DOps.storeRI {T : TypeId → Option TyI} (hT : TOk P T) {t e : TypeId} {d0 : TypeDesc} {b0 : Nat} {z0 : Value} {x y : Operand} {b n off j : Nat} {v : Value} {kd : IntKind} {q : Int} {xs ys : List Int} (hg : gd ops env o = some true) (hd : o.dst = none) (ho : o.op = .store t x y)
    (ht : T t = some ⟨d0, 1, b0, z0⟩) (hx : opv env x = .v (.one (.rp b v off))) (hy : opv env y = .v (.one (.d (.sc (.int kd q))))) (hm : mget M b = some (.row e 1 n v (xs.map fun m => .d (.sc (.int kd m))) false)) (hj : off = j) (hk : j < xs.length) (hs : xs.set j q = ys)
    (h : DOps P N M0 ops Q rest env ((b, some (.row e 1 n v (ys.map fun m => .d (.sc (.int kd m))) false)) :: M)) : DOps P N M0 ops Q (o :: rest) env M := by
  subst hj hs
  refine DOps.storeR (cs' := (xs.set off q).map fun m => .d (.sc (.int kd m))) hT hg hd ho ht hx hy hm rfl ?_ ?_ h
  · rw [List.length_map]; show off + 1 ≤ _; omega
  · rw [List.map_set]; rfl

theorem OpVal.iaR {T : TypeId → Option TyI} (hT : TOk P T) {t e e' s0 b0 s1 b1 : Nat} {z0 z1 : Value} {d1 : TypeDesc} {x y : Operand} {b k n : Nat} {v : Value} {cs : List CV} {fz : Bool} {kd : IntKind} {q : Int} (ho : o.op = .indexAddr t x y) (ht : T t = some ⟨.slice e, s0, b0, z0⟩) (hj : T e = some ⟨d1, s1, b1, z1⟩)
    (hk : s1 = k) (hx : opv env x = .v (.one (.row b v))) (hm : mget M b = some (.row e' k n v cs fz)) (hy : opv env y = vI kd q) (h0 : 0 ≤ q) (h1 : q < n) : OpVal P N env M o (.v (.one (.rp b v (q.toNat * k)))) :=
  OpVal.indexAddrR hT ho ht rfl hj hk hx hm hy h0 h1

/-! ### Calls that are handed a row -/
/-- The call may turn the row as R says. -/
def DCallsR (P : Program) (f : FuncId) (e k n : Nat) (cs : List CV) (args rs : List TV) (R : List CV → Prop) : Prop :=
  ∀ b v, DCallsM P f (.one (.row b v) :: args) [(b, some (.row e k n v cs false))] (fun ts M' => ts = rs ∧ ∃ cs', mget M' b = some (.row e k n v cs' false) ∧ R cs')

theorem may_one {b : Nat} {l : Blk} (q : Nat) : Ctx.may ⟨w, Pr, γ, [(b, some l)]⟩ q ↔ w.heap.size ≤ q ∨ blockOf γ b l = some q := by
  constructor
  · rintro (h | ⟨y, l', hy, hl⟩)
    · exact .inl h
    · obtain ⟨rfl, hl'⟩ := mget_one hy
      obtain rfl := Option.some.inj hl'
      exact .inr hl
  · rintro (h | h)
    · exact .inl h
    · exact .inr ⟨b, l, by rw [mget_cons, if_pos rfl], h⟩
theorem LRep.pure {cs : List CV} {vs : List Value} (hp : ∀ c ∈ cs, c.pure) (h : LRep γ Pr w cs vs) : LRep γ' Pr w cs vs :=
  ⟨h.1, fun i c hc => let ⟨u, hu, hr⟩ := h.2 i c hc; ⟨u, hu, CRep.pure (hp c (List.mem_of_getElem? hc)) hr⟩⟩
/-- .. shown at one name. -/
theorem DCallsR.of0 {f : FuncId} {e k n : Nat} {cs : List CV} {args rs : List TV} {R : List CV → Prop} (hrs : ∀ t ∈ rs, t.pure) (hpc : ∀ c ∈ cs, c.pure) (hpa : ∀ t ∈ args, t.pure) (hR : ∀ cs', R cs' → ∀ c ∈ cs', c.pure)
    (h : ∀ v, DCallsM P f (.one (.row 0 v) :: args) [(0, some (.row e k n v cs false))] (fun ts M' => ts = rs ∧ ∃ cs', mget M' 0 = some (.row e k n v cs' false) ∧ R cs')) : DCallsR P f e k n cs args rs R := by
  intro b v γ Pr w vs hpr hm hok hts
  have hb : BRep γ Pr w ⟨w, Pr, γ, [(b, some (.row e k n v cs false))]⟩ b (.row e k n v cs false) := hm.mem b _ (by rw [mget_cons, if_pos rfl])
  have hmay : ∀ q, Ctx.may ⟨w, Pr, γ, [(0, some (.row e k n v cs false))]⟩ q ↔ Ctx.may ⟨w, Pr, γ, [(b, some (.row e k n v cs false))]⟩ q := fun q => by rw [may_one, may_one]; exact Iff.rfl
  obtain ⟨ws, ho, hl, hg⟩ := hb
  refine (h v γ Pr w vs hpr ⟨fun y l hy => ?_, fun y l hy => ?_, fun y y' l l' hy hy' hne => ?_⟩ (fun t ht => ?_) ⟨hts.1, fun i t ht => ?_⟩).mono fun ex w' ⟨us, ts, γ', Pr', M', h1, h2, h3, h4, h5, h6, h7, h8, h9, h10, h11, cs', h12, h13⟩ => ?_
  · obtain ⟨rfl, hl'⟩ := mget_one hy
    obtain rfl := Option.some.inj hl'
    exact ⟨ws, ho, hl, fun g hgg => ⟨(hmay g).2 (hg g hgg).1, (hg g hgg).2⟩⟩
  · obtain ⟨rfl, hl'⟩ := mget_one hy
    obtain rfl := Option.some.inj hl'
    exact fun c hc => CV.pure_ok (hpc c hc)
  · obtain ⟨rfl, _⟩ := mget_one hy
    obtain ⟨rfl, _⟩ := mget_one hy'
    exact absurd rfl hne
  · rcases List.mem_cons.1 ht with rfl | ht
    · trivial
    · exact TV.pure_ok (hpa t ht)
  · cases i with
    | zero =>
      simp at ht; subst ht
      obtain ⟨u, hu, hr⟩ := hts.2 0 _ rfl
      exact ⟨u, hu, hr⟩
    | succ i => exact hts.2 (i + 1) t (by simpa using ht)
  · have hp' := hR cs' h13
    obtain ⟨ws', ho', hl', hg'⟩ := h6.mem 0 _ h12
    refine ⟨us, ts, γ, Pr', [(b, some (.row e k n v cs' false))], h1, ⟨h2.os, h2.tape, h2.output, h2.size, fun q hq => h2.block q fun hm => hq ((hmay q).1 hm)⟩, ⟨h3.sub, fun x o hx => (h3.new x o hx).imp id (hmay x).1⟩, h4, h5, ⟨fun y l hy => ?_, fun y l hy => ?_, fun y y' l l' hy hy' hne => ?_⟩, Cn.agree_refl _ _, fun y => ?_, h9.pure (by rw [h11]; exact hrs), fun t ht => TV.pure_ok (hrs t (by rw [← h11]; exact ht)), h11, cs', by rw [mget_cons, if_pos rfl], h13⟩
    · obtain ⟨rfl, hl2⟩ := mget_one hy
      obtain rfl := Option.some.inj hl2
      exact ⟨ws', ho', hl'.pure hp', fun g hgg => ⟨(hmay g).1 (hg' g hgg).1, (hg' g hgg).2⟩⟩
    · obtain ⟨rfl, hl2⟩ := mget_one hy
      obtain rfl := Option.some.inj hl2
      exact fun c hc => CV.pure_ok (hp' c hc)
    · obtain ⟨rfl, _⟩ := mget_one hy
      obtain ⟨rfl, _⟩ := mget_one hy'
      exact absurd rfl hne
    · unfold has
      rw [mget_cons, mget_cons]
      split <;> simp

theorem DOps.callRow {b e k n : Nat} {v : Value} {cl : Call} {f : FuncId} {fn : Func} {c : Code} {cs : List CV} {args rs : List TV} {R : List CV → Prop} (hg : gd ops env o = some true) (hd : dstOk N o = true) (ho : o.op = .call cl) (hcl : cl.callee = .value (.func f))
    (hf : P.funcs[f]? = some fn) (hb : fn.body = some c) (hn : (fn.name == "runtime.NumGoroutine") = false) (hx : opvs env cl.args.toList = some (.one (.row b v) :: args)) (hm : mget M b = some (.row e k n v cs false)) (hp : ∀ t ∈ args, t.pure) (hpc : ∀ c ∈ cs, c.pure)
    (hc : DCallsR P f e k n cs args rs R) (h : ∀ cs', R cs' → DOps P N M0 ops Q rest (putd o.dst (ret1 rs) env) ((b, some (.row e k n v cs' false)) :: M)) : DOps P N M0 ops Q (o :: rest) env M := by
  refine DOps.callM [(b, some (.row e k n v cs false))] hg hd ho hcl hf hb hn hx (fun y l hk => ?_) (fun _ _ _ _ _ _ y l hk => ?_) (fun _ _ _ _ _ _ t ht => ?_) (hc b v) (fun us M' hR hh Mn hMn => ?_) (fun M' hh => ?_)
  · obtain ⟨rfl, hk'⟩ := mget_one hk
    rw [hm, hk']
  · obtain ⟨_, hk'⟩ := mget_one hk
    obtain rfl := Option.some.inj hk'
    exact fun c hc => CV.pure_ok (hpc c hc)
  · rcases List.mem_cons.1 ht with rfl | ht
    · trivial
    · exact TV.pure_ok (hp t ht)
  · obtain ⟨rfl, cs', hM, hRc⟩ := hR
    refine DOps.weak (Wk.memo (fun i => .inr rfl) fun y => ?_) (h cs' hRc)
    rw [mget_cons, hMn y, mget_cons]
    by_cases e : b = y
    · subst e; simp [hM]
    · rw [if_neg e, if_neg e]; rfl
  · refine ⟨(b, mget M' b) :: M, fun y => ?_⟩
    rw [mget_cons, mget_cons]
    by_cases e : b = y
    · subst e; simp
    · rw [if_neg e, if_neg e]; rfl

theorem endQM.row {T : TypeId → Option TyI} {ex : Exit} (he : ex = .normal ∨ ex = .ret) {b e k n : Nat} {v : Value} {cs cs' : List CV} {rs rs' : List ResultVar} {ts : List TV} {R : List CV → Prop} (hrs : rs = rs') (h : ResTs T env M rs' ts) (hp : ∀ t ∈ ts, t.pure) (hM : mget M b = some (.row e k n v cs' false)) (hpc : ∀ c ∈ cs', c.pure) (hR : R cs') :
    endQM T rs [(b, some (.row e k n v cs false))] (fun ts' M' => ts' = ts ∧ ∃ cs', mget M' b = some (.row e k n v cs' false) ∧ R cs') ex env M := by
  subst hrs
  have g : mget [(b, some (Blk.row e k n v cs' false))] b = some (.row e k n v cs' false) := by rw [mget_cons, if_pos rfl]
  have : ∃ us M', ResTs T env M rs us ∧ (∀ y, mget M' y = none ∨ mget M' y = mget M y) ∧ (∀ y, has [(b, some (Blk.row e k n v cs false))] y ↔ has M' y) ∧ (∀ y k, mget M' y = some k → k.ok M') ∧ (∀ t ∈ us, t.ok M') ∧ (us = ts ∧ ∃ cs', mget M' b = some (.row e k n v cs' false) ∧ R cs') := by
    refine ⟨ts, [(b, some (.row e k n v cs' false))], h, fun y => ?_, fun y => ?_, fun y l hk => ?_, fun t ht => TV.pure_ok (hp t ht), rfl, cs', g, hR⟩
    · by_cases e : b = y
      · subst e; rw [g, hM]; exact .inr rfl
      · rw [mget_cons, if_neg e]; exact .inl rfl
    · unfold has
      rw [mget_cons, mget_cons]
      split <;> simp
    · obtain ⟨_, hk'⟩ := mget_one hk
      obtain rfl := Option.some.inj hk'
      exact fun c hc => CV.pure_ok (hpc c hc)
  rcases he with rfl | rfl
  · exact this
  · exact this
end
end Go.Proofs.Ytgjamldcglebjaa.DL
