/- A logic of data for Go functions: rows that are made, cleared behind a place; append of any number. No program in sight. -/
import Derived.Test.YtgjamldcglebjaaD28
import Derived.Laws.MakeOwn
namespace Go.Proofs.Ytgjamldcglebjaa.DL
open Go.RowKit

section
variable {P : Program} {N : Nat} {ops : Array Oper} {Q : DPost} {env : Env} {M M0 : Mem} {γ : Cn} {Pr : Prot} {x0 : Ctx} {w : World} {a : Act} {o : Oper} {rest : List Oper}

/-- A row of numbers, made by make. -/
theorem DOps.mkS (b : Nat) {T : TypeId → Option TyI} (hT : TOk P T) {t e s0 b0 b1 d n : Nat} {z0 : Value} {x y : Operand} {kx ky : IntKind} (hg : gd ops env o = some true) (hd : o.dst = some d) (hN : Nat.blt d N = true) (ho : o.op = .makeSlice t x y) (ht : T t = some ⟨.slice e, s0, b0, z0⟩)
    (hj : T e = some ⟨.int .i64, 1, b1, .int .i64 0⟩) (hx : opv env x = vI kx (n : Nat)) (hy : opv env y = vI ky (n : Nat)) (hn : n ≤ 4194304) (hb1 : b1 ≤ 8)
    (h : ∀ v, DOps P N M0 ops Q rest ((d, .v (.one (.row b v))) :: env) ((b, some (.row e 1 n v ((List.replicate n (0 : Int)).map fun m => .d (.sc (.int .i64 m))) false)) :: M)) : DOps P N M0 ops Q (o :: rest) env M := by
  intro x0 a w hx0 ⟨γ, Pr, hr, hfr⟩
  have hw := gd_wanted (ops := ops) hr hg
  unfold wpList
  rw [if_pos hw]
  refine .inl ?_
  obtain ⟨_, info, hi1, hi2, hi3, hi4⟩ := hT e _ hj
  simp only [] at hi2 hi3 hi4
  have hmul : b1 * n ≤ 8 * n := Nat.mul_le_mul_right n hb1
  have hrun0 := Go.run_makeSlice (P := P) (w := w) t e info (.int .i64 0) (hT t _ ht).1 hi1 hi4 kx ky (n : Int) (n : Int) (by omega) (Int.le_refl _) (by rw [hi2]; omega) (by rw [hi3, ← Int.natCast_mul]; omega) (by omega)
  rw [hi2, Int.toNat_natCast, Nat.mul_one] at hrun0
  have hcells : Go.madeCells (Value.int .i64 0).cells n = (List.replicate n (Value.int .i64 0)).toArray := by
    apply Array.ext
    · simp [Go.madeCells]
    · intro i h1 h2
      simp [Go.madeCells, Value.cells, Nat.mod_one]
  rw [hcells] at hrun0
  have hl : LRep γ Pr w ((List.replicate n (0 : Int)).map fun m => CV.d (.sc (.int .i64 m))) (List.replicate n (Value.int .i64 0)) := by
    refine ⟨by simp, fun i c hc => ?_⟩
    have hi : i < n := by
      have := (List.getElem?_eq_some_iff.1 hc).1
      simpa using this
    rw [List.getElem?_map, List.getElem?_replicate, if_pos hi] at hc
    obtain rfl := Option.some.inj hc
    exact ⟨.int .i64 0, by rw [List.getElem?_replicate, if_pos hi], rfl, rfl⟩
  have hok : ∀ c ∈ ((List.replicate n (0 : Int)).map fun m => CV.d (.sc (.int .i64 m))), c.ok M := fun c hc => by
    obtain ⟨_, _, rfl⟩ := List.mem_map.1 hc
    trivial
  generalize hvs : List.replicate n (Value.int .i64 0) = vs' at *
  have hvl : vs'.length = n := by rw [← hvs]; simp
  have hnew : (w.alloc (.cells vs'.toArray e)).heap[w.heap.size]? = some (.cells vs'.toArray e (0, 0)) := heap_alloc_new w _
  have hB : Below w.heap.size w (w.alloc (.cells vs'.toArray e)) := (Below.refl _ _).alloc (Nat.le_refl _) _
  have K : Kept Pr w Pr (w.alloc (.cells vs'.toArray e)) := ⟨fun _ _ x => x, fun g o hp => heap_cell (hB.block g (hr.prot g o hp)) o⟩
  have np : ∀ o, ¬ Pr w.heap.size o := fun o hp => absurd (hr.prot _ o hp) (Nat.lt_irrefl _)
  have hrow : BRep γ Pr (w.alloc (.cells vs'.toArray e)) x0 b (.row e 1 n (.slice (some ⟨w.heap.size, 0, none⟩) n n) ((List.replicate n (0 : Int)).map fun m => CV.d (.sc (.int .i64 m))) false) := by
    refine ⟨vs', ⟨by rw [hvl, Nat.mul_one], .inr ⟨w.heap.size, n, vs'.toArray, rfl, Nat.zero_le _, hnew, Nat.le_refl _, by show n ≤ maxLen; simp [maxLen]; omega, by simp [hvl], ?_⟩⟩, LRep.move (M := M) (Cn.agree_refl M γ) K hok hl, fun g hgg => ?_⟩
    · rw [List.take_of_length_le (by simp [hvl])]
    · simp only [Value.ownBlock, Option.some.injEq] at hgg
      subst hgg
      exact ⟨.inl hr.below.size, fun o _ => np o, fun _ => np⟩
  have hrel := hr.setB (b := b) (hr.below.below hB) hB.size K hrow hok fun x l g hxb hmx hbx => by
    have hlt := ((hr.mem x l hmx).lt g hbx).2
    refine ⟨hB.block g hlt, ?_⟩
    simp only [blockOf, Value.ownBlock, ne_eq, Option.some.injEq]
    omega
  unfold Oper.wp
  have hrun : (execOp a.eval o).run P w = .ok (.value (.slice (some ⟨w.heap.size, 0, none⟩) n n)) (w.alloc (.cells vs'.toArray e)) := by
    simp only [execOp, ho, opI hr hx, opI hr hy, Sem.run_bind, hrun0, Result.andThen_ok, Sem.run_pure]
  rw [hrun, Oper.upon_value]
  have hdd := dstOk_of hd hN
  have he : putd o.dst (.v (.one (.row b (.slice (some ⟨w.heap.size, 0, none⟩) n n)))) env = (d, .v (.one (.row b (.slice (some ⟨w.heap.size, 0, none⟩) n n)))) :: env := by rw [hd]; rfl
  refine h (.slice (some ⟨w.heap.size, 0, none⟩) n n) x0 _ _ hx0 ⟨γ, Pr, ?_, hfr.setB K b _⟩
  rw [← he]
  exact hrel.put (dstOk_spec hdd) ⟨rfl, rfl⟩ trivial

/-- Cells of a row are written. -/
theorem Rel.setRow (hr : Rel γ Pr x0 N env M a w) {b e k n off g : Nat} {v : Value} {cs ns : List CV} {us : List Value} (hm : mget M b = some (.row e k n v cs false)) (hgv : v.ownBlock = some g) (hl : LRep γ Pr w ns us) (h3 : ∀ c ∈ ns, c.ok M) (hk : off + ns.length ≤ cs.length) :
    Rel γ Pr x0 N env ((b, some (.row e k n v (DL.splice cs off ns) false)) :: M) a (w.setCells g off us) ∧ (∀ {c : Ctx}, From c γ Pr M w → From c γ Pr ((b, some (.row e k n v (DL.splice cs off ns) false)) :: M) (w.setCells g off us)) := by
  obtain ⟨vs, hown, hvl, hgg⟩ := hr.mem b _ hm
  obtain ⟨hmay, _, hnp⟩ := hgg g hgv
  have hnp : ∀ o, ¬ Pr g o := hnp rfl
  obtain ⟨g', cap, cur, hv, hheap, hnc, hcm, hcs, htake⟩ : ∃ g' cap cur, v = .slice (some ⟨g', 0, none⟩) n cap ∧ w.heap[g']? = some (.cells cur e (0, 0)) ∧ n ≤ cap ∧ cap ≤ maxLen ∧ cur.size = cap * k ∧ cur.toList.take (n * k) = vs := by
    rcases hown.2 with ⟨hv, _⟩ | ⟨g', cap, cur, h1, _, h2, h3, h4, h5, h6⟩
    · rw [hv] at hgv; simp [Value.ownBlock] at hgv
    · exact ⟨g', cap, cur, h1, h2, h3, h4, h5, h6⟩
  obtain rfl : g' = g := by rw [hv] at hgv; simpa [Value.ownBlock] using hgv
  have hul : us.length = ns.length := hl.1
  have hvsl : vs.length = cs.length := hvl.1
  have hvs_le : vs.length ≤ cur.toList.length := by rw [← htake, List.length_take]; omega
  have hcur : cur = cur.toList.toArray := by simp
  rw [hcur] at hheap
  have hfar : ∀ q, q ≠ g' → (w.setCells g' off us).heap[q]? = w.heap[q]? := fun q hq => heap_setCells_far _ q hq us off w
  have K : Kept Pr w Pr (w.setCells g' off us) := ⟨fun _ _ x => x, fun q o hp => heap_cell (hfar q (fun e => hnp o (by rw [← e]; exact hp))) o⟩
  have G := Cn.agree_refl M γ
  have hcok : ∀ c ∈ DL.splice cs off ns, c.ok M := fun c hc => by
    obtain ⟨i, hi⟩ := List.getElem?_of_mem hc
    rw [splice_get _ _ _ _ hk] at hi
    split at hi
    · exact h3 c (List.mem_of_getElem? hi)
    · exact hr.memB b _ hm c (List.mem_of_getElem? hi)
  have hnk : vs.length = n * k := hown.1
  have hnew : BRep γ Pr (w.setCells g' off us) x0 b (.row e k n v (DL.splice cs off ns) false) := by
    refine ⟨DL.splice vs off us, ⟨by rw [splice_length]; exact hnk, .inr ⟨g', cap, (DL.splice cur.toList off us).toArray, hv, Nat.zero_le _, heap_setCells _ us off w cur.toList e hheap, hnc, hcm, by simp [splice_length, hcs], ?_⟩⟩,
      LRep.move G K hcok (LRep.splice hvl hl off (by omega)), fun q hq => ?_⟩
    · apply List.ext_getElem?
      intro i
      rw [List.getElem?_take, splice_get _ _ _ _ (show off + us.length ≤ vs.length by omega)]
      show (if i < n * k then (DL.splice cur.toList off us)[i]? else none) = _
      rw [splice_get _ _ _ _ (show off + us.length ≤ cur.toList.length by omega)]
      by_cases hi : i < n * k
      · rw [if_pos hi]
        split
        · rfl
        · rw [← htake, List.getElem?_take, if_pos hi]
      · rw [if_neg hi, if_neg (by omega), List.getElem?_eq_none (by omega)]
    · obtain ⟨a1, a2, a3⟩ := hgg q hq
      exact ⟨a1, a2, a3⟩
  have hsim := hr.below.setCells hmay us off
  have hrel := hr.setB (b := b) hsim (by rw [size_setCells]; exact Nat.le_refl _) K hnew hcok fun x l q hxb hmx hbx => by
    have hne : q ≠ g' := fun e => hr.apart b x _ l hm hmx (Ne.symm hxb) g' hgv (by rw [← e]; exact hbx)
    exact ⟨hfar q hne, fun e2 => hr.apart b x _ l hm hmx (Ne.symm hxb) q e2 hbx⟩
  exact ⟨hrel, fun hp => hp.setB K b _⟩

/-- What stands from a place on is cleared: a part is taken, and cleared. -/
theorem DOps.clearTail {T : TypeId → Option TyI} (hT : TOk P T) {t e s0 b0 b1 d b n i : Nat} {z0 : Value} {o2 : Oper} {x y : Operand} {v : Value} {kd : IntKind} {xs : List Int} {cl : Call} (hg : gd ops env o = some true) (hd : o.dst = some d) (hN : Nat.blt d N = true) (ho : o.op = .slice t x (some y) none none)
    (hg2 : gd ops ((d, .junk) :: env) o2 = some true) (hd2 : o2.dst = none) (ho2 : o2.op = .call cl) (hcl : cl.callee = .builtin .clear) (hca : cl.args = #[.tmp d]) (hct : cl.argTypes = #[t]) (ht : T t = some ⟨.slice e, s0, b0, z0⟩) (hj : T e = some ⟨.int .i64, 1, b1, .int .i64 0⟩)
    (hx : opv env x = .v (.one (.row b v))) (hy : opv env y = vI kd (i : Nat)) (hm : mget M b = some (.row e 1 n v (xs.map fun m => .d (.sc (.int .i64 m))) false)) (hn : 0 < n) (hi : i ≤ n) (hxs : xs.length = n)
    (h : DOps P N M0 ops Q rest ((d, .junk) :: env) ((b, some (.row e 1 n v ((xs.take i ++ List.replicate (n - i) 0).map fun m => .d (.sc (.int .i64 m))) false)) :: M)) : DOps P N M0 ops Q (o :: o2 :: rest) env M := by
  intro x0 a w hx0 ⟨γ, Pr, hr, hfr⟩
  have hw := gd_wanted (ops := ops) hr hg
  unfold wpList
  rw [if_pos hw]
  refine .inl ?_
  obtain ⟨vs, hown, hvl, hgg⟩ := hr.mem b _ hm
  obtain ⟨g, cap, cur, hv, hheap, hnc, hcm, hcs, htake⟩ := row_block hown hn
  have hxe : a.eval x = v := by
    have := hr.opv x
    rw [hx] at this
    exact this.1
  have hu := run_under (w := w) hT ht
  simp only [] at hu
  have hb : (Instr.sliceBounds true n cap (some (a.eval y)) none none).run P w = .ok (i, n, cap) w := by
    unfold Instr.sliceBounds
    simp only [Sem.run_bind, Sem.run_pure, Result.andThen_ok, if_true, opI hr hy]
    simp [Instr.sliceBound, asIntOf, hi]
  have hrun : (execOp a.eval o).run P w = .ok (.value (.slice (if cap = i then some ⟨g, 0, none⟩ else (some (⟨g, 0, none⟩ : Addr)).map (·.add (i * 1))) (n - i) (cap - i))) w := by
    simp only [execOp, ho, hxe, hv]
    simp only [Instr.sliceAt, Sem.run_bind, hu, Result.andThen_ok, Instr.slice, Option.map_none, Option.map_some, hb, run_sizeOf hT hj, Sem.run_pure]
  unfold Oper.wp
  rw [hrun, Oper.upon_value]
  generalize hsv : Value.slice (if cap = i then some ⟨g, 0, none⟩ else (some (⟨g, 0, none⟩ : Addr)).map (·.add (i * 1))) (n - i) (cap - i) = sv
  have hput : a.put o.dst sv = a.put (some d) sv := by rw [hd]
  have hr1 : Rel γ Pr x0 N ((d, .junk) :: env) M (a.put o.dst sv) w := by
    rw [hput]
    exact hr.put (dst := some d) (r := .junk) (fun d' h => by injection h with h; rw [← h]; exact Nat.le_of_ble_eq_true hN) trivial trivial
  have hw2 := gd_wanted (ops := ops) hr1 hg2
  unfold wpList
  rw [if_pos hw2]
  refine .inl ?_
  have hdv : (a.put o.dst sv).eval (.tmp d) = sv := by
    have hdN : d < a.tmps.size := by rw [hr.size]; exact Nat.le_of_ble_eq_true hN
    rw [hput]
    simp [Act.eval, Act.put, hdN]
  have hzc : Builtin.zeroCells (Value.int .i64 0).cells (n - i) = (List.replicate (n - i) (Value.int .i64 0)).toArray := by
    apply Array.ext
    · simp [Builtin.zeroCells, Value.cells]
    · intro q h1 h2
      simp [Builtin.zeroCells, Value.cells, Nat.mod_one]
  have hgv : v.ownBlock = some g := by rw [hv]; rfl
  have hrun2 : (execOp (a.put o.dst sv).eval o2).run P w = .ok (.value (.tuple #[])) (w.setCells g i (List.replicate (n - i) (Value.int .i64 0))) := by
    have e1 : cl.args.map (a.put o.dst sv).eval = #[sv] := by rw [hca]; simp [hdv]
    simp only [execOp, ho2, resolve, hcl, Deferred.ofValue, Sem.run_bind, Sem.run_pure, Result.andThen_ok, invoke, e1, hct]
    show ((builtin .clear #[t] _ _ #[sv]) : Sem Next).run P w = _
    by_cases hni : i = n
    · subst hni
      rw [← hsv]
      by_cases hci : cap = i
      · simp [builtin, Builtin.clear_, hu, World.setCells, hci]
      · simp [builtin, Builtin.clear_, hu, World.setCells, hci]
    · have hci : cap ≠ i := by omega
      rw [← hsv, if_neg hci]
      have hst := run_storeCells_cells (P := P) g i (List.replicate (n - i) (Value.int .i64 0)) 0 w (fun j hj => by rw [cell_of_row w g _ cur e (0, 0) hheap]; simp at hj; simp; omega) (fun j hj => by simp [World.frozen?, hheap]) (fun u hu => by rw [List.mem_replicate] at hu; rw [hu.2]; rfl)
      simp only [Nat.add_zero] at hst
      have hpos : n - i ≠ 0 := by omega
      obtain ⟨q, hq⟩ : ∃ q, n - i = q + 1 := ⟨n - i - 1, by omega⟩
      have hzv := run_zeroValue (w := w) hT hj
      simp only [] at hzv
      simp only [builtin, Builtin.clear_, hq, Option.map_some]
      rw [hq] at hzc hst
      simp [hu, hzv, hzc, Addr.add_mid, hst]
  unfold Oper.wp
  rw [hrun2, Oper.upon_value]
  have hput2 : ∀ u, (a.put o.dst sv).put o2.dst u = a.put o.dst sv := fun u => by rw [hd2]; rfl
  rw [hput2]
  have hlr : LRep γ Pr w ((List.replicate (n - i) (0 : Int)).map fun m => CV.d (.sc (.int .i64 m))) (List.replicate (n - i) (Value.int .i64 0)) := by
    refine ⟨by simp, fun q c hc => ?_⟩
    have hq : q < n - i := by
      have := (List.getElem?_eq_some_iff.1 hc).1
      simpa using this
    rw [List.getElem?_map, List.getElem?_replicate, if_pos hq] at hc
    obtain rfl := Option.some.inj hc
    exact ⟨.int .i64 0, by rw [List.getElem?_replicate, if_pos hq], rfl, rfl⟩
  obtain ⟨hrel, hfrom⟩ := hr1.setRow (off := i) hm hgv hlr (fun c hc => by
    obtain ⟨_, _, rfl⟩ := List.mem_map.1 hc
    trivial) (by simp; omega)
  have hsp : DL.splice (xs.map fun m => CV.d (.sc (.int .i64 m))) i ((List.replicate (n - i) (0 : Int)).map fun m => CV.d (.sc (.int .i64 m))) = (xs.take i ++ List.replicate (n - i) 0).map fun m => CV.d (.sc (.int .i64 m)) := by
    apply List.ext_getElem?
    intro q
    rw [splice_get _ _ _ _ (by simp; omega), List.getElem?_map, List.getElem?_map, List.getElem?_map, List.getElem?_append]
    simp only [List.length_map, List.length_replicate, List.length_take]
    by_cases h1 : i ≤ q ∧ q < i + (n - i)
    · rw [if_pos h1, if_neg (by omega), show q - min i xs.length = q - i by omega]
    · rw [if_neg h1]
      by_cases h2 : q < min i xs.length
      · rw [if_pos h2, List.getElem?_take, if_pos (by omega)]
      · rw [if_neg h2, List.getElem?_eq_none (by omega), List.getElem?_eq_none (by simp; omega)]
  rw [hsp] at hrel hfrom
  exact h x0 _ _ hx0 ⟨γ, Pr, hrel, hfrom hfr⟩

/-- A call that is handed one row, behind which nothing is known but its results. -/
theorem DOps.callEnd {b e k n d : Nat} {v : Value} {cl : Call} {f : FuncId} {fn : Func} {c : Code} {ts rs : List TV} {cs : List CV} {R : List TV → Mem → Prop} (hg : gd ops env o = some true) (hd : o.dst = some d) (hN : Nat.blt d N = true) (ho : o.op = .call cl) (hcl : cl.callee = .value (.func f))
    (hf : P.funcs[f]? = some fn) (hb : fn.body = some c) (hn : (fn.name == "runtime.NumGoroutine") = false) (hx : opvs env cl.args.toList = some (.one (.row b v) :: ts)) (hp : ∀ t ∈ ts, t.pure) (hm : mget M b = some (.row e k n v cs false)) (hcp : ∀ c ∈ cs, c.pure)
    (hc : DCallsM P f (.one (.row b v) :: ts) [(b, some (.row e k n v cs false))] R) (hR : ∀ us M', R us M' → us = rs) (hrp : ∀ t ∈ rs, t.pure) (h : DOps P N [] ops Q rest [(d, ret1 rs)] []) : DOps P N [] ops Q (o :: rest) env M := by
  refine DOps.callM (R := R) [(b, some (.row e k n v cs false))] hg (dstOk_of hd hN) ho hcl hf hb hn hx (fun b' k' hk => ?_) (fun γ Pr x0 a w _ b' k' hk => ?_) (fun γ Pr x0 a w _ t ht => ?_) hc (fun us M' hu _ Mn _ => ?_) (fun M' _ => ?_)
  · rw [mget_cons] at hk
    split at hk
    · rename_i e1
      rw [← e1, hm]; exact hk
    · simp [mget] at hk
  · rw [mget_cons] at hk
    split at hk
    · obtain rfl := Option.some.inj hk
      exact fun c hc => CV.pure_ok (hcp c hc)
    · simp [mget] at hk
  · rcases List.mem_cons.1 ht with rfl | ht
    · trivial
    · exact TV.pure_ok (hp t ht)
  · obtain rfl := hR us M' hu
    refine DOps.weak (Wk.both (t := [(d, ret1 us)]) (Mt := []) (fun i => ?_) (fun _ => .inl rfl) (fun i => ?_) (fun b k hk => by simp [mget] at hk) (fun b hb => absurd rfl hb)) h
    · rw [hd]
      show lk [(d, ret1 us)] i = .junk ∨ lk [(d, ret1 us)] i = lk ((d, ret1 us) :: env) i
      rw [lk_cons, lk_cons]
      split
      · exact .inr rfl
      · exact .inl rfl
    · rw [lk_cons]
      split
      · exact ret1_ok hrp
      · trivial
  · refine ⟨(b, mget M' b) :: M, fun b' => ?_⟩
    rw [mget_cons]
    by_cases hbb : b = b'
    · subst hbb
      rw [if_pos rfl, if_pos (by rw [mget_cons, if_pos rfl]; rfl)]
    · rw [if_neg hbb, if_neg (by rw [mget_cons, if_neg hbb]; simp [mget])]

/-- A function that was handed one block ends, whatever has become of it. -/
theorem endQM.one {T : TypeId → Option TyI} {ex : Exit} (he : ex = .normal ∨ ex = .ret) {b e k n : Nat} {v : Value} {cs : List CV} {fz : Bool} {k0 : Blk} {rs rs' : List ResultVar} {ts : List TV} (hrs : rs = rs') (h : ResTs T env M rs' ts) (hp : ∀ t ∈ ts, t.pure) (hM : mget M b = some (.row e k n v cs fz)) (hpc : ∀ c ∈ cs, c.pure) :
    endQM T rs [(b, some k0)] (fun ts' _ => ts' = ts) ex env M := by
  subst hrs
  have g : mget [(b, some (Blk.row e k n v cs fz))] b = some (.row e k n v cs fz) := by rw [mget_cons, if_pos rfl]
  have : ∃ us M', ResTs T env M rs us ∧ (∀ y, mget M' y = none ∨ mget M' y = mget M y) ∧ (∀ y, has [(b, some k0)] y ↔ has M' y) ∧ (∀ y k, mget M' y = some k → k.ok M') ∧ (∀ t ∈ us, t.ok M') ∧ us = ts := by
    refine ⟨ts, [(b, some (.row e k n v cs fz))], h, fun y => ?_, fun y => ?_, fun y l hk => ?_, fun t ht => TV.pure_ok (hp t ht), rfl⟩
    · by_cases e : b = y
      · subst e; rw [g, hM]; exact .inr rfl
      · rw [mget_cons, if_neg e]; exact .inl rfl
    · unfold has
      rw [mget_cons, mget_cons]
      split <;> simp
    · obtain ⟨_, hk'⟩ := mget_one hk
      obtain rfl := Option.some.inj hk'
      exact fun c hc => CV.pure_ok (hpc c hc)
  rcases he with rfl | rfl
  · exact this
  · exact this

/-- Any number of numbers is appended to a row of numbers. -/
theorem DOps.appendI {T : TypeId → Option TyI} (hT : TOk P T) {t e s0 b0 d b n n' m : Nat} {z0 : Value} {s x : Operand} {v : Value} {xs ys zs : List Int} {el : Nat → Nat → DV} (hg : gd ops env o = some true) (hd : o.dst = some d) (hN : Nat.blt d N = true)
    (ho : o.op = .call { callee := .builtin .append, args := #[s, x], argTypes := #[t, t] }) (ht : T t = some ⟨.slice e, s0, b0, z0⟩) (hj : T e = some ⟨.int .i64, 1, 8, .int .i64 0⟩)
    (hs : opv env s = .v (.one (.row b v))) (hm : mget M b = some (.row e 1 n v (xs.map fun m => .d (.sc (.int .i64 m))) false)) (hx : opv env x = .v (.one (.d (.sl m 1 el)))) (hel : ∀ q, q < m → el q 0 = .sc (.int .i64 (ys.getD q 0))) (hy : ys.length = m) (hmax : n + m ≤ 8388608)
    (hn' : n + m = n') (hz : xs ++ ys = zs) (h : ∀ v', DOps P N M0 ops Q rest ((d, .v (.one (.row b v'))) :: env) ((b, some (.row e 1 n' v' (zs.map fun m => .d (.sc (.int .i64 m))) false)) :: M)) : DOps P N M0 ops Q (o :: rest) env M := by
  subst hz hn'
  by_cases h0 : m = 0
  · subst h0
    obtain rfl := List.eq_nil_of_length_eq_zero hy
    refine DOps.val hg hd hN (OpVal.append0 hT ho ht rfl hj hs hm hx) (DOps.weak (Wk.memo (fun _ => .inr rfl) fun b' => ?_) (h v))
    rw [mget_cons]
    split
    · rename_i e1
      rw [← e1, hm, List.append_nil]; rfl
    · rfl
  · refine DOps.append (n' := n + m) (cs' := (xs ++ ys).map fun m => .d (.sc (.int .i64 m))) hT (ys.map fun m => .sc (.int .i64 m)) hg hd hN ho ht rfl hj rfl rfl rfl hs hm hx (by omega) (by show (n + m) * 8 ≤ 140737488355328; omega) (by show n + m ≤ maxLen; simp [maxLen]; omega) (by simp [hy]) (fun p hp q hq => ?_) rfl (by simp) h
    have hq : q < 1 := hq
    obtain rfl : q = 0 := by omega
    show (ys.map fun m => DV.sc (.int .i64 m))[p * 1 + 0]? = _
    rw [hel p hp, Nat.mul_one, Nat.add_zero, List.getElem?_map, List.getElem?_eq_getElem (by omega), List.getD_eq_getElem?_getD, List.getElem?_eq_getElem (by omega)]
    rfl
end
end Go.Proofs.Ytgjamldcglebjaa.DL
