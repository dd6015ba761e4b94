/- A logic of data for Go functions: forgetting, loops, values that are built. No program in sight. -/
import Derived.Test.YtgjamldcglebjaaD4
namespace Go.Proofs.Ytgjamldcglebjaa.DL
open Go.RowKit

section
variable {P : Program} {N : Nat} {ops : Array Oper} {Q : DPost} {env : Env} {M M0 : Mem} {γ γ' : Cn} {Pr Pr' : Prot} {x0 : Ctx} {w w' : World} {a : Act} {o : Oper} {rest : List Oper}

/-- One state tells less than another. -/
def Wk (N : Nat) (M0 : Mem) (env : Env) (M : Mem) (t : Env) (Mt : Mem) : Prop := ∀ x0 a w, x0.M0 = M0 → At x0 N env M a w → At x0 N t Mt a w

/-- What is forgotten of slots. -/
def Sub (t env : Env) : Prop := ∀ i, lk t i = .junk ∨ lk t i = lk env i
def MSub (Mt M : Mem) : Prop := ∀ b, mget Mt b = none ∨ mget Mt b = mget M b

theorem Wk.refl : Wk N M0 env M env M := fun _ _ _ _ h => h
theorem Wk.trans {e2 e3 : Env} {M2 M3 : Mem} (h : Wk N M0 env M e2 M2) (k : Wk N M0 e2 M2 e3 M3) : Wk N M0 env M e3 M3 := fun _ _ _ hx x => k _ _ _ hx (h _ _ _ hx x)

theorem Rel.weak {t : Env} {Mt : Mem} (h : Rel γ Pr x0 N env M a w) (hs : Sub t env) (hm : MSub Mt M) (ho : ∀ i, (lk t i).ok Mt) (hb : ∀ b k, mget Mt b = some k → k.ok Mt) : Rel γ Pr x0 N t Mt a w := by
  have get : ∀ b k, mget Mt b = some k → mget M b = some k := fun b k hk => by
    rcases hm b with e | e
    · rw [e] at hk; cases hk
    · rw [← e]; exact hk
  exact { size := h.size, slot := fun i => (hs i).elim (fun e => by rw [e]; trivial) (fun e => by rw [e]; exact h.slot i), slotB := ho, mem := fun b k hk => h.mem b k (get b k hk), memB := hb,
          apart := fun b b' k k' hk hk' => h.apart b b' k k' (get b k hk) (get b' k' hk'), below := h.below, prot := h.prot, defers := h.defers }

/-- Slots are forgotten, memory stays. -/
theorem Wk.slots {t : Env} (hs : Sub t env) : Wk N M0 env M t M := fun x0 a w _ ⟨γ, Pr, h, hf⟩ =>
  ⟨γ, Pr, h.weak hs (fun _ => .inr rfl) (fun i => (hs i).elim (fun e => by rw [e]; trivial) (fun e => by rw [e]; exact h.slotB i)) h.memB, hf⟩
/-- Memory is told in another way. -/
theorem Wk.memo {t : Env} {Mt : Mem} (hs : Sub t env) (he : ∀ b, mget Mt b = mget M b) : Wk N M0 env M t Mt := fun x0 a w _ ⟨γ, Pr, h, hf⟩ => by
  have hh : ∀ b, has M b → has Mt b := fun b hb => by unfold has at *; rw [he]; exact hb
  exact ⟨γ, Pr, h.weak hs (fun b => .inr (he b)) (fun i => (hs i).elim (fun e => by rw [e]; trivial) (fun e => by rw [e]; exact SV.ok_le hh (h.slotB i)))
    (fun b k hk => Blk.ok_le hh (h.memB b k (by rw [← he]; exact hk))), ⟨hf.ext, hf.cell, hf.lie, fun b hb => hh b (hf.has b hb)⟩⟩
/-- Memory is forgotten, too: none of what the call was handed. -/
theorem Wk.both {t : Env} {Mt : Mem} (hs : Sub t env) (hm : MSub Mt M) (ho : ∀ i, (lk t i).ok Mt) (hb : ∀ b k, mget Mt b = some k → k.ok Mt) (h0 : ∀ b, has M0 b → has Mt b) : Wk N M0 env M t Mt := fun x0 a w hx ⟨γ, Pr, h, hf⟩ =>
  ⟨γ, Pr, h.weak hs hm ho hb, ⟨hf.ext, hf.cell, hf.lie, fun b hb => h0 b (by rw [← hx]; exact hb)⟩⟩

theorem DCode.weak {c : Code} {t : Env} {Mt : Mem} (hw : Wk N M0 env M t Mt) (h : DCode P N M0 c Q t Mt) : DCode P N M0 c Q env M :=
  fun x0 a w hx ha => h x0 a w hx (hw x0 a w hx ha)
theorem DOps.weak {l : List Oper} {t : Env} {Mt : Mem} (hw : Wk N M0 env M t Mt) (h : DOps P N M0 ops Q l t Mt) : DOps P N M0 ops Q l env M :=
  fun x0 a w hx ha => h x0 a w hx (hw x0 a w hx ha)

theorem DCode.loop {c : Code} {ι : Type} (E : ι → Env) (Mm : ι → Mem) (μ : ι → Nat) (i0 : ι) (h0 : Wk N M0 env M (E i0) (Mm i0))
    (hr : ∀ i, DCode P N M0 c (thenQ (fun env' M' => ∃ i', μ i' < μ i ∧ Wk N M0 env' M' (E i') (Mm i')) Q) (E i) (Mm i)) : DCode P N M0 (.loop c) Q env M := by
  intro x0 a w hx ha0
  refine wp_loop_rounds (μ i0 + 1) ?_
  have key : ∀ n i a w, μ i < n → At x0 N (E i) (Mm i) a w → Code.rounds P c (up x0 N Q) n a w := by
    intro n
    induction n with
    | zero => intro i a w hi; omega
    | succ n ih =>
      intro i a w hi ha
      rw [rounds_succ]
      refine wp_mono (hr i x0 a w hx ha) fun e a' w' ⟨env', M', hat, hQ⟩ => ?_
      cases e with
      | normal =>
        obtain ⟨i', hlt, hw⟩ := hQ
        exact ih i' a' w' (by omega) (hw _ _ _ hx hat)
      | _ => exact ⟨env', M', hat, hQ⟩
  exact key _ i0 a w (by omega) (h0 _ _ _ hx ha0)

/-! ### How 'Sub' is shown -/
def junks (ds : List Nat) (e : Env) : Env := ds.foldr (fun d r => (d, SV.junk) :: r) e
/-- Off the slots ds two are alike. -/
def Off (ds : List Nat) (t env : Env) : Prop := ∀ i, ds.contains i = false → lk t i = lk env i
theorem Off.refl (ds : List Nat) (env : Env) : Off ds env env := fun _ _ => rfl
theorem Off.cons {ds : List Nat} {d : Nat} {x : SV} {t env : Env} (hd : ds.contains d = true) (h : Off ds t env) : Off ds t ((d, x) :: env) := fun i hi => by
  rw [lk_cons, if_neg (fun e => by rw [e, hi] at hd; cases hd)]
  exact h i hi
theorem lk_junks (ds : List Nat) (e : Env) (i : Nat) : lk (junks ds e) i = if ds.contains i then .junk else lk e i := by
  induction ds with
  | nil => rfl
  | cons d ds ih =>
    show lk ((d, SV.junk) :: junks ds e) i = _
    rw [lk_cons, ih, List.contains_cons]
    by_cases h : d = i
    · subst h; simp
    · rw [if_neg h]
      have : (i == d) = false := by simpa using fun e => h e.symm
      rw [this, Bool.false_or]
theorem Off.junks {ds ds' : List Nat} {t env : Env} (hd : ds'.all (ds.contains ·) = true) (h : Off ds t env) : Off ds t (junks ds' env) := fun i hi => by
  rw [lk_junks]
  split
  · rename_i hc
    have := List.all_eq_true.1 hd i (by simpa using hc)
    rw [hi] at this; cases this
  · exact h i hi
theorem Sub.base {ds : List Nat} {t env : Env} (h : Off ds t env) : Sub (junks ds t) env := fun i => by
  rw [lk_junks]
  split
  · exact .inl rfl
  · rename_i hc; exact .inr (h i (by simpa using hc))
theorem Sub.cons {d : Nat} {x : SV} {t env : Env} (hx : lk env d = x) (h : Sub t env) : Sub ((d, x) :: t) env := fun i => by
  rw [lk_cons]
  split
  · rename_i e; subst e; exact .inr hx.symm
  · exact h i
theorem Sub.junk {d : Nat} {t env : Env} (h : Sub t env) : Sub ((d, .junk) :: t) env := fun i => by
  rw [lk_cons]
  split
  · exact .inl rfl
  · exact h i

/-! ### Built values -/
def fillC (place : Nat → Option (Nat × Nat)) (cs : List CV) : List (Nat × TV) → Option (List CV)
  | [] => some cs
  | (i, t) :: r => match place i with
    | none => none
    | some (off, size) => if t.cells.length ≠ size ∨ off + t.cells.length > cs.length then none else fillC place (DL.splice cs off t.cells) r

theorem foldl_zip : ∀ (us : List Value) (vs : List Value) (off k : Nat), (us.zipIdx k).foldl (fun (cs : Array Value) (p : Value × Nat) => cs.setIfInBounds (off + p.2) p.1) vs.toArray = (DL.splice vs (off + k) us).toArray
  | [], _, _, _ => rfl
  | u :: r, vs, off, k => by
    rw [List.zipIdx_cons, List.foldl_cons, DL.splice]
    have := foldl_zip r (vs.set (off + k) u) off (k + 1)
    rw [← Nat.add_assoc] at this
    rw [← this]
    simp

theorem fillC_fill {place : Nat → Option (Nat × Nat)} : ∀ (ps : List (Nat × TV)) (qs : List (Nat × Value)) (cs cs' : List CV) (vs : List Value), LRep γ Pr w cs vs →
    qs.length = ps.length → (∀ (j : Nat) i t, ps[j]? = some (i, t) → ∃ v, qs[j]? = some (i, v) ∧ TRep γ Pr w t v) → fillC place cs ps = some cs' →
    ∃ vs' : List Value, Instr.fill place vs.toArray qs = some vs'.toArray ∧ LRep γ Pr w cs' vs'
  | [], qs, cs, cs', vs, hl, hq, _, hf => by
    obtain rfl := List.eq_nil_of_length_eq_zero hq
    simp only [fillC, Option.some.injEq] at hf
    subst hf
    exact ⟨vs, rfl, hl⟩
  | (i, t) :: r, qs, cs, cs', vs, hl, hq, hh, hf => by
    match qs, hq with
    | (i', v) :: qs, hq =>
      obtain ⟨v', hv', ht⟩ := hh 0 i t rfl
      simp at hv'
      obtain ⟨rfl, rfl⟩ := hv'
      obtain ⟨us, hu, hul⟩ := TRep.cells ht
      simp only [fillC] at hf
      cases hp : place i' with
      | none => rw [hp] at hf; cases hf
      | some os =>
        obtain ⟨off, size⟩ := os
        rw [hp] at hf
        simp only at hf
        split at hf
        · cases hf
        · rename_i hcond
          have hcond' : t.cells.length = size ∧ off + t.cells.length ≤ cs.length := by omega
          obtain ⟨vs', h1, h2⟩ := fillC_fill r qs _ cs' _ (LRep.splice hl hul off hcond'.2) (by simpa using hq) (fun j i t hj => by simpa using hh (j + 1) i t (by simpa using hj)) hf
          refine ⟨vs', ?_, h2⟩
          have hfold : v.cells.zipIdx.foldl (fun (cs : Array Value) (p : Value × Nat) => cs.setIfInBounds (off + p.2) p.1) vs.toArray = (DL.splice vs off us).toArray := by
            have := foldl_zip us vs off 0
            rw [Nat.add_zero] at this
            rw [← this, hu]
            simp
          have hs : v.cells.size = t.cells.length := by rw [hu, List.size_toArray, hul.1]
          simp only [Instr.fill, hp]
          rw [if_neg (by rw [hs, List.size_toArray, hl.1]; simp; omega)]
          rw [← h1]
          congr 1

/-- Parts of a built value. -/
def opParts (env : Env) : List (Nat × Operand) → Option (List (Nat × TV))
  | [] => some []
  | (i, x) :: r => match opv env x, opParts env r with
    | .v t, some ts => some ((i, t) :: ts)
    | _, _ => none
theorem opParts_rep (h : Rel γ Pr x0 N env M a w) : ∀ (l : List (Nat × Operand)) (ps : List (Nat × TV)), opParts env l = some ps →
    ps.length = l.length ∧ (∀ p ∈ ps, p.2.ok M) ∧ ∀ (j : Nat) i t, ps[j]? = some (i, t) → ∃ v, (l.map fun p => (p.1, a.eval p.2))[j]? = some (i, v) ∧ TRep γ Pr w t v
  | [], ps, hl => by simp [opParts] at hl; subst hl; exact ⟨rfl, fun p hp => by simp at hp, fun j i t hj => by simp at hj⟩
  | (i, x) :: r, ps, hl => by
    simp only [opParts] at hl
    have h1 := h.opv x
    have h0 := opv_ok h.slotB x
    split at hl
    · rename_i t us hx hr
      obtain rfl := Option.some.inj hl
      obtain ⟨h2, h3, h4⟩ := opParts_rep h r us hr
      rw [hx] at h1 h0
      refine ⟨by simp [h2], fun p hp => ?_, fun j i' t' hj => ?_⟩
      · rcases List.mem_cons.1 hp with rfl | hp
        · exact h0
        · exact h3 p hp
      · cases j with
        | zero => simp at hj; obtain ⟨rfl, rfl⟩ := hj; exact ⟨_, rfl, h1⟩
        | succ j => exact h4 j i' t' (by simpa using hj)
    · cases hl

theorem fillC_ok {place : Nat → Option (Nat × Nat)} : ∀ (ps : List (Nat × TV)) (cs cs' : List CV), (∀ c ∈ cs, c.ok M) → (∀ p ∈ ps, p.2.ok M) → fillC place cs ps = some cs' → ∀ c ∈ cs', c.ok M
  | [], cs, cs', h, _, hf => by simp only [fillC, Option.some.injEq] at hf; subst hf; exact h
  | (i, t) :: r, cs, cs', h, hp, hf => by
    simp only [fillC] at hf
    cases hpl : place i with
    | none => rw [hpl] at hf; cases hf
    | some os =>
      obtain ⟨off, size⟩ := os
      rw [hpl] at hf
      simp only at hf
      split at hf
      · cases hf
      · rename_i hcond
        refine fillC_ok r _ cs' (fun c hc => ?_) (fun p hq => hp p (List.mem_cons_of_mem _ hq)) hf
        obtain ⟨j, hj⟩ := List.getElem?_of_mem hc
        rw [splice_get _ _ _ _ (by omega)] at hj
        split at hj
        · exact TV.cells_ok (hp _ (List.mem_cons_self ..)) c (List.mem_of_getElem? hj)
        · exact h c (List.mem_of_getElem? hj)

def placesOf (T : TypeId → Option TyI) : List Field → Option (List (Nat × Nat))
  | [] => some []
  | f :: r => match T f.type, placesOf T r with
    | some j, some l => some ((f.offset, j.size) :: l)
    | _, _ => none
theorem placesOf_spec {T : TypeId → Option TyI} (hT : TOk P T) : ∀ (fs : List Field) (l : List (Nat × Nat)), placesOf T fs = some l → fs.mapM (fun f => (P.info? f.type).map fun i => (f.offset, i.size)) = some l
  | [], l, h => by simp [placesOf] at h; subst h; rfl
  | f :: r, l, h => by
    simp only [placesOf] at h
    split at h
    · rename_i j l' hj hl
      obtain rfl := Option.some.inj h
      obtain ⟨_, info, h1, h2, _⟩ := hT _ _ hj
      simp [List.mapM_cons, h1, h2, placesOf_spec hT r l' hl]
    · cases h

theorem OpVal.buildS {T : TypeId → Option TyI} (hT : TOk P T) {t : TypeId} {i : TyI} {parts : Array (Nat × Operand)} {fs : Array Field} {pl : List (Nat × Nat)} {ps : List (Nat × TV)} {zs cs : List CV} (ho : o.op = .build t parts) (ht : T t = some i) (hd : i.desc = .struct fs)
    (hpl : placesOf T fs.toList = some pl) (hps : opParts env parts.toList = some ps) (hz : dvs i.zero = zs) (hz1 : i.zero.cells.toList.all (·.oneCell') = true) (hf : fillC (fun n => pl[n]?) zs ps = some cs) : OpVal P N env M o (.v (.agg cs)) := fun γ Pr x0 a w h => by
  subst hz
  obtain ⟨h1, h2, h3⟩ := opParts_rep h _ _ hps
  obtain ⟨hu, info, hi1, hi2, hi3, hi4⟩ := hT _ _ ht
  rw [hd] at hu
  obtain ⟨vs', hfill, hl⟩ := fillC_fill (γ := γ) (Pr := Pr) (w := w) (place := fun n => pl[n]?) ps (parts.toList.map fun p => (p.1, a.eval p.2)) (dvs i.zero) cs i.zero.cells.toList (dvs_rep hz1) (by simp [h1]) h3 hf
  refine ⟨fillC_ok ps _ cs (dvs_ok i.zero) h2 hf, .agg vs'.toArray, ?_, vs', rfl, hl⟩
  simp only [execOp, ho]
  have hb : P.built t ((parts.map fun p => (p.1, a.eval p.2)).toList) = some vs'.toArray := by
    unfold Program.built
    simp only [hi1, hu, hi4]
    rw [placesOf_spec hT _ _ hpl]
    simp only [Array.toList_map]
    rw [← hfill]
    simp
  rw [Sem.run_bind, run_build w t _ _ hb]
  rfl

theorem OpVal.buildA {T : TypeId → Option TyI} (hT : TOk P T) {t e : TypeId} {i j : TyI} {parts : Array (Nat × Operand)} {n : Nat} {ps : List (Nat × TV)} {zs cs : List CV} (ho : o.op = .build t parts) (ht : T t = some i) (hd : i.desc = .array n e) (hj : T e = some j)
    (hps : opParts env parts.toList = some ps) (hz : dvs i.zero = zs) (hz1 : i.zero.cells.toList.all (·.oneCell') = true) (hf : fillC (fun n => some (n * j.size, j.size)) zs ps = some cs) : OpVal P N env M o (.v (.agg cs)) := fun γ Pr x0 a w h => by
  subst hz
  obtain ⟨h1, h2, h3⟩ := opParts_rep h _ _ hps
  obtain ⟨hu, info, hi1, hi2, hi3, hi4⟩ := hT _ _ ht
  obtain ⟨_, info', hj1, hj2, _⟩ := hT _ _ hj
  rw [hd] at hu
  obtain ⟨vs', hfill, hl⟩ := fillC_fill (γ := γ) (Pr := Pr) (w := w) (place := fun n => some (n * j.size, j.size)) ps (parts.toList.map fun p => (p.1, a.eval p.2)) (dvs i.zero) cs i.zero.cells.toList (dvs_rep hz1) (by simp [h1]) h3 hf
  refine ⟨fillC_ok ps _ cs (dvs_ok i.zero) h2 hf, .agg vs'.toArray, ?_, vs', rfl, hl⟩
  simp only [execOp, ho]
  have hb : P.built t ((parts.map fun p => (p.1, a.eval p.2)).toList) = some vs'.toArray := by
    unfold Program.built
    simp only [hi1, hu, hi4, hj1, hj2]
    simp only [Array.toList_map]
    rw [← hfill]
  rw [Sem.run_bind, run_build w t _ _ hb]
  rfl
end

/-! ### Types by a list -/
def lkT : List (Nat × TyI) → TypeId → Option TyI
  | [], _ => none
  | (d, x) :: r, i => bif Nat.beq d i then some x else lkT r i
def TyOk (P : Program) (t : TypeId) (i : TyI) : Prop := P.underlying t = some i.desc ∧ (P.info? t).map (fun x => (x.size, x.bytes, x.zero)) = some (i.size, i.bytes, some i.zero)
theorem TOk.of {P : Program} : ∀ (l : List (Nat × TyI)), (∀ p ∈ l, TyOk P p.1 p.2) → TOk P (lkT l)
  | [], _ => fun t i h => by simp [lkT] at h
  | (d, x) :: r, hl => fun t i h => by
    simp only [lkT] at h
    cases hb : Nat.beq d t with
    | false => rw [hb] at h; exact TOk.of r (fun p hp => hl p (List.mem_cons_of_mem _ hp)) t i h
    | true =>
      rw [hb] at h
      obtain rfl := Nat.eq_of_beq_eq_true hb
      obtain rfl := Option.some.inj h
      obtain ⟨h1, h2⟩ := hl _ (List.mem_cons_self ..)
      refine ⟨h1, ?_⟩
      simp only [Option.map_eq_some_iff] at h2
      obtain ⟨info, h3, h4⟩ := h2
      injection h4 with h5 h6
      injection h6 with h6 h7
      exact ⟨info, h3, h5, h6, h7⟩
end Go.Proofs.Ytgjamldcglebjaa.DL
