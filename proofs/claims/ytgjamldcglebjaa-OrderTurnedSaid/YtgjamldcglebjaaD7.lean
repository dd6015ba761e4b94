/- A logic of data for Go functions: a statement whose order is open. No program in sight. -/
import Derived.Test.YtgjamldcglebjaaD6
namespace Go.Proofs.Ytgjamldcglebjaa.DL
open Go.RowKit

/-- What of the slots an operation looks at. -/
def restr (env : Env) (ts : List Tmp) : Env := ts.map fun t => (t, lk env t)
theorem lk_restr (env : Env) : ∀ (ts : List Tmp) (i : Nat), lk (restr env ts) i = .junk ∨ (i ∈ ts ∧ lk (restr env ts) i = lk env i)
  | [], _ => .inl rfl
  | t :: ts, i => by
    show lk ((t, lk env t) :: restr env ts) i = _ ∨ _ ∧ lk ((t, lk env t) :: restr env ts) i = _
    rw [lk_cons]
    by_cases h : t = i
    · subst h; rw [if_pos rfl]; exact .inr ⟨by simp, rfl⟩
    · rw [if_neg h]; exact (lk_restr env ts i).imp id fun ⟨h1, h2⟩ => ⟨List.mem_cons_of_mem _ h1, h2⟩

/-- Operations that bind. -/
def ons (o : Oper) : List Nat := (o.after.toList.filter (Region.binds .any ·)).map (·.on)

/-- The first k operations may come up in any order, the rest comes behind all. -/
def drawOk (l : List Oper) (k : Nat) : Bool :=
  (List.range l.length).all fun i => match l[i]? with
    | none => false
    | some o => (ons o).all (fun j => Nat.blt j i) &&
      (if i < k then
        ((o.looksAt l.toArray).all fun t => (List.range l.length).all fun j => match l[j]? with
          | none => false
          | some p => p.dst != some t || (Nat.blt j i && (ons o).contains j)) &&
        (List.range k).all (fun j => j == i || match l[j]? with
          | none => false
          | some p => p.dst != o.dst)
      else (List.range i).all fun j => (ons o).contains j)

section
variable {P : Program} {N : Nat} {ops : Array Oper} {Q : DPost} {env : Env} {M M0 : Mem} {o : Oper} {rest : List Oper}

/-- An operation yields r, and leaves memory as it is told. -/
def OpQ (P : Program) (N : Nat) (M0 : Mem) (ops : Array Oper) (env : Env) (M : Mem) (o : Oper) (r : SV) : Prop :=
  (gd ops env o = some false ∧ r = .tup []) ∨ (gd ops env o = some true ∧ ∀ γ Pr x0 a w (Q' : Exit → Act → World → Prop), x0.M0 = M0 → Rel γ Pr x0 N env M a w → From x0 γ Pr M w →
    o.wp P a w (fun a' w' => ∃ v Pr', a' = a.put o.dst v ∧ SRep γ Pr' w' r v ∧ r.ok M ∧ ∀ e2, Rel γ Pr x0 N e2 M a w → Rel γ Pr' x0 N e2 M a w' ∧ From x0 γ Pr' M w') Q')

def DDr (P : Program) (N : Nat) (M0 : Mem) (ops : Array Oper) (Q : DPost) : Nat → List Oper → Env → Mem → Prop
  | 0, l, env, M => DOps P N M0 ops Q l env M
  | k + 1, o :: l, env, M => ∃ r d, o.dst = some d ∧ Nat.blt d N = true ∧ OpQ P N M0 ops (restr env (o.looksAt ops)) M o r ∧ DDr P N M0 ops Q k l ((d, r) :: env) M
  | _ + 1, [], _, _ => False

theorem DDr.done {l : List Oper} (h : DOps P N M0 ops Q l env M) : DDr P N M0 ops Q 0 l env M := h
theorem DDr.val {k d : Nat} {r : SV} (hg : gd ops (restr env (o.looksAt ops)) o = some true) (hd : o.dst = some d) (hN : Nat.blt d N = true) (hv : OpVal P N (restr env (o.looksAt ops)) M o r) (h : DDr P N M0 ops Q k rest ((d, r) :: env) M) :
    DDr P N M0 ops Q (k + 1) (o :: rest) env M := by
  refine ⟨r, d, hd, hN, .inr ⟨hg, fun γ Pr x0 a w Q' hx hr hf => ?_⟩, h⟩
  obtain ⟨hok, v, hrun, hrep⟩ := hv γ Pr x0 a w hr
  unfold Oper.wp
  rw [hrun, Oper.upon_value]
  exact ⟨v, Pr, rfl, hrep, hok, fun e2 h2 => ⟨h2, hf⟩⟩
theorem DDr.off {k d : Nat} (hg : gd ops (restr env (o.looksAt ops)) o = some false) (hd : o.dst = some d) (hN : Nat.blt d N = true) (h : DDr P N M0 ops Q k rest ((d, .tup []) :: env) M) : DDr P N M0 ops Q (k + 1) (o :: rest) env M :=
  ⟨.tup [], d, hd, hN, .inl ⟨hg, rfl⟩, h⟩
theorem DDr.call {k d : Nat} {cl : Call} {f : FuncId} {fn : Func} {c : Code} {ts rs : List TV} (hg : gd ops (restr env (o.looksAt ops)) o = some true) (hd : o.dst = some d) (hN : Nat.blt d N = true) (ho : o.op = .call cl) (hcl : cl.callee = .value (.func f))
    (hf : P.funcs[f]? = some fn) (hb : fn.body = some c) (hn : (fn.name == "runtime.NumGoroutine") = false) (hx : opvs (restr env (o.looksAt ops)) cl.args.toList = some ts) (hp : ∀ t ∈ ts, t.pure) (hc : DCalls P f ts (· = rs))
    (h : DDr P N M0 ops Q k rest ((d, ret1 rs) :: env) M) : DDr P N M0 ops Q (k + 1) (o :: rest) env M := by
  refine ⟨ret1 rs, d, hd, hN, .inr ⟨hg, fun γ Pr x0 a w Q' _ hr hfr => ?_⟩, h⟩
  unfold Oper.wp
  rw [run_call ho hcl hf hb hn a.eval rfl, Oper.upon_enter]
  have hargs : cl.args.map a.eval = (cl.args.toList.map a.eval).toArray := by apply Array.ext'; rw [Array.toList_map]
  rw [hargs]
  refine (hc Pr w _ hr.prot ((opvs_rep hr _ _ hx).pure hp)).mono fun e w' ⟨us, rs', Pr', he, hB, hE, hV, hR, hP, hQ⟩ => ?_
  subst he
  subst hQ
  exact ⟨_, Pr', rfl, SRep.ret1 (hR.pure hP), ret1_ok hP, fun e2 h2 => ⟨h2.called hB hE hV, hfr.called hr hB hE⟩⟩

/-- Slots behind some of the first operations. -/
def envS (env : Env) (dr : List (Nat × SV)) (S : Nat → Bool) : Env := go 0 dr
where go : Nat → List (Nat × SV) → Env
  | _, [] => env
  | j, p :: r => if S j then p :: go (j + 1) r else go (j + 1) r

theorem lk_envS_go (env : Env) (S : Nat → Bool) : ∀ (dr : List (Nat × SV)) (j t : Nat),
    (∃ (i : Nat) (d : Nat) (x : SV), dr[i]? = some (d, x) ∧ S (j + i) = true ∧ d = t ∧ lk (envS.go env S j dr) t = x ∧ ∀ (i' d' : Nat) (x' : SV), i' < i → dr[i']? = some (d', x') → S (j + i') = true → d' ≠ t) ∨
    ((∀ (i d : Nat) (x : SV), dr[i]? = some (d, x) → S (j + i) = true → d ≠ t) ∧ lk (envS.go env S j dr) t = lk env t)
  | [], j, t => .inr ⟨fun i d x h => by simp at h, rfl⟩
  | (d0, x0) :: r, j, t => by
    by_cases hS : S j = true
    · by_cases hd : d0 = t
      · refine .inl ⟨0, d0, x0, rfl, by simpa using hS, hd, ?_, fun i' d' x' h => by omega⟩
        simp only [envS.go, hS, if_true, lk_cons, hd]
      · have ih := lk_envS_go env S r (j + 1) t
        have he : lk (envS.go env S j ((d0, x0) :: r)) t = lk (envS.go env S (j + 1) r) t := by simp only [envS.go, hS, if_true, lk_cons, if_neg hd]
        rw [he]
        rcases ih with ⟨i, d, x, h1, h2, h3, h4, h5⟩ | ⟨h1, h2⟩
        · refine .inl ⟨i + 1, d, x, by simpa using h1, by rw [show j + (i + 1) = j + 1 + i by omega]; exact h2, h3, h4, fun i' d' x' hi hx hs => ?_⟩
          cases i' with
          | zero => simp at hx; obtain ⟨rfl, rfl⟩ := hx; exact hd
          | succ i' => exact h5 i' d' x' (by omega) (by simpa using hx) (by rw [show j + 1 + i' = j + (i' + 1) by omega]; exact hs)
        · refine .inr ⟨fun i d x hx hs => ?_, h2⟩
          cases i with
          | zero => simp at hx; obtain ⟨rfl, rfl⟩ := hx; exact hd
          | succ i => exact h1 i d x (by simpa using hx) (by rw [show j + 1 + i = j + (i + 1) by omega]; exact hs)
    · have ih := lk_envS_go env S r (j + 1) t
      have hS' : S j = false := by simpa using hS
      have he : envS.go env S j ((d0, x0) :: r) = envS.go env S (j + 1) r := by simp only [envS.go, hS', Bool.false_eq_true, if_false]
      rw [he]
      rcases ih with ⟨i, d, x, h1, h2, h3, h4, h5⟩ | ⟨h1, h2⟩
      · refine .inl ⟨i + 1, d, x, by simpa using h1, by rw [show j + (i + 1) = j + 1 + i by omega]; exact h2, h3, h4, fun i' d' x' hi hx hs => ?_⟩
        cases i' with
        | zero => exact absurd hs (by simpa using hS)
        | succ i' => exact h5 i' d' x' (by omega) (by simpa using hx) (by rw [show j + 1 + i' = j + (i' + 1) by omega]; exact hs)
      · refine .inr ⟨fun i d x hx hs => ?_, h2⟩
        cases i with
        | zero => exact absurd hs (by simpa using hS)
        | succ i => exact h1 i d x (by simpa using hx) (by rw [show j + 1 + i = j + (i + 1) by omega]; exact hs)

/-- No two of them go into one slot. -/
def Apart (dr : List (Nat × SV)) : Prop := ∀ (i j : Nat) d x d' x', dr[i]? = some (d, x) → dr[j]? = some (d', x') → i ≠ j → d ≠ d'

theorem lk_envS {env : Env} {dr : List (Nat × SV)} (hap : Apart dr) (S : Nat → Bool) (t : Nat) :
    (∀ (i : Nat) d x, dr[i]? = some (d, x) → d = t → lk (envS env dr S) t = if S i then x else lk env t) ∧ ((∀ (i : Nat) d x, dr[i]? = some (d, x) → d ≠ t) → lk (envS env dr S) t = lk env t) := by
  have h := lk_envS_go env S dr 0 t
  constructor
  · intro i d x hi hd
    rcases h with ⟨i', d', x', h1, h2, h3, h4, _⟩ | ⟨h1, h2⟩
    · have : i' = i := Decidable.byContradiction fun hne => hap i' i d' x' d x h1 hi hne (h3.trans hd.symm)
      subst this
      rw [hi] at h1
      injection h1 with h1
      injection h1 with _ h1
      rw [Nat.zero_add] at h2
      rw [h2, if_pos rfl, h1]
      exact h4
    · have hS : S i = false := by
        cases hs : S i with
        | false => rfl
        | true => exact absurd hd (h1 i d x hi (by rw [Nat.zero_add]; exact hs))
      rw [hS]
      exact h2
  · intro hn
    rcases h with ⟨i', d', x', h1, _, h3, _, _⟩ | ⟨_, h2⟩
    · exact absurd h3 (hn i' d' x' h1)
    · exact h2

theorem DDr.split : ∀ (k : Nat) (l : List Oper) (env : Env), DDr P N M0 ops Q k l env M → ∃ dr : List (Nat × SV), dr.length = k ∧ k ≤ l.length ∧
    (∀ (i d : Nat) (r : SV), dr[i]? = some (d, r) → ∃ o, l[i]? = some o ∧ o.dst = some d ∧ d < N ∧ OpQ P N M0 ops (restr ((dr.take i).reverse ++ env) (o.looksAt ops)) M o r) ∧ DOps P N M0 ops Q (l.drop k) (dr.reverse ++ env) M
  | 0, l, env, h => ⟨[], rfl, Nat.zero_le _, fun i d r hi => by simp at hi, by simpa [DDr] using h⟩
  | k + 1, [], env, h => h.elim
  | k + 1, o :: l, env, h => by
    obtain ⟨r, d, h1, h2, h3, h4⟩ := h
    obtain ⟨dr, a1, a2, a3, a4⟩ := DDr.split k l _ h4
    refine ⟨(d, r) :: dr, by simp [a1], by simpa using a2, fun i d' r' hi => ?_, by simpa using a4⟩
    cases i with
    | zero =>
      simp at hi
      obtain ⟨rfl, rfl⟩ := hi
      exact ⟨o, rfl, h1, by simpa using h2, by simpa using h3⟩
    | succ i =>
      obtain ⟨o', b1, b2, b3, b4⟩ := a3 i d' r' (by simpa using hi)
      exact ⟨o', by simpa using b1, b2, b3, by simpa using b4⟩

theorem lk_append_rev {env : Env} {dr : List (Nat × SV)} (hap : Apart dr) (i : Nat) (hi : i ≤ dr.length) (t : Nat) : lk ((dr.take i).reverse ++ env) t = lk (envS env dr (fun j => decide (j < i))) t := by
  induction i with
  | zero =>
    have := (lk_envS_go env (fun j => decide (j < 0)) dr 0 t)
    rcases this with ⟨i, d, x, _, h2, _⟩ | ⟨_, h2⟩
    · simp at h2
    · rw [List.take_zero, List.reverse_nil, List.nil_append]; exact h2.symm
  | succ i ih =>
    have hlt : i < dr.length := by omega
    have ih := ih (by omega)
    obtain ⟨d, x, hdx⟩ : ∃ d x, dr[i]? = some (d, x) := ⟨dr[i].1, dr[i].2, by rw [List.getElem?_eq_getElem hlt]⟩
    have he : (dr.take (i + 1)).reverse ++ env = (d, x) :: ((dr.take i).reverse ++ env) := by
      rw [List.take_succ_eq_append_getElem hlt, List.reverse_append]
      rw [List.getElem?_eq_getElem hlt] at hdx
      injection hdx with hdx
      rw [hdx]
      rfl
    rw [he, lk_cons]
    by_cases hd : d = t
    · rw [if_pos hd, (lk_envS hap _ t).1 i d x hdx hd]
      simp
    · rw [if_neg hd, ih]
      by_cases hex : ∃ (i' d' : Nat) (x' : SV), dr[i']? = some (d', x') ∧ d' = t
      · obtain ⟨i', d', x', h1, h2⟩ := hex
        rw [(lk_envS hap _ t).1 i' d' x' h1 h2, (lk_envS hap _ t).1 i' d' x' h1 h2]
        have hne : i' ≠ i := fun e => by
          subst e
          rw [hdx] at h1
          injection h1 with h1
          injection h1 with h1 _
          exact hd (h1.trans h2)
        have : decide (i' < i) = decide (i' < i + 1) := by
          by_cases h : i' < i
          · simp [h]; omega
          · simp [h]; omega
        simp only [this]
      · have hn : ∀ (i d : Nat) (x : SV), dr[i]? = some (d, x) → d ≠ t := fun i d x h1 h2 => hex ⟨i, d, x, h1, h2⟩
        rw [(lk_envS hap _ t).2 hn, (lk_envS hap _ t).2 hn]

theorem wpOp_of_OpQ {env2 : Env} {r : SV} {d : Nat} {x0 : Ctx} {a : Act} {w : World} {i : Nat} {renv : Env} {K : Act → World → Prop} {Q' : Exit → Act → World → Prop} (hi : ops[i]? = some o) (hd : o.dst = some d) (hN : d < N) (hx : x0.M0 = M0) (hq : OpQ P N M0 ops renv M o r)
    (hs : Sub renv env2) (ha : At x0 N env2 M a w) (hK : ∀ a' w', At x0 N ((d, r) :: env2) M a' w' → K a' w') : wpOp P ops Q' i K a w := by
  obtain ⟨γ, Pr, hr, hf⟩ := ha
  obtain hr' : Rel γ Pr x0 N renv M a w := hr.weak hs (fun _ => .inr rfl) (fun i => (hs i).elim (fun e => by rw [e]; trivial) (fun e => by rw [e]; exact hr.slotB i)) hr.memB
  unfold wpOp
  simp only [hi]
  have hput : ∀ v, a.put o.dst v = a.put (some d) v := fun v => by rw [hd]
  have he : putd (some d) r env2 = (d, r) :: env2 := rfl
  rcases hq with ⟨hg, rfl⟩ | ⟨hg, hq⟩
  · rw [if_neg (by rw [gd_wanted (ops := ops) hr' hg]; simp)]
    refine hK _ _ ⟨γ, Pr, ?_, hf⟩
    rw [hput, ← he]
    exact hr.put (fun d' h => by injection h with h; rw [← h]; exact hN) ⟨[], rfl, rfl, fun i t h => by simp at h⟩ (fun t h => by cases h)
  · rw [if_pos (gd_wanted (ops := ops) hr' hg)]
    refine .inl (Oper.wp_mono (fun a' w' hp => ?_) (hq γ Pr x0 a w Q' hx hr' hf))
    obtain ⟨v, Pr', rfl, hrep, hok, hmv⟩ := hp
    obtain ⟨h1, h2⟩ := hmv env2 hr
    refine hK _ _ ⟨γ, Pr', ?_, h2⟩
    rw [hput, ← he]
    exact h1.put (fun d' h => by injection h with h; rw [← h]; exact hN) hrep hok

theorem mem_ready {md : Region.Mode} {ops : Array Oper} {listed : Array Bool} {i : Nat} (h : i ∈ Region.ready md ops listed) : i < ops.size ∧ listed.getD i true = false ∧ ∃ o, ops[i]? = some o ∧ ∀ e ∈ o.after.toList, Region.binds md e = true → listed.getD e.on false = true := by
  simp only [Region.ready, List.mem_filter, List.mem_range, Bool.and_eq_true, Bool.not_eq_true'] at h
  obtain ⟨h1, h2, h3⟩ := h
  refine ⟨h1, h2, ?_⟩
  cases ho : ops[i]? with
  | none => rw [ho] at h3; simp at h3
  | some o =>
    rw [ho] at h3
    simp only [Option.map_some, Option.getD_some, Array.all_eq_true_iff_forall_mem, Bool.or_eq_true, Bool.not_eq_true'] at h3
    refine ⟨o, rfl, fun e he hb => ?_⟩
    rcases h3 e (by simpa using he) with h | h
    · rw [hb] at h; cases h
    · exact h
theorem ready_of {md : Region.Mode} {ops : Array Oper} {listed : Array Bool} {i : Nat} {o : Oper} (hi : i < ops.size) (hl : listed.getD i true = false) (ho : ops[i]? = some o) (h : ∀ e ∈ o.after.toList, Region.binds md e = true → listed.getD e.on false = true) : i ∈ Region.ready md ops listed := by
  simp only [Region.ready, List.mem_filter, List.mem_range, Bool.and_eq_true, Bool.not_eq_true']
  refine ⟨hi, hl, ?_⟩
  rw [ho]
  simp only [Option.map_some, Option.getD_some, Array.all_eq_true_iff_forall_mem, Bool.or_eq_true, Bool.not_eq_true']
  intro e he
  cases hb : Region.binds md e with
  | false => exact .inl rfl
  | true => exact .inr (h e (by simpa using he) hb)

structure DrawFacts (l : List Oper) (k : Nat) : Prop where
  on : ∀ (i : Nat) o, l[i]? = some o → ∀ e ∈ o.after.toList, Region.binds .any e = true → e.on < i
  look : ∀ (i : Nat) o, l[i]? = some o → i < k → ∀ t ∈ o.looksAt l.toArray, ∀ (j : Nat) p, l[j]? = some p → p.dst = some t → j < i ∧ ∃ e ∈ o.after.toList, Region.binds .any e = true ∧ e.on = j
  ne : ∀ (i j : Nat) o p, l[i]? = some o → l[j]? = some p → i < k → j < k → j ≠ i → p.dst ≠ o.dst
  tail : ∀ (i j : Nat) o, l[i]? = some o → k ≤ i → j < i → ∃ e ∈ o.after.toList, Region.binds .any e = true ∧ e.on = j

theorem mem_ons {o : Oper} {j : Nat} : (ons o).contains j = true ↔ ∃ e ∈ o.after.toList, Region.binds .any e = true ∧ e.on = j := by
  simp only [ons, List.contains_iff_mem, List.mem_map, List.mem_filter]
  exact ⟨fun ⟨e, ⟨h1, h2⟩, h3⟩ => ⟨e, h1, h2, h3⟩, fun ⟨e, h1, h2, h3⟩ => ⟨e, ⟨h1, h2⟩, h3⟩⟩

theorem drawOk_facts {l : List Oper} {k : Nat} (h : drawOk l k = true) : DrawFacts l k := by
  have h0 : ∀ (i : Nat) o, l[i]? = some o → (ons o).all (fun j => Nat.blt j i) = true ∧ (if i < k then
        ((o.looksAt l.toArray).all fun t => (List.range l.length).all fun j => match l[j]? with
          | none => false
          | some p => p.dst != some t || (Nat.blt j i && (ons o).contains j)) &&
        (List.range k).all (fun j => j == i || match l[j]? with
          | none => false
          | some p => p.dst != o.dst)
      else (List.range i).all fun j => (ons o).contains j) = true := fun i o ho => by
    have hlt := (List.getElem?_eq_some_iff.1 ho).1
    have := List.all_eq_true.1 h i (List.mem_range.2 hlt)
    rw [ho] at this
    simp only [Bool.and_eq_true] at this
    exact this
  refine ⟨fun i o ho e he hb => ?_, fun i o ho hi t ht j p hp hd => ?_, fun i j o p ho hp hi hj hne => ?_, fun i j o ho hi hj => ?_⟩
  · have := List.all_eq_true.1 (h0 i o ho).1 e.on (by simp only [ons, List.mem_map, List.mem_filter]; exact ⟨e, ⟨he, hb⟩, rfl⟩)
    simpa using this
  · have h1 := (h0 i o ho).2
    rw [if_pos hi, Bool.and_eq_true] at h1
    have h2 := List.all_eq_true.1 (List.all_eq_true.1 h1.1 t ht) j (List.mem_range.2 (List.getElem?_eq_some_iff.1 hp).1)
    rw [hp] at h2
    simp only [hd, bne_self_eq_false, Bool.false_or, Bool.and_eq_true] at h2
    exact ⟨by simpa using h2.1, mem_ons.1 h2.2⟩
  · have h1 := (h0 i o ho).2
    rw [if_pos hi, Bool.and_eq_true] at h1
    have h2 := List.all_eq_true.1 h1.2 j (List.mem_range.2 hj)
    rw [hp] at h2
    simp only [Bool.or_eq_true, beq_iff_eq, bne_iff_ne] at h2
    exact h2.resolve_left hne
  · have h1 := (h0 i o ho).2
    rw [if_neg (by omega)] at h1
    exact mem_ons.1 (List.all_eq_true.1 h1 j (List.mem_range.2 hj))

/-- The rest, in its one order. -/
theorem wpAny_tail {l : List Oper} {k : Nat} (F : DrawFacts l k) {Q' : Exit → Act → World → Prop} : ∀ (r m fuel : Nat) (listed : Array Bool) (a : Act) (w : World), m + r = l.length → k ≤ m → r ≤ fuel →
    (∀ j, j < l.length → ∀ b, listed.getD j b = decide (j < m)) → wpList P l.toArray Q' (l.drop m) a w → wpAny P .any l.toArray Q' fuel listed a w := by
  intro r
  induction r with
  | zero =>
    intro m fuel listed a w hm hk _ hl hw
    have h0 : Region.ready .any l.toArray listed = [] := by
      rw [List.eq_nil_iff_forall_not_mem]
      intro i hi
      obtain ⟨h1, h2, _⟩ := mem_ready hi
      rw [hl i (by simpa using h1)] at h2
      have h1' : i < l.length := by simpa using h1
      simp at h2
      omega
    rw [List.drop_of_length_le (by omega)] at hw
    cases fuel with
    | zero => exact ⟨h0, hw⟩
    | succ f => exact ⟨fun _ => hw, fun i hi => (by rw [h0] at hi; cases hi)⟩
  | succ r ih =>
    intro m fuel listed a w hm hk hf hl hw
    obtain ⟨f, rfl⟩ : ∃ f, fuel = f + 1 := ⟨fuel - 1, by omega⟩
    have hml : m < l.length := by omega
    have ho : l[m]? = some l[m] := List.getElem?_eq_getElem hml
    have hmem : m ∈ Region.ready .any l.toArray listed := ready_of (o := l[m]) (by simpa using hml) (by rw [hl m hml]; simp) (by simp [hml]) fun e he hb => by
      have := F.on m _ ho e he hb
      rw [hl _ (by omega)]
      simpa using this
    refine ⟨fun h0 => (by rw [h0] at hmem; cases hmem), fun i hi => ?_⟩
    obtain ⟨h1, h2, o, ho', h3⟩ := mem_ready hi
    have h1' : i < l.length := by simpa using h1
    have him : i = m := by
      rw [hl i h1'] at h2
      have h2' : ¬ i < m := by simpa using h2
      refine Decidable.byContradiction fun hne => ?_
      obtain ⟨e, he, hb, hon⟩ := F.tail i m o (by simpa using ho') (by omega) (by omega)
      have := h3 e he hb
      rw [hon, hl m hml] at this
      simp at this
    subst him
    have hd : l.drop i = l[i] :: l.drop (i + 1) := List.drop_eq_getElem_cons hml
    rw [hd] at hw
    unfold wpOp
    have ho2 : l.toArray[i]? = some l[i] := by simp [hml]
    simp only [ho2]
    unfold wpList at hw
    have next : ∀ a w, wpList P l.toArray Q' (l.drop (i + 1)) a w → wpAny P .any l.toArray Q' f (listed.setIfInBounds i true) a w := fun a w h => by
      refine ih (i + 1) f _ a w (by omega) (by omega) (by omega) (fun j hj b => ?_) h
      have hsz : listed.size = listed.size := rfl
      by_cases hji : j = i
      · subst hji
        have hin : j < listed.size := by
          refine Decidable.byContradiction fun hn => ?_
          have h4 := hl j hj true
          have h5 := hl j hj false
          rw [Array.getD_eq_getD_getElem?, Array.getElem?_eq_none (by omega)] at h4 h5
          simp only [Option.getD_none] at h4 h5
          rw [← h4] at h5
          cases h5
        simp [Array.getD_eq_getD_getElem?, hin]
      · have : (listed.setIfInBounds i true).getD j b = listed.getD j b := by simp [Array.getD_eq_getD_getElem?, Array.getElem?_setIfInBounds_ne (Ne.symm hji)]
        rw [this, hl j hj]
        have : (j < i) = (j < i + 1) := by apply propext; omega
        simp only [this]
    split at hw
    · rename_i hwt
      rw [if_pos hwt]
      exact hw.imp (Oper.wp_mono next) id
    · rename_i hwt
      rw [if_neg hwt]
      exact next _ _ hw

theorem unl_lt {l : List Oper} {listed : Array Bool} {i : Nat} (hi : i < l.length) (hl : listed.getD i true = false) :
    ((List.range l.length).countP fun j => !(listed.setIfInBounds i true).getD j true) + 1 ≤ (List.range l.length).countP fun j => !listed.getD j true := by
  have key : ∀ n, i < n → ((List.range n).countP fun j => !(listed.setIfInBounds i true).getD j true) + 1 ≤ (List.range n).countP fun j => !listed.getD j true := by
    intro n
    have hin : i < listed.size := Decidable.byContradiction fun hn => by
      rw [Array.getD_eq_getD_getElem?, Array.getElem?_eq_none (by omega)] at hl
      simp at hl
    have ge : ∀ n, ((List.range n).countP fun j => !(listed.setIfInBounds i true).getD j true) ≤ (List.range n).countP fun j => !listed.getD j true := fun n => by
      refine List.countP_mono_left fun j _ hj => ?_
      by_cases h : i = j
      · subst h
        simp [Array.getD_eq_getD_getElem?, hin] at hj
      · simpa [Array.getD_eq_getD_getElem?, Array.getElem?_setIfInBounds_ne h] using hj
    induction n with
    | zero => intro h; omega
    | succ n ih =>
      intro h
      rw [List.range_succ, List.countP_append, List.countP_append]
      by_cases hn : i = n
      · subst hn
        have h1 : (List.countP (fun j => !(listed.setIfInBounds i true).getD j true) [i]) = 0 := by
          simp [Array.getD_eq_getD_getElem?, Array.getElem?_setIfInBounds, hin]
        have h2 : (List.countP (fun j => !listed.getD j true) [i]) = 1 := by
          rw [List.countP_cons, List.countP_nil, hl]; rfl
        have := ge i
        omega
      · have := ih (by omega)
        have h1 : (List.countP (fun j => !(listed.setIfInBounds i true).getD j true) [n]) = List.countP (fun j => !listed.getD j true) [n] := by
          simp [Array.getD_eq_getD_getElem?, Array.getElem?_setIfInBounds_ne hn]
        omega
  exact key _ hi

theorem wpAny_draw {l : List Oper} {k : Nat} (F : DrawFacts l k) {dr : List (Nat × SV)} (hlen : dr.length = k) (hkl : k ≤ l.length)
    (hdr : ∀ (i d : Nat) (r : SV), dr[i]? = some (d, r) → ∃ o, l[i]? = some o ∧ o.dst = some d ∧ d < N ∧ OpQ P N M0 l.toArray (restr ((dr.take i).reverse ++ env) (o.looksAt l.toArray)) M o r)
    (hend : DOps P N M0 l.toArray Q (l.drop k) (dr.reverse ++ env) M) {x0 : Ctx} (hx : x0.M0 = M0) : ∀ (fuel : Nat) (listed : Array Bool) (a : Act) (w : World),
    ((List.range l.length).countP fun j => !listed.getD j true) ≤ fuel → listed.size = l.length → (∀ j, k ≤ j → j < l.length → listed.getD j true = false) →
    At x0 N (envS env dr fun j => listed.getD j false) M a w → wpAny P .any l.toArray (up x0 N Q) fuel listed a w := by
  have hap : Apart dr := fun i j d x d' x' h1 h2 hne => by
    obtain ⟨o, a1, a2, _⟩ := hdr i d x h1
    obtain ⟨p, b1, b2, _⟩ := hdr j d' x' h2
    have := F.ne i j o p a1 b1 (by rw [← hlen]; exact (List.getElem?_eq_some_iff.1 h1).1) (by rw [← hlen]; exact (List.getElem?_eq_some_iff.1 h2).1) (Ne.symm hne)
    rw [a2, b2] at this
    exact fun e => this (by rw [e])
  intro fuel
  induction fuel with
  | zero =>
    intro listed a w hc hs hrest hat
    have hall : ∀ j, j < l.length → listed.getD j true = true := fun j hj => by
      have := List.countP_eq_zero.1 (Nat.le_zero.1 hc) j (List.mem_range.2 hj)
      simpa using this
    have hk : k = l.length := by
      refine Decidable.byContradiction fun hne => ?_
      have := hall k (by omega)
      rw [hrest k (Nat.le_refl _) (by omega)] at this
      cases this
    have hfin := hend x0 a w hx (Wk.slots (fun t => .inr ?_) x0 a w hx hat)
    · refine wpAny_tail F 0 k 0 listed a w (by omega) (Nat.le_refl _) (Nat.le_refl _) (fun j hj b => ?_) hfin
      have := hall j hj
      rw [Array.getD_eq_getD_getElem?, Array.getElem?_eq_getElem (by omega)] at this ⊢
      simp at this ⊢
      rw [this]
      simp; omega
    · have h1 := lk_append_rev (env := env) hap dr.length (Nat.le_refl _) t
      rw [List.take_length] at h1
      rw [h1]
      by_cases hex : ∃ (i d : Nat) (x : SV), dr[i]? = some (d, x) ∧ d = t
      · obtain ⟨i, d, x, h2, h3⟩ := hex
        have hi := (List.getElem?_eq_some_iff.1 h2).1
        rw [(lk_envS hap _ t).1 i d x h2 h3, (lk_envS hap _ t).1 i d x h2 h3]
        have := hall i (by omega)
        rw [Array.getD_eq_getD_getElem?, Array.getElem?_eq_getElem (by omega)] at this ⊢
        simp at this ⊢
        rw [if_pos hi, if_pos this]
      · have hn : ∀ (i d : Nat) (x : SV), dr[i]? = some (d, x) → d ≠ t := fun i d x h1 h2 => hex ⟨i, d, x, h1, h2⟩
        rw [(lk_envS hap _ t).2 hn, (lk_envS hap _ t).2 hn]
  | succ fuel ih =>
    intro listed a w hc hs hrest hat
    have gd2 : ∀ j, j < l.length → listed.getD j false = listed.getD j true := fun j hj => by
      rw [Array.getD_eq_getD_getElem?, Array.getD_eq_getD_getElem?, Array.getElem?_eq_getElem (by omega)]; rfl
    by_cases hex : ∃ j, j < k ∧ listed.getD j true = false
    · -- the least that is not listed
      have least : ∀ n, (∃ j, j < n ∧ j < k ∧ listed.getD j true = false) → ∃ j, j < k ∧ listed.getD j true = false ∧ ∀ i, i < j → listed.getD i true = true := by
        intro n
        induction n with
        | zero => intro ⟨j, hj, _⟩; omega
        | succ n ihn =>
          intro ⟨j, hj, hjk, hjl⟩
          by_cases hsm : ∃ i, i < j ∧ listed.getD i true = false
          · obtain ⟨i, hi, hil⟩ := hsm
            exact ihn ⟨i, by omega, by omega, hil⟩
          · exact ⟨j, hjk, hjl, fun i hi => by
              cases hb : listed.getD i true with
              | true => rfl
              | false => exact absurd ⟨i, hi, hb⟩ hsm⟩
      obtain ⟨j0, hj0, hj0l, hmin⟩ := least k (let ⟨j, h1, h2⟩ := hex; ⟨j, h1, h1, h2⟩)
      have hj0n : j0 < l.length := by omega
      have hmem : j0 ∈ Region.ready .any l.toArray listed := ready_of (by simpa using hj0n) hj0l (o := l[j0]) (by simp [hj0n]) fun e he hb => by
        have hlt := F.on j0 _ (List.getElem?_eq_getElem hj0n) e he hb
        rw [gd2 _ (by omega)]
        exact hmin _ hlt
      refine ⟨fun h0 => (by rw [h0] at hmem; cases hmem), fun i hi => ?_⟩
      obtain ⟨h1, h2, o, ho', h3⟩ := mem_ready hi
      have h1' : i < l.length := by simpa using h1
      have ho : l[i]? = some o := by simpa using ho'
      have hik : i < k := by
        refine Decidable.byContradiction fun hn => ?_
        obtain ⟨e, he, hb, hon⟩ := F.tail i j0 o ho (by omega) (by omega)
        have := h3 e he hb
        rw [hon, gd2 j0 hj0n, hj0l] at this
        cases this
      obtain ⟨d, r, hdr1⟩ : ∃ d r, dr[i]? = some (d, r) := ⟨dr[i].1, dr[i].2, List.getElem?_eq_getElem (by omega)⟩
      obtain ⟨o2, ho2, hd, hdN, hq⟩ := hdr i d r hdr1
      rw [ho] at ho2
      obtain rfl := Option.some.inj ho2
      refine wpOp_of_OpQ ho' hd hdN hx hq (fun t => ?_) hat (fun a' w' hat' => ?_)
      · rcases lk_restr ((dr.take i).reverse ++ env) (o.looksAt l.toArray) t with hj | ⟨ht, he⟩
        · exact .inl hj
        · refine .inr (he.trans ?_)
          rw [lk_append_rev hap i (by omega) t]
          by_cases hex2 : ∃ (j d : Nat) (x : SV), dr[j]? = some (d, x) ∧ d = t
          · obtain ⟨j, d', x, g1, g2⟩ := hex2
            rw [(lk_envS hap _ t).1 j d' x g1 g2, (lk_envS hap _ t).1 j d' x g1 g2]
            obtain ⟨p, hp1, hp2, _⟩ := hdr j d' x g1
            obtain ⟨hji, e, he1, he2, he3⟩ := F.look i o ho hik t ht j p hp1 (by rw [hp2, g2])
            have := h3 e he1 he2
            rw [he3] at this
            rw [this]
            simp [hji]
          · have hn : ∀ (j d : Nat) (x : SV), dr[j]? = some (d, x) → d ≠ t := fun i d x h1 h2 => hex2 ⟨i, d, x, h1, h2⟩
            rw [(lk_envS hap _ t).2 hn, (lk_envS hap _ t).2 hn]
      · refine ih _ a' w' ?_ (by simpa using hs) (fun j hj hjl => ?_) (Wk.slots (fun t => .inr ?_) x0 a' w' hx hat')
        · have := unl_lt h1' h2
          omega
        · rw [Array.getD_eq_getD_getElem?, Array.getElem?_setIfInBounds_ne (by omega), ← Array.getD_eq_getD_getElem?]
          exact hrest j hj hjl
        · rw [lk_cons]
          by_cases hdt : d = t
          · rw [if_pos hdt, (lk_envS hap _ t).1 i d r hdr1 hdt]
            rw [if_pos]
            simp [Array.getD_eq_getD_getElem?, hs, h1']
          · rw [if_neg hdt]
            by_cases hex2 : ∃ (j d : Nat) (x : SV), dr[j]? = some (d, x) ∧ d = t
            · obtain ⟨j, d', x, g1, g2⟩ := hex2
              rw [(lk_envS hap _ t).1 j d' x g1 g2, (lk_envS hap _ t).1 j d' x g1 g2]
              have hne : i ≠ j := fun e => by
                subst e
                rw [hdr1] at g1
                injection g1 with g1
                injection g1 with g1 _
                exact hdt (g1.trans g2)
              rw [Array.getD_eq_getD_getElem?, Array.getElem?_setIfInBounds_ne hne, ← Array.getD_eq_getD_getElem?]
            · have hn : ∀ (j d : Nat) (x : SV), dr[j]? = some (d, x) → d ≠ t := fun i d x h1 h2 => hex2 ⟨i, d, x, h1, h2⟩
              rw [(lk_envS hap _ t).2 hn, (lk_envS hap _ t).2 hn]
    · have hall : ∀ j, j < k → listed.getD j true = true := fun j hj => by
        cases hb : listed.getD j true with
        | true => rfl
        | false => exact absurd ⟨j, hj, hb⟩ hex
      have hfin := hend x0 a w hx (Wk.slots (fun t => .inr ?_) x0 a w hx hat)
      · refine wpAny_tail F (l.length - k) k (fuel + 1) listed a w (by omega) (Nat.le_refl _) ?_ (fun j hj b => ?_) hfin
        · refine Nat.le_trans ?_ hc
          have : ∀ n, k ≤ n → n ≤ l.length → n - k ≤ (List.range n).countP fun j => !listed.getD j true := by
            intro n
            induction n with
            | zero => intro _ _; omega
            | succ n ihn =>
              intro h1 h2
              rw [List.range_succ, List.countP_append]
              by_cases hkn : k ≤ n
              · have := ihn hkn (by omega)
                have h3 : (List.countP (fun j => !listed.getD j true) [n]) = 1 := by
                  rw [List.countP_cons, List.countP_nil, hrest n hkn (by omega)]; rfl
                omega
              · omega
          exact this _ hkl (Nat.le_refl _)
        · by_cases hjk : j < k
          · have := hall j hjk
            rw [Array.getD_eq_getD_getElem?, Array.getElem?_eq_getElem (by omega)] at this ⊢
            simp at this ⊢
            rw [this]
            simp [hjk]
          · have := hrest j (by omega) hj
            rw [Array.getD_eq_getD_getElem?, Array.getElem?_eq_getElem (by omega)] at this ⊢
            simp at this ⊢
            rw [this]
            simp; omega
      · have h1 := lk_append_rev (env := env) hap dr.length (Nat.le_refl _) t
        rw [List.take_length] at h1
        rw [h1]
        by_cases hex2 : ∃ (i d : Nat) (x : SV), dr[i]? = some (d, x) ∧ d = t
        · obtain ⟨i, d, x, h2, h3⟩ := hex2
          have hi := (List.getElem?_eq_some_iff.1 h2).1
          rw [(lk_envS hap _ t).1 i d x h2 h3, (lk_envS hap _ t).1 i d x h2 h3]
          have := hall i (by omega)
          rw [gd2 i (by omega), this]
          simp [hi]
        · have hn : ∀ (i d : Nat) (x : SV), dr[i]? = some (d, x) → d ≠ t := fun i d x h1 h2 => hex2 ⟨i, d, x, h1, h2⟩
          rw [(lk_envS hap _ t).2 hn, (lk_envS hap _ t).2 hn]

theorem At.drew {x0 : Ctx} {a : Act} {w : World} (h : At x0 N env M a w) : At x0 N env M a { w with drawn := w.drawn + 1 } := by
  obtain ⟨γ, Pr, hr, hf⟩ := h
  have hc : ∀ b o, ({ w with drawn := w.drawn + 1 } : World).cell? ⟨b, o, none⟩ = w.cell? ⟨b, o, none⟩ := fun _ _ => rfl
  refine ⟨γ, Pr, ?_, ⟨hf.ext, hf.cell, hf.lie, hf.has⟩⟩
  have K : Kept Pr w Pr ({ w with drawn := w.drawn + 1 } : World) := ⟨fun _ _ x => x, fun b o _ => hc b o⟩
  have G := Cn.agree_refl M γ
  exact { size := hr.size, slot := fun i => SRep.move G K (hr.slotB i) (hr.slot i), slotB := hr.slotB, mem := fun b k hm => BRep.move G (by rw [has, hm]; simp) K (fun _ _ => rfl) (fun _ _ _ p => p) (hr.memB b k hm) (hr.mem b k hm),
          memB := hr.memB, apart := hr.apart, below := ⟨hr.below.os, hr.below.tape, hr.below.output, hr.below.size, hr.below.block⟩, prot := ⟨hr.prot.lt, hr.prot.glob⟩, defers := hr.defers }

/-- A statement whose order is open: its first k operations are walked once, in the text's order. -/
theorem DCode.draw {id : Nat} {l : List Oper} (k : Nat) (hm : P.follows .mixedOrders = true) (hok : drawOk l k = true) (h : DDr P N M0 l.toArray Q k l env M) : DCode P N M0 (.region id l.toArray true) Q env M := by
  intro x0 a w hx hat
  have F := drawOk_facts hok
  obtain ⟨dr, hlen, hkl, hdr, hend⟩ := DDr.split k l env h
  refine wp_region_any hm ?_
  refine wpAny_draw F hlen hkl hdr hend hx _ _ a _ ?_ (by simp) (fun j _ hj => ?_) ?_
  · refine Nat.le_trans (List.countP_le_length) ?_
    simp
  · simp [Array.getD_eq_getD_getElem?, hj]
  · refine Wk.slots (fun t => .inr ?_) x0 a _ hx hat.drew
    have := lk_envS_go env (fun j => (Array.replicate l.toArray.size false).getD j false) dr 0 t
    rcases this with ⟨i, d, x, _, h2, _⟩ | ⟨_, h2⟩
    · exfalso
      simp [Array.getD_eq_getD_getElem?, Array.getElem?_replicate] at h2
      split at h2 <;> cases h2
    · exact h2
end
end Go.Proofs.Ytgjamldcglebjaa.DL
