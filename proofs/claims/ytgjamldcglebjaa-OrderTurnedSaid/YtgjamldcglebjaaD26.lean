/- A logic of data for Go functions: a statement whose order is open, walked once, in the text's order: each operation is shown to do the same wherever it comes up. No program in sight. -/
import Derived.Test.YtgjamldcglebjaaD25
namespace Go.Proofs.Ytgjamldcglebjaa.DL
open Go.RowKit

/-- A block of which all but its cells is known. -/
def Blk.like (xs : List CV) : Blk → Blk
  | .box t _ => .box t xs
  | .row e k n v _ fz => .row e k n v xs fz
def Blk.cellsOf : Blk → List CV
  | .box _ cs => cs
  | .row _ _ _ _ cs _ => cs
def Blk.frm (k : Blk) : Blk := k.like []
theorem Blk.like_of {k k' : Blk} (h : k.frm = k'.frm) : k.like k'.cellsOf = k' := by
  cases k <;> cases k' <;> simp_all [Blk.frm, Blk.like, Blk.cellsOf]

/-- Memory of which some blocks are not known (the first ones), or not their cells (the others). -/
def genM (un : List Nat × List Nat) (xs : Nat → List CV) (ys : Nat → Option Blk) (M : Mem) : Mem :=
  un.1.map (fun b => (b, ys b)) ++ (un.2.map (fun b => (b, (mget M b).map (Blk.like (xs b)))) ++ M)
theorem mget_map_append (f : Nat → Option Blk) (R : Mem) (b : Nat) : ∀ l : List Nat, mget (l.map (fun b => (b, f b)) ++ R) b = if b ∈ l then f b else mget R b
  | [] => by simp
  | c :: l => by
    rw [List.map_cons, List.cons_append, mget_cons, mget_map_append f R b l]
    by_cases h : c = b
    · subst h; simp
    · rw [if_neg h]
      have : (b ∈ c :: l) = (b ∈ l) := by simp [Ne.symm h]
      simp only [this]

def muM : Option (Nat × Blk) → Mem → Mem
  | none, M => M
  | some (b, k), M => (b, some k) :: M
/-- Which operation writes which block: 0: its cells; 1: it makes it; 2: it may become another one. -/
def wsAt : List (Nat × Nat × Nat) → Nat → Option (Nat × Nat)
  | [], _ => none
  | (j, b, f) :: r, i => bif Nat.beq j i then some (b, f) else wsAt r i
def muOk (ws : List (Nat × Nat × Nat)) (i : Nat) (mu : Option (Nat × Blk)) (M : Mem) : Prop :=
  match mu with
  | none => wsAt ws i = none
  | some (b, k) => (wsAt ws i = some (b, 0) ∧ ∃ k0, mget M b = some k0 ∧ k0.frm = k.frm) ∨ (wsAt ws i = some (b, 1) ∧ mget M b = none) ∨ wsAt ws i = some (b, 2)

def relM (ms : List Nat) (i j : Nat) : Bool := (ms.getD i 0).testBit j || (ms.getD j 0).testBit i
def noChg (ws : List (Nat × Nat × Nat)) (b : Nat) : Bool := ws.all fun x => x.2.1 != b || x.2.2 != 2
def confOk1 (l : List Oper) (ws : List (Nat × Nat × Nat)) (un : List (List Nat × List Nat)) (ms : List Nat) : Bool :=
  (List.range l.length).all fun i => match l[i]? with
    | none => false
    | some o => (ons o).all (fun j => Nat.blt j i) &&
      ((o.looksAt l.toArray).all fun t => (List.range l.length).all fun j => match l[j]? with
        | none => false
        | some p => p.dst != some t || j == i || relM ms i j) &&
      ((List.range l.length).all fun j => match l[j]? with
        | none => false
        | some p => p.dst == none || p.dst != o.dst || j == i || relM ms i j) &&
      ((List.range l.length).all fun j => j == i || relM ms i j || match wsAt ws j with
        | none => true
        | some (b, f) => (match wsAt ws i with
            | none => true
            | some (b', _) => b' != b) &&
          ((un.getD i ([], [])).1.contains b || (f == 0 && noChg ws b && (un.getD i ([], [])).2.contains b)))
def confOk (l : List Oper) (ws : List (Nat × Nat × Nat)) (un : List (List Nat × List Nat)) : Bool := confOk1 l ws un (masks l)

structure CfF (l : List Oper) (ws : List (Nat × Nat × Nat)) (un : List (List Nat × List Nat)) : Prop where
  on : ∀ (i : Nat) o, l[i]? = some o → ∀ j ∈ ons o, j < i
  look : ∀ (i : Nat) o, l[i]? = some o → ∀ t ∈ o.looksAt l.toArray, ∀ (j : Nat) p, l[j]? = some p → p.dst = some t → j ≠ i → Reach l i j ∨ Reach l j i
  ord : ∀ (i j : Nat) o p t, l[i]? = some o → l[j]? = some p → o.dst = some t → p.dst = some t → j ≠ i → Reach l i j ∨ Reach l j i
  mem : ∀ (i j b f : Nat), i < l.length → j < l.length → wsAt ws j = some (b, f) → j ≠ i → Reach l i j ∨ Reach l j i ∨ ((∀ f', wsAt ws i ≠ some (b, f')) ∧ (b ∈ (un.getD i ([], [])).1 ∨ (f = 0 ∧ noChg ws b = true ∧ b ∈ (un.getD i ([], [])).2)))

theorem relM_reach {l : List Oper} {i j : Nat} (h : relM (masks l) i j = true) : Reach l i j ∨ Reach l j i := by
  rw [relM, Bool.or_eq_true] at h
  exact h.imp (masks_reach l i j) (masks_reach l j i)

theorem confOk_facts {l : List Oper} {ws : List (Nat × Nat × Nat)} {un : List (List Nat × List Nat)} (h : confOk l ws un = true) : CfF l ws un := by
  rw [confOk, confOk1, List.all_eq_true] at h
  have H : ∀ (i : Nat) o, l[i]? = some o → ((ons o).all (fun j => Nat.blt j i) = true ∧
      ((o.looksAt l.toArray).all fun t => (List.range l.length).all fun j => match l[j]? with
        | none => false
        | some p => p.dst != some t || j == i || relM (masks l) i j) = true) ∧
      ((List.range l.length).all fun j => match l[j]? with
        | none => false
        | some p => p.dst == none || p.dst != o.dst || j == i || relM (masks l) i j) = true ∧
      ((List.range l.length).all fun j => j == i || relM (masks l) i j || match wsAt ws j with
        | none => true
        | some (b, f) => (match wsAt ws i with
            | none => true
            | some (b', _) => b' != b) &&
          ((un.getD i ([], [])).1.contains b || (f == 0 && noChg ws b && (un.getD i ([], [])).2.contains b))) = true := fun i o ho => by
    have := h i (List.mem_range.2 (List.getElem?_eq_some_iff.1 ho).1)
    rw [ho] at this
    simp only [Bool.and_eq_true] at this
    exact ⟨this.1.1, this.1.2, this.2⟩
  have lt : ∀ {i : Nat} {o}, l[i]? = some o → i < l.length := fun ho => (List.getElem?_eq_some_iff.1 ho).1
  refine ⟨fun i o ho j hj => ?_, fun i o ho t ht j p hp hd hne => ?_, fun i j o p t ho hp h1 h2 hne => ?_, fun i j b f hi hj hw hne => ?_⟩
  · have := List.all_eq_true.1 (H i o ho).1.1 j hj
    simpa using this
  · have := List.all_eq_true.1 (List.all_eq_true.1 (H i o ho).1.2 t ht) j (List.mem_range.2 (lt hp))
    rw [hp] at this
    simp only [Bool.or_eq_true] at this
    rcases this with (h | h) | h
    · rw [hd] at h; simp at h
    · exact absurd (by simpa using h) hne
    · exact relM_reach h
  · have := List.all_eq_true.1 (H i o ho).2.1 j (List.mem_range.2 (lt hp))
    rw [hp] at this
    simp only [Bool.or_eq_true] at this
    rcases this with ((h | h) | h) | h
    · rw [h2] at h; simp at h
    · rw [h1, h2] at h; simp at h
    · exact absurd (by simpa using h) hne
    · exact relM_reach h
  · have ho : l[i]? = some l[i] := List.getElem?_eq_getElem hi
    have := List.all_eq_true.1 (H i _ ho).2.2 j (List.mem_range.2 hj)
    simp only [Bool.or_eq_true] at this
    rcases this with (h | h) | h
    · exact absurd (by simpa using h) hne
    · exact (relM_reach h).imp id .inl
    · rw [hw] at h
      simp only [Bool.and_eq_true, Bool.or_eq_true] at h
      refine .inr (.inr ⟨fun f' e => ?_, ?_⟩)
      · have := h.1
        rw [e] at this
        simp at this
      · refine h.2.imp (fun h => by simpa using h) fun h => ⟨by simpa using h.1.1, h.1.2, by simpa using h.2⟩

/-- Slots, memory behind some of the operations: told in the text's order. -/
def envC (S : Nat → Bool) : Nat → List (Option Tmp × SV) → Env → Env
  | _, [], env => env
  | j, p :: l, env => envC S (j + 1) l (bif S j then putd p.1 p.2 env else env)
def memC (S : Nat → Bool) : Nat → List (Option (Nat × Blk)) → Mem → Mem
  | _, [], M => M
  | j, p :: l, M => memC S (j + 1) l (bif S j then muM p M else M)

theorem lk_putd (d : Option Tmp) (r : SV) (env : Env) (t : Nat) : lk (putd d r env) t = if d = some t then r else lk env t := by
  cases d with
  | none => simp [putd]
  | some d =>
    rw [putd, lk_cons]
    by_cases h : d = t
    · subst h; simp
    · rw [if_neg h, if_neg (fun e => h (by injection e))]
theorem mget_muM (p : Option (Nat × Blk)) (M : Mem) (b : Nat) : mget (muM p M) b = match p with | some (c, k) => if c = b then some k else mget M b | none => mget M b := by
  cases p with
  | none => rfl
  | some p => rw [muM, mget_cons]

theorem envC_congr {S S' : Nat → Bool} {t : Nat} : ∀ (l : List (Option Tmp × SV)) (j : Nat) (env env' : Env), (∀ (i : Nat) r, l[i]? = some (some t, r) → S (j + i) = S' (j + i)) → lk env t = lk env' t →
    lk (envC S j l env) t = lk (envC S' j l env') t
  | [], _, _, _, _, h => h
  | p :: l, j, env, env', hs, h => by
    rw [envC, envC]
    refine envC_congr l (j + 1) _ _ (fun i r hi => by rw [show j + 1 + i = j + (i + 1) by omega]; exact hs (i + 1) r (by simpa using hi)) ?_
    obtain ⟨d, r⟩ := p
    by_cases hd : d = some t
    · subst hd
      have h0 : S j = S' j := hs 0 r rfl
      rw [h0]
      cases S' j <;> simp [lk_putd, h]
    · have e : ∀ (b : Bool) (e : Env), lk (bif b then putd d r e else e) t = lk e t := fun b e => by cases b <;> simp [lk_putd, hd]
      rw [e, e, h]
theorem memC_congr {S S' : Nat → Bool} {b : Nat} : ∀ (l : List (Option (Nat × Blk))) (j : Nat) (M M' : Mem), (∀ (i : Nat) k, l[i]? = some (some (b, k)) → S (j + i) = S' (j + i)) → mget M b = mget M' b →
    mget (memC S j l M) b = mget (memC S' j l M') b
  | [], _, _, _, _, h => h
  | p :: l, j, M, M', hs, h => by
    rw [memC, memC]
    refine memC_congr l (j + 1) _ _ (fun i r hi => by rw [show j + 1 + i = j + (i + 1) by omega]; exact hs (i + 1) r (by simpa using hi)) ?_
    by_cases hd : ∃ k, p = some (b, k)
    · obtain ⟨k, rfl⟩ := hd
      have h0 : S j = S' j := hs 0 k rfl
      rw [h0]
      cases S' j <;> simp [mget_muM, h]
    · have e : ∀ (q : Bool) (e : Mem), mget (bif q then muM p e else e) b = mget e b := fun q e => by
        cases q with
        | false => rfl
        | true =>
          show mget (muM p e) b = _
          rw [mget_muM]
          cases p with
          | none => rfl
          | some p => exact if_neg fun h => hd ⟨p.2, by rw [← h]⟩
      rw [e, e, h]
theorem envC_last {S : Nat → Bool} {t : Nat} {r : SV} : ∀ (l : List (Option Tmp × SV)) (j i : Nat) (env : Env), l[i]? = some (some t, r) → S (j + i) = true → (∀ (i' : Nat) r', i < i' → l[i']? = some (some t, r') → S (j + i') = false) →
    lk (envC S j l env) t = r
  | [], _, i, _, h, _, _ => by simp at h
  | p :: l, j, 0, env, h, hs, hl => by
    rw [envC]
    have hs : S j = true := hs
    obtain rfl : p = (some t, r) := by simpa using h
    rw [hs]
    show lk (envC S (j + 1) l ((t, r) :: env)) t = r
    rw [envC_congr (S' := fun _ => false) l (j + 1) _ ((t, r) :: env) (fun i' r' hi => ?_) rfl]
    · have : ∀ (l : List (Option Tmp × SV)) (j : Nat) (e : Env), envC (fun _ => false) j l e = e := fun l => by
        induction l with
        | nil => intro _ _; rfl
        | cons p l ih => intro j e; rw [envC]; exact ih _ _
      rw [this]
      show lk ((t, r) :: env) t = r
      rw [lk_cons, if_pos rfl]
    · rw [show j + 1 + i' = j + (i' + 1) by omega]
      exact hl (i' + 1) r' (by omega) (by simpa using hi)
  | p :: l, j, i + 1, env, h, hs, hl => by
    rw [envC]
    exact envC_last l (j + 1) i _ (by simpa using h) (by rw [show j + 1 + i = j + (i + 1) by omega]; exact hs) fun i' r' hi hr => by
      rw [show j + 1 + i' = j + (i' + 1) by omega]; exact hl (i' + 1) r' (by omega) (by simpa using hr)
theorem memC_none : ∀ (l : List (Option (Nat × Blk))) (j : Nat) (M : Mem), memC (fun _ => false) j l M = M
  | [], _, _ => rfl
  | p :: l, j, M => by rw [memC]; exact memC_none l _ _
theorem memC_last {S : Nat → Bool} {b : Nat} {k : Blk} : ∀ (l : List (Option (Nat × Blk))) (j i : Nat) (M : Mem), l[i]? = some (some (b, k)) → S (j + i) = true → (∀ (i' : Nat) k', i < i' → l[i']? = some (some (b, k')) → S (j + i') = false) →
    mget (memC S j l M) b = some k
  | [], _, i, _, h, _, _ => by simp at h
  | p :: l, j, 0, M, h, hs, hl => by
    rw [memC]
    have hs : S j = true := hs
    obtain rfl : p = some (b, k) := by simpa using h
    rw [hs]
    show mget (memC S (j + 1) l ((b, some k) :: M)) b = some k
    rw [memC_congr (S' := fun _ => false) l (j + 1) _ ((b, some k) :: M) (fun i' r' hi => ?_) rfl]
    · rw [memC_none, mget_cons, if_pos rfl]
    · rw [show j + 1 + i' = j + (i' + 1) by omega]
      exact hl (i' + 1) r' (by omega) (by simpa using hi)
  | p :: l, j, i + 1, M, h, hs, hl => by
    rw [memC]
    exact memC_last l (j + 1) i _ (by simpa using h) (by rw [show j + 1 + i = j + (i + 1) by omega]; exact hs) fun i' r' hi hr => by
      rw [show j + 1 + i' = j + (i' + 1) by omega]; exact hl (i' + 1) r' (by omega) (by simpa using hr)
/-- What a block holds comes from the last operation that wrote it. -/
theorem memC_from {S : Nat → Bool} {b : Nat} : ∀ (l : List (Option (Nat × Blk))) (j : Nat) (M : Mem), (mget (memC S j l M) b = mget M b ∧ ∀ (i : Nat) k, l[i]? = some (some (b, k)) → S (j + i) = false) ∨
    ∃ (i : Nat) (k : Blk), l[i]? = some (some (b, k)) ∧ S (j + i) = true ∧ mget (memC S j l M) b = some k ∧ ∀ (i' : Nat) k', i < i' → l[i']? = some (some (b, k')) → S (j + i') = false
  | [], _, _ => .inl ⟨rfl, fun i k h => by simp at h⟩
  | p :: l, j, M => by
    rw [memC]
    rcases memC_from (S := S) (b := b) l (j + 1) (bif S j then muM p M else M) with ⟨h1, h2⟩ | ⟨i, k, h1, h2, h3, h4⟩
    · by_cases hp : (∃ k, p = some (b, k)) ∧ S j = true
      · obtain ⟨⟨k, rfl⟩, hs⟩ := hp
        refine .inr ⟨0, k, rfl, hs, ?_, fun i' k' hi hk => ?_⟩
        · rw [h1, hs]; show mget ((b, some k) :: M) b = _; rw [mget_cons, if_pos rfl]
        · obtain ⟨i', rfl⟩ : ∃ n, i' = n + 1 := ⟨i' - 1, by omega⟩
          rw [show j + (i' + 1) = j + 1 + i' by omega]
          exact h2 i' k' (by simpa using hk)
      · refine .inl ⟨?_, fun i k hk => ?_⟩
        · rw [h1]
          cases hs : S j with
          | false => rfl
          | true =>
            show mget (muM p M) b = _
            rw [mget_muM]
            cases p with
            | none => rfl
            | some p => exact if_neg fun h => hp ⟨⟨p.2, by rw [← h]⟩, hs⟩
        · cases i with
          | zero =>
            obtain rfl : p = some (b, k) := by simpa using hk
            cases hs : S (j + 0) with
            | false => rfl
            | true => exact absurd ⟨⟨k, rfl⟩, hs⟩ hp
          | succ i => rw [show j + (i + 1) = j + 1 + i by omega]; exact h2 i k (by simpa using hk)
    · refine .inr ⟨i + 1, k, by simpa using h1, by rw [show j + (i + 1) = j + 1 + i by omega]; exact h2, h3, fun i' k' hi hk => ?_⟩
      obtain ⟨i', rfl⟩ : ∃ n, i' = n + 1 := ⟨i' - 1, by omega⟩
      rw [show j + (i' + 1) = j + 1 + i' by omega]
      exact h4 i' k' (by omega) (by simpa using hk)

section
variable {P : Program} {N : Nat} {Q : DPost} {env : Env} {M M0 : Mem} {o : Oper} {rest : List Oper}
variable {l : List Oper} {ws : List (Nat × Nat × Nat)} {un : List (List Nat × List Nat)}

/-- What one operation does, whatever the operations did that it does not wait for. -/
def OpAt (P : Program) (N : Nat) (M0 : Mem) (l : List Oper) (un : List Nat × List Nat) (o : Oper) (env : Env) (M : Mem) (r : SV) (mu : Option (Nat × Blk)) : Prop :=
  ∀ (E : Env) (xs : Nat → List CV) (ys : Nat → Option Blk), DOps P N M0 l.toArray (fun e E' M' => e = .normal ∧ E' = putd o.dst r (restr env (o.looksAt l.toArray) ++ E) ∧ M' = muM mu (genM un xs ys M)) [o] (restr env (o.looksAt l.toArray) ++ E) (genM un xs ys M)

def DCf (P : Program) (N : Nat) (M0 : Mem) (l : List Oper) (Q : DPost) (ws : List (Nat × Nat × Nat)) (un : List (List Nat × List Nat)) : Nat → List Oper → Env → Mem → Prop
  | _, [], env, M => Q .normal env M
  | i, o :: rest, env, M => ∃ r mu, muOk ws i mu M ∧ OpAt P N M0 l (un.getD i ([], [])) o env M r mu ∧ DCf P N M0 l Q ws un (i + 1) rest (putd o.dst r env) (muM mu M)

theorem DCf.done {i : Nat} (h : Q .normal env M) : DCf P N M0 l Q ws un i [] env M := h
theorem DCf.pure {i d : Nat} {r : SV} (hd : o.dst = some d) (hw : wsAt ws i = none)
    (h1 : ∀ (E : Env) (xs : Nat → List CV) (ys : Nat → Option Blk), DOps P N M0 l.toArray (fun e E' M' => e = .normal ∧ E' = (d, r) :: (restr env (o.looksAt l.toArray) ++ E) ∧ M' = genM (un.getD i ([], [])) xs ys M) [o] (restr env (o.looksAt l.toArray) ++ E) (genM (un.getD i ([], [])) xs ys M))
    (h2 : DCf P N M0 l Q ws un (i + 1) rest ((d, r) :: env) M) : DCf P N M0 l Q ws un i (o :: rest) env M := by
  refine ⟨r, none, hw, ?_, ?_⟩
  · unfold OpAt
    rw [hd]
    exact h1
  · rw [hd]; exact h2
theorem DCf.make {i d b : Nat} {r : SV} {k : Blk} (hd : o.dst = some d) (hw : wsAt ws i = some (b, 1)) (hb : mget M b = none)
    (h1 : ∀ (E : Env) (xs : Nat → List CV) (ys : Nat → Option Blk), DOps P N M0 l.toArray (fun e E' M' => e = .normal ∧ E' = (d, r) :: (restr env (o.looksAt l.toArray) ++ E) ∧ M' = (b, some k) :: genM (un.getD i ([], [])) xs ys M) [o] (restr env (o.looksAt l.toArray) ++ E) (genM (un.getD i ([], [])) xs ys M))
    (h2 : DCf P N M0 l Q ws un (i + 1) rest ((d, r) :: env) ((b, some k) :: M)) : DCf P N M0 l Q ws un i (o :: rest) env M := by
  refine ⟨r, some (b, k), .inr (.inl ⟨hw, hb⟩), ?_, ?_⟩
  · unfold OpAt
    rw [hd]
    exact h1
  · rw [hd]; exact h2
theorem DCf.upd {i b : Nat} {k k0 : Blk} (hd : o.dst = none) (hw : wsAt ws i = some (b, 0)) (hb : mget M b = some k0)
    (h1 : ∀ (E : Env) (xs : Nat → List CV) (ys : Nat → Option Blk), DOps P N M0 l.toArray (fun e E' M' => e = .normal ∧ E' = restr env (o.looksAt l.toArray) ++ E ∧ M' = (b, some k) :: genM (un.getD i ([], [])) xs ys M) [o] (restr env (o.looksAt l.toArray) ++ E) (genM (un.getD i ([], [])) xs ys M))
    (hk : k0.frm = k.frm) (h2 : DCf P N M0 l Q ws un (i + 1) rest env ((b, some k) :: M)) : DCf P N M0 l Q ws un i (o :: rest) env M := by
  refine ⟨.junk, some (b, k), .inl ⟨hw, k0, hb, hk⟩, ?_, ?_⟩
  · unfold OpAt
    rw [hd]
    exact h1
  · rw [hd]; exact h2

theorem DCf.split : ∀ (rest : List Oper) (i : Nat) (env : Env) (M : Mem), DCf P N M0 l Q ws un i rest env M → ∃ (dr : List (Option Tmp × SV)) (us : List (Option (Nat × Blk))), dr.length = rest.length ∧ us.length = rest.length ∧
    (∀ (j : Nat) o, rest[j]? = some o → ∃ r mu, dr[j]? = some (o.dst, r) ∧ us[j]? = some mu ∧ muOk ws (i + j) mu (memC (fun n => decide (n < i + j)) i us M) ∧
      OpAt P N M0 l (un.getD (i + j) ([], [])) o (envC (fun n => decide (n < i + j)) i dr env) (memC (fun n => decide (n < i + j)) i us M) r mu) ∧
    Q .normal (envC (fun _ => true) i dr env) (memC (fun _ => true) i us M)
  | [], i, env, M, h => ⟨[], [], rfl, rfl, fun j o h => by simp at h, h⟩
  | o :: rest, i, env, M, ⟨r, mu, h1, h2, h3⟩ => by
    obtain ⟨dr, us, a1, a2, a3, a4⟩ := DCf.split rest (i + 1) _ _ h3
    have nm : ∀ (us : List (Option (Nat × Blk))) (j : Nat) (M : Mem), i ≤ j → memC (fun n => decide (n < i)) j us M = M := fun us => by
      induction us with
      | nil => intro _ _ _; rfl
      | cons p us ih => intro j M hj; rw [memC, show decide (j < i) = false from decide_eq_false (by omega)]; exact ih _ _ (by omega)
    have ne : ∀ (us : List (Option Tmp × SV)) (j : Nat) (M : Env), i ≤ j → envC (fun n => decide (n < i)) j us M = M := fun us => by
      induction us with
      | nil => intro _ _ _; rfl
      | cons p us ih => intro j M hj; rw [envC, show decide (j < i) = false from decide_eq_false (by omega)]; exact ih _ _ (by omega)
    refine ⟨(o.dst, r) :: dr, mu :: us, by simp [a1], by simp [a2], fun j p hp => ?_, a4⟩
    cases j with
    | zero =>
      obtain rfl : o = p := by simpa using hp
      refine ⟨r, mu, rfl, rfl, ?_⟩
      rw [Nat.add_zero, nm _ _ _ (Nat.le_refl _), ne _ _ _ (Nat.le_refl _)]
      exact ⟨h1, h2⟩
    | succ j =>
      obtain ⟨r', mu', b1, b2, b3⟩ := a3 j p (by simpa using hp)
      refine ⟨r', mu', by simpa using b1, by simpa using b2, ?_⟩
      rw [show i + (j + 1) = i + 1 + j by omega, memC, envC, show decide (i < i + 1 + j) = true from decide_eq_true (by omega)]
      exact b3
end
end Go.Proofs.Ytgjamldcglebjaa.DL
