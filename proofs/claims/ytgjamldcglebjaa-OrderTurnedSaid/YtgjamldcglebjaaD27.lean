/- A logic of data for Go functions: a statement whose order is open, walked once: why that is enough. No program in sight. -/
import Derived.Test.YtgjamldcglebjaaD26
namespace Go.Proofs.Ytgjamldcglebjaa.DL
open Go.RowKit

section
variable {P : Program} {N : Nat} {Q : DPost} {env : Env} {M M0 : Mem} {o : Oper} {rest : List Oper}
variable {l : List Oper} {ws : List (Nat × Nat × Nat)} {un : List (List Nat × List Nat)}
variable {dr : List (Option Tmp × SV)} {us : List (Option (Nat × Blk))}

/-- What is known of an operation's effect on memory. -/
def UsOk (ws : List (Nat × Nat × Nat)) (us : List (Option (Nat × Blk))) (M : Mem) : Prop :=
  ∀ (j : Nat) mu, us[j]? = some mu → muOk ws j mu (memC (fun n => decide (n < j)) 0 us M)

theorem UsOk.at (h : UsOk ws us M) {j b : Nat} {k : Blk} (hj : us[j]? = some (some (b, k))) : ∃ f, wsAt ws j = some (b, f) ∧
    ((f = 0 ∧ ∃ k0, mget (memC (fun n => decide (n < j)) 0 us M) b = some k0 ∧ k0.frm = k.frm) ∨ (f = 1 ∧ mget (memC (fun n => decide (n < j)) 0 us M) b = none) ∨ f = 2) := by
  rcases h j _ hj with ⟨h1, h2⟩ | ⟨h1, h2⟩ | h1
  · exact ⟨0, h1, .inl ⟨rfl, h2⟩⟩
  · exact ⟨1, h1, .inr (.inl ⟨rfl, h2⟩)⟩
  · exact ⟨2, h1, .inr (.inr rfl)⟩

theorem noChg_at {b j f : Nat} : ∀ {ws : List (Nat × Nat × Nat)}, noChg ws b = true → wsAt ws j = some (b, f) → f ≠ 2
  | [], _, h => by simp [wsAt] at h
  | (i, c, g) :: r, hn, h => by
    rw [noChg, List.all_cons, Bool.and_eq_true] at hn
    rw [wsAt] at h
    cases hb : Nat.beq i j with
    | true =>
      rw [hb] at h
      simp only [cond_true, Option.some.injEq, Prod.mk.injEq] at h
      obtain ⟨rfl, rfl⟩ := h
      have := hn.1
      simpa using this
    | false =>
      rw [hb] at h
      exact noChg_at hn.2 h

theorem muM_far {mu : Option (Nat × Blk)} {M : Mem} {b : Nat} (h : ¬ ∃ k, mu = some (b, k)) : mget (muM mu M) b = mget M b := by
  cases mu with
  | none => rfl
  | some p =>
    rw [muM, mget_cons, if_neg]
    exact fun e => h ⟨p.2, by rw [← e]⟩
theorem pre_succ (us : List (Option (Nat × Blk))) (M : Mem) (b m : Nat) (mu : Option (Nat × Blk)) (h : us[m]? = some mu) :
    mget (memC (fun n => decide (n < m + 1)) 0 us M) b = mget (muM mu (memC (fun n => decide (n < m)) 0 us M)) b := by
  by_cases hb : ∃ k, mu = some (b, k)
  · obtain ⟨k, rfl⟩ := hb
    rw [memC_last us 0 m M h (by simp) (fun i' k' hi _ => by simp; omega)]
    show _ = mget ((b, some k) :: _) b
    rw [mget_cons, if_pos rfl]
  · rw [muM_far hb]
    refine memC_congr us 0 M M (fun i k hi => ?_) rfl
    have : i ≠ m := fun e => hb ⟨k, by subst e; rw [h] at hi; injection hi⟩
    simp only [Nat.zero_add]
    by_cases h1 : i < m
    · rw [decide_eq_true h1, decide_eq_true (by omega : i < m + 1)]
    · rw [decide_eq_false h1, decide_eq_false (by omega : ¬ i < m + 1)]
theorem pre_out (us : List (Option (Nat × Blk))) (M : Mem) (b m : Nat) (h : us.length ≤ m) :
    mget (memC (fun n => decide (n < m + 1)) 0 us M) b = mget (memC (fun n => decide (n < m)) 0 us M) b := by
  refine memC_congr us 0 M M (fun i k hi => ?_) rfl
  have := (List.getElem?_eq_some_iff.1 hi).1
  simp only [Nat.zero_add]
  rw [decide_eq_true (by omega : i < m), decide_eq_true (by omega : i < m + 1)]
theorem pre_zero (us : List (Option (Nat × Blk))) (M : Mem) (b : Nat) : mget (memC (fun n => decide (n < 0)) 0 us M) b = mget M b := by
  rw [memC_congr (S' := fun _ => false) us 0 M M (fun i k hi => by simp) rfl, memC_none]

/-- A block that stays what it is keeps its frame. -/
theorem frm_keep (hu : UsOk ws us M) {b : Nat} (hn : noChg ws b = true) {m : Nat} {k0 : Blk} (h0 : mget (memC (fun n => decide (n < m)) 0 us M) b = some k0) :
    ∀ d, ∃ k1, mget (memC (fun n => decide (n < m + d)) 0 us M) b = some k1 ∧ k1.frm = k0.frm := by
  intro d
  induction d with
  | zero => exact ⟨k0, h0, rfl⟩
  | succ d ih =>
    obtain ⟨k1, h1, h2⟩ := ih
    rw [← Nat.add_assoc]
    cases hj : us[m + d]? with
    | none => exact ⟨k1, by rw [pre_out _ _ _ _ (List.getElem?_eq_none_iff.1 hj)]; exact h1, h2⟩
    | some mu =>
      rw [pre_succ _ _ _ _ mu hj]
      by_cases hb : ∃ k, mu = some (b, k)
      · obtain ⟨k, rfl⟩ := hb
        obtain ⟨f, hw, hf⟩ := hu.at hj
        refine ⟨k, by show mget ((b, some k) :: _) b = _; rw [mget_cons, if_pos rfl], ?_⟩
        rcases hf with ⟨_, k2, h3, h4⟩ | ⟨_, h3⟩ | h3
        · rw [h1] at h3
          injection h3 with h3
          rw [← h4, ← h3, h2]
        · rw [h1] at h3; cases h3
        · exact absurd h3 (noChg_at hn hw)
      · refine ⟨k1, ?_, h2⟩
        rw [muM_far hb]
        exact h1
theorem frm_any (S : Nat → Bool) {b : Nat} {k : Blk} (h : mget (memC S 0 us M) b = some k) : ∃ m, mget (memC (fun n => decide (n < m)) 0 us M) b = some k := by
  rcases memC_from (S := S) (b := b) us 0 M with ⟨h1, _⟩ | ⟨i, k', h1, _, h3, _⟩
  · exact ⟨0, by rw [pre_zero, ← h1]; exact h⟩
  · rw [h] at h3
    obtain rfl := Option.some.inj h3
    exact ⟨i + 1, by rw [pre_succ _ _ _ _ _ h1]; show mget ((b, some k) :: _) b = _; rw [mget_cons, if_pos rfl]⟩
theorem frm_eq (hu : UsOk ws us M) {b : Nat} (hn : noChg ws b = true) {S S' : Nat → Bool} {k k' : Blk} (h : mget (memC S 0 us M) b = some k) (h' : mget (memC S' 0 us M) b = some k') : k.frm = k'.frm := by
  obtain ⟨m, h1⟩ := frm_any S h
  obtain ⟨m', h1'⟩ := frm_any S' h'
  obtain ⟨k1, a1, a2⟩ := frm_keep hu hn h1 m'
  obtain ⟨k2, b1, b2⟩ := frm_keep hu hn h1' m
  rw [Nat.add_comm] at b1
  rw [a1] at b1
  obtain rfl := Option.some.inj b1
  rw [← a2, b2]

/-- The first operation that writes a block which is not there makes it. -/
theorem first_makes (hu : UsOk ws us M) {b : Nat} (hn : noChg ws b = true) (h0 : mget M b = none) : ∀ (n j : Nat) (k : Blk), j < n → us[j]? = some (some (b, k)) → ∃ j' k', j' ≤ j ∧ us[j']? = some (some (b, k')) ∧ wsAt ws j' = some (b, 1)
  | 0, j, k, hj, _ => absurd hj (Nat.not_lt_zero _)
  | n + 1, j, k, hj, h => by
    obtain ⟨f, hw, hf⟩ := hu.at h
    rcases hf with ⟨_, k0, h1, _⟩ | ⟨rfl, _⟩ | h1
    · rcases memC_from (S := fun n => decide (n < j)) (b := b) us 0 M with ⟨e, _⟩ | ⟨i, k', e1, e2, _, _⟩
      · rw [e, h0] at h1; cases h1
      · have hi : i < j := by simpa using e2
        obtain ⟨j', k2, a1, a2, a3⟩ := first_makes hu hn h0 n i k' (by omega) e1
        exact ⟨j', k2, by omega, a2, a3⟩
    · exact ⟨j, k, Nat.le_refl _, h, hw⟩
    · exact absurd h1 (noChg_at hn hw)

theorem Reach.lt (F : CfF l ws un) {i j : Nat} (h : Reach l i j) : j < i := by
  induction h with
  | one ho h => exact F.on _ _ ho _ h
  | more ho h r ih => exact Nat.lt_trans ih (F.on _ _ ho _ h)
theorem Reach.trans {i m j : Nat} (h : Reach l i m) (k : Reach l m j) : Reach l i j := by
  induction h with
  | one ho h => exact .more ho h k
  | more ho h _ ih => exact .more ho h (ih k)
theorem Reach.len {i j : Nat} (h : Reach l i j) : i < l.length := by
  cases h with
  | one ho _ => exact (List.getElem?_eq_some_iff.1 ho).1
  | more ho _ _ => exact (List.getElem?_eq_some_iff.1 ho).1

/-- Memory where an operation comes up, told as that operation is shown it. -/
theorem gen_at (F : CfF l ws un) (hu : UsOk ws us M) (hlen : us.length = l.length) {S : Nat → Bool} {i : Nat} (hi : i < l.length) (hS : S i = false) (hup : ∀ j, Reach l i j → S j = true) (hdn : ∀ j, Reach l j i → S j = false) :
    ∃ xs ys, ∀ b, mget (genM (un.getD i ([], [])) xs ys (memC (fun n => decide (n < i)) 0 us M)) b = mget (memC S 0 us M) b := by
  refine ⟨fun b => ((mget (memC S 0 us M) b).map Blk.cellsOf).getD [], fun b => mget (memC S 0 us M) b, fun b => ?_⟩
  unfold genM
  rw [mget_map_append, mget_map_append]
  have same : (∀ j k, us[j]? = some (some (b, k)) → j = i ∨ Reach l i j ∨ Reach l j i) → mget (memC (fun n => decide (n < i)) 0 us M) b = mget (memC S 0 us M) b := fun h => by
    refine memC_congr us 0 M M (fun j k hj => ?_) rfl
    simp only [Nat.zero_add]
    rcases h j k hj with rfl | h | h
    · rw [hS]; simp
    · rw [hup j h, decide_eq_true (h.lt F)]
    · rw [hdn j h, decide_eq_false]
      have := h.lt F
      omega
  split
  · rfl
  · rename_i hg
    split
    · rename_i hf
      by_cases hall : ∀ j k, us[j]? = some (some (b, k)) → j = i ∨ Reach l i j ∨ Reach l j i
      · rw [same hall]
        cases h0 : mget (memC S 0 us M) b with
        | none => rfl
        | some k =>
          refine congrArg some ?_
          simp only [h0]
          exact Blk.like_of rfl
      · obtain ⟨j, k, hj, hne, hn1, hn2⟩ : ∃ j k, us[j]? = some (some (b, k)) ∧ j ≠ i ∧ ¬ Reach l i j ∧ ¬ Reach l j i := by
          refine Classical.byContradiction fun hno => hall fun j k hj => ?_
          by_cases h1 : j = i
          · exact .inl h1
          · by_cases h2 : Reach l i j
            · exact .inr (.inl h2)
            · exact .inr (.inr (Classical.byContradiction fun h3 => hno ⟨j, k, hj, h1, h2, h3⟩))
        have lenj : ∀ {j k}, us[j]? = some (some (b, k)) → j < l.length := fun h => by rw [← hlen]; exact (List.getElem?_eq_some_iff.1 h).1
        -- an operation that writes b and is not bound to i
        have free : ∀ j k, us[j]? = some (some (b, k)) → j ≠ i → ¬ Reach l i j → ¬ Reach l j i → wsAt ws j = some (b, 0) ∧ noChg ws b = true ∧ (∀ f', wsAt ws i ≠ some (b, f')) := fun j k hj hne h1 h2 => by
          obtain ⟨f, hw, _⟩ := hu.at hj
          rcases F.mem i j b f hi (lenj hj) hw hne with h | h | ⟨h3, h4⟩
          · exact absurd h h1
          · exact absurd h h2
          · rcases h4 with h4 | ⟨rfl, h5, _⟩
            · exact absurd h4 hg
            · exact ⟨hw, h5, h3⟩
        obtain ⟨_, hno, hi0⟩ := free j k hj hne hn1 hn2
        have makes : ∀ j0 k0, us[j0]? = some (some (b, k0)) → wsAt ws j0 = some (b, 1) → Reach l i j0 ∨ Reach l j0 i := fun j0 k0 h1 h2 => by
          have hne0 : j0 ≠ i := fun e => hi0 1 (by rw [← e]; exact h2)
          refine Classical.byContradiction fun hno2 => ?_
          obtain ⟨h3, _, _⟩ := free j0 k0 h1 hne0 (fun h => hno2 (.inl h)) (fun h => hno2 (.inr h))
          rw [h2] at h3
          simp at h3
        have both : ∀ j j' k k', us[j]? = some (some (b, k)) → us[j']? = some (some (b, k')) → j' < j → Reach l j j' := fun j j' k k' h1 h2 hlt => by
          obtain ⟨f, hw, _⟩ := hu.at h2
          obtain ⟨f', hw', _⟩ := hu.at h1
          rcases F.mem j j' b f (lenj h1) (lenj h2) hw (by omega) with h | h | ⟨h, _⟩
          · exact h
          · have := h.lt F; omega
          · exact absurd hw' (h f')
        cases h1 : mget (memC (fun n => decide (n < i)) 0 us M) b with
        | some k1 =>
          cases h2 : mget (memC S 0 us M) b with
          | some k2 =>
            refine congrArg some ?_
            simp only [h2]
            exact Blk.like_of (frm_eq hu hno h1 h2)
          | none =>
            exfalso
            rcases memC_from (S := S) (b := b) us 0 M with ⟨e, es⟩ | ⟨_, _, _, _, e, _⟩
            · rw [h2] at e
              rcases memC_from (S := fun n => decide (n < i)) (b := b) us 0 M with ⟨e', _⟩ | ⟨a, ka, e1, e2, _, _⟩
              · rw [h1, ← e] at e'; cases e'
              · obtain ⟨j0, k0, g1, g2, g3⟩ := first_makes hu hno e.symm _ a ka (Nat.lt_succ_self _) e1
                have hai : a < i := by simpa using e2
                rcases makes j0 k0 g2 g3 with h | h
                · have := es j0 k0 g2
                  rw [Nat.zero_add, hup j0 h] at this
                  cases this
                · have := h.lt F
                  omega
            · rw [h2] at e; cases e
        | none =>
          cases h2 : mget (memC S 0 us M) b with
          | none => rfl
          | some k2 =>
            exfalso
            rcases memC_from (S := fun n => decide (n < i)) (b := b) us 0 M with ⟨e, es⟩ | ⟨_, _, _, _, e, _⟩
            · rw [h1] at e
              rcases memC_from (S := S) (b := b) us 0 M with ⟨e', _⟩ | ⟨a, ka, e1, e2, _, _⟩
              · rw [h2, ← e] at e'; cases e'
              · rw [Nat.zero_add] at e2
                obtain ⟨j0, k0, g1, g2, g3⟩ := first_makes hu hno e.symm _ a ka (Nat.lt_succ_self _) e1
                rcases makes j0 k0 g2 g3 with h | h
                · have := es j0 k0 g2
                  have hlt := h.lt F
                  simp at this
                  omega
                · have ha : Reach l a i := by
                    by_cases hj0 : j0 = a
                    · rw [← hj0]; exact h
                    · exact (both a j0 ka k0 e1 g2 (by omega)).trans h
                  rw [hdn a ha] at e2
                  cases e2
            · rw [h1] at e; cases e
    · rename_i hf
      refine same fun j k hj => ?_
      obtain ⟨f, hw, _⟩ := hu.at hj
      by_cases hne : j = i
      · exact .inl hne
      · rcases F.mem i j b f hi (by rw [← hlen]; exact (List.getElem?_eq_some_iff.1 hj).1) hw hne with h | h | ⟨_, h | ⟨_, _, h⟩⟩
        · exact .inr (.inl h)
        · exact .inr (.inr h)
        · exact absurd h hg
        · exact absurd h hf

theorem wpAny_conf (F : CfF l ws un) (hd : dr.length = l.length) (hlen : us.length = l.length) (hu : UsOk ws us M)
    (hop : ∀ (j : Nat) o, l[j]? = some o → ∃ r mu, dr[j]? = some (o.dst, r) ∧ us[j]? = some mu ∧ OpAt P N M0 l (un.getD j ([], [])) o (envC (fun n => decide (n < j)) 0 dr env) (memC (fun n => decide (n < j)) 0 us M) r mu)
    (hend : Q .normal (envC (fun _ => true) 0 dr env) (memC (fun _ => true) 0 us M)) {x0 : Ctx} (hx : x0.M0 = M0) : ∀ (fuel : Nat) (listed : Array Bool) (a : Act) (w : World),
    ((List.range l.length).countP fun j => !listed.getD j true) ≤ fuel → listed.size = l.length → (∀ i o, l[i]? = some o → listed.getD i false = true → ∀ j ∈ ons o, listed.getD j false = true) →
    At x0 N (envC (fun j => listed.getD j false) 0 dr env) (memC (fun j => listed.getD j false) 0 us M) a w → wpAny P .any l.toArray (up x0 N Q) fuel listed a w := by
  have fin : ∀ (listed : Array Bool) (a : Act) (w : World), (∀ j, j < l.length → listed.getD j false = true) →
      At x0 N (envC (fun j => listed.getD j false) 0 dr env) (memC (fun j => listed.getD j false) 0 us M) a w → up x0 N Q .normal a w := fun listed a w hall hat => by
    refine ⟨_, _, ?_, hend⟩
    refine Wk.memo (M0 := M0) (fun t => .inr ?_) (fun b => ?_) x0 a w hx hat
    · refine envC_congr dr 0 env env (fun i r hi => ?_) rfl
      rw [Nat.zero_add, hall i (by rw [← hd]; exact (List.getElem?_eq_some_iff.1 hi).1)]
    · refine memC_congr us 0 M M (fun i r hi => ?_) rfl
      rw [Nat.zero_add, hall i (by rw [← hlen]; exact (List.getElem?_eq_some_iff.1 hi).1)]
  have none_ready : ∀ (listed : Array Bool), listed.size = l.length → Region.ready .any l.toArray listed = [] → ∀ j, j < l.length → listed.getD j false = true := fun listed hs h0 => by
    have gd2 : ∀ j, j < l.length → listed.getD j false = listed.getD j true := fun j hj => by
      rw [Array.getD_eq_getD_getElem?, Array.getD_eq_getD_getElem?, Array.getElem?_eq_getElem (by omega)]; rfl
    intro j
    induction j using Nat.strongRecOn with
    | _ j ih =>
      intro hj
      refine Classical.byContradiction fun hn => ?_
      have hjl : listed.getD j true = false := by
        rw [← gd2 j hj]
        simpa using hn
      have hmem : j ∈ Region.ready .any l.toArray listed := ready_of (by simpa using hj) hjl (o := l[j]) (by simp [hj]) fun e he hb => by
        have hlt := F.on j _ (List.getElem?_eq_getElem hj) e.on (by simp only [ons, List.mem_map, List.mem_filter]; exact ⟨e, ⟨he, hb⟩, rfl⟩)
        exact ih _ hlt (by omega)
      rw [h0] at hmem
      cases hmem
  intro fuel
  induction fuel with
  | zero =>
    intro listed a w hc hs hcl hat
    have hall : ∀ j, j < l.length → listed.getD j false = true := fun j hj => by
      have := List.countP_eq_zero.1 (Nat.le_zero.1 hc) j (List.mem_range.2 hj)
      rw [Array.getD_eq_getD_getElem?, Array.getElem?_eq_getElem (by omega)] at this ⊢
      simpa using this
    refine ⟨List.eq_nil_iff_forall_not_mem.2 fun i hi => ?_, fin listed a w hall hat⟩
    obtain ⟨h1, h2, _⟩ := mem_ready hi
    have h1' : i < l.length := by simpa using h1
    have := hall i h1'
    rw [Array.getD_eq_getD_getElem?, Array.getElem?_eq_getElem (by omega)] at this h2
    simp at this h2
    rw [h2] at this
    cases this
  | succ fuel ih =>
    intro listed a w hc hs hcl hat
    refine ⟨fun h0 => fin listed a w (none_ready listed hs h0) hat, fun i hi => ?_⟩
    obtain ⟨h1, h2, o, ho', h3⟩ := mem_ready hi
    have hil : i < l.length := by simpa using h1
    have ho : l[i]? = some o := by simpa using ho'
    have gd2 : listed.getD i false = false := by
      rw [Array.getD_eq_getD_getElem?, Array.getElem?_eq_getElem (by omega)] at h2 ⊢
      simpa using h2
    have hons : ∀ j ∈ ons o, listed.getD j false = true := fun j hj => by
      simp only [ons, List.mem_map, List.mem_filter] at hj
      obtain ⟨e, ⟨he, hb⟩, rfl⟩ := hj
      exact h3 e he hb
    have hup : ∀ j, Reach l i j → listed.getD j false = true := fun j hj => reach_listed (S := fun j => listed.getD j false) hcl hj fun o2 ho2 k hk => by
      rw [ho] at ho2
      obtain rfl := Option.some.inj ho2
      exact hons k hk
    have hdn : ∀ j, Reach l j i → listed.getD j false = false := fun j hj => by
      cases hb : listed.getD j false with
      | false => rfl
      | true =>
        have := reach_listed (S := fun j => listed.getD j false) hcl hj fun o2 ho2 k hk => hcl j o2 ho2 hb k hk
        rw [gd2] at this
        cases this
    obtain ⟨r, mu, hdr, hus, hopi⟩ := hop i o ho
    obtain ⟨xs, ys, hgen⟩ := gen_at F hu hlen hil gd2 hup hdn
    have hlook : ∀ t ∈ o.looksAt l.toArray, lk (envC (fun n => decide (n < i)) 0 dr env) t = lk (envC (fun j => listed.getD j false) 0 dr env) t := fun t ht => by
      refine envC_congr dr 0 env env (fun j r' hj => ?_) rfl
      rw [Nat.zero_add]
      have hjl : j < l.length := by rw [← hd]; exact (List.getElem?_eq_some_iff.1 hj).1
      obtain ⟨r2, _, hj2, _⟩ := hop j _ (List.getElem?_eq_getElem hjl)
      rw [hj] at hj2
      have hdst : l[j].dst = some t := by
        injection hj2 with hj2
        injection hj2 with hj2 _
        exact hj2.symm
      by_cases hne : j = i
      · subst hne; rw [gd2]; simp
      · rcases F.look i o ho t ht j _ (List.getElem?_eq_getElem hjl) hdst hne with h | h
        · rw [hup j h, decide_eq_true (h.lt F)]
        · have := h.lt F
          rw [hdn j h, decide_eq_false (by omega)]
    generalize hE : envC (fun j => listed.getD j false) 0 dr env = eS at hat hlook
    have hat2 : At x0 N (restr (envC (fun n => decide (n < i)) 0 dr env) (o.looksAt l.toArray) ++ eS) (genM (un.getD i ([], [])) xs ys (memC (fun n => decide (n < i)) 0 us M)) a w := by
      refine Wk.memo (M0 := M0) (fun t => .inr ?_) hgen x0 a w hx hat
      have key : ∀ (ts : List Tmp), (∀ t ∈ ts, lk (envC (fun n => decide (n < i)) 0 dr env) t = lk eS t) → lk (restr (envC (fun n => decide (n < i)) 0 dr env) ts ++ eS) t = lk eS t := by
        intro ts
        induction ts with
        | nil => intro _; rfl
        | cons u ts ih2 =>
          intro hts
          show lk ((u, lk _ u) :: (restr _ ts ++ eS)) t = _
          rw [lk_cons, ih2 fun t ht => hts t (List.mem_cons_of_mem _ ht)]
          split
          · rename_i e
            rw [hts u (by simp), e]
          · rfl
      exact key _ hlook
    have hlk : ∀ t, lk (restr (envC (fun n => decide (n < i)) 0 dr env) (o.looksAt l.toArray) ++ eS) t = lk eS t := fun t => by
      have key : ∀ (ts : List Tmp), (∀ t ∈ ts, lk (envC (fun n => decide (n < i)) 0 dr env) t = lk eS t) → lk (restr (envC (fun n => decide (n < i)) 0 dr env) ts ++ eS) t = lk eS t := by
        intro ts
        induction ts with
        | nil => intro _; rfl
        | cons u ts ih2 =>
          intro hts
          show lk ((u, lk _ u) :: (restr _ ts ++ eS)) t = _
          rw [lk_cons, ih2 fun t ht => hts t (List.mem_cons_of_mem _ ht)]
          split
          · rename_i e
            rw [hts u (by simp), e]
          · rfl
      exact key _ hlook
    have hrun := hopi eS xs ys x0 a w hx hat2
    have K : ∀ a' w', wpList P l.toArray (up x0 N fun e E' M' => e = .normal ∧ E' = putd o.dst r (restr (envC (fun n => decide (n < i)) 0 dr env) (o.looksAt l.toArray) ++ eS) ∧ M' = muM mu (genM (un.getD i ([], [])) xs ys (memC (fun n => decide (n < i)) 0 us M))) [] a' w' →
        wpAny P .any l.toArray (up x0 N Q) fuel (listed.setIfInBounds i true) a' w' := fun a' w' ⟨E', M', hat', _, hE', hM'⟩ => by
      subst hE' hM'
      have gset : ∀ j, (listed.setIfInBounds i true).getD j false = if j = i then true else listed.getD j false := fun j => by
        by_cases hj : j = i
        · subst hj
          rw [if_pos rfl]
          simp [Array.getD_eq_getD_getElem?, hs, hil]
        · rw [if_neg hj, Array.getD_eq_getD_getElem?, Array.getElem?_setIfInBounds_ne (Ne.symm hj), ← Array.getD_eq_getD_getElem?]
      refine ih _ a' w' ?_ (by simpa using hs) (fun j p hp hj k hk => ?_) (Wk.memo (M0 := M0) (fun t => .inr ?_) (fun b => ?_) x0 a' w' hx hat')
      · have := unl_lt hil h2
        omega
      · rw [gset] at hj ⊢
        by_cases hji : j = i
        · subst hji
          rw [ho] at hp
          obtain rfl := Option.some.inj hp
          rw [hons k hk]
          simp
        · rw [if_neg hji] at hj
          rw [hcl j p hp hj k hk]
          simp
      · rw [lk_putd, hlk]
        by_cases hdt : o.dst = some t
        · rw [if_pos hdt]
          rw [hdt] at hdr
          refine envC_last dr 0 i env hdr (by simp only [Nat.zero_add]; rw [gset, if_pos rfl]) fun j r' hij hj => ?_
          simp only [Nat.zero_add]
          rw [gset, if_neg (by omega)]
          have hjl : j < l.length := by rw [← hd]; exact (List.getElem?_eq_some_iff.1 hj).1
          obtain ⟨r2, _, hj2, _⟩ := hop j _ (List.getElem?_eq_getElem hjl)
          rw [hj] at hj2
          have hdst : l[j].dst = some t := by
            injection hj2 with hj2
            injection hj2 with hj2 _
            exact hj2.symm
          rcases F.ord i j o _ t ho (List.getElem?_eq_getElem hjl) hdt hdst (by omega) with h | h
          · have := h.lt F; omega
          · exact hdn j h
        · rw [if_neg hdt, ← hE]
          refine envC_congr dr 0 env env (fun j r' hj => ?_) rfl
          simp only [Nat.zero_add]
          rw [gset, if_neg fun e => ?_]
          subst e
          rw [hdr] at hj
          injection hj with hj
          injection hj with hj _
          exact hdt hj
      · by_cases hb : ∃ k, mu = some (b, k)
        · obtain ⟨k, rfl⟩ := hb
          rw [memC_last us 0 i M hus (by simp only [Nat.zero_add]; rw [gset, if_pos rfl]) fun j k' hij hj => ?_]
          · show some k = mget ((b, some k) :: _) b
            rw [mget_cons, if_pos rfl]
          · simp only [Nat.zero_add]
            rw [gset, if_neg (by omega)]
            obtain ⟨f, hw, _⟩ := hu.at hj
            obtain ⟨f', hw', _⟩ := hu.at hus
            rcases F.mem i j b f hil (by rw [← hlen]; exact (List.getElem?_eq_some_iff.1 hj).1) hw (by omega) with h | h | ⟨h, _⟩
            · have := h.lt F; omega
            · exact hdn j h
            · exact absurd hw' (h f')
        · rw [muM_far hb, hgen]
          refine memC_congr us 0 M M (fun j k hj => ?_) rfl
          simp only [Nat.zero_add]
          rw [gset, if_neg fun e => ?_]
          subst e
          rw [hus] at hj
          injection hj with hj
          exact hb ⟨k, hj⟩
    unfold wpOp
    simp only [ho']
    unfold wpList at hrun
    split
    · rename_i hw
      rw [if_pos hw] at hrun
      exact hrun.imp (wp_exits K fun e a w hne ⟨_, _, _, he, _⟩ => absurd he hne) fun ⟨_, _, _, _, _, _, he, _⟩ => by cases he
    · rename_i hw
      rw [if_neg hw] at hrun
      exact K _ _ hrun

/-- A statement whose order is open, walked once in the text's order. -/
theorem DCode.conf {id : Nat} (ws : List (Nat × Nat × Nat)) (un : List (List Nat × List Nat)) (hm : P.follows .mixedOrders = true) (hok : confOk l ws un = true) (h : DCf P N M0 l Q ws un 0 l env M) : DCode P N M0 (.region id l.toArray true) Q env M := by
  intro x0 a w hx hat
  have F := confOk_facts hok
  obtain ⟨dr, us, hd, hlen, hop, hend⟩ := DCf.split l 0 env M h
  refine wp_region_any hm ?_
  have hz : ∀ j : Nat, (Array.replicate l.toArray.size false).getD j false = false := fun j => by
    rw [Array.getD_eq_getD_getElem?, Array.getElem?_replicate]
    split <;> rfl
  have hu : UsOk ws us M := fun j mu hj => by
    have hjl : j < l.length := by rw [← hlen]; exact (List.getElem?_eq_some_iff.1 hj).1
    obtain ⟨r, mu', _, h2, h3, _⟩ := hop j _ (List.getElem?_eq_getElem hjl)
    rw [hj] at h2
    obtain rfl := Option.some.inj h2
    rw [Nat.zero_add] at h3
    exact h3
  refine wpAny_conf F hd hlen hu (fun j o ho => ?_) hend hx _ _ a _ ?_ (by simp) (fun i o _ hi => ?_) ?_
  · obtain ⟨r, mu, h1, h2, _, h4⟩ := hop j o ho
    rw [Nat.zero_add] at h4
    exact ⟨r, mu, h1, h2, h4⟩
  · refine Nat.le_trans (List.countP_le_length) ?_
    simp
  · rw [hz] at hi; cases hi
  · refine Wk.memo (M0 := M0) (fun t => .inr ?_) (fun b => ?_) x0 a _ hx hat.drew
    · rw [envC_congr (S' := fun _ => false) dr 0 env env (fun i r _ => by simp only [hz]) rfl]
      have : ∀ (l : List (Option Tmp × SV)) (j : Nat) (e : Env), envC (fun _ => false) j l e = e := fun l => by
        induction l with
        | nil => intro _ _; rfl
        | cons p l ih => intro j e; rw [envC]; exact ih _ _
      rw [this]
    · rw [memC_congr (S' := fun _ => false) us 0 M M (fun i r _ => by simp only [hz]) rfl, memC_none]
end
end Go.Proofs.Ytgjamldcglebjaa.DL
