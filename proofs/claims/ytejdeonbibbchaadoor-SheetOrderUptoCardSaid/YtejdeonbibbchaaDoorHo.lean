/- law25: the stable sort puts boxes in order: the plain law. -/
import Derived.Test.YtejdeonbibbchaaDoorHm
set_option linter.unusedVariables false
set_option linter.unusedSimpArgs false
set_option linter.constructorNameAsVariable false
namespace Go.Proofs.YtejdeonbibbchaaDoor
set_option linter.unusedSimpArgs false
set_option linter.constructorNameAsVariable false
set_option linter.unusedVariables false

theorem pairs_of {lt : Int → Int → Bool} {xs : List Int} (h : Srt lt 0 xs.length xs) : xs.Pairwise (pre lt) := by
  rw [List.pairwise_iff_getElem]
  intro i j hi hj hij
  have := h i j (Nat.zero_le _) hij hj
  rwa [gI_get hi, gI_get hj] at this
section
variable {lt : Int → Int → Bool}
theorem insIn_spec (O : Ord lt) (a J : Nat) : ∀ (j : Nat) (ys : List Int), a ≤ j → j ≤ J → J < ys.length → (∀ p q, a ≤ p → p < q → q ≤ J → p ≠ j → q ≠ j → pre lt (gI ys p) (gI ys q)) → (∀ q, j < q → q ≤ J → pre lt (gI ys j) (gI ys q)) →
    (∀ p, a ≤ p → p < j → gI ys p < gI ys j) → Rg a (J + 1) ys (insIn lt a j ys) ∧ Srt lt a (J + 1) (insIn lt a j ys) := by
  intro j
  induction j with
  | zero =>
    intro ys ha hj hl hs hu hi
    refine ⟨Rg.refl _ _ _, fun p q h1 h2 h3 => ?_⟩
    show pre lt (gI ys p) (gI ys q)
    by_cases hp : p = 0
    · subst hp; exact hu q h2 (by omega)
    · exact hs p q h1 h2 (by omega) hp (by omega)
  | succ j ih =>
    intro ys ha hj hl hs hu hi
    by_cases hc : a < j + 1 ∧ lt (gI ys (j + 1)) (gI ys j) = true
    · rw [insIn, if_pos hc]
      have hsw := fun k => gI_swp (xs := ys) (i := j + 1) (j := j) (by omega) (by omega) k
      obtain ⟨r1, r2⟩ := ih (swp ys (j + 1) j) (by omega) (by omega) (by rw [swp_length]; omega) (fun p q h1 h2 h3 h4 h5 => by
        rw [hsw, hsw, if_neg h4, if_neg h5]
        by_cases e1 : p = j + 1
        · rw [if_pos e1, if_neg (by omega)]
          exact hs j q (by omega) (by omega) h3 (by omega) (by omega)
        · rw [if_neg e1]
          by_cases e2 : q = j + 1
          · rw [if_pos e2]
            exact hs p j h1 (by omega) (by omega) (by omega) (by omega)
          · rw [if_neg e2]
            exact hs p q h1 h2 h3 e1 e2) (fun q h1 h2 => by
        rw [hsw, hsw, if_pos rfl, if_neg (by omega)]
        by_cases e2 : q = j + 1
        · rw [if_pos e2]; exact .inl hc.2
        · rw [if_neg e2]; exact hu q (by omega) h2) (fun p h1 h2 => by
        rw [hsw, hsw, if_neg (by omega), if_neg (by omega), if_pos rfl]
        exact hi p h1 (by omega))
      exact ⟨(Rg.swp (by omega) (by omega) (by omega)).trans r1, r2⟩
    · rw [insIn, if_neg hc]
      refine ⟨Rg.refl _ _ _, fun p q h1 h2 h3 => ?_⟩
      by_cases hq : q = j + 1
      · subst hq
        have hlast : pre lt (gI ys j) (gI ys (j + 1)) := (pre_of_lt O (hi j (by omega) (by omega))).2 (by
          cases h : lt (gI ys (j + 1)) (gI ys j) with
          | false => rfl
          | true => exact absurd ⟨by omega, h⟩ hc)
        by_cases hp : p = j
        · subst hp; exact hlast
        · exact pre_tr O (hs p j h1 (by omega) (by omega) (by omega) (by omega)) hlast
      · by_cases hp : p = j + 1
        · subst hp; exact hu q h2 (by omega)
        · exact hs p q h1 h2 (by omega) hp hq

theorem insUp_spec (O : Ord lt) (a b : Nat) (xs : List Int) (hinc : ∀ p q, a ≤ p → p < q → q < b → gI xs p < gI xs q) (hb : b ≤ xs.length) : ∀ k, a + k < b ∨ k = 0 → Rg a (a + k + 1) xs (insUp lt a xs k) ∧ Srt lt a (a + k + 1) (insUp lt a xs k)
  | 0, _ => ⟨Rg.refl _ _ _, fun p q h1 h2 h3 => by omega⟩
  | k + 1, h => by
    obtain ⟨r1, r2⟩ := insUp_spec O a b xs hinc hb k (by omega)
    rw [insUp]
    have hk : a + k + 1 < b := by omega
    obtain ⟨s1, s2⟩ := insIn_spec O a (a + k + 1) (a + k + 1) (insUp lt a xs k) (by omega) (Nat.le_refl _) (by rw [r1.len]; omega) (fun p q h1 h2 h3 h4 h5 => r2 p q h1 h2 (by omega)) (fun q h1 h2 => by omega) (fun p h1 h2 => by
      rw [r1.out (a + k + 1) (.inr (Nat.le_refl _))]
      obtain ⟨p', q1, q2, q3⟩ := r1.inn p h1 h2
      rw [q3]
      exact hinc p' (a + k + 1) q1 q2 hk)
    exact ⟨(r1.mono (Nat.le_refl _) (by omega)).trans s1, s2⟩

/-- From a place on: runs of a length that stand in order, each of smaller numbers than those behind it. -/
inductive Runs (lt : Int → Int → Bool) (bs n : Nat) (ys : List Int) : Nat → Prop
  | done {a : Nat} (h : n ≤ a) : Runs lt bs n ys a
  | run {a : Nat} (h1 : Srt lt a (min (a + bs) n) ys) (h2 : ∀ p q, a ≤ p → p < a + bs → a + bs ≤ q → q < n → gI ys p < gI ys q) (h3 : Runs lt bs n ys (a + bs)) : Runs lt bs n ys a
theorem Runs.congr {bs n : Nat} {xs ys : List Int} {a : Nat} (h : Runs lt bs n xs a) (k : ∀ i, a ≤ i → gI ys i = gI xs i) : Runs lt bs n ys a := by
  induction h with
  | done h => exact .done h
  | run h1 h2 _ ih =>
    refine .run (fun i j a1 a2 a3 => ?_) (fun p q a1 a2 a3 a4 => ?_) (ih fun i hi => k i (by omega))
    · rw [k i a1, k j (by omega)]; exact h1 i j a1 a2 a3
    · rw [k p a1, k q (by omega)]; exact h2 p q a1 a2 a3 a4
theorem Runs.get {bs n : Nat} {xs : List Int} {a : Nat} (h : Runs lt bs n xs a) (ha : a < n) : Srt lt a (min (a + bs) n) xs ∧ (∀ p q, a ≤ p → p < a + bs → a + bs ≤ q → q < n → gI xs p < gI xs q) ∧ Runs lt bs n xs (a + bs) := by
  cases h with
  | done h => omega
  | run h1 h2 h3 => exact ⟨h1, h2, h3⟩

theorem stabA_spec (O : Ord lt) (n : Nat) : ∀ (f : Nat) (xs : List Int) (a : Nat), n - a ≤ f → n ≤ xs.length → (∀ p q, a ≤ p → p < q → q < n → gI xs p < gI xs q) → Rg a n xs (stabA lt n xs a) ∧ Runs lt 20 n (stabA lt n xs a) a
  | f, xs, a, hf, hn, hinc => by
    rw [stabA]
    by_cases hc : a + 20 ≤ n
    · rw [if_pos hc]
      cases f with
      | zero => omega
      | succ f =>
        obtain ⟨r1, r2⟩ := insUp_spec O a (a + 20) xs (fun p q h1 h2 h3 => hinc p q h1 h2 (by omega)) (by omega) (a + 20 - (a + 1)) (by omega)
        rw [show a + (a + 20 - (a + 1)) + 1 = a + 20 by omega] at r1 r2
        generalize insUp lt a xs (a + 20 - (a + 1)) = zs at r1 r2 ⊢
        obtain ⟨s1, s2⟩ := stabA_spec O n f zs (a + 20) (by omega) (by rw [r1.len]; exact hn) (fun p q h1 h2 h3 => by
          rw [r1.out p (.inr h1), r1.out q (.inr (by omega))]
          exact hinc p q (by omega) h2 h3)
        refine ⟨(r1.mono (Nat.le_refl _) hc).trans (s1.mono (by omega) (Nat.le_refl _)), .run (fun i j h1 h2 h3 => ?_) (fun p q h1 h2 h3 h4 => ?_) s2⟩
        · rw [s1.out i (.inl (by omega)), s1.out j (.inl (by omega))]
          exact r2 i j h1 h2 (by omega)
        · rw [s1.out p (.inl h2)]
          obtain ⟨q', t1, t2, t3⟩ := s1.inn q h3 h4
          obtain ⟨p', u1, u2, u3⟩ := r1.inn p h1 h2
          rw [t3, u3, r1.out q' (.inr t1)]
          exact hinc p' q' u1 (by omega) t2
    · rw [if_neg hc]
      by_cases hna : n ≤ a
      · rw [show n - (a + 1) = 0 by omega]
        exact ⟨Rg.refl _ _ _, .done hna⟩
      · obtain ⟨r1, r2⟩ := insUp_spec O a n xs (fun p q h1 h2 h3 => hinc p q h1 h2 h3) hn (n - (a + 1)) (by omega)
        rw [show a + (n - (a + 1)) + 1 = n by omega] at r1 r2
        refine ⟨r1, .run (by rw [show min (a + 20) n = n by omega]; exact r2) (fun p q h1 h2 h3 h4 => by omega) (.done (by omega))⟩

theorem passA_spec (O : Ord lt) (n bs : Nat) (h0 : 0 < bs) : ∀ (f : Nat) (xs : List Int) (a : Nat), n - a ≤ f → n ≤ xs.length → Runs lt bs n xs a → Rg a n xs (passA lt n bs xs a) ∧ Runs lt (2 * bs) n (passA lt n bs xs a) a
  | f, xs, a, hf, hn, hr => by
    rw [passA]
    by_cases hc : 0 < bs ∧ a + 2 * bs ≤ n
    · rw [dif_pos hc]
      cases f with
      | zero => omega
      | succ f =>
        obtain ⟨a1, a2, a3⟩ := hr.get (by omega)
        obtain ⟨b1, b2, b3⟩ := a3.get (by omega)
        rw [show min (a + bs) n = a + bs by omega] at a1
        rw [show min (a + bs + bs) n = a + 2 * bs by omega] at b1
        rw [show a + bs + bs = a + 2 * bs by omega] at b2 b3
        obtain ⟨r1, r2⟩ := symM_spec O (2 * bs) xs a (a + bs) (a + 2 * bs) (by omega) (by omega) (by omega) (by omega) a1 b1 (fun i j h1 h2 h3 h4 => a2 i j h1 h2 h3 (by omega))
        generalize symM lt (2 * bs) xs a (a + bs) (a + 2 * bs) = zs at r1 r2 ⊢
        obtain ⟨s1, s2⟩ := passA_spec O n bs h0 f zs (a + 2 * bs) (by omega) (by rw [r1.len]; exact hn) (b3.congr fun i hi => r1.out i (.inr hi))
        refine ⟨(r1.mono (Nat.le_refl _) hc.2).trans (s1.mono (by omega) (Nat.le_refl _)), .run (fun i j h1 h2 h3 => ?_) (fun p q h1 h2 h3 h4 => ?_) s2⟩
        · rw [s1.out i (.inl (by omega)), s1.out j (.inl (by omega))]
          exact r2 i j h1 h2 (by omega)
        · rw [s1.out p (.inl h2)]
          obtain ⟨q', t1, t2, t3⟩ := s1.inn q h3 h4
          obtain ⟨p', u1, u2, u3⟩ := r1.inn p h1 h2
          rw [t3, u3, r1.out q' (.inr t1)]
          by_cases hp : p' < a + bs
          · exact a2 p' q' u1 hp (by omega) t2
          · exact b2 p' q' (by omega) u2 t1 t2
    · rw [dif_neg hc]
      by_cases hm : a + bs < n
      · rw [if_pos hm]
        obtain ⟨a1, a2, a3⟩ := hr.get (by omega)
        obtain ⟨b1, b2, b3⟩ := a3.get (by omega)
        rw [show min (a + bs) n = a + bs by omega] at a1
        rw [show min (a + bs + bs) n = n by omega] at b1
        obtain ⟨r1, r2⟩ := symM_spec O (2 * bs) xs a (a + bs) n (by omega) (by omega) (by omega) hn a1 b1 (fun i j h1 h2 h3 h4 => a2 i j h1 h2 h3 h4)
        exact ⟨r1, .run (by rw [show min (a + 2 * bs) n = n by omega]; exact r2) (fun p q h1 h2 h3 h4 => by omega) (.done (by omega))⟩
      · rw [if_neg hm]
        refine ⟨Rg.refl _ _ _, ?_⟩
        by_cases hna : n ≤ a
        · exact .done hna
        · obtain ⟨a1, _, _⟩ := hr.get (by omega)
          rw [show min (a + bs) n = n by omega] at a1
          exact .run (by rw [show min (a + 2 * bs) n = n by omega]; exact a1) (fun p q h1 h2 h3 h4 => by omega) (.done (by omega))

theorem stabB_spec (O : Ord lt) (n : Nat) : ∀ (f : Nat) (xs : List Int) (bs : Nat), n - bs ≤ f → 0 < bs → n ≤ xs.length → Runs lt bs n xs 0 → Srt lt 0 n (stabB lt n xs bs)
  | f, xs, bs, hf, h0, hn, hr => by
    rw [stabB]
    by_cases hc : 0 < bs ∧ bs < n
    · rw [dif_pos hc]
      cases f with
      | zero => omega
      | succ f =>
        obtain ⟨r1, r2⟩ := passA_spec O n bs h0 _ xs 0 (Nat.le_refl _) hn hr
        exact stabB_spec O n f _ (bs * 2) (by omega) (by omega) (by rw [r1.len]; exact hn) (by rw [Nat.mul_comm bs 2]; exact r2)
    · rw [dif_neg hc]
      by_cases hn0 : n = 0
      · subst hn0; exact fun i j _ h2 h3 => by omega
      · obtain ⟨a1, _, _⟩ := hr.get (by omega)
        rwa [show min (0 + bs) n = n by omega] at a1

theorem sortS_srt (O : Ord lt) (xs : List Int) (hinc : ∀ p q, p < q → q < xs.length → gI xs p < gI xs q) : (sortS lt xs).Pairwise (pre lt) := by
  obtain ⟨r1, r2⟩ := stabA_spec O xs.length _ xs 0 (Nat.le_refl _) (Nat.le_refl _) fun p q _ h2 h3 => hinc p q h2 h3
  have h := stabB_spec O xs.length _ _ 20 (Nat.le_refl _) (by omega) (by rw [r1.len]; exact Nat.le_refl _) r2
  refine pairs_of ?_
  have hl := (sortS_perm lt xs).length_eq
  rw [hl]
  exact h
end
theorem gI_idx {n p : Nat} (h : p < n) : gI (idx n) p = (p : Int) := by
  rw [gI_get (by rw [idx_len]; exact h)]
  simp [idx]
theorem cmpB_lt {a b : Bx} : cmpB a b < 0 ↔ a.page < b.page ∨ (a.page = b.page ∧ (a.y < b.y ∨ (a.y = b.y ∧ a.x < b.x))) := by
  unfold cmpB cmpI
  repeat' split
  all_goals omega
theorem ltX_ord (l : List Bx) : Ord (ltX l) := by
  refine ⟨fun x => ?_, fun x y z h1 h2 => ?_, fun x y z h => ?_⟩
  · rw [ltX, cmpX]
    exact decide_eq_false fun h => by rw [cmpB_lt] at h; omega
  · rw [ltX, cmpX, decide_eq_true_eq, cmpB_lt] at *
    omega
  · rw [ltX, cmpX, decide_eq_true_eq, cmpB_lt] at h
    by_cases q : cmpB (gB l x) (gB l y) < 0
    · exact .inl (decide_eq_true q)
    · refine .inr (decide_eq_true (cmpB_lt.2 ?_))
      rw [cmpB_lt] at q
      omega
/-- None of them stands behind one that it is ahead of. -/
theorem sortB_pairs (l : List Bx) : (sortB l).Pairwise (fun a b => ¬ cmpB b a < 0) := by
  have h := sortS_srt (ltX_ord l) (idx l.length) fun p q h1 h2 => by
    rw [idx_len] at h2
    rw [gI_idx (by omega), gI_idx h2]; omega
  rw [sortB, List.pairwise_map]
  refine h.imp fun {x y} hxy => ?_
  intro hc
  have e : ltX l y x = true := decide_eq_true hc
  rcases hxy with h | h
  · rw [(ltX_ord l).asym h] at e; cases e
  · rw [h.1] at e; cases e
/-- Where all stand at unlike places there is but one order. -/
theorem sortB_uniq {l m : List Bx} (hp : l.Perm m) (h : (sortB l).Pairwise fun a b => cmpB a b < 0) : sortB l = sortB m := by
  have hm := sortB_pairs m
  have hpp : (sortB l).Perm (sortB m) := (sortB_perm l).trans (hp.trans (sortB_perm m).symm)
  have hne : ∀ a b : Bx, cmpB a b < 0 → ¬ cmpB b a < 0 := fun a b h1 h2 => by rw [cmpB_lt] at *; omega
  -- of two unlike members of the first list one is ahead of the other
  have tot : ∀ a ∈ sortB l, ∀ b ∈ sortB l, a = b ∨ cmpB a b < 0 ∨ cmpB b a < 0 := by
    intro a ha b hb
    obtain ⟨i, hi, rfl⟩ := List.getElem_of_mem ha
    obtain ⟨j, hj, rfl⟩ := List.getElem_of_mem hb
    rcases (show i = j ∨ i < j ∨ j < i by omega) with rfl | hij | hij
    · exact .inl rfl
    · exact .inr (.inl (List.pairwise_iff_getElem.1 h i j hi hj hij))
    · exact .inr (.inr (List.pairwise_iff_getElem.1 h j i hj hi hij))
  have nodup : (sortB m).Nodup := hpp.nodup_iff.1 (h.imp fun {a b} hab e => by subst e; rw [cmpB_lt] at hab; omega)
  have hm2 : (sortB m).Pairwise fun a b => cmpB a b < 0 := by
    have hb := List.Pairwise.and hm nodup
    refine List.Pairwise.imp_of_mem ?_ hb
    intro a b ha hb' ⟨h1, h2⟩
    rcases tot a (hpp.mem_iff.2 ha) b (hpp.mem_iff.2 hb') with e | e | e
    · exact absurd e h2
    · exact e
    · exact absurd e h1
  exact List.Perm.eq_of_pairwise (fun a b _ _ k1 k2 => absurd k2 (hne a b k1)) h hm2 hpp
end Go.Proofs.YtejdeonbibbchaaDoor
