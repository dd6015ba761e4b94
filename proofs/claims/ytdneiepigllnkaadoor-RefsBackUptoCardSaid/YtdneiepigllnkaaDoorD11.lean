/- A logic of data for Go functions: a statement whose order is open: pure operations first, then the rest in each of its orders. No program in sight. -/
import Derived.Test.YtdneiepigllnkaaDoorD10
namespace Go.Proofs.YtdneiepigllnkaaDoor.DL
open Go.RowKit

section
variable {P : Program} {N : Nat} {ops : Array Oper} {Q : DPost} {env : Env} {M M0 : Mem} {o : Oper} {rest : List Oper}

/-- What an operation waits for, and what that waits for .. -/
inductive Reach (l : List Oper) : Nat → Nat → Prop
  | one {i j : Nat} {o : Oper} (ho : l[i]? = some o) (h : j ∈ ons o) : Reach l i j
  | more {i m j : Nat} {o : Oper} (ho : l[i]? = some o) (h : m ∈ ons o) (r : Reach l m j) : Reach l i j

def maskOf (ms : List Nat) (o : Oper) : Nat := (ons o).foldl (fun s j => s ||| (2 ^ j ||| ms.getD j 0)) 0
def masks (l : List Oper) : List Nat := l.foldl (fun ms o => ms ++ [maskOf ms o]) []

theorem maskOf_bit (ms : List Nat) (o : Oper) (j : Nat) (h : (maskOf ms o).testBit j = true) : ∃ m ∈ ons o, m = j ∨ (ms.getD m 0).testBit j = true := by
  have key : ∀ (js : List Nat) (s : Nat), (js.foldl (fun s j => s ||| (2 ^ j ||| ms.getD j 0)) s).testBit j = true → s.testBit j = true ∨ ∃ m ∈ js, m = j ∨ (ms.getD m 0).testBit j = true := by
    intro js
    induction js with
    | nil => intro s h; exact .inl h
    | cons a js ih =>
      intro s h
      rcases ih _ h with h | ⟨m, hm, hh⟩
      · rw [Nat.testBit_or, Nat.testBit_or, Bool.or_eq_true, Bool.or_eq_true, Nat.testBit_two_pow] at h
        rcases h with h | h | h
        · exact .inl h
        · exact .inr ⟨a, by simp, .inl (by simpa using h)⟩
        · exact .inr ⟨a, by simp, .inr h⟩
      · exact .inr ⟨m, by simp [hm], hh⟩
  rcases key _ 0 h with h | h
  · simp at h
  · exact h

theorem masks_reach (l : List Oper) : ∀ (i j : Nat), ((masks l).getD i 0).testBit j = true → Reach l i j := by
  have key : ∀ (r p : List Oper) (ms : List Nat), p ++ r = l → ms.length = p.length → (∀ i j, (ms.getD i 0).testBit j = true → Reach l i j) →
      ∀ i j, ((r.foldl (fun ms o => ms ++ [maskOf ms o]) ms).getD i 0).testBit j = true → Reach l i j := by
    intro r
    induction r with
    | nil => intro p ms _ _ h; exact h
    | cons o r ih =>
      intro p ms hp hl h
      refine ih (p ++ [o]) _ (by simp [← hp]) (by simp [hl]) fun i j hb => ?_
      by_cases hi : i < ms.length
      · refine h i j ?_
        rw [List.getD_eq_getElem?_getD, List.getElem?_append_left hi, ← List.getD_eq_getElem?_getD] at hb
        exact hb
      · by_cases he : i = ms.length
        · subst he
          rw [List.getD_eq_getElem?_getD, List.getElem?_append_right (Nat.le_refl _)] at hb
          simp only [Nat.sub_self, List.getElem?_cons_zero, Option.getD_some] at hb
          obtain ⟨m, hm, hh⟩ := maskOf_bit ms o j hb
          have ho : l[ms.length]? = some o := by rw [← hp, hl, List.getElem?_append_right (Nat.le_refl _)]; simp
          rcases hh with rfl | hh
          · exact .one ho hm
          · exact .more ho hm (h m j hh)
        · rw [List.getD_eq_getElem?_getD, List.getElem?_append_right (by omega), List.getElem?_eq_none (by simp; omega)] at hb
          simp at hb
  exact key l [] [] rfl rfl fun i j h => by simp at h

/-- The first k operations may come up in any order; the rest comes behind all of them. -/
def drawOk2 (l : List Oper) (k : Nat) : Bool :=
  (List.range l.length).all fun i => match l[i]? with
    | none => false
    | some o => (ons o).all (fun j => Nat.blt j i) &&
      (if i < k then
        ((o.looksAt l.toArray).all fun t => (List.range k).all fun j => match l[j]? with
          | none => false
          | some p => p.dst != some t || (Nat.blt j i && (ons o).contains j)) &&
        (List.range k).all (fun j => j == i || match l[j]? with
          | none => false
          | some p => p.dst != o.dst)
      else (List.range k).all fun j => ((masks l).getD i 0).testBit j)

structure DrawFacts2 (l : List Oper) (k : Nat) : Prop where
  on : ∀ (i : Nat) o, l[i]? = some o → ∀ e ∈ o.after.toList, Region.binds .any e = true → e.on < i
  look : ∀ (i : Nat) o, l[i]? = some o → i < k → ∀ t ∈ o.looksAt l.toArray, ∀ (j : Nat) p, j < k → l[j]? = some p → p.dst = some t → j < i ∧ ∃ e ∈ o.after.toList, Region.binds .any e = true ∧ e.on = j
  ne : ∀ (i j : Nat) o p, l[i]? = some o → l[j]? = some p → i < k → j < k → j ≠ i → p.dst ≠ o.dst
  tail : ∀ (i j : Nat), i < l.length → k ≤ i → j < k → Reach l i j

theorem drawOk2_facts {l : List Oper} {k : Nat} (h : drawOk2 l k = true) : DrawFacts2 l k := by
  have h0 : ∀ (i : Nat) o, l[i]? = some o → (ons o).all (fun j => Nat.blt j i) = true ∧ (if i < k then
        ((o.looksAt l.toArray).all fun t => (List.range k).all fun j => match l[j]? with
          | none => false
          | some p => p.dst != some t || (Nat.blt j i && (ons o).contains j)) &&
        (List.range k).all (fun j => j == i || match l[j]? with
          | none => false
          | some p => p.dst != o.dst)
      else (List.range k).all fun j => ((masks l).getD i 0).testBit j) = true := fun i o ho => by
    have hlt := (List.getElem?_eq_some_iff.1 ho).1
    have := List.all_eq_true.1 h i (List.mem_range.2 hlt)
    rw [ho] at this
    simp only [Bool.and_eq_true] at this
    exact this
  refine ⟨fun i o ho e he hb => ?_, fun i o ho hi t ht j p hjk hp hd => ?_, fun i j o p ho hp hi hj hne => ?_, fun i j hl hi hj => ?_⟩
  · have := List.all_eq_true.1 (h0 i o ho).1 e.on (by simp only [ons, List.mem_map, List.mem_filter]; exact ⟨e, ⟨he, hb⟩, rfl⟩)
    simpa using this
  · have h1 := (h0 i o ho).2
    rw [if_pos hi, Bool.and_eq_true] at h1
    have h2 := List.all_eq_true.1 (List.all_eq_true.1 h1.1 t ht) j (List.mem_range.2 hjk)
    rw [hp] at h2
    simp only [hd, bne_self_eq_false, Bool.false_or, Bool.and_eq_true] at h2
    exact ⟨by simpa using h2.1, mem_ons.1 h2.2⟩
  · have h1 := (h0 i o ho).2
    rw [if_pos hi, Bool.and_eq_true] at h1
    have h2 := List.all_eq_true.1 h1.2 j (List.mem_range.2 hj)
    rw [hp] at h2
    simp only [Bool.or_eq_true, beq_iff_eq, bne_iff_ne] at h2
    exact h2.resolve_left hne
  · have h1 := (h0 i l[i] (List.getElem?_eq_getElem hl)).2
    rw [if_neg (by omega)] at h1
    exact masks_reach l i j (List.all_eq_true.1 h1 j (List.mem_range.2 hj))

theorem reach_listed {l : List Oper} {S : Nat → Bool} (hcl : ∀ (i : Nat) o, l[i]? = some o → S i = true → ∀ j ∈ ons o, S j = true) {i j : Nat} (h : Reach l i j) : (∀ o, l[i]? = some o → ∀ j ∈ ons o, S j = true) → S j = true := by
  induction h with
  | one ho h => exact fun k => k _ ho _ h
  | more ho h r ih => exact fun k => ih fun o ho' j hj => hcl _ o ho' (k _ ho _ h) j hj

theorem DAny.more : ∀ (f g : Nat) (L : Array Bool) (env : Env) (M : Mem), f ≤ g → DAny P N M0 ops Q f L env M → DAny P N M0 ops Q g L env M
  | 0, 0, _, _, _, _, h => h
  | 0, g + 1, L, env, M, _, h => ⟨fun _ => h.2, fun i hi => (by rw [h.1] at hi; cases hi)⟩
  | f + 1, g + 1, L, env, M, hle, h => ⟨h.1, fun i hi o ho => by
      intro x0 a w hx hat
      have h1 := h.2 i hi o ho x0 a w hx hat
      have hup : ∀ e a w, up x0 N (thenQ (DAny P N M0 ops Q f (L.setIfInBounds i true)) Q) e a w → up x0 N (thenQ (DAny P N M0 ops Q g (L.setIfInBounds i true)) Q) e a w := fun e a w ⟨env', M', hat', hq⟩ => ⟨env', M', hat', by
        cases e with
        | normal => exact DAny.more f g _ _ _ (by omega) hq
        | _ => exact hq⟩
      unfold wpList at h1 ⊢
      split
      · rename_i hw
        rw [if_pos hw] at h1
        exact h1.imp (wp_exits (fun a w h => hup _ _ _ h) fun e a w _ h => hup e a w h) fun ⟨h2, a2, w2, h3⟩ => ⟨h2, a2, w2, hup _ _ _ h3⟩
      · rename_i hw
        rw [if_neg hw] at h1
        exact hup _ _ _ h1⟩

theorem wpAny_draw2 {l : List Oper} {k : Nat} (F : DrawFacts2 l k) {dr : List (Nat × SV)} (hlen : dr.length = k) (hkl : k ≤ l.length)
    (hdr : ∀ (i d : Nat) (r : SV), dr[i]? = some (d, r) → ∃ o, l[i]? = some o ∧ o.dst = some d ∧ d < N ∧ OpQ P N M0 l.toArray (restr ((dr.take i).reverse ++ env) (o.looksAt l.toArray)) M o r)
    (hend : DAny P N M0 l.toArray Q (l.length - k) (List.replicate k true ++ List.replicate (l.length - k) false).toArray (dr.reverse ++ env) M) {x0 : Ctx} (hx : x0.M0 = M0) : ∀ (fuel : Nat) (listed : Array Bool) (a : Act) (w : World),
    ((List.range l.length).countP fun j => !listed.getD j true) ≤ fuel → listed.size = l.length → (∀ j, k ≤ j → j < l.length → listed.getD j true = false) → (∀ (i : Nat) o, l[i]? = some o → listed.getD i false = true → ∀ j ∈ ons o, listed.getD j false = true) →
    At x0 N (envS env dr fun j => listed.getD j false) M a w → wpAny P .any l.toArray (up x0 N Q) fuel listed a w := by
  have hap : Apart dr := fun i j d x d' x' h1 h2 hne => by
    obtain ⟨o, a1, a2, _⟩ := hdr i d x h1
    obtain ⟨p, b1, b2, _⟩ := hdr j d' x' h2
    have := F.ne i j o p a1 b1 (by rw [← hlen]; exact (List.getElem?_eq_some_iff.1 h1).1) (by rw [← hlen]; exact (List.getElem?_eq_some_iff.1 h2).1) (Ne.symm hne)
    rw [a2, b2] at this
    exact fun e => this (by rw [e])
  have final : ∀ (fuel : Nat) (listed : Array Bool) (a : Act) (w : World), l.length - k ≤ fuel → listed.size = l.length → (∀ j, j < k → listed.getD j true = true) → (∀ j, k ≤ j → j < l.length → listed.getD j true = false) →
      At x0 N (envS env dr fun j => listed.getD j false) M a w → wpAny P .any l.toArray (up x0 N Q) fuel listed a w := fun fuel listed a w hf hs hall hrest hat => by
    have hfl : listed = (List.replicate k true ++ List.replicate (l.length - k) false).toArray := by
      apply Array.ext
      · simp [hs]; omega
      · intro i h1 h2
        by_cases hik : i < k
        · have := hall i hik
          rw [Array.getD_eq_getD_getElem?, Array.getElem?_eq_getElem h1] at this
          simp only [Option.getD_some] at this
          rw [this]
          simp [hik]
        · have := hrest i (by omega) (by omega)
          rw [Array.getD_eq_getD_getElem?, Array.getElem?_eq_getElem h1] at this
          simp only [Option.getD_some] at this
          rw [this]
          simp [List.getElem_append, hik]
    have gd2 : ∀ j, j < l.length → listed.getD j false = listed.getD j true := fun j hj => by
      rw [Array.getD_eq_getD_getElem?, Array.getD_eq_getD_getElem?, Array.getElem?_eq_getElem (by omega)]; rfl
    have hat2 : At x0 N (dr.reverse ++ env) M a w := by
      refine Wk.slots (M0 := M0) (fun t => .inr ?_) x0 a w hx hat
      have h1 := lk_append_rev (env := env) hap dr.length (Nat.le_refl _) t
      rw [List.take_length] at h1
      rw [h1]
      by_cases hex2 : ∃ (i d : Nat) (x : SV), dr[i]? = some (d, x) ∧ d = t
      · obtain ⟨i, d, x, h2, h3⟩ := hex2
        have hi := (List.getElem?_eq_some_iff.1 h2).1
        rw [(lk_envS hap _ t).1 i d x h2 h3, (lk_envS hap _ t).1 i d x h2 h3]
        have := hall i (by omega)
        rw [gd2 i (by omega), this]
        simp [hi]
      · have hn : ∀ (i d : Nat) (x : SV), dr[i]? = some (d, x) → d ≠ t := fun i d x h1 h2 => hex2 ⟨i, d, x, h1, h2⟩
        rw [(lk_envS hap _ t).2 hn, (lk_envS hap _ t).2 hn]
    have := (DAny.more _ fuel _ _ _ hf hend).wp _ _ _ _ x0 a w hx hat2
    rw [← hfl] at this
    exact this
  intro fuel
  induction fuel with
  | zero =>
    intro listed a w hc hs hrest hcl hat
    have hall : ∀ j, j < l.length → listed.getD j true = true := fun j hj => by
      have := List.countP_eq_zero.1 (Nat.le_zero.1 hc) j (List.mem_range.2 hj)
      simpa using this
    have hk : k = l.length := by
      refine Decidable.byContradiction fun hne => ?_
      have := hall k (by omega)
      rw [hrest k (Nat.le_refl _) (by omega)] at this
      cases this
    exact final 0 listed a w (by omega) hs (fun j hj => hall j (by omega)) hrest hat
  | succ fuel ih =>
    intro listed a w hc hs hrest hcl hat
    have gd2 : ∀ j, j < l.length → listed.getD j false = listed.getD j true := fun j hj => by
      rw [Array.getD_eq_getD_getElem?, Array.getD_eq_getD_getElem?, Array.getElem?_eq_getElem (by omega)]; rfl
    by_cases hex : ∃ j, j < k ∧ listed.getD j true = false
    · -- the least that is not listed
      have least : ∀ n, (∃ j, j < n ∧ j < k ∧ listed.getD j true = false) → ∃ j, j < k ∧ listed.getD j true = false ∧ ∀ i, i < j → listed.getD i true = true := by
        intro n
        induction n with
        | zero => intro ⟨j, hj, _⟩; omega
        | succ n ihn =>
          intro ⟨j, hj, hjk, hjl⟩
          by_cases hsm : ∃ i, i < j ∧ listed.getD i true = false
          · obtain ⟨i, hi, hil⟩ := hsm
            exact ihn ⟨i, by omega, by omega, hil⟩
          · exact ⟨j, hjk, hjl, fun i hi => by
              cases hb : listed.getD i true with
              | true => rfl
              | false => exact absurd ⟨i, hi, hb⟩ hsm⟩
      obtain ⟨j0, hj0, hj0l, hmin⟩ := least k (let ⟨j, h1, h2⟩ := hex; ⟨j, h1, h1, h2⟩)
      have hj0n : j0 < l.length := by omega
      have hmem : j0 ∈ Region.ready .any l.toArray listed := ready_of (by simpa using hj0n) hj0l (o := l[j0]) (by simp [hj0n]) fun e he hb => by
        have hlt := F.on j0 _ (List.getElem?_eq_getElem hj0n) e he hb
        rw [gd2 _ (by omega)]
        exact hmin _ hlt
      refine ⟨fun h0 => (by rw [h0] at hmem; cases hmem), fun i hi => ?_⟩
      obtain ⟨h1, h2, o, ho', h3⟩ := mem_ready hi
      have h1' : i < l.length := by simpa using h1
      have ho : l[i]? = some o := by simpa using ho'
      have hik : i < k := by
        refine Decidable.byContradiction fun hn => ?_
        have hr := reach_listed (S := fun j => listed.getD j false) hcl (F.tail i j0 h1' (by omega) (by omega)) fun o2 ho2 j hj => by
          rw [ho] at ho2
          obtain rfl := Option.some.inj ho2
          obtain ⟨e, he, hb, hon⟩ := mem_ons.1 (List.contains_iff_mem.2 hj)
          rw [← hon]
          exact h3 e he hb
        rw [gd2 j0 hj0n, hj0l] at hr
        cases hr
      obtain ⟨d, r, hdr1⟩ : ∃ d r, dr[i]? = some (d, r) := ⟨dr[i].1, dr[i].2, List.getElem?_eq_getElem (by omega)⟩
      obtain ⟨o2, ho2, hd, hdN, hq⟩ := hdr i d r hdr1
      rw [ho] at ho2
      obtain rfl := Option.some.inj ho2
      refine wpOp_of_OpQ ho' hd hdN hx hq (fun t => ?_) hat (fun a' w' hat' => ?_)
      · rcases lk_restr ((dr.take i).reverse ++ env) (o.looksAt l.toArray) t with hj | ⟨ht, he⟩
        · exact .inl hj
        · refine .inr (he.trans ?_)
          rw [lk_append_rev hap i (by omega) t]
          by_cases hex2 : ∃ (j d : Nat) (x : SV), dr[j]? = some (d, x) ∧ d = t
          · obtain ⟨j, d', x, g1, g2⟩ := hex2
            rw [(lk_envS hap _ t).1 j d' x g1 g2, (lk_envS hap _ t).1 j d' x g1 g2]
            obtain ⟨p, hp1, hp2, _⟩ := hdr j d' x g1
            obtain ⟨hji, e, he1, he2, he3⟩ := F.look i o ho hik t ht j p (by rw [← hlen]; exact (List.getElem?_eq_some_iff.1 g1).1) hp1 (by rw [hp2, g2])
            have := h3 e he1 he2
            rw [he3] at this
            rw [this]
            simp [hji]
          · have hn : ∀ (j d : Nat) (x : SV), dr[j]? = some (d, x) → d ≠ t := fun i d x h1 h2 => hex2 ⟨i, d, x, h1, h2⟩
            rw [(lk_envS hap _ t).2 hn, (lk_envS hap _ t).2 hn]
      · refine ih _ a' w' ?_ (by simpa using hs) (fun j hj hjl => ?_) (fun i2 o2 ho2 hl2 j hj => ?_) (Wk.slots (fun t => .inr ?_) x0 a' w' hx hat')
        · have := unl_lt h1' h2
          omega
        · rw [Array.getD_eq_getD_getElem?, Array.getElem?_setIfInBounds_ne (by omega), ← Array.getD_eq_getD_getElem?]
          exact hrest j hj hjl
        · have hin : i < listed.size := by omega
          have get : ∀ j, (listed.setIfInBounds i true).getD j false = if i = j then true else listed.getD j false := fun j => by
            rw [Array.getD_eq_getD_getElem?, Array.getD_eq_getD_getElem?, Array.getElem?_setIfInBounds]
            split
            · rename_i e; subst e; simp [hin]
            · rfl
          rw [get] at hl2 ⊢
          split
          · rfl
          · split at hl2
            · rename_i e; subst e
              rw [ho] at ho2
              obtain rfl := Option.some.inj ho2
              obtain ⟨e, he, hb, hon⟩ := mem_ons.1 (List.contains_iff_mem.2 hj)
              rw [← hon]
              exact h3 e he hb
            · exact hcl i2 o2 ho2 hl2 j hj
        · rw [lk_cons]
          by_cases hdt : d = t
          · rw [if_pos hdt, (lk_envS hap _ t).1 i d r hdr1 hdt]
            rw [if_pos]
            simp [Array.getD_eq_getD_getElem?, hs, h1']
          · rw [if_neg hdt]
            by_cases hex2 : ∃ (j d : Nat) (x : SV), dr[j]? = some (d, x) ∧ d = t
            · obtain ⟨j, d', x, g1, g2⟩ := hex2
              rw [(lk_envS hap _ t).1 j d' x g1 g2, (lk_envS hap _ t).1 j d' x g1 g2]
              have hne : i ≠ j := fun e => by
                subst e
                rw [hdr1] at g1
                injection g1 with g1
                injection g1 with g1 _
                exact hdt (g1.trans g2)
              rw [Array.getD_eq_getD_getElem?, Array.getElem?_setIfInBounds_ne hne, ← Array.getD_eq_getD_getElem?]
            · have hn : ∀ (j d : Nat) (x : SV), dr[j]? = some (d, x) → d ≠ t := fun i d x h1 h2 => hex2 ⟨i, d, x, h1, h2⟩
              rw [(lk_envS hap _ t).2 hn, (lk_envS hap _ t).2 hn]
    · have hall : ∀ j, j < k → listed.getD j true = true := fun j hj => by
        cases hb : listed.getD j true with
        | true => rfl
        | false => exact absurd ⟨j, hj, hb⟩ hex
      refine final (fuel + 1) listed a w (Nat.le_trans ?_ hc) hs hall hrest hat
      have : ∀ n, k ≤ n → n ≤ l.length → n - k ≤ (List.range n).countP fun j => !listed.getD j true := by
        intro n
        induction n with
        | zero => intro _ _; omega
        | succ n ihn =>
          intro h1 h2
          rw [List.range_succ, List.countP_append]
          by_cases hkn : k ≤ n
          · have := ihn hkn (by omega)
            have h3 : (List.countP (fun j => !listed.getD j true) [n]) = 1 := by
              rw [List.countP_cons, List.countP_nil, hrest n hkn (by omega)]; rfl
            omega
          · omega
      exact this _ hkl (Nat.le_refl _)


/-- A statement whose order is open: its first k operations are walked once, in the text's order; the rest in each of its orders. -/
theorem DCode.draw2 {id : Nat} {l : List Oper} (k : Nat) (hm : P.follows .mixedOrders = true) (hok : drawOk2 l k = true) (dr : List (Nat × SV)) (hlen : dr.length = k) (hkl : k ≤ l.length)
    (hdr : ∀ (i d : Nat) (r : SV), dr[i]? = some (d, r) → ∃ o, l[i]? = some o ∧ o.dst = some d ∧ d < N ∧ OpQ P N M0 l.toArray (restr ((dr.take i).reverse ++ env) (o.looksAt l.toArray)) M o r)
    (hend : DAny P N M0 l.toArray Q (l.length - k) (List.replicate k true ++ List.replicate (l.length - k) false).toArray (dr.reverse ++ env) M) : DCode P N M0 (.region id l.toArray true) Q env M := by
  intro x0 a w hx hat
  refine wp_region_any hm ?_
  refine wpAny_draw2 (drawOk2_facts hok) hlen hkl hdr hend hx _ _ a _ ?_ (by simp) (fun j _ hj => ?_) (fun i o ho hl => ?_) ?_
  · refine Nat.le_trans (List.countP_le_length) ?_
    simp
  · simp [Array.getD_eq_getD_getElem?, hj]
  · exfalso
    simp [Array.getD_eq_getD_getElem?, Array.getElem?_replicate] at hl
    split at hl <;> cases hl
  · refine Wk.slots (fun t => .inr ?_) x0 a _ hx hat.drew
    have := lk_envS_go env (fun j => (Array.replicate l.toArray.size false).getD j false) dr 0 t
    rcases this with ⟨i, d, x, _, h2, _⟩ | ⟨_, h2⟩
    · exfalso
      simp [Array.getD_eq_getD_getElem?, Array.getElem?_replicate] at h2
      split at h2 <;> cases h2
    · exact h2

/-- The same, step by step. -/
def DDr2 (P : Program) (N : Nat) (M0 : Mem) (l0 : List Oper) (Q : DPost) (k0 : Nat) : Nat → List Oper → Env → Mem → Prop
  | 0, _, env, M => DAny P N M0 l0.toArray Q (l0.length - k0) (List.replicate k0 true ++ List.replicate (l0.length - k0) false).toArray env M
  | k + 1, o :: l, env, M => ∃ r d, o.dst = some d ∧ Nat.blt d N = true ∧ OpQ P N M0 l0.toArray (restr env (o.looksAt l0.toArray)) M o r ∧ DDr2 P N M0 l0 Q k0 k l ((d, r) :: env) M
  | _ + 1, [], _, _ => False

theorem DDr2.split {l0 : List Oper} {k0 : Nat} : ∀ (k : Nat) (l : List Oper) (env : Env), DDr2 P N M0 l0 Q k0 k l env M → ∃ dr : List (Nat × SV), dr.length = k ∧ k ≤ l.length ∧
    (∀ (i d : Nat) (r : SV), dr[i]? = some (d, r) → ∃ o, l[i]? = some o ∧ o.dst = some d ∧ d < N ∧ OpQ P N M0 l0.toArray (restr ((dr.take i).reverse ++ env) (o.looksAt l0.toArray)) M o r) ∧ DDr2 P N M0 l0 Q k0 0 [] (dr.reverse ++ env) M
  | 0, l, env, h => ⟨[], rfl, Nat.zero_le _, fun i d r hi => by simp at hi, h⟩
  | k + 1, [], env, h => h.elim
  | k + 1, o :: l, env, h => by
    obtain ⟨r, d, h1, h2, h3, h4⟩ := h
    obtain ⟨dr, a1, a2, a3, a4⟩ := DDr2.split k l _ h4
    refine ⟨(d, r) :: dr, by simp [a1], by simpa using a2, fun i d' r' hi => ?_, by simpa using a4⟩
    cases i with
    | zero =>
      simp at hi
      obtain ⟨rfl, rfl⟩ := hi
      exact ⟨o, rfl, h1, by simpa using h2, by simpa using h3⟩
    | succ i =>
      obtain ⟨o', b1, b2, b3, b4⟩ := a3 i d' r' (by simpa using hi)
      exact ⟨o', by simpa using b1, b2, b3, by simpa using b4⟩

theorem DCode.drawA {id : Nat} {l : List Oper} (k : Nat) (hm : P.follows .mixedOrders = true) (hok : drawOk2 l k = true) (h : DDr2 P N M0 l Q k k l env M) : DCode P N M0 (.region id l.toArray true) Q env M := by
  obtain ⟨dr, h1, h2, h3, h4⟩ := DDr2.split k l env h
  exact DCode.draw2 k hm hok dr h1 h2 h3 h4

theorem DDr2.val {l0 l : List Oper} {k0 k d : Nat} {r : SV} (hg : gd l0.toArray (restr env (o.looksAt l0.toArray)) o = some true) (hd : o.dst = some d) (hN : Nat.blt d N = true) (hv : OpVal P N (restr env (o.looksAt l0.toArray)) M o r) (h : DDr2 P N M0 l0 Q k0 k l ((d, r) :: env) M) :
    DDr2 P N M0 l0 Q k0 (k + 1) (o :: l) env M := by
  refine ⟨r, d, hd, hN, .inr ⟨hg, fun γ Pr x0 a w Q' hx hr hf => ?_⟩, h⟩
  obtain ⟨hok, v, hrun, hrep⟩ := hv γ Pr x0 a w hr
  unfold Oper.wp
  rw [hrun, Oper.upon_value]
  exact ⟨v, Pr, rfl, hrep, hok, fun e2 h2 => ⟨h2, hf⟩⟩
theorem DDr2.off {l0 l : List Oper} {k0 k d : Nat} (hg : gd l0.toArray (restr env (o.looksAt l0.toArray)) o = some false) (hd : o.dst = some d) (hN : Nat.blt d N = true) (h : DDr2 P N M0 l0 Q k0 k l ((d, .tup []) :: env) M) : DDr2 P N M0 l0 Q k0 (k + 1) (o :: l) env M :=
  ⟨.tup [], d, hd, hN, .inl ⟨hg, rfl⟩, h⟩
theorem DDr2.call {l0 l : List Oper} {k0 k d : Nat} {cl : Call} {f : FuncId} {fn : Func} {c : Code} {ts rs : List TV} (hg : gd l0.toArray (restr env (o.looksAt l0.toArray)) o = some true) (hd : o.dst = some d) (hN : Nat.blt d N = true) (ho : o.op = .call cl) (hcl : cl.callee = .value (.func f))
    (hf : P.funcs[f]? = some fn) (hb : fn.body = some c) (hn : (fn.name == "runtime.NumGoroutine") = false) (hx : opvs (restr env (o.looksAt l0.toArray)) cl.args.toList = some ts) (hp : ∀ t ∈ ts, t.pure) (hc : DCalls P f ts (· = rs))
    (h : DDr2 P N M0 l0 Q k0 k l ((d, ret1 rs) :: env) M) : DDr2 P N M0 l0 Q k0 (k + 1) (o :: l) env M := by
  refine ⟨ret1 rs, d, hd, hN, .inr ⟨hg, fun γ Pr x0 a w Q' _ hr hfr => ?_⟩, h⟩
  unfold Oper.wp
  rw [run_call ho hcl hf hb hn a.eval rfl, Oper.upon_enter]
  have hargs : cl.args.map a.eval = (cl.args.toList.map a.eval).toArray := by apply Array.ext'; rw [Array.toList_map]
  rw [hargs]
  refine (hc Pr w _ hr.prot ((opvs_rep hr _ _ hx).pure hp)).mono fun e w' ⟨us, rs', Pr', he, hB, hE, hV, hR, hP, hQ⟩ => ?_
  subst he
  subst hQ
  exact ⟨_, Pr', rfl, SRep.ret1 (hR.pure hP), ret1_ok hP, fun e2 h2 => ⟨h2.called hB hE hV, hfr.called hr hB hE⟩⟩
/-- The first ones are through: the rest, in each of its orders. -/
theorem DDr2.done {l0 l : List Oper} {k0 : Nat} {L : List Bool} (n : Nat) (hn : l0.length - k0 = n) (hL : List.replicate k0 true ++ List.replicate (l0.length - k0) false = L) (h : DAny P N M0 l0.toArray Q n L.toArray env M) : DDr2 P N M0 l0 Q k0 0 l env M := by
  subst hn hL
  exact h

/-- What is known behind a statement, told once: up's slots, ds are forgotten; mup's blocks. -/
theorem DCode.cut {c : Code} (up : Env) (ds : List Nat) (mup : Mem) (hu : okE (mup ++ M) up) (hm : okM (mup ++ M) mup)
    (h1 : DCode P N M0 c (fun e env' M' => e = .normal ∧ Sub (up ++ junks ds env) env' ∧ MSubX [] (mup ++ M) M') env M)
    (h2 : ∀ env' M', Wk N M0 env' M' (up ++ junks ds env) (mup ++ M) → Q .normal env' M') : DCode P N M0 c Q env M := by
  intro x0 a w hx hat
  obtain ⟨γ, Pr, hrel, hfr⟩ := hat
  have hh := okM_has (M := M) mup hm
  refine wp_mono (h1 x0 a w hx ⟨γ, Pr, hrel, hfr⟩) fun e a' w' ⟨env', M', hat', he, hs, hms⟩ => ?_
  subst he
  refine ⟨_, _, hat', ?_⟩
  refine h2 _ _ (Wk.both hs hms.sub (okE_lk _ _ hu fun i => ?_) (okM_get _ hm fun b k hk => Blk.ok_le hh (hrel.memB b k hk)) fun b hb => hh b (hfr.has b (by rw [hx]; exact hb)))
  rw [lk_junks]
  split
  · trivial
  · exact SV.ok_le hh (hrel.slotB i)
/-- Data told in another way. -/
theorem OpVal.re {x y : DV} (h : OpVal P N env M o (.v (.one (.d x)))) (e : DEq x y) : OpVal P N env M o (.v (.one (.d y))) := fun γ Pr x0 a w hr => by
  obtain ⟨_, v, h1, h2⟩ := h γ Pr x0 a w hr
  exact ⟨trivial, v, h1, e _ _ _ h2⟩
end
end Go.Proofs.YtdneiepigllnkaaDoor.DL
