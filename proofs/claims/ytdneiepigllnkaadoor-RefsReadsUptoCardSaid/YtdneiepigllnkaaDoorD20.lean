/- A logic of data for Go functions: a statement whose order is open, of which some operations may come at any time ahead of what needs them. No program in sight. -/
import Derived.Test.YtdneiepigllnkaaDoorD19
namespace Go.Proofs.YtdneiepigllnkaaDoor.DL
open Go.RowKit

section
variable {P : Program} {N : Nat} {ops : Array Oper} {Q : DPost} {env : Env} {M M0 : Mem} {γ : Cn} {Pr : Prot} {x0 : Ctx} {w : World} {a : Act} {o : Oper} {rest : List Oper}

/-- Nothing is asked of a panic: there is none. -/
def NP (Q : DPost) : Prop := ∀ c env M, ¬ Q (.panic c) env M
theorem NP.thenQ {K : Env → Mem → Prop} (h : NP Q) : NP (thenQ K Q) := fun c env M hq => h c env M hq
theorem NP.seqQ {y : Code} (h : NP Q) : NP (seqQ P N M0 y Q) := fun c env M hq => h c env M hq
theorem NP.inBlockQ {id : Nat} (h : NP Q) : NP (inBlockQ id Q) := fun c env M hq => h c env M hq
theorem NP.endQ {T : TypeId → Option TyI} {rs : List ResultVar} {R : List TV → Prop} : NP (endQ T rs R) := fun _ _ _ hq => hq
theorem NP.endQM {T : TypeId → Option TyI} {rs : List ResultVar} {M1 : Mem} {R : List TV → Mem → Prop} : NP (endQM T rs M1 R) := fun _ _ _ hq => hq

/-- An operation's value, whatever the world. -/
def OpLz (P : Program) (N : Nat) (ops : Array Oper) (env : Env) (o : Oper) (r : SV) : Prop :=
  gd ops env o = some true ∧ ∀ γ Pr x0 a w M, Rel γ Pr x0 N env M a w → r.ok M ∧ ∃ v, (∀ w', (execOp a.eval o).run P w' = .ok (.value v) w') ∧ SRep γ Pr w r v

def noSel (o : Oper) : Bool := match o.op with | .select .. => false | _ => true
def drawOk3 (l : List Oper) (k : Nat) (lz : List Nat) : Bool :=
  (List.range l.length).all fun i => match l[i]? with
    | none => false
    | some o => (noSel o && (ons o).all (fun j => Nat.blt j i)) && ((if i < k then
        ((o.looksAt l.toArray).all fun t => (List.range k).all fun j => match l[j]? with
          | none => false
          | some p => p.dst != some t || (Nat.blt j i && (ons o).contains j)) &&
        (List.range k).all (fun j => j == i || match l[j]? with
          | none => false
          | some p => p.dst != o.dst)
      else (List.range k).all fun j => lz.contains j || ((masks l).getD i 0).testBit j) &&
      (!lz.contains i || (Nat.blt i k && (ons o).all (fun j => lz.contains j) && (List.range l.length).all fun j => j == i || (lz.contains j && Nat.blt j i) || match l[j]? with
          | none => true
          | some p => (ons p).contains i || o.apart l.toArray p)))

structure DrawFacts3 (l : List Oper) (k : Nat) (lz : List Nat) : Prop where
  sel : ∀ (i : Nat) o, l[i]? = some o → noSel o = true
  on : ∀ (i : Nat) o, l[i]? = some o → ∀ e ∈ o.after.toList, Region.binds .any e = true → e.on < i
  look : ∀ (i : Nat) o, l[i]? = some o → i < k → ∀ t ∈ o.looksAt l.toArray, ∀ (j : Nat) p, j < k → l[j]? = some p → p.dst = some t → j < i ∧ ∃ e ∈ o.after.toList, Region.binds .any e = true ∧ e.on = j
  ne : ∀ (i j : Nat) o p, l[i]? = some o → l[j]? = some p → i < k → j < k → j ≠ i → p.dst ≠ o.dst
  tail : ∀ (i j : Nat), i < l.length → k ≤ i → j < k → lz.contains j = false → Reach l i j
  lzk : ∀ (i : Nat) o, l[i]? = some o → lz.contains i = true → i < k
  lzon : ∀ (i : Nat) o, l[i]? = some o → lz.contains i = true → ∀ j ∈ ons o, lz.contains j = true
  free : ∀ (i : Nat) o, l[i]? = some o → lz.contains i = true → ∀ (j : Nat) p, l[j]? = some p → j ≠ i → ¬ (lz.contains j = true ∧ j < i) → (ons p).contains i = false → o.apart l.toArray p = true

theorem drawOk3_facts {l : List Oper} {k : Nat} {lz : List Nat} (h : drawOk3 l k lz = true) : DrawFacts3 l k lz := by
  have h0 : ∀ (i : Nat) o, l[i]? = some o → (noSel o = true ∧ (ons o).all (fun j => Nat.blt j i) = true) ∧ (if i < k then
        ((o.looksAt l.toArray).all fun t => (List.range k).all fun j => match l[j]? with
          | none => false
          | some p => p.dst != some t || (Nat.blt j i && (ons o).contains j)) &&
        (List.range k).all (fun j => j == i || match l[j]? with
          | none => false
          | some p => p.dst != o.dst)
      else (List.range k).all fun j => lz.contains j || ((masks l).getD i 0).testBit j) = true ∧ (lz.contains i = true → (i < k ∧ (ons o).all (fun j => lz.contains j) = true) ∧ ((List.range l.length).all fun j => j == i || (lz.contains j && Nat.blt j i) || match l[j]? with
          | none => true
          | some p => (ons p).contains i || o.apart l.toArray p) = true) := fun i o ho => by
    have hlt := (List.getElem?_eq_some_iff.1 ho).1
    have := List.all_eq_true.1 h i (List.mem_range.2 hlt)
    rw [ho] at this
    simp only [] at this
    rw [Bool.and_eq_true, Bool.and_eq_true, Bool.and_eq_true] at this
    obtain ⟨h1, h2, h3⟩ := this
    refine ⟨h1, h2, fun hz => ?_⟩
    rw [hz, Bool.not_true, Bool.false_or, Bool.and_eq_true, Bool.and_eq_true] at h3
    obtain ⟨⟨h4, h5⟩, h6⟩ := h3
    exact ⟨⟨Nat.le_of_ble_eq_true h4, h5⟩, h6⟩
  refine ⟨fun i o ho => (h0 i o ho).1.1, fun i o ho e he hb => ?_, fun i o ho hi t ht j p hjk hp hd => ?_, fun i j o p ho hp hi hj hne => ?_, fun i j hl hi hj hz => ?_, fun i o ho hz => ((h0 i o ho).2.2 hz).1.1, fun i o ho hz j hj => ?_, fun i o ho hz j p hp hne hn hon => ?_⟩
  · have := List.all_eq_true.1 (h0 i o ho).1.2 e.on (by simp only [ons, List.mem_map, List.mem_filter]; exact ⟨e, ⟨he, hb⟩, rfl⟩)
    simpa using this
  · have h1 := (h0 i o ho).2.1
    rw [if_pos hi, Bool.and_eq_true] at h1
    have h2 := List.all_eq_true.1 (List.all_eq_true.1 h1.1 t ht) j (List.mem_range.2 hjk)
    rw [hp] at h2
    simp only [hd, bne_self_eq_false, Bool.false_or, Bool.and_eq_true] at h2
    exact ⟨by simpa using h2.1, mem_ons.1 h2.2⟩
  · have h1 := (h0 i o ho).2.1
    rw [if_pos hi, Bool.and_eq_true] at h1
    have h2 := List.all_eq_true.1 h1.2 j (List.mem_range.2 hj)
    rw [hp] at h2
    simp only [Bool.or_eq_true, beq_iff_eq, bne_iff_ne] at h2
    exact h2.resolve_left hne
  · have h1 := (h0 i l[i] (List.getElem?_eq_getElem hl)).2.1
    rw [if_neg (by omega)] at h1
    have h2 := List.all_eq_true.1 h1 j (List.mem_range.2 hj)
    rw [hz, Bool.false_or] at h2
    exact masks_reach l i j h2
  · exact List.all_eq_true.1 ((h0 i o ho).2.2 hz).1.2 j hj
  · have h2 := List.all_eq_true.1 ((h0 i o ho).2.2 hz).2 j (List.mem_range.2 (List.getElem?_eq_some_iff.1 hp).1)
    rw [hp] at h2
    simp only [] at h2
    rw [hon, Bool.false_or, Bool.or_eq_true, Bool.or_eq_true] at h2
    rcases h2 with (h2 | h2) | h2
    · exact absurd (by simpa using h2) hne
    · rw [Bool.and_eq_true] at h2
      exact absurd ⟨h2.1, Nat.le_of_ble_eq_true h2.2⟩ hn
    · exact h2

theorem wpAny_draw3 {l : List Oper} {k : Nat} {lz : List Nat} (F : DrawFacts3 l k lz) {dr : List (Nat × SV)} (hlen : dr.length = k) (hkl : k ≤ l.length)
    (hdr : ∀ (i d : Nat) (r : SV), dr[i]? = some (d, r) → ∃ o, l[i]? = some o ∧ o.dst = some d ∧ d < N ∧ OpQ P N M0 l.toArray (restr ((dr.take i).reverse ++ env) (o.looksAt l.toArray)) M o r)
    (hend : DAny P N M0 l.toArray Q (l.length - k) (List.replicate k true ++ List.replicate (l.length - k) false).toArray (dr.reverse ++ env) M) {x0 : Ctx} (hx : x0.M0 = M0) : ∀ (fuel : Nat) (listed : Array Bool) (a : Act) (w : World),
    ((List.range l.length).countP fun j => !listed.getD j true) ≤ fuel → (∀ j, lz.contains j = true → j < l.length → listed.getD j true = true) → listed.size = l.length → (∀ j, k ≤ j → j < l.length → listed.getD j true = false) → (∀ (i : Nat) o, l[i]? = some o → listed.getD i false = true → ∀ j ∈ ons o, listed.getD j false = true) →
    At x0 N (envS env dr fun j => listed.getD j false) M a w → wpAny P .any l.toArray (up x0 N Q) fuel listed a w := by
  have hap : Apart dr := fun i j d x d' x' h1 h2 hne => by
    obtain ⟨o, a1, a2, _⟩ := hdr i d x h1
    obtain ⟨p, b1, b2, _⟩ := hdr j d' x' h2
    have := F.ne i j o p a1 b1 (by rw [← hlen]; exact (List.getElem?_eq_some_iff.1 h1).1) (by rw [← hlen]; exact (List.getElem?_eq_some_iff.1 h2).1) (Ne.symm hne)
    rw [a2, b2] at this
    exact fun e => this (by rw [e])
  have final : ∀ (fuel : Nat) (listed : Array Bool) (a : Act) (w : World), l.length - k ≤ fuel → listed.size = l.length → (∀ j, j < k → listed.getD j true = true) → (∀ j, k ≤ j → j < l.length → listed.getD j true = false) →
      At x0 N (envS env dr fun j => listed.getD j false) M a w → wpAny P .any l.toArray (up x0 N Q) fuel listed a w := fun fuel listed a w hf hs hall hrest hat => by
    have hfl : listed = (List.replicate k true ++ List.replicate (l.length - k) false).toArray := by
      apply Array.ext
      · simp [hs]; omega
      · intro i h1 h2
        by_cases hik : i < k
        · have := hall i hik
          rw [Array.getD_eq_getD_getElem?, Array.getElem?_eq_getElem h1] at this
          simp only [Option.getD_some] at this
          rw [this]
          simp [hik]
        · have := hrest i (by omega) (by omega)
          rw [Array.getD_eq_getD_getElem?, Array.getElem?_eq_getElem h1] at this
          simp only [Option.getD_some] at this
          rw [this]
          simp [List.getElem_append, hik]
    have gd2 : ∀ j, j < l.length → listed.getD j false = listed.getD j true := fun j hj => by
      rw [Array.getD_eq_getD_getElem?, Array.getD_eq_getD_getElem?, Array.getElem?_eq_getElem (by omega)]; rfl
    have hat2 : At x0 N (dr.reverse ++ env) M a w := by
      refine Wk.slots (M0 := M0) (fun t => .inr ?_) x0 a w hx hat
      have h1 := lk_append_rev (env := env) hap dr.length (Nat.le_refl _) t
      rw [List.take_length] at h1
      rw [h1]
      by_cases hex2 : ∃ (i d : Nat) (x : SV), dr[i]? = some (d, x) ∧ d = t
      · obtain ⟨i, d, x, h2, h3⟩ := hex2
        have hi := (List.getElem?_eq_some_iff.1 h2).1
        rw [(lk_envS hap _ t).1 i d x h2 h3, (lk_envS hap _ t).1 i d x h2 h3]
        have := hall i (by omega)
        rw [gd2 i (by omega), this]
        simp [hi]
      · have hn : ∀ (i d : Nat) (x : SV), dr[i]? = some (d, x) → d ≠ t := fun i d x h1 h2 => hex2 ⟨i, d, x, h1, h2⟩
        rw [(lk_envS hap _ t).2 hn, (lk_envS hap _ t).2 hn]
    have := (DAny.more _ fuel _ _ _ hf hend).wp _ _ _ _ x0 a w hx hat2
    rw [← hfl] at this
    exact this
  intro fuel
  induction fuel with
  | zero =>
    intro listed a w hc hz hs hrest hcl hat
    have hall : ∀ j, j < l.length → listed.getD j true = true := fun j hj => by
      have := List.countP_eq_zero.1 (Nat.le_zero.1 hc) j (List.mem_range.2 hj)
      simpa using this
    have hk : k = l.length := by
      refine Decidable.byContradiction fun hne => ?_
      have := hall k (by omega)
      rw [hrest k (Nat.le_refl _) (by omega)] at this
      cases this
    exact final 0 listed a w (by omega) hs (fun j hj => hall j (by omega)) hrest hat
  | succ fuel ih =>
    intro listed a w hc hz hs hrest hcl hat
    have gd2 : ∀ j, j < l.length → listed.getD j false = listed.getD j true := fun j hj => by
      rw [Array.getD_eq_getD_getElem?, Array.getD_eq_getD_getElem?, Array.getElem?_eq_getElem (by omega)]; rfl
    by_cases hex : ∃ j, j < k ∧ listed.getD j true = false
    · -- the least that is not listed
      have least : ∀ n, (∃ j, j < n ∧ j < k ∧ listed.getD j true = false) → ∃ j, j < k ∧ listed.getD j true = false ∧ ∀ i, i < j → listed.getD i true = true := by
        intro n
        induction n with
        | zero => intro ⟨j, hj, _⟩; omega
        | succ n ihn =>
          intro ⟨j, hj, hjk, hjl⟩
          by_cases hsm : ∃ i, i < j ∧ listed.getD i true = false
          · obtain ⟨i, hi, hil⟩ := hsm
            exact ihn ⟨i, by omega, by omega, hil⟩
          · exact ⟨j, hjk, hjl, fun i hi => by
              cases hb : listed.getD i true with
              | true => rfl
              | false => exact absurd ⟨i, hi, hb⟩ hsm⟩
      obtain ⟨j0, hj0, hj0l, hmin⟩ := least k (let ⟨j, h1, h2⟩ := hex; ⟨j, h1, h1, h2⟩)
      have hj0n : j0 < l.length := by omega
      have hmem : j0 ∈ Region.ready .any l.toArray listed := ready_of (by simpa using hj0n) hj0l (o := l[j0]) (by simp [hj0n]) fun e he hb => by
        have hlt := F.on j0 _ (List.getElem?_eq_getElem hj0n) e he hb
        rw [gd2 _ (by omega)]
        exact hmin _ hlt
      refine ⟨fun h0 => (by rw [h0] at hmem; cases hmem), fun i hi => ?_⟩
      obtain ⟨h1, h2, o, ho', h3⟩ := mem_ready hi
      have h1' : i < l.length := by simpa using h1
      have ho : l[i]? = some o := by simpa using ho'
      have hik : i < k := by
        refine Decidable.byContradiction fun hn => ?_
        have hr := reach_listed (S := fun j => listed.getD j false) hcl (F.tail i j0 h1' (by omega) (by omega) (by cases hb : lz.contains j0 with | false => rfl | true => (rw [hz j0 hb hj0n] at hj0l; cases hj0l))) fun o2 ho2 j hj => by
          rw [ho] at ho2
          obtain rfl := Option.some.inj ho2
          obtain ⟨e, he, hb, hon⟩ := mem_ons.1 (List.contains_iff_mem.2 hj)
          rw [← hon]
          exact h3 e he hb
        rw [gd2 j0 hj0n, hj0l] at hr
        cases hr
      obtain ⟨d, r, hdr1⟩ : ∃ d r, dr[i]? = some (d, r) := ⟨dr[i].1, dr[i].2, List.getElem?_eq_getElem (by omega)⟩
      obtain ⟨o2, ho2, hd, hdN, hq⟩ := hdr i d r hdr1
      rw [ho] at ho2
      obtain rfl := Option.some.inj ho2
      refine wpOp_of_OpQ ho' hd hdN hx hq (fun t => ?_) hat (fun a' w' hat' => ?_)
      · rcases lk_restr ((dr.take i).reverse ++ env) (o.looksAt l.toArray) t with hj | ⟨ht, he⟩
        · exact .inl hj
        · refine .inr (he.trans ?_)
          rw [lk_append_rev hap i (by omega) t]
          by_cases hex2 : ∃ (j d : Nat) (x : SV), dr[j]? = some (d, x) ∧ d = t
          · obtain ⟨j, d', x, g1, g2⟩ := hex2
            rw [(lk_envS hap _ t).1 j d' x g1 g2, (lk_envS hap _ t).1 j d' x g1 g2]
            obtain ⟨p, hp1, hp2, _⟩ := hdr j d' x g1
            obtain ⟨hji, e, he1, he2, he3⟩ := F.look i o ho hik t ht j p (by rw [← hlen]; exact (List.getElem?_eq_some_iff.1 g1).1) hp1 (by rw [hp2, g2])
            have := h3 e he1 he2
            rw [he3] at this
            rw [this]
            simp [hji]
          · have hn : ∀ (j d : Nat) (x : SV), dr[j]? = some (d, x) → d ≠ t := fun i d x h1 h2 => hex2 ⟨i, d, x, h1, h2⟩
            rw [(lk_envS hap _ t).2 hn, (lk_envS hap _ t).2 hn]
      · refine ih _ a' w' ?_ (fun j hj hjl => ?_) (by simpa using hs) (fun j hj hjl => ?_) (fun i2 o2 ho2 hl2 j hj => ?_) (Wk.slots (fun t => .inr ?_) x0 a' w' hx hat')
        · have := unl_lt h1' h2
          omega
        · rw [Array.getD_eq_getD_getElem?, Array.getElem?_setIfInBounds]
          split
          · split <;> rfl
          · rw [← Array.getD_eq_getD_getElem?]; exact hz j hj hjl
        · rw [Array.getD_eq_getD_getElem?, Array.getElem?_setIfInBounds_ne (by omega), ← Array.getD_eq_getD_getElem?]
          exact hrest j hj hjl
        · have hin : i < listed.size := by omega
          have get : ∀ j, (listed.setIfInBounds i true).getD j false = if i = j then true else listed.getD j false := fun j => by
            rw [Array.getD_eq_getD_getElem?, Array.getD_eq_getD_getElem?, Array.getElem?_setIfInBounds]
            split
            · rename_i e; subst e; simp [hin]
            · rfl
          rw [get] at hl2 ⊢
          split
          · rfl
          · split at hl2
            · rename_i e; subst e
              rw [ho] at ho2
              obtain rfl := Option.some.inj ho2
              obtain ⟨e, he, hb, hon⟩ := mem_ons.1 (List.contains_iff_mem.2 hj)
              rw [← hon]
              exact h3 e he hb
            · exact hcl i2 o2 ho2 hl2 j hj
        · rw [lk_cons]
          by_cases hdt : d = t
          · rw [if_pos hdt, (lk_envS hap _ t).1 i d r hdr1 hdt]
            rw [if_pos]
            simp [Array.getD_eq_getD_getElem?, hs, h1']
          · rw [if_neg hdt]
            by_cases hex2 : ∃ (j d : Nat) (x : SV), dr[j]? = some (d, x) ∧ d = t
            · obtain ⟨j, d', x, g1, g2⟩ := hex2
              rw [(lk_envS hap _ t).1 j d' x g1 g2, (lk_envS hap _ t).1 j d' x g1 g2]
              have hne : i ≠ j := fun e => by
                subst e
                rw [hdr1] at g1
                injection g1 with g1
                injection g1 with g1 _
                exact hdt (g1.trans g2)
              rw [Array.getD_eq_getD_getElem?, Array.getElem?_setIfInBounds_ne hne, ← Array.getD_eq_getD_getElem?]
            · have hn : ∀ (j d : Nat) (x : SV), dr[j]? = some (d, x) → d ≠ t := fun i d x h1 h2 => hex2 ⟨i, d, x, h1, h2⟩
              rw [(lk_envS hap _ t).2 hn, (lk_envS hap _ t).2 hn]
    · have hall : ∀ j, j < k → listed.getD j true = true := fun j hj => by
        cases hb : listed.getD j true with
        | true => rfl
        | false => exact absurd ⟨j, hj, hb⟩ hex
      refine final (fuel + 1) listed a w (Nat.le_trans ?_ hc) hs hall hrest hat
      have : ∀ n, k ≤ n → n ≤ l.length → n - k ≤ (List.range n).countP fun j => !listed.getD j true := by
        intro n
        induction n with
        | zero => intro _ _; omega
        | succ n ihn =>
          intro h1 h2
          rw [List.range_succ, List.countP_append]
          by_cases hkn : k ≤ n
          · have := ihn hkn (by omega)
            have h3 : (List.countP (fun j => !listed.getD j true) [n]) = 1 := by
              rw [List.countP_cons, List.countP_nil, hrest n hkn (by omega)]; rfl
            omega
          · omega
      exact this _ hkl (Nat.le_refl _)



/-- Step by step: the first ones, of which the lazy ones' values hang on no world. -/
def DDr3 (P : Program) (N : Nat) (M0 : Mem) (l0 : List Oper) (Q : DPost) (k0 : Nat) (lz : List Nat) : Nat → Nat → List Oper → Env → Mem → Prop
  | _, 0, _, env, M => DAny P N M0 l0.toArray Q (l0.length - k0) (List.replicate k0 true ++ List.replicate (l0.length - k0) false).toArray env M
  | i, k + 1, o :: l, env, M => ∃ r d, o.dst = some d ∧ Nat.blt d N = true ∧ OpQ P N M0 l0.toArray (restr env (o.looksAt l0.toArray)) M o r ∧ (lz.contains i = true → OpLz P N l0.toArray (restr env (o.looksAt l0.toArray)) o r) ∧ DDr3 P N M0 l0 Q k0 lz (i + 1) k l ((d, r) :: env) M
  | _, _ + 1, [], _, _ => False

theorem DDr3.split {l0 : List Oper} {k0 : Nat} {lz : List Nat} : ∀ (k n : Nat) (l : List Oper) (env : Env), DDr3 P N M0 l0 Q k0 lz n k l env M → ∃ dr : List (Nat × SV), dr.length = k ∧ k ≤ l.length ∧
    (∀ (i d : Nat) (r : SV), dr[i]? = some (d, r) → ∃ o, l[i]? = some o ∧ o.dst = some d ∧ d < N ∧ OpQ P N M0 l0.toArray (restr ((dr.take i).reverse ++ env) (o.looksAt l0.toArray)) M o r ∧ (lz.contains (n + i) = true → OpLz P N l0.toArray (restr ((dr.take i).reverse ++ env) (o.looksAt l0.toArray)) o r)) ∧ DDr3 P N M0 l0 Q k0 lz (n + k) 0 [] (dr.reverse ++ env) M
  | 0, n, l, env, h => ⟨[], rfl, Nat.zero_le _, fun i d r hi => by simp at hi, h⟩
  | k + 1, n, [], env, h => h.elim
  | k + 1, n, o :: l, env, h => by
    obtain ⟨r, d, h1, h2, h3, hz, h4⟩ := h
    obtain ⟨dr, a1, a2, a3, a4⟩ := DDr3.split k (n + 1) l _ h4
    refine ⟨(d, r) :: dr, by simp [a1], by simpa using a2, fun i d' r' hi => ?_, by rw [show n + (k + 1) = n + 1 + k by omega]; simpa using a4⟩
    cases i with
    | zero =>
      simp at hi
      obtain ⟨rfl, rfl⟩ := hi
      exact ⟨o, rfl, h1, by simpa using h2, by simpa using h3, by simpa using hz⟩
    | succ i =>
      obtain ⟨o', b1, b2, b3, b4, b5⟩ := a3 i d' r' (by simpa using hi)
      exact ⟨o', by simpa using b1, b2, b3, by simpa using b4, by rw [show n + (i + 1) = n + 1 + i by omega]; simpa using b5⟩

theorem lt_of_getD {listed : Array Bool} {j : Nat} (h : listed.getD j true = false) : j < listed.size := by
  refine Decidable.byContradiction fun hn => ?_
  rw [Array.getD_eq_getD_getElem?, Array.getElem?_eq_none (by omega)] at h
  cases h

theorem DCode.drawZ {id : Nat} {l : List Oper} (k : Nat) (lz : List Nat) (hm : P.follows .mixedOrders = true) (hok : drawOk3 l k lz = true) (np : NP Q) (h : DDr3 P N M0 l Q k lz 0 k l env M) : DCode P N M0 (.region id l.toArray true) Q env M := by
  have F := drawOk3_facts hok
  obtain ⟨dr, hlen, hkl, hdr, hend⟩ := DDr3.split k 0 l env h
  have hap : Apart dr := fun i j d x d' x' h1 h2 hne => by
    obtain ⟨o, a1, a2, _⟩ := hdr i d x h1
    obtain ⟨p, b1, b2, _⟩ := hdr j d' x' h2
    have := F.ne i j o p a1 b1 (by rw [← hlen]; exact (List.getElem?_eq_some_iff.1 h1).1) (by rw [← hlen]; exact (List.getElem?_eq_some_iff.1 h2).1) (Ne.symm hne)
    rw [a2, b2] at this
    exact fun e => this (by rw [e])
  intro x0 a w hx hat
  refine wp_region_any hm ?_
  -- the lazy ones are taken first, one behind the other
  have take : ∀ (m n : Nat), n + m = l.length → ∀ (fuel : Nat) (listed : Array Bool) (a : Act) (w : World), ((List.range l.length).countP fun j => !listed.getD j true) ≤ fuel → listed.size = l.length →
      (∀ j, j < l.length → listed.getD j true = (lz.contains j && decide (j < n))) → At x0 N (envS env dr fun j => listed.getD j false) M a w → wpAny P .any l.toArray (up x0 N Q) fuel listed a w := by
    intro m
    induction m with
    | zero =>
      intro n hn fuel listed a w hc hs hl hat
      have gd2 : ∀ j, j < l.length → listed.getD j false = listed.getD j true := fun j hj => by
        rw [Array.getD_eq_getD_getElem?, Array.getD_eq_getD_getElem?, Array.getElem?_eq_getElem (by omega)]; rfl
      refine wpAny_draw3 F hlen hkl (fun i d r hi => let ⟨o, a1, a2, a3, a4, _⟩ := hdr i d r hi; ⟨o, a1, a2, a3, a4⟩) hend hx fuel listed a w hc (fun j hj hjl => ?_) hs (fun j hj hjl => ?_) (fun i o ho hli j hj => ?_) hat
      · rw [hl j hjl, hj, decide_eq_true (by omega)]; rfl
      · rw [hl j hjl]
        cases hb : lz.contains j with
        | false => rfl
        | true => exact absurd (F.lzk j _ (List.getElem?_eq_getElem hjl) hb) (by omega)
      · have hil := (List.getElem?_eq_some_iff.1 ho).1
        rw [gd2 i hil, hl i hil, Bool.and_eq_true] at hli
        have hjz := F.lzon i o ho hli.1 j hj
        obtain ⟨e, he, hb, hon⟩ := mem_ons.1 (List.contains_iff_mem.2 hj)
        have hji := F.on i o ho e he hb
        rw [gd2 j (by omega), hl j (by omega), hjz, decide_eq_true (by omega)]
        rfl
    | succ m ih =>
      intro n hn fuel listed a w hc hs hl hat
      have hnl : n < l.length := by omega
      have gd2 : ∀ j, j < l.length → listed.getD j false = listed.getD j true := fun j hj => by
        rw [Array.getD_eq_getD_getElem?, Array.getD_eq_getD_getElem?, Array.getElem?_eq_getElem (by omega)]; rfl
      cases hz : lz.contains n with
      | false =>
        refine ih (n + 1) (by omega) fuel listed a w hc hs (fun j hj => ?_) hat
        rw [hl j hj]
        by_cases e : j = n
        · subst e; rw [hz]; rfl
        · congr 1
          exact decide_eq_decide.2 (by omega)
      | true =>
        have ho := List.getElem?_eq_getElem hnl
        have hnk := F.lzk n _ ho hz
        obtain ⟨d, r, hdr1⟩ : ∃ d r, dr[n]? = some (d, r) := ⟨dr[n].1, dr[n].2, List.getElem?_eq_getElem (by omega)⟩
        obtain ⟨o2, ho2, hd, hdN, _, hq⟩ := hdr n d r hdr1
        rw [ho] at ho2
        obtain rfl := Option.some.inj ho2
        obtain ⟨hg, hq⟩ := hq (by rw [Nat.zero_add]; exact hz)
        have hun : listed.getD n true = false := by rw [hl n hnl, hz, decide_eq_false (by omega)]; rfl
        -- what the operation looks at is known
        obtain ⟨γ1, Pr1, hr1, hf1⟩ := hat
        have hsub : Sub (restr ((dr.take n).reverse ++ env) (l[n].looksAt l.toArray)) (envS env dr fun j => listed.getD j false) := fun t => by
          rcases lk_restr ((dr.take n).reverse ++ env) (l[n].looksAt l.toArray) t with hj | ⟨ht, he⟩
          · exact .inl hj
          · refine .inr (he.trans ?_)
            rw [lk_append_rev hap n (by omega) t]
            by_cases hex2 : ∃ (j d : Nat) (x : SV), dr[j]? = some (d, x) ∧ d = t
            · obtain ⟨j, d', x, g1, g2⟩ := hex2
              rw [(lk_envS hap _ t).1 j d' x g1 g2, (lk_envS hap _ t).1 j d' x g1 g2]
              obtain ⟨p, hp1, hp2, _⟩ := hdr j d' x g1
              obtain ⟨hji, e, he1, he2, he3⟩ := F.look n _ ho hnk t ht j p (by rw [← hlen]; exact (List.getElem?_eq_some_iff.1 g1).1) hp1 (by rw [hp2, g2])
              have hjz : lz.contains j = true := F.lzon n _ ho hz j (List.contains_iff_mem.1 (mem_ons.2 ⟨e, he1, he2, he3⟩))
              rw [gd2 j (by omega), hl j (by omega), hjz]
              simp [hji]
            · have hnn : ∀ (j d : Nat) (x : SV), dr[j]? = some (d, x) → d ≠ t := fun i d x h1 h2 => hex2 ⟨i, d, x, h1, h2⟩
              rw [(lk_envS hap _ t).2 hnn, (lk_envS hap _ t).2 hnn]
        have hr2 : Rel γ1 Pr1 x0 N (restr ((dr.take n).reverse ++ env) (l[n].looksAt l.toArray)) M a w := hr1.weak hsub (fun _ => .inr rfl) (fun i => (hsub i).elim (fun e => by rw [e]; trivial) (fun e => by rw [e]; exact hr1.slotB i)) hr1.memB
        obtain ⟨hok, v, hrun, hrep⟩ := hq γ1 Pr1 x0 a w M hr2
        have hw : Region.wanted l[n] (yielded l.toArray a.tmps) = true := gd_wanted (ops := l.toArray) hr2 hg
        cases fuel with
        | zero =>
          have := List.countP_eq_zero.1 (Nat.le_zero.1 hc) n (List.mem_range.2 hnl)
          rw [hun] at this
          exact absurd rfl this
        | succ fuel =>
          have hon : l.toArray[n]? = some l[n] := by simp [hnl]
          refine wpAny_first (oi := l[n]) (v := v) hon (fun j o cs b hj => ?_) (fun c a w hp => ?_) fuel listed a w (fun j oj hj hne hlj hno => ?_) ?_ (.inl ⟨hw, hrun⟩) ?_
          · have := F.sel j o (by simpa using hj)
            intro e
            rw [noSel, e] at this
            cases this
          · obtain ⟨env', M', _, hp⟩ := hp
            exact absurd hp (np c env' M')
          · refine F.free n _ ho hz j oj (by simpa using hj) hne (fun hh => ?_) ?_
            · have hjl : j < l.length := by have := lt_of_getD hlj; omega
              rw [hl j hjl, hh.1, decide_eq_true hh.2] at hlj
              cases hlj
            · cases hb : (ons oj).contains n with
              | false => rfl
              | true =>
                obtain ⟨e, he, hb, hon⟩ := mem_ons.1 hb
                exact absurd hon (hno e (by simpa using he) hb)
          · refine ready_of (by simpa using hnl) hun hon fun e he hb => ?_
            have hlt := F.on n _ ho e he hb
            have hjz := F.lzon n _ ho hz e.on (List.contains_iff_mem.1 (mem_ons.2 ⟨e, he, hb, rfl⟩))
            rw [gd2 _ (by omega), hl _ (by omega), hjz, decide_eq_true hlt]
            rfl
          · refine ih (n + 1) (by omega) fuel _ _ w ?_ (by simpa using hs) (fun j hj => ?_) ?_
            · have := unl_lt hnl hun
              omega
            · rw [Array.getD_eq_getD_getElem?, Array.getElem?_setIfInBounds]
              by_cases e : n = j
              · subst e
                rw [if_pos rfl, if_pos (show n < listed.size by omega), hz, decide_eq_true (Nat.lt_succ_self n)]
                rfl
              · rw [if_neg e, ← Array.getD_eq_getD_getElem?, hl j hj]
                congr 1
                exact decide_eq_decide.2 (by omega)
            · rw [hd]
              have hrel : Rel γ1 Pr1 x0 N ((d, r) :: envS env dr fun j => listed.getD j false) M (a.put (some d) v) w := hr1.put (dst := some d) (fun d' h => by injection h with h; rw [← h]; exact hdN) hrep hok
              refine Wk.slots (fun t => .inr ?_) x0 _ w hx ⟨γ1, Pr1, hrel, hf1⟩
              rw [lk_cons]
              by_cases hdt : d = t
              · rw [if_pos hdt, (lk_envS hap _ t).1 n d r hdr1 hdt]
                rw [if_pos]
                simp [Array.getD_eq_getD_getElem?, hs, hnl]
              · rw [if_neg hdt]
                by_cases hex2 : ∃ (j d : Nat) (x : SV), dr[j]? = some (d, x) ∧ d = t
                · obtain ⟨j, d', x, g1, g2⟩ := hex2
                  rw [(lk_envS hap _ t).1 j d' x g1 g2, (lk_envS hap _ t).1 j d' x g1 g2]
                  have hne : n ≠ j := fun e => by
                    subst e
                    rw [hdr1] at g1
                    injection g1 with g1
                    injection g1 with g1 _
                    exact hdt (g1.trans g2)
                  rw [Array.getD_eq_getD_getElem?, Array.getElem?_setIfInBounds_ne hne, ← Array.getD_eq_getD_getElem?]
                · have hnn : ∀ (j d : Nat) (x : SV), dr[j]? = some (d, x) → d ≠ t := fun i d x h1 h2 => hex2 ⟨i, d, x, h1, h2⟩
                  rw [(lk_envS hap _ t).2 hnn, (lk_envS hap _ t).2 hnn]
  refine take l.length 0 (by omega) _ _ a _ ?_ (by simp) (fun j hj => ?_) ?_
  · refine Nat.le_trans (List.countP_le_length) ?_
    simp
  · simp [Array.getD_eq_getD_getElem?, hj]
  · refine Wk.slots (fun t => .inr ?_) x0 a _ hx hat.drew
    have := lk_envS_go env (fun j => (Array.replicate l.toArray.size false).getD j false) dr 0 t
    rcases this with ⟨i, d, x, _, h2, _⟩ | ⟨_, h2⟩
    · exfalso
      simp [Array.getD_eq_getD_getElem?, Array.getElem?_replicate] at h2
      split at h2 <;> cases h2
    · exact h2

section
variable {l0 l : List Oper} {k0 i k d : Nat} {lz : List Nat} {r : SV}
theorem DDr3.val (hz : lz.contains i = false) (hg : gd l0.toArray (restr env (o.looksAt l0.toArray)) o = some true) (hd : o.dst = some d) (hN : Nat.blt d N = true) (hv : OpVal P N (restr env (o.looksAt l0.toArray)) M o r) (h : DDr3 P N M0 l0 Q k0 lz (i + 1) k l ((d, r) :: env) M) :
    DDr3 P N M0 l0 Q k0 lz i (k + 1) (o :: l) env M := by
  refine ⟨r, d, hd, hN, .inr ⟨hg, fun γ Pr x0 a w Q' hx hr hf => ?_⟩, fun e => (by rw [hz] at e; cases e), h⟩
  obtain ⟨hok, v, hrun, hrep⟩ := hv γ Pr x0 a w hr
  unfold Oper.wp
  rw [hrun, Oper.upon_value]
  exact ⟨v, Pr, rfl, hrep, hok, fun e2 h2 => ⟨h2, hf⟩⟩
theorem DDr3.valE (hz : lz.contains i = false) (hg : gd l0.toArray (restr env (o.looksAt l0.toArray)) o = some true) (hd : o.dst = some d) (hN : Nat.blt d N = true) (h : ∃ r, OpVal P N (restr env (o.looksAt l0.toArray)) M o r ∧ DDr3 P N M0 l0 Q k0 lz (i + 1) k l ((d, r) :: env) M) : DDr3 P N M0 l0 Q k0 lz i (k + 1) (o :: l) env M :=
  let ⟨_, h1, h2⟩ := h
  DDr3.val hz hg hd hN h1 h2
theorem DDr3.off (hz : lz.contains i = false) (hg : gd l0.toArray (restr env (o.looksAt l0.toArray)) o = some false) (hd : o.dst = some d) (hN : Nat.blt d N = true) (h : DDr3 P N M0 l0 Q k0 lz (i + 1) k l ((d, .tup []) :: env) M) : DDr3 P N M0 l0 Q k0 lz i (k + 1) (o :: l) env M :=
  ⟨.tup [], d, hd, hN, .inl ⟨hg, rfl⟩, fun e => (by rw [hz] at e; cases e), h⟩
theorem DDr3.call {cl : Call} {f : FuncId} {fn : Func} {c : Code} {ts rs : List TV} (hz : lz.contains i = false) (hg : gd l0.toArray (restr env (o.looksAt l0.toArray)) o = some true) (hd : o.dst = some d) (hN : Nat.blt d N = true) (ho : o.op = .call cl) (hcl : cl.callee = .value (.func f))
    (hf : P.funcs[f]? = some fn) (hb : fn.body = some c) (hn : (fn.name == "runtime.NumGoroutine") = false) (hx : opvs (restr env (o.looksAt l0.toArray)) cl.args.toList = some ts) (hp : ∀ t ∈ ts, t.pure) (hc : DCalls P f ts (· = rs))
    (h : DDr3 P N M0 l0 Q k0 lz (i + 1) k l ((d, ret1 rs) :: env) M) : DDr3 P N M0 l0 Q k0 lz i (k + 1) (o :: l) env M := by
  refine ⟨ret1 rs, d, hd, hN, .inr ⟨hg, fun γ Pr x0 a w Q' _ hr hfr => ?_⟩, fun e => (by rw [hz] at e; cases e), h⟩
  unfold Oper.wp
  rw [run_call ho hcl hf hb hn a.eval rfl, Oper.upon_enter]
  have hargs : cl.args.map a.eval = (cl.args.toList.map a.eval).toArray := by apply Array.ext'; rw [Array.toList_map]
  rw [hargs]
  refine (hc Pr w _ hr.prot ((opvs_rep hr _ _ hx).pure hp)).mono fun e w' ⟨us, rs', Pr', he, hB, hE, hV, hR, hP, hQ⟩ => ?_
  subst he
  subst hQ
  exact ⟨_, Pr', rfl, SRep.ret1 (hR.pure hP), ret1_ok hP, fun e2 h2 => ⟨h2.called hB hE hV, hfr.called hr hB hE⟩⟩
theorem DDr3.done {L : List Bool} (n : Nat) (hn : l0.length - k0 = n) (hL : List.replicate k0 true ++ List.replicate (l0.length - k0) false = L) (h : DAny P N M0 l0.toArray Q n L.toArray env M) : DDr3 P N M0 l0 Q k0 lz i 0 l env M := by
  subst hn hL
  exact h
/-- A lazy one: its value hangs on no world. -/
theorem DDr3.lazy (hd : o.dst = some d) (hN : Nat.blt d N = true) (hz : OpLz P N l0.toArray (restr env (o.looksAt l0.toArray)) o r) (h : DDr3 P N M0 l0 Q k0 lz (i + 1) k l ((d, r) :: env) M) : DDr3 P N M0 l0 Q k0 lz i (k + 1) (o :: l) env M := by
  refine ⟨r, d, hd, hN, .inr ⟨hz.1, fun γ Pr x0 a w Q' hx hr hf => ?_⟩, fun _ => hz, h⟩
  obtain ⟨hok, v, hrun, hrep⟩ := hz.2 γ Pr x0 a w M hr
  unfold Oper.wp
  rw [hrun w, Oper.upon_value]
  exact ⟨v, Pr, rfl, hrep, hok, fun e2 h2 => ⟨h2, hf⟩⟩
def SV.free : SV → Bool
  | .v (.one (.d _)) | .v (.one (.row _ _)) | .v (.one (.rp _ _ _)) | .v (.agg []) => true
  | _ => false
theorem SV.free_ok {r : SV} (h : r.free = true) (M : Mem) : r.ok M := by
  unfold SV.free at h
  split at h
  · trivial
  · trivial
  · trivial
  · intro c hc; cases hc
  · cases h
theorem OpLz.move {x : Operand} (hg : gd ops env o = some true) (ho : o.op = .move x) (hx : opv env x = r) (hf : r.free = true) : OpLz P N ops env o r := by
  refine ⟨hg, fun γ Pr x0 a w M h => ⟨SV.free_ok hf M, a.eval x, fun w' => ?_, ?_⟩⟩
  · simp [execOp, ho]
  · have := h.opv x
    rwa [hx] at this
end
end
end Go.Proofs.YtdneiepigllnkaaDoor.DL
