/- law25: the sort's merge in place, on a row of boxes. -/
import Derived.Test.YtejdeonbibbchaaGreatDoorHj
set_option linter.unusedVariables false
set_option linter.unusedSimpArgs false
set_option linter.constructorNameAsVariable false
namespace Go.Proofs.YtejdeonbibbchaaGreatDoor
open Go Go.RowKit Go.Proofs.YtejdeonbibbchaaGreatDoor.DL
set_option linter.unusedVariables false
set_option linter.unusedSimpArgs false
attribute [local irreducible] DCode DOps OpVal DCalls DCallsM DCallsB DCallsR thenQ seqQ inBlockQ endQ endQM OpNew DCf

theorem BS_lt {f : Nat → Bool} {lo hi : Nat} (h : lo < hi) : BS f lo hi = if f ((lo + hi) / 2) then BS f ((lo + hi) / 2 + 1) hi else BS f lo ((lo + hi) / 2) := by
  rw [BS, if_pos h]
theorem BS_stop {f : Nat → Bool} {lo : Nat} : BS f lo lo = lo := by rw [BS, if_neg (by omega)]

theorem symStart_bnd (lt : Int → Int → Bool) (xs : List Int) (a m b : Nat) (h1 : a < m) (h2 : m < b) : a ≤ symStart lt xs a m b ∧ symStart lt xs a m b ≤ m ∧ symStart lt xs a m b ≤ (a + b) / 2 ∧ (a + b) / 2 + m ≤ b + symStart lt xs a m b := by
  have bnd : ∀ (n : Nat) (f : Nat → Bool) (lo hi : Nat), hi - lo ≤ n → lo ≤ hi → lo ≤ BS f lo hi ∧ BS f lo hi ≤ hi := by
    intro n
    induction n with
    | zero => intro f lo hi h h'; obtain rfl : lo = hi := by omega
              rw [BS_stop]; omega
    | succ n ih =>
      intro f lo hi h h'
      by_cases hlt : lo < hi
      · rw [BS_lt hlt]
        split
        · have := ih f ((lo + hi) / 2 + 1) hi (by omega) (by omega); omega
        · have := ih f lo ((lo + hi) / 2) (by omega) (by omega); omega
      · obtain rfl : lo = hi := by omega
        rw [BS_stop]; omega
  rw [symStart]
  split
  · have := bnd _ (fun k => !lt (gI xs ((a + b) / 2 + m - 1 - k)) (gI xs k)) ((a + b) / 2 + m - b) ((a + b) / 2) (Nat.le_refl _) (by omega); omega
  · have := bnd _ (fun k => !lt (gI xs ((a + b) / 2 + m - 1 - k)) (gI xs k)) a m (Nat.le_refl _) (by omega); omega
theorem BS_bnd (f : Nat → Bool) : ∀ (n lo hi : Nat), hi - lo ≤ n → lo ≤ hi → lo ≤ BS f lo hi ∧ BS f lo hi ≤ hi := by
  intro n
  induction n with
  | zero => intro lo hi h h'; obtain rfl : lo = hi := by omega
            rw [BS_stop]; omega
  | succ n ih =>
    intro lo hi h h'
    by_cases hlt : lo < hi
    · rw [BS_lt hlt]
      split
      · have := ih ((lo + hi) / 2 + 1) hi (by omega) (by omega); omega
      · have := ih lo ((lo + hi) / 2) (by omega) (by omega); omega
    · obtain rfl : lo = hi := by omega
      rw [BS_stop]; omega
theorem symM_perm (lt : Int → Int → Bool) : ∀ (n : Nat) (xs : List Int) (a m b : Nat), b - a ≤ n → a < m → m < b → b ≤ xs.length → (symM lt n xs a m b).Perm xs
  | 0, xs, a, m, b, h, h1, h2, _ => by omega
  | n + 1, xs, a, m, b, hf, h1, h2, hb => by
    rw [symM]
    split
    · have := BS_bnd (fun h => lt (gI xs h) (gI xs a)) _ m b (Nat.le_refl _) (by omega)
      exact (Rg.upS (A := a) (B := b) _ (Nat.le_refl _) (by omega) hb).perm
    · split
      · have := BS_bnd (fun h => !lt (gI xs m) (gI xs h)) _ a m (Nat.le_refl _) (by omega)
        exact (Rg.dnS (A := a) (B := b) _ (by omega) h2 hb).perm
      · have hs := symStart_bnd lt xs a m b h1 h2
        simp only []
        generalize symStart lt xs a m b = st at hs ⊢
        have p1 : (if st < m ∧ m < (a + b) / 2 + m - st then rot xs m (m - st) ((a + b) / 2 + m - st - m) else xs).Perm xs := by
          split
          · rename_i h
            exact (rot_spec _ xs m (m - st) ((a + b) / 2 + m - st - m) (Nat.le_refl _) (by omega) (by omega) (by omega) (by omega)).1.perm
          · exact .refl _
        generalize (if st < m ∧ m < (a + b) / 2 + m - st then rot xs m (m - st) ((a + b) / 2 + m - st - m) else xs) = ys at p1 ⊢
        have l1 := p1.length_eq
        have p2 : (if a < st ∧ st < (a + b) / 2 then symM lt n ys a st ((a + b) / 2) else ys).Perm xs := by
          split
          · rename_i h
            exact (symM_perm lt n ys a st _ (by omega) h.1 h.2 (by omega)).trans p1
          · exact p1
        generalize (if a < st ∧ st < (a + b) / 2 then symM lt n ys a st ((a + b) / 2) else ys) = zs at p2 ⊢
        have l2 := p2.length_eq
        split
        · rename_i h
          exact (symM_perm lt n zs _ _ b (by omega) h.1 h.2 (by omega)).trans p2
        · exact p2

set_option maxRecDepth 10000 in
set_option maxHeartbeats 32000000 in
theorem symMerge_d (l : List Bx) : ∀ (n : Nat) (xs : List Int) (a m b : Nat), b - a ≤ n → a < m → m < b → b ≤ xs.length → xs.length ≤ 4194304 → InR l xs →
    DCallsR Tryz.prog 65 37 9 xs.length (bC l xs) [it a, it m, it b, .one (.d (FC l))] [] (fun cs => cs = bC l (symM (ltX l) n xs a m b))
  | 0, xs, a, m, b, hf, h1, h2, _, _, _ => by omega
  | n + 1, xs, a, m, b, hf, h1, h2, hb, hn, hr => by
    refine DCallsR.of0 (fun t ht => by cases ht) (bC_pure xs) (pures_cons pure_sc (pures_cons pure_sc (pures_cons pure_sc (pures_cons trivial pures_nil)))) (fun cs' h => by rw [h]; exact bC_pure _) fun v => ?_
    refine DCallsM.enter tt_ok Tryz.func65 rfl Tryz.ntmps65 (by simp) ?_
    have hlx : ∀ i j, ltX l (gI xs i) (gI xs j) = decide (cmpX l (xs.getD i 0) (xs.getD j 0) < 0) := fun _ _ => rfl
    by_cases c1 : m = a + 1
    · have hS : symM (ltX l) (n + 1) xs a m b = upS xs a (BS (fun h => ltX l (gI xs h) (gI xs a)) m b - 1 - a) := by rw [symM, if_pos c1]
      repeat (first | refine q_seq ?_ | refine DCode.seq ?_ | refine DCode.region ?_ | refine DCode.block ?_ | refine DCode.condT rfl ?_ | refine DOps.nil ?_ | (refine DOps.valK 0 rfl rfl rfl rfl ?_; first | refine ⟨_, (OpVal.move rfl rfl), ?_⟩) | (refine DOps.valK 1 rfl rfl rfl rfl ?_; first | refine ⟨_, (OpVal.assign rfl rfl), ?_⟩) | (refine DOps.valK 11 rfl rfl rfl rfl ?_; first | refine ⟨_, (OpVal.sub rfl rfl rfl (by omega) (by omega)), ?_⟩) | (refine DOps.k 12 rfl ?_; first | refine DOps.cmpT rfl rfl rfl rfl rfl rfl rfl (by omega) ?_ | refine DOps.cmpF rfl rfl rfl rfl rfl rfl rfl (by omega) ?_))
      refine DCode.loopG (fun s : Nat × Nat => [(10, vI .i64 (s.1 : Nat)), (11, vI .i64 (s.2 : Nat))]) [10, 11, 12, 31, 32, 33, 34, 35, 36, 37, 38, 39, 40, 41, 42, 43, 44, 45, 46, 47, 48, 49, 50, 51, 52, 53] (fun _ => []) (fun s => m ≤ s.1 ∧ s.1 ≤ s.2 ∧ s.2 ≤ b ∧ BS (fun h => ltX l (gI xs h) (gI xs a)) s.1 s.2 = BS (fun h => ltX l (gI xs h) (gI xs a)) m b) (fun s => s.2 - s.1) (m, b) ⟨Nat.le_refl _, Nat.le_of_lt h2, Nat.le_refl _, rfl⟩ (fun i _ => ⟨trivial, trivial, trivial⟩) (fun i _ => trivial) (by (repeat (first | exact Off.refl _ _ | refine Sub.base ?_ | refine Sub.junk ?_ | refine Sub.cons (by rfl) ?_ | refine Off.cons rfl ?_ | refine Off.junks rfl ?_))) (by (repeat (first | exact MSubX.nil | refine MSubX.skip rfl ?_ | refine MSubX.cons (by rfl) ?_))) ?_
      intro ⟨lo, hi⟩ ⟨k1, k2, k3, k4⟩
      simp only [] at k1 k2 k3 k4
      show DCode _ _ _ _ _ ([(10, vI .i64 (lo : Nat)), (11, vI .i64 (hi : Nat))] ++ junks _ _) ([] ++ _)
      by_cases hlt : lo < hi
      · rw [BS_lt hlt] at k4
        have cc := fc_d l (hr.get (by omega : (lo + hi) / 2 < xs.length)) (hr.get (by omega : a < xs.length))
        by_cases hc : cmpX l (xs.getD ((lo + hi) / 2) 0) (xs.getD a 0) < 0
        · rw [if_pos (by rw [hlx]; exact decide_eq_true hc)] at k4
          repeat (first | refine q_seq ?_ | refine DCode.seq ?_ | refine DCode.region ?_ | refine DCode.block ?_ | refine DCode.skip ?_ | refine DCode.condT rfl ?_ | (refine DOps.valK 26 rfl rfl rfl rfl ?_; refine ⟨_, OpVal.toU tt_ok rfl rfl rfl rfl (by omega) (by omega), ?_⟩) | (refine DOps.valK 26 rfl rfl rfl rfl ?_; refine ⟨_, OpVal.toI tt_ok rfl rfl rfl rfl (by omega) (by omega), ?_⟩) | (refine DOps.valK 15 rfl rfl rfl rfl ?_; refine ⟨_, OpVal.half rfl rfl rfl, ?_⟩) | refine DOps.nil ?_ | (refine DOps.valK 0 rfl rfl rfl rfl ?_; first | refine ⟨_, (OpVal.move rfl rfl), ?_⟩) | (refine DOps.valK 1 rfl rfl rfl rfl ?_; first | refine ⟨_, (OpVal.assign rfl rfl), ?_⟩) | (refine DOps.valK 10 rfl rfl rfl rfl ?_; first | refine ⟨_, (OpVal.add rfl rfl rfl (by omega) (by omega)), ?_⟩) | (refine DOps.k 14 rfl ?_; first | refine DOps.cmpT rfl rfl rfl rfl rfl rfl rfl (by omega) ?_ | refine DOps.cmpF rfl rfl rfl rfl rfl rfl rfl (by omega) ?_))
          (repeat refine DCode.seq ?_) <;> refine DCode.conf [] [] (by kernel_rfl) (by kernel_rfl) ?_
          repeat (first | (refine DCf.valK 19 rfl rfl (fun _ => rfl) rfl rfl ?_; refine ⟨_, fun _ _ _ => OpVal.iaR tt_ok rfl rfl rfl rfl rfl rfl rfl (by omega) (by omega), ?_⟩) | (refine DCf.valK 3 rfl rfl (fun _ => rfl) rfl rfl ?_; refine ⟨_, fun _ _ _ => OpVal.loadRB (j := a) tt_ok rfl rfl rfl rfl rfl (by omega) (by omega), ?_⟩) | (refine DCf.valK 3 rfl rfl (fun _ => rfl) rfl rfl ?_; refine ⟨_, fun _ _ _ => OpVal.loadRB (j := (lo + hi) / 2) tt_ok rfl rfl rfl rfl rfl (by omega) (by omega), ?_⟩) | refine DCf.callV rfl (fun _ => rfl) rfl rfl rfl rfl (fun _ => rfl) Tryz.func33 rfl (by kernel_rfl) (fun _ => rfl) (by repeat (first | exact pures_nil | refine pures_cons ?_ ?_ | exact trivial | exact pure_aggB rfl | exact arr_pure _ | exact Load.pure _ | exact Area.pure _ | exact dvs_pure _ | exact pure_sc | exact pure_sl)) cc ?_ | (refine DCf.valK 0 rfl rfl (fun _ => rfl) rfl rfl ?_; first | refine ⟨_, fun _ _ _ => (OpVal.move rfl rfl), ?_⟩) | (refine DCf.valK 14 rfl rfl (fun _ => rfl) rfl rfl ?_; first | refine ⟨_, fun _ _ _ => (OpVal.cmp rfl rfl rfl rfl).1 (by omega), ?_⟩))
          refine DCf.done ?_
          repeat (first | refine q_seq ?_ | refine q_then ?_ | refine q_block ?_ | refine DCode.region ?_ | refine DCode.condT rfl ?_ | refine DOps.nil ?_ | (refine DOps.valK 0 rfl rfl rfl rfl ?_; first | refine ⟨_, (OpVal.move rfl rfl), ?_⟩) | (refine DOps.valK 1 rfl rfl rfl rfl ?_; first | refine ⟨_, (OpVal.assign rfl rfl), ?_⟩) | (refine DOps.valK 10 rfl rfl rfl rfl ?_; first | refine ⟨_, (OpVal.add rfl rfl rfl (by omega) (by omega)), ?_⟩))
          exact ⟨((lo + hi) / 2 + 1, hi), ⟨by show m ≤ (lo + hi) / 2 + 1; omega, by show (lo + hi) / 2 + 1 ≤ hi; omega, k3, k4⟩, by show hi - ((lo + hi) / 2 + 1) < hi - lo; omega, Sub.cons (vI_congr (by (try dsimp only); omega)) (by (repeat (first | exact Off.refl _ _ | refine Sub.base ?_ | refine Sub.junk ?_ | refine Sub.cons (by rfl) ?_ | refine Off.cons rfl ?_ | refine Off.junks rfl ?_))), by (repeat (first | exact MSubX.nil | refine MSubX.skip rfl ?_ | refine MSubX.cons (by rfl) ?_))⟩
        · rw [if_neg (by rw [hlx]; simpa using hc)] at k4
          repeat (first | refine q_seq ?_ | refine DCode.seq ?_ | refine DCode.region ?_ | refine DCode.block ?_ | refine DCode.skip ?_ | refine DCode.condT rfl ?_ | (refine DOps.valK 26 rfl rfl rfl rfl ?_; refine ⟨_, OpVal.toU tt_ok rfl rfl rfl rfl (by omega) (by omega), ?_⟩) | (refine DOps.valK 26 rfl rfl rfl rfl ?_; refine ⟨_, OpVal.toI tt_ok rfl rfl rfl rfl (by omega) (by omega), ?_⟩) | (refine DOps.valK 15 rfl rfl rfl rfl ?_; refine ⟨_, OpVal.half rfl rfl rfl, ?_⟩) | refine DOps.nil ?_ | (refine DOps.valK 0 rfl rfl rfl rfl ?_; first | refine ⟨_, (OpVal.move rfl rfl), ?_⟩) | (refine DOps.valK 1 rfl rfl rfl rfl ?_; first | refine ⟨_, (OpVal.assign rfl rfl), ?_⟩) | (refine DOps.valK 10 rfl rfl rfl rfl ?_; first | refine ⟨_, (OpVal.add rfl rfl rfl (by omega) (by omega)), ?_⟩) | (refine DOps.k 14 rfl ?_; first | refine DOps.cmpT rfl rfl rfl rfl rfl rfl rfl (by omega) ?_ | refine DOps.cmpF rfl rfl rfl rfl rfl rfl rfl (by omega) ?_))
          (repeat refine DCode.seq ?_) <;> refine DCode.conf [] [] (by kernel_rfl) (by kernel_rfl) ?_
          repeat (first | (refine DCf.valK 19 rfl rfl (fun _ => rfl) rfl rfl ?_; refine ⟨_, fun _ _ _ => OpVal.iaR tt_ok rfl rfl rfl rfl rfl rfl rfl (by omega) (by omega), ?_⟩) | (refine DCf.valK 3 rfl rfl (fun _ => rfl) rfl rfl ?_; refine ⟨_, fun _ _ _ => OpVal.loadRB (j := a) tt_ok rfl rfl rfl rfl rfl (by omega) (by omega), ?_⟩) | (refine DCf.valK 3 rfl rfl (fun _ => rfl) rfl rfl ?_; refine ⟨_, fun _ _ _ => OpVal.loadRB (j := (lo + hi) / 2) tt_ok rfl rfl rfl rfl rfl (by omega) (by omega), ?_⟩) | refine DCf.callV rfl (fun _ => rfl) rfl rfl rfl rfl (fun _ => rfl) Tryz.func33 rfl (by kernel_rfl) (fun _ => rfl) (by repeat (first | exact pures_nil | refine pures_cons ?_ ?_ | exact trivial | exact pure_aggB rfl | exact arr_pure _ | exact Load.pure _ | exact Area.pure _ | exact dvs_pure _ | exact pure_sc | exact pure_sl)) cc ?_ | (refine DCf.valK 0 rfl rfl (fun _ => rfl) rfl rfl ?_; first | refine ⟨_, fun _ _ _ => (OpVal.move rfl rfl), ?_⟩) | (refine DCf.valK 14 rfl rfl (fun _ => rfl) rfl rfl ?_; first | refine ⟨_, fun _ _ _ => (OpVal.cmp rfl rfl rfl rfl).2 (by omega), ?_⟩))
          refine DCf.done ?_
          repeat (first | refine q_seq ?_ | refine q_then ?_ | refine q_block ?_ | refine DCode.region ?_ | refine DCode.condF rfl ?_ | refine DOps.nil ?_ | (refine DOps.valK 0 rfl rfl rfl rfl ?_; first | refine ⟨_, (OpVal.move rfl rfl), ?_⟩) | (refine DOps.valK 1 rfl rfl rfl rfl ?_; first | refine ⟨_, (OpVal.assign rfl rfl), ?_⟩))
          exact ⟨(lo, (lo + hi) / 2), ⟨k1, by show lo ≤ (lo + hi) / 2; omega, by show (lo + hi) / 2 ≤ b; omega, k4⟩, by show (lo + hi) / 2 - lo < hi - lo; omega, Sub.cons (by rfl) (Sub.cons (vI_congr (by (try dsimp only); omega)) (by (repeat (first | exact Off.refl _ _ | refine Sub.base ?_ | refine Sub.junk ?_ | refine Sub.cons (by rfl) ?_ | refine Off.cons rfl ?_ | refine Off.junks rfl ?_)))), by (repeat (first | exact MSubX.nil | refine MSubX.skip rfl ?_ | refine MSubX.cons (by rfl) ?_))⟩
      · obtain rfl : lo = hi := by omega
        rw [BS_stop] at k4
        rw [← k4] at hS
        repeat (first | refine q_seq ?_ | refine q_seqX ?_ | refine q_thenX ?_ | refine q_blockX ?_ | refine DCode.seq ?_ | refine DCode.region ?_ | refine DCode.block ?_ | refine DCode.exit ?_ | refine DCode.condF rfl ?_ | refine DOps.nil ?_ | (refine DOps.valK 0 rfl rfl rfl rfl ?_; first | refine ⟨_, (OpVal.move rfl rfl), ?_⟩) | (refine DOps.valK 1 rfl rfl rfl rfl ?_; first | refine ⟨_, (OpVal.assign rfl rfl), ?_⟩) | (refine DOps.k 14 rfl ?_; first | refine DOps.cmpT rfl rfl rfl rfl rfl rfl rfl (by omega) ?_ | refine DOps.cmpF rfl rfl rfl rfl rfl rfl rfl (by omega) ?_))
        refine DCode.loopG (fun k : Nat => [(13, vI .i64 ((a + k : Nat) : Int))]) [13, 55, 56, 57, 58, 59, 60, 61, 62, 63, 64, 65, 66, 67, 68, 69, 70, 71, 72, 73, 74, 75, 76] (fun k => [(0, some (.row 37 9 xs.length v (bC l (upS xs a k)) false))]) (fun k => k ≤ lo - 1 - a) (fun k => lo - 1 - a - k) 0 (Nat.zero_le _) (fun i _ => ⟨trivial, trivial⟩) (fun i _ => ⟨rowOk _ _ _ _ _, trivial⟩) (Sub.cons (vI_congr (by omega)) (by (repeat (first | exact Off.refl _ _ | refine Sub.base ?_ | refine Sub.junk ?_ | refine Sub.cons (by rfl) ?_ | refine Off.cons rfl ?_ | refine Off.junks rfl ?_)))) (by (repeat (first | exact MSubX.nil | refine MSubX.skip rfl ?_ | refine MSubX.cons (by rfl) ?_))) ?_
        intro k hk
        show DCode _ _ _ _ _ ([(13, vI .i64 ((a + k : Nat) : Int))] ++ junks _ _) ([(0, some (.row 37 9 xs.length v (bC l (upS xs a k)) false))] ++ _)
        by_cases hlt : k < lo - 1 - a
        · have hnx : upS xs a (k + 1) = swp (upS xs a k) (a + k) (a + k + 1) := rfl
          have hl := upS_length xs a k
          generalize upS xs a k = ys at hl hnx ⊢
          repeat (first | refine q_seq ?_ | refine DCode.seq ?_ | refine DCode.region ?_ | refine DCode.block ?_ | refine DCode.skip ?_ | refine DCode.condT rfl ?_ | refine DOps.nil ?_ | (refine DOps.valK 0 rfl rfl rfl rfl ?_; first | refine ⟨_, (OpVal.move rfl rfl), ?_⟩) | (refine DOps.valK 11 rfl rfl rfl rfl ?_; first | refine ⟨_, (OpVal.sub rfl rfl rfl (by omega) (by omega)), ?_⟩) | (refine DOps.k 14 rfl ?_; first | refine DOps.cmpT rfl rfl rfl rfl rfl rfl rfl (by omega) ?_ | refine DOps.cmpF rfl rfl rfl rfl rfl rfl rfl (by omega) ?_))
          (repeat refine DCode.seq ?_) <;> refine DCode.conf [(15, 0, 0), (17, 0, 0)] [([], []), ([], []), ([], [0]), ([], [0]), ([], [0])] (by kernel_rfl) (by kernel_rfl) ?_
          repeat (first | (refine DCf.valK 19 rfl rfl (fun _ => rfl) rfl rfl ?_; refine ⟨_, fun _ _ _ => OpVal.iaR tt_ok rfl rfl rfl rfl rfl rfl rfl (by omega) (by omega), ?_⟩) | (refine DCf.valK 3 rfl rfl (fun _ => rfl) rfl rfl ?_; refine ⟨_, fun _ _ _ => OpVal.loadRB (j := a + k + 1) tt_ok rfl rfl rfl rfl rfl (by omega) (by omega), ?_⟩) | (refine DCf.valK 3 rfl rfl (fun _ => rfl) rfl rfl ?_; refine ⟨_, fun _ _ _ => OpVal.loadRB (j := a + k) tt_ok rfl rfl rfl rfl rfl (by omega) (by omega), ?_⟩) | refine DCf.storeRB (j := a + k) tt_ok rfl rfl (fun _ => rfl) rfl (fun _ => rfl) (fun _ => rfl) rfl rfl (fun _ _ => rfl) (by omega) (by omega) rfl ?_ | refine DCf.storeRB (j := a + k + 1) tt_ok rfl rfl (fun _ => rfl) rfl (fun _ => rfl) (fun _ => rfl) rfl rfl (fun _ _ => rfl) (by omega) (by simp; omega) rfl ?_ | (refine DCf.valK 0 rfl rfl (fun _ => rfl) rfl rfl ?_; first | refine ⟨_, fun _ _ _ => (OpVal.move rfl rfl), ?_⟩) | (refine DCf.valK 10 rfl rfl (fun _ => rfl) rfl rfl ?_; first | refine ⟨_, fun _ _ _ => (OpVal.add rfl rfl rfl (by omega) (by omega)), ?_⟩))
          refine DCf.done ?_
          repeat (first | refine q_seq ?_ | refine q_then ?_ | refine q_block ?_ | refine DCode.region ?_ | refine DOps.nil ?_ | (refine DOps.valK 0 rfl rfl rfl rfl ?_; first | refine ⟨_, (OpVal.move rfl rfl), ?_⟩) | (refine DOps.valK 1 rfl rfl rfl rfl ?_; first | refine ⟨_, (OpVal.assign rfl rfl), ?_⟩) | (refine DOps.valK 10 rfl rfl rfl rfl ?_; first | refine ⟨_, (OpVal.add rfl rfl rfl (by omega) (by omega)), ?_⟩))
          exact ⟨k + 1, by omega, by omega, Sub.cons (vI_congr (by omega)) (by (repeat (first | exact Off.refl _ _ | refine Sub.base ?_ | refine Sub.junk ?_ | refine Sub.cons (by rfl) ?_ | refine Off.cons rfl ?_ | refine Off.junks rfl ?_))), by rw [hnx]; (repeat (first | exact MSubX.nil | refine MSubX.skip rfl ?_ | refine MSubX.cons (by rfl) ?_))⟩
        · obtain rfl : k = lo - 1 - a := by omega
          repeat (first | refine q_seq ?_ | refine q_seqX ?_ | refine q_seqR ?_ | refine q_thenX ?_ | refine q_blockX ?_ | refine DCode.seq ?_ | refine DCode.region ?_ | refine DCode.exit ?_ | refine DCode.ret ?_ | refine DCode.condF rfl ?_ | refine DOps.nil ?_ | (refine DOps.valK 0 rfl rfl rfl rfl ?_; first | refine ⟨_, (OpVal.move rfl rfl), ?_⟩) | (refine DOps.valK 11 rfl rfl rfl rfl ?_; first | refine ⟨_, (OpVal.sub rfl rfl rfl (by omega) (by omega)), ?_⟩) | (refine DOps.k 14 rfl ?_; first | refine DOps.cmpT rfl rfl rfl rfl rfl rfl rfl (by omega) ?_ | refine DOps.cmpF rfl rfl rfl rfl rfl rfl rfl (by omega) ?_))
          rw [hS]
          exact endQM.row (.inr rfl) rfl .nil (fun t h => by cases h) rfl (bC_pure _) rfl
    by_cases c2 : b = m + 1
    · have hS : symM (ltX l) (n + 1) xs a m b = dnS xs m (m - BS (fun h => !ltX l (gI xs m) (gI xs h)) a m) := by rw [symM, if_neg c1, if_pos c2]
      repeat (first | refine q_seq ?_ | refine DCode.seq ?_ | refine DCode.region ?_ | refine DCode.block ?_ | refine DCode.skip ?_ | refine DCode.condT rfl ?_ | refine DCode.condF rfl ?_ | refine DOps.nil ?_ | (refine DOps.valK 0 rfl rfl rfl rfl ?_; first | refine ⟨_, (OpVal.move rfl rfl), ?_⟩) | (refine DOps.valK 1 rfl rfl rfl rfl ?_; first | refine ⟨_, (OpVal.assign rfl rfl), ?_⟩) | (refine DOps.valK 11 rfl rfl rfl rfl ?_; first | refine ⟨_, (OpVal.sub rfl rfl rfl (by omega) (by omega)), ?_⟩) | (refine DOps.k 12 rfl ?_; first | refine DOps.cmpT rfl rfl rfl rfl rfl rfl rfl (by omega) ?_ | refine DOps.cmpF rfl rfl rfl rfl rfl rfl rfl (by omega) ?_))
      refine DCode.loopG (fun s : Nat × Nat => [(14, vI .i64 (s.1 : Nat)), (15, vI .i64 (s.2 : Nat))]) [14, 15, 16, 83, 84, 85, 86, 87, 88, 89, 90, 91, 92, 93, 94, 95, 96, 97, 98, 99, 100, 101, 102, 103, 104, 105, 106] (fun _ => []) (fun s => a ≤ s.1 ∧ s.1 ≤ s.2 ∧ s.2 ≤ m ∧ BS (fun h => !ltX l (gI xs m) (gI xs h)) s.1 s.2 = BS (fun h => !ltX l (gI xs m) (gI xs h)) a m) (fun s => s.2 - s.1) (a, m) ⟨Nat.le_refl _, Nat.le_of_lt h1, Nat.le_refl _, rfl⟩ (fun i _ => ⟨trivial, trivial, trivial⟩) (fun i _ => trivial) (by (repeat (first | exact Off.refl _ _ | refine Sub.base ?_ | refine Sub.junk ?_ | refine Sub.cons (by rfl) ?_ | refine Off.cons rfl ?_ | refine Off.junks rfl ?_))) (by (repeat (first | exact MSubX.nil | refine MSubX.skip rfl ?_ | refine MSubX.cons (by rfl) ?_))) ?_
      intro ⟨lo, hi⟩ ⟨k1, k2, k3, k4⟩
      simp only [] at k1 k2 k3 k4
      show DCode _ _ _ _ _ ([(14, vI .i64 (lo : Nat)), (15, vI .i64 (hi : Nat))] ++ junks _ _) ([] ++ _)
      by_cases hlt : lo < hi
      · rw [BS_lt hlt] at k4
        have cc := fc_d l (hr.get (by omega : m < xs.length)) (hr.get (by omega : (lo + hi) / 2 < xs.length))
        by_cases hc : cmpX l (xs.getD m 0) (xs.getD ((lo + hi) / 2) 0) < 0
        · rw [if_neg (by rw [hlx]; simpa using hc)] at k4
          repeat (first | refine q_seq ?_ | refine DCode.seq ?_ | refine DCode.region ?_ | refine DCode.block ?_ | refine DCode.skip ?_ | refine DCode.condT rfl ?_ | (refine DOps.valK 26 rfl rfl rfl rfl ?_; refine ⟨_, OpVal.toU tt_ok rfl rfl rfl rfl (by omega) (by omega), ?_⟩) | (refine DOps.valK 26 rfl rfl rfl rfl ?_; refine ⟨_, OpVal.toI tt_ok rfl rfl rfl rfl (by omega) (by omega), ?_⟩) | (refine DOps.valK 15 rfl rfl rfl rfl ?_; refine ⟨_, OpVal.half rfl rfl rfl, ?_⟩) | refine DOps.nil ?_ | (refine DOps.valK 0 rfl rfl rfl rfl ?_; first | refine ⟨_, (OpVal.move rfl rfl), ?_⟩) | (refine DOps.valK 1 rfl rfl rfl rfl ?_; first | refine ⟨_, (OpVal.assign rfl rfl), ?_⟩) | (refine DOps.valK 10 rfl rfl rfl rfl ?_; first | refine ⟨_, (OpVal.add rfl rfl rfl (by omega) (by omega)), ?_⟩) | (refine DOps.k 14 rfl ?_; first | refine DOps.cmpT rfl rfl rfl rfl rfl rfl rfl (by omega) ?_ | refine DOps.cmpF rfl rfl rfl rfl rfl rfl rfl (by omega) ?_))
          (repeat refine DCode.seq ?_) <;> refine DCode.conf [] [] (by kernel_rfl) (by kernel_rfl) ?_
          repeat (first | (refine DCf.valK 19 rfl rfl (fun _ => rfl) rfl rfl ?_; refine ⟨_, fun _ _ _ => OpVal.iaR tt_ok rfl rfl rfl rfl rfl rfl rfl (by omega) (by omega), ?_⟩) | (refine DCf.valK 3 rfl rfl (fun _ => rfl) rfl rfl ?_; refine ⟨_, fun _ _ _ => OpVal.loadRB (j := m) tt_ok rfl rfl rfl rfl rfl (by omega) (by omega), ?_⟩) | (refine DCf.valK 3 rfl rfl (fun _ => rfl) rfl rfl ?_; refine ⟨_, fun _ _ _ => OpVal.loadRB (j := (lo + hi) / 2) tt_ok rfl rfl rfl rfl rfl (by omega) (by omega), ?_⟩) | refine DCf.callV rfl (fun _ => rfl) rfl rfl rfl rfl (fun _ => rfl) Tryz.func33 rfl (by kernel_rfl) (fun _ => rfl) (by repeat (first | exact pures_nil | refine pures_cons ?_ ?_ | exact trivial | exact pure_aggB rfl | exact arr_pure _ | exact Load.pure _ | exact Area.pure _ | exact dvs_pure _ | exact pure_sc | exact pure_sl)) cc ?_ | (refine DCf.valK 0 rfl rfl (fun _ => rfl) rfl rfl ?_; first | refine ⟨_, fun _ _ _ => (OpVal.move rfl rfl), ?_⟩) | (refine DCf.valK 16 rfl rfl (fun _ => rfl) rfl rfl ?_; first | refine ⟨_, fun _ _ _ => (OpVal.notB rfl rfl), ?_⟩) | (refine DCf.valK 14 rfl rfl (fun _ => rfl) rfl rfl ?_; first | refine ⟨_, fun _ _ _ => (OpVal.cmp rfl rfl rfl rfl).1 (by omega), ?_⟩))
          refine DCf.done ?_
          repeat (first | refine q_seq ?_ | refine q_then ?_ | refine q_block ?_ | refine DCode.region ?_ | refine DCode.condF rfl ?_ | refine DOps.nil ?_ | (refine DOps.valK 0 rfl rfl rfl rfl ?_; first | refine ⟨_, (OpVal.move rfl rfl), ?_⟩) | (refine DOps.valK 1 rfl rfl rfl rfl ?_; first | refine ⟨_, (OpVal.assign rfl rfl), ?_⟩))
          exact ⟨(lo, (lo + hi) / 2), ⟨k1, by show lo ≤ (lo + hi) / 2; omega, by show (lo + hi) / 2 ≤ m; omega, k4⟩, by show (lo + hi) / 2 - lo < hi - lo; omega, Sub.cons (by rfl) (Sub.cons (vI_congr (by (try dsimp only); omega)) (by (repeat (first | exact Off.refl _ _ | refine Sub.base ?_ | refine Sub.junk ?_ | refine Sub.cons (by rfl) ?_ | refine Off.cons rfl ?_ | refine Off.junks rfl ?_)))), by (repeat (first | exact MSubX.nil | refine MSubX.skip rfl ?_ | refine MSubX.cons (by rfl) ?_))⟩
        · rw [if_pos (by rw [hlx]; simpa using hc)] at k4
          repeat (first | refine q_seq ?_ | refine DCode.seq ?_ | refine DCode.region ?_ | refine DCode.block ?_ | refine DCode.skip ?_ | refine DCode.condT rfl ?_ | (refine DOps.valK 26 rfl rfl rfl rfl ?_; refine ⟨_, OpVal.toU tt_ok rfl rfl rfl rfl (by omega) (by omega), ?_⟩) | (refine DOps.valK 26 rfl rfl rfl rfl ?_; refine ⟨_, OpVal.toI tt_ok rfl rfl rfl rfl (by omega) (by omega), ?_⟩) | (refine DOps.valK 15 rfl rfl rfl rfl ?_; refine ⟨_, OpVal.half rfl rfl rfl, ?_⟩) | refine DOps.nil ?_ | (refine DOps.valK 0 rfl rfl rfl rfl ?_; first | refine ⟨_, (OpVal.move rfl rfl), ?_⟩) | (refine DOps.valK 1 rfl rfl rfl rfl ?_; first | refine ⟨_, (OpVal.assign rfl rfl), ?_⟩) | (refine DOps.valK 10 rfl rfl rfl rfl ?_; first | refine ⟨_, (OpVal.add rfl rfl rfl (by omega) (by omega)), ?_⟩) | (refine DOps.k 14 rfl ?_; first | refine DOps.cmpT rfl rfl rfl rfl rfl rfl rfl (by omega) ?_ | refine DOps.cmpF rfl rfl rfl rfl rfl rfl rfl (by omega) ?_))
          (repeat refine DCode.seq ?_) <;> refine DCode.conf [] [] (by kernel_rfl) (by kernel_rfl) ?_
          repeat (first | (refine DCf.valK 19 rfl rfl (fun _ => rfl) rfl rfl ?_; refine ⟨_, fun _ _ _ => OpVal.iaR tt_ok rfl rfl rfl rfl rfl rfl rfl (by omega) (by omega), ?_⟩) | (refine DCf.valK 3 rfl rfl (fun _ => rfl) rfl rfl ?_; refine ⟨_, fun _ _ _ => OpVal.loadRB (j := m) tt_ok rfl rfl rfl rfl rfl (by omega) (by omega), ?_⟩) | (refine DCf.valK 3 rfl rfl (fun _ => rfl) rfl rfl ?_; refine ⟨_, fun _ _ _ => OpVal.loadRB (j := (lo + hi) / 2) tt_ok rfl rfl rfl rfl rfl (by omega) (by omega), ?_⟩) | refine DCf.callV rfl (fun _ => rfl) rfl rfl rfl rfl (fun _ => rfl) Tryz.func33 rfl (by kernel_rfl) (fun _ => rfl) (by repeat (first | exact pures_nil | refine pures_cons ?_ ?_ | exact trivial | exact pure_aggB rfl | exact arr_pure _ | exact Load.pure _ | exact Area.pure _ | exact dvs_pure _ | exact pure_sc | exact pure_sl)) cc ?_ | (refine DCf.valK 0 rfl rfl (fun _ => rfl) rfl rfl ?_; first | refine ⟨_, fun _ _ _ => (OpVal.move rfl rfl), ?_⟩) | (refine DCf.valK 16 rfl rfl (fun _ => rfl) rfl rfl ?_; first | refine ⟨_, fun _ _ _ => (OpVal.notB rfl rfl), ?_⟩) | (refine DCf.valK 14 rfl rfl (fun _ => rfl) rfl rfl ?_; first | refine ⟨_, fun _ _ _ => (OpVal.cmp rfl rfl rfl rfl).2 (by omega), ?_⟩))
          refine DCf.done ?_
          repeat (first | refine q_seq ?_ | refine q_then ?_ | refine q_block ?_ | refine DCode.region ?_ | refine DCode.condT rfl ?_ | refine DOps.nil ?_ | (refine DOps.valK 0 rfl rfl rfl rfl ?_; first | refine ⟨_, (OpVal.move rfl rfl), ?_⟩) | (refine DOps.valK 1 rfl rfl rfl rfl ?_; first | refine ⟨_, (OpVal.assign rfl rfl), ?_⟩) | (refine DOps.valK 10 rfl rfl rfl rfl ?_; first | refine ⟨_, (OpVal.add rfl rfl rfl (by omega) (by omega)), ?_⟩))
          exact ⟨((lo + hi) / 2 + 1, hi), ⟨by show a ≤ (lo + hi) / 2 + 1; omega, by show (lo + hi) / 2 + 1 ≤ hi; omega, k3, k4⟩, by show hi - ((lo + hi) / 2 + 1) < hi - lo; omega, Sub.cons (vI_congr (by (try dsimp only); omega)) (by (repeat (first | exact Off.refl _ _ | refine Sub.base ?_ | refine Sub.junk ?_ | refine Sub.cons (by rfl) ?_ | refine Off.cons rfl ?_ | refine Off.junks rfl ?_))), by (repeat (first | exact MSubX.nil | refine MSubX.skip rfl ?_ | refine MSubX.cons (by rfl) ?_))⟩
      · obtain rfl : lo = hi := by omega
        rw [BS_stop] at k4
        rw [← k4] at hS
        repeat (first | refine q_seq ?_ | refine q_seqX ?_ | refine q_thenX ?_ | refine q_blockX ?_ | refine DCode.seq ?_ | refine DCode.region ?_ | refine DCode.block ?_ | refine DCode.exit ?_ | refine DCode.condF rfl ?_ | refine DOps.nil ?_ | (refine DOps.valK 0 rfl rfl rfl rfl ?_; first | refine ⟨_, (OpVal.move rfl rfl), ?_⟩) | (refine DOps.valK 1 rfl rfl rfl rfl ?_; first | refine ⟨_, (OpVal.assign rfl rfl), ?_⟩) | (refine DOps.k 14 rfl ?_; first | refine DOps.cmpT rfl rfl rfl rfl rfl rfl rfl (by omega) ?_ | refine DOps.cmpF rfl rfl rfl rfl rfl rfl rfl (by omega) ?_))
        refine DCode.loopG (fun k : Nat => [(17, vI .i64 ((m - k : Nat) : Int))]) [17, 108, 109, 110, 111, 112, 113, 114, 115, 116, 117, 118, 119, 120, 121, 122, 123, 124, 125, 126, 127, 128] (fun k => [(0, some (.row 37 9 xs.length v (bC l (dnS xs m k)) false))]) (fun k => k ≤ m - lo) (fun k => m - lo - k) 0 (Nat.zero_le _) (fun i _ => ⟨trivial, trivial⟩) (fun i _ => ⟨rowOk _ _ _ _ _, trivial⟩) (Sub.cons (vI_congr (by omega)) (by (repeat (first | exact Off.refl _ _ | refine Sub.base ?_ | refine Sub.junk ?_ | refine Sub.cons (by rfl) ?_ | refine Off.cons rfl ?_ | refine Off.junks rfl ?_)))) (by (repeat (first | exact MSubX.nil | refine MSubX.skip rfl ?_ | refine MSubX.cons (by rfl) ?_))) ?_
        intro k hk
        show DCode _ _ _ _ _ ([(17, vI .i64 ((m - k : Nat) : Int))] ++ junks _ _) ([(0, some (.row 37 9 xs.length v (bC l (dnS xs m k)) false))] ++ _)
        by_cases hlt : k < m - lo
        · have hnx : dnS xs m (k + 1) = swp (dnS xs m k) (m - k) (m - k - 1) := rfl
          have hl := dnS_length xs m k
          generalize dnS xs m k = ys at hl hnx ⊢
          repeat (first | refine q_seq ?_ | refine DCode.seq ?_ | refine DCode.region ?_ | refine DCode.block ?_ | refine DCode.skip ?_ | refine DCode.condT rfl ?_ | refine DOps.nil ?_ | (refine DOps.valK 0 rfl rfl rfl rfl ?_; first | refine ⟨_, (OpVal.move rfl rfl), ?_⟩) | (refine DOps.k 14 rfl ?_; first | refine DOps.cmpT rfl rfl rfl rfl rfl rfl rfl (by omega) ?_ | refine DOps.cmpF rfl rfl rfl rfl rfl rfl rfl (by omega) ?_))
          (repeat refine DCode.seq ?_) <;> refine DCode.conf [(15, 0, 0), (17, 0, 0)] [([], []), ([], []), ([], [0]), ([], [0]), ([], [0])] (by kernel_rfl) (by kernel_rfl) ?_
          repeat (first | (refine DCf.valK 19 rfl rfl (fun _ => rfl) rfl rfl ?_; refine ⟨_, fun _ _ _ => OpVal.iaR tt_ok rfl rfl rfl rfl rfl rfl rfl (by omega) (by omega), ?_⟩) | (refine DCf.valK 3 rfl rfl (fun _ => rfl) rfl rfl ?_; refine ⟨_, fun _ _ _ => OpVal.loadRB (j := m - k - 1) tt_ok rfl rfl rfl rfl rfl (by omega) (by omega), ?_⟩) | (refine DCf.valK 3 rfl rfl (fun _ => rfl) rfl rfl ?_; refine ⟨_, fun _ _ _ => OpVal.loadRB (j := m - k) tt_ok rfl rfl rfl rfl rfl (by omega) (by omega), ?_⟩) | refine DCf.storeRB (j := m - k) tt_ok rfl rfl (fun _ => rfl) rfl (fun _ => rfl) (fun _ => rfl) rfl rfl (fun _ _ => rfl) (by omega) (by omega) rfl ?_ | refine DCf.storeRB (j := m - k - 1) tt_ok rfl rfl (fun _ => rfl) rfl (fun _ => rfl) (fun _ => rfl) rfl rfl (fun _ _ => rfl) (by omega) (by simp; omega) rfl ?_ | (refine DCf.valK 0 rfl rfl (fun _ => rfl) rfl rfl ?_; first | refine ⟨_, fun _ _ _ => (OpVal.move rfl rfl), ?_⟩) | (refine DCf.valK 11 rfl rfl (fun _ => rfl) rfl rfl ?_; first | refine ⟨_, fun _ _ _ => (OpVal.sub rfl rfl rfl (by omega) (by omega)), ?_⟩))
          refine DCf.done ?_
          repeat (first | refine q_seq ?_ | refine q_then ?_ | refine q_block ?_ | refine DCode.region ?_ | refine DOps.nil ?_ | (refine DOps.valK 0 rfl rfl rfl rfl ?_; first | refine ⟨_, (OpVal.move rfl rfl), ?_⟩) | (refine DOps.valK 1 rfl rfl rfl rfl ?_; first | refine ⟨_, (OpVal.assign rfl rfl), ?_⟩) | (refine DOps.valK 11 rfl rfl rfl rfl ?_; first | refine ⟨_, (OpVal.sub rfl rfl rfl (by omega) (by omega)), ?_⟩))
          exact ⟨k + 1, by omega, by omega, Sub.cons (vI_congr (by omega)) (by (repeat (first | exact Off.refl _ _ | refine Sub.base ?_ | refine Sub.junk ?_ | refine Sub.cons (by rfl) ?_ | refine Off.cons rfl ?_ | refine Off.junks rfl ?_))), by rw [hnx]; (repeat (first | exact MSubX.nil | refine MSubX.skip rfl ?_ | refine MSubX.cons (by rfl) ?_))⟩
        · obtain rfl : k = m - lo := by omega
          repeat (first | refine q_seq ?_ | refine q_seqX ?_ | refine q_seqR ?_ | refine q_thenX ?_ | refine q_blockX ?_ | refine DCode.seq ?_ | refine DCode.region ?_ | refine DCode.exit ?_ | refine DCode.ret ?_ | refine DCode.condF rfl ?_ | refine DOps.nil ?_ | (refine DOps.valK 0 rfl rfl rfl rfl ?_; first | refine ⟨_, (OpVal.move rfl rfl), ?_⟩) | (refine DOps.k 14 rfl ?_; first | refine DOps.cmpT rfl rfl rfl rfl rfl rfl rfl (by omega) ?_ | refine DOps.cmpF rfl rfl rfl rfl rfl rfl rfl (by omega) ?_))
          rw [hS]
          exact endQM.row (.inr rfl) rfl .nil (fun t h => by cases h) rfl (bC_pure _) rfl
    generalize hmid : (a + b) / 2 = mid
    have hst : ∃ lo hi, (m > mid ∧ lo = mid + m - b ∧ hi = mid ∨ ¬ m > mid ∧ lo = a ∧ hi = m) ∧ symStart (ltX l) xs a m b = BS (fun k => !ltX l (gI xs (mid + m - 1 - k)) (gI xs k)) lo hi := by
      rw [symStart, hmid]
      by_cases h : m > mid
      · exact ⟨_, _, .inl ⟨h, rfl, rfl⟩, by rw [if_pos h]⟩
      · exact ⟨_, _, .inr ⟨h, rfl, rfl⟩, by rw [if_neg h]⟩
    obtain ⟨lo0, hi0, hlh, hst⟩ := hst
    repeat (first | refine q_seq ?_ | refine DCode.seq ?_ | refine DCode.region ?_ | refine DCode.skip ?_ | refine DCode.condF rfl ?_ | (refine DOps.valK 26 rfl rfl rfl rfl ?_; refine ⟨_, OpVal.toU tt_ok rfl rfl rfl rfl (by omega) (by omega), ?_⟩) | (refine DOps.valK 26 rfl rfl rfl rfl ?_; refine ⟨_, OpVal.toI tt_ok rfl rfl rfl rfl (by omega) (by omega), ?_⟩) | (refine DOps.valK 15 rfl rfl rfl rfl ?_; refine ⟨_, OpVal.half rfl rfl rfl, ?_⟩) | refine DOps.nil ?_ | (refine DOps.valK 0 rfl rfl rfl rfl ?_; first | refine ⟨_, (OpVal.move rfl rfl), ?_⟩) | (refine DOps.valK 1 rfl rfl rfl rfl ?_; first | refine ⟨_, (OpVal.assign rfl rfl), ?_⟩) | (refine DOps.valK 10 rfl rfl rfl rfl ?_; first | refine ⟨_, (OpVal.add rfl rfl rfl (by omega) (by omega)), ?_⟩) | (refine DOps.valK 11 rfl rfl rfl rfl ?_; first | refine ⟨_, (OpVal.sub rfl rfl rfl (by omega) (by omega)), ?_⟩) | (refine DOps.k 12 rfl ?_; first | refine DOps.cmpT rfl rfl rfl rfl rfl rfl rfl (by omega) ?_ | refine DOps.cmpF rfl rfl rfl rfl rfl rfl rfl (by omega) ?_))
    refine DOps.cut [(140, vB (decide (m > mid)))] [138, 139, 140] [] ⟨trivial, trivial⟩ trivial ?_ ?_
    · by_cases q1 : m > mid
      · rw [decide_eq_true q1]
        repeat (first | refine DOps.nil ?_ | (refine DOps.k 14 rfl ?_; first | refine DOps.cmpT rfl rfl rfl rfl rfl rfl rfl (by omega) ?_ | refine DOps.cmpF rfl rfl rfl rfl rfl rfl rfl (by omega) ?_))
        exact ⟨rfl, by (repeat (first | exact Off.refl _ _ | refine Sub.base ?_ | refine Sub.junk ?_ | refine Sub.cons (by rfl) ?_ | refine Off.cons rfl ?_ | refine Off.junks rfl ?_)), by (repeat (first | exact MSubX.nil | refine MSubX.skip rfl ?_ | refine MSubX.cons (by rfl) ?_))⟩
      · rw [decide_eq_false q1]
        repeat (first | refine DOps.nil ?_ | (refine DOps.k 14 rfl ?_; first | refine DOps.cmpT rfl rfl rfl rfl rfl rfl rfl (by omega) ?_ | refine DOps.cmpF rfl rfl rfl rfl rfl rfl rfl (by omega) ?_))
        exact ⟨rfl, by (repeat (first | exact Off.refl _ _ | refine Sub.base ?_ | refine Sub.junk ?_ | refine Sub.cons (by rfl) ?_ | refine Off.cons rfl ?_ | refine Off.junks rfl ?_)), by (repeat (first | exact MSubX.nil | refine MSubX.skip rfl ?_ | refine MSubX.cons (by rfl) ?_))⟩
    intro env' M' hw
    repeat (first | refine q_then ?_ | refine q_thenX ?_ | refine q_thenR ?_ | refine q_block ?_ | refine q_blockX ?_ | refine q_blockR ?_ | refine q_seq ?_ | refine q_seqX ?_ | refine q_seqR ?_)
    refine DCode.weak hw ?_
    clear hw env' M'
    refine DCode.cut [(20, vI .i64 (lo0 : Nat)), (21, vI .i64 (hi0 : Nat))] [20, 21, 141, 142, 143, 144, 145, 146] [] ⟨trivial, trivial, trivial⟩ trivial ?_ ?_
    · refine DCode.condD rfl (fun h => ?_) (fun h => ?_)
      · repeat (first | refine q_seq ?_ | refine DCode.seq ?_ | refine DCode.region ?_ | refine DOps.nil ?_ | (refine DOps.valK 0 rfl rfl rfl rfl ?_; first | refine ⟨_, (OpVal.move rfl rfl), ?_⟩) | (refine DOps.valK 1 rfl rfl rfl rfl ?_; first | refine ⟨_, (OpVal.assign rfl rfl), ?_⟩) | (refine DOps.valK 11 rfl rfl rfl rfl ?_; first | refine ⟨_, (OpVal.sub rfl rfl rfl (by omega) (by omega)), ?_⟩))
        exact ⟨rfl, Sub.cons (vI_congr (by omega)) (Sub.cons (vI_congr (by omega)) (by (repeat (first | exact Off.refl _ _ | refine Sub.base ?_ | refine Sub.junk ?_ | refine Sub.cons (by rfl) ?_ | refine Off.cons rfl ?_ | refine Off.junks rfl ?_)))), by (repeat (first | exact MSubX.nil | refine MSubX.skip rfl ?_ | refine MSubX.cons (by rfl) ?_))⟩
      · repeat (first | refine q_seq ?_ | refine DCode.seq ?_ | refine DCode.region ?_ | refine DOps.nil ?_ | (refine DOps.valK 0 rfl rfl rfl rfl ?_; first | refine ⟨_, (OpVal.move rfl rfl), ?_⟩) | (refine DOps.valK 1 rfl rfl rfl rfl ?_; first | refine ⟨_, (OpVal.assign rfl rfl), ?_⟩))
        exact ⟨rfl, Sub.cons (vI_congr (by omega)) (Sub.cons (vI_congr (by omega)) (by (repeat (first | exact Off.refl _ _ | refine Sub.base ?_ | refine Sub.junk ?_ | refine Sub.cons (by rfl) ?_ | refine Off.cons rfl ?_ | refine Off.junks rfl ?_)))), by (repeat (first | exact MSubX.nil | refine MSubX.skip rfl ?_ | refine MSubX.cons (by rfl) ?_))⟩
    intro env' M' hw
    repeat (first | refine q_then ?_ | refine q_thenX ?_ | refine q_thenR ?_ | refine q_block ?_ | refine q_blockX ?_ | refine q_blockR ?_ | refine q_seq ?_ | refine q_seqX ?_ | refine q_seqR ?_)
    refine DCode.weak hw ?_
    clear hw env' M'
    repeat (first | refine q_seq ?_ | refine DCode.seq ?_ | refine DCode.region ?_ | refine DCode.block ?_ | refine DOps.nil ?_ | (refine DOps.valK 0 rfl rfl rfl rfl ?_; first | refine ⟨_, (OpVal.move rfl rfl), ?_⟩) | (refine DOps.valK 1 rfl rfl rfl rfl ?_; first | refine ⟨_, (OpVal.assign rfl rfl), ?_⟩) | (refine DOps.valK 11 rfl rfl rfl rfl ?_; first | refine ⟨_, (OpVal.sub rfl rfl rfl (by omega) (by omega)), ?_⟩))
    refine DCode.keep [(0, .v (.one (.row 0 v))), (1, vI .i64 (a : Nat)), (2, vI .i64 (m : Nat)), (3, vI .i64 (b : Nat)), (4, .v (.one (.d (FC l)))), (18, vI .i64 (mid : Nat)), (19, vI .i64 ((mid + m : Nat) : Int)), (20, vI .i64 (lo0 : Nat)), (21, vI .i64 (hi0 : Nat)), (22, vI .i64 ((mid + m - 1 : Nat) : Int))] (Sub.cons rfl (Sub.cons rfl (Sub.cons rfl (Sub.cons rfl (Sub.cons rfl (Sub.cons (vI_congr (by omega)) (Sub.cons (vI_congr (by omega)) (Sub.cons rfl (Sub.cons rfl (Sub.cons (vI_congr (by omega)) Sub.nil)))))))))) ?_
    refine DCode.loopG (fun s : Nat × Nat => [(20, vI .i64 (s.1 : Nat)), (21, vI .i64 (s.2 : Nat))]) [20, 21, 23, 149, 150, 151, 152, 153, 154, 155, 156, 157, 158, 159, 160, 161, 162, 163, 164, 165, 166, 167, 168, 169, 170, 171, 172, 173, 174] (fun _ => []) (fun s => lo0 ≤ s.1 ∧ s.1 ≤ s.2 ∧ s.2 ≤ hi0 ∧ BS (fun k => !ltX l (gI xs (mid + m - 1 - k)) (gI xs k)) s.1 s.2 = symStart (ltX l) xs a m b) (fun s => s.2 - s.1) (lo0, hi0) ⟨Nat.le_refl _, by show lo0 ≤ hi0; omega, Nat.le_refl _, hst.symm⟩ (fun i _ => ⟨trivial, trivial, trivial⟩) (fun i _ => trivial) (by (repeat (first | exact Off.refl _ _ | refine Sub.base ?_ | refine Sub.junk ?_ | refine Sub.cons (by rfl) ?_ | refine Off.cons rfl ?_ | refine Off.junks rfl ?_))) (by (repeat (first | exact MSubX.nil | refine MSubX.skip rfl ?_ | refine MSubX.cons (by rfl) ?_))) ?_
    intro ⟨lo, hi⟩ ⟨k1, k2, k3, k4⟩
    simp only [] at k1 k2 k3 k4
    show DCode _ _ _ _ _ ([(20, vI .i64 (lo : Nat)), (21, vI .i64 (hi : Nat))] ++ junks _ _) ([] ++ _)
    by_cases hlt : lo < hi
    · rw [BS_lt hlt] at k4
      have cc := fc_d l (hr.get (by omega : mid + m - 1 - (lo + hi) / 2 < xs.length)) (hr.get (by omega : (lo + hi) / 2 < xs.length))
      by_cases hc : cmpX l (xs.getD (mid + m - 1 - (lo + hi) / 2) 0) (xs.getD ((lo + hi) / 2) 0) < 0
      · rw [if_neg (by rw [hlx]; simpa using hc)] at k4
        repeat (first | refine q_seq ?_ | refine DCode.seq ?_ | refine DCode.region ?_ | refine DCode.block ?_ | refine DCode.skip ?_ | refine DCode.condT rfl ?_ | (refine DOps.valK 26 rfl rfl rfl rfl ?_; refine ⟨_, OpVal.toU tt_ok rfl rfl rfl rfl (by omega) (by omega), ?_⟩) | (refine DOps.valK 26 rfl rfl rfl rfl ?_; refine ⟨_, OpVal.toI tt_ok rfl rfl rfl rfl (by omega) (by omega), ?_⟩) | (refine DOps.valK 15 rfl rfl rfl rfl ?_; refine ⟨_, OpVal.half rfl rfl rfl, ?_⟩) | refine DOps.nil ?_ | (refine DOps.valK 0 rfl rfl rfl rfl ?_; first | refine ⟨_, (OpVal.move rfl rfl), ?_⟩) | (refine DOps.valK 1 rfl rfl rfl rfl ?_; first | refine ⟨_, (OpVal.assign rfl rfl), ?_⟩) | (refine DOps.valK 10 rfl rfl rfl rfl ?_; first | refine ⟨_, (OpVal.add rfl rfl rfl (by omega) (by omega)), ?_⟩) | (refine DOps.k 14 rfl ?_; first | refine DOps.cmpT rfl rfl rfl rfl rfl rfl rfl (by omega) ?_ | refine DOps.cmpF rfl rfl rfl rfl rfl rfl rfl (by omega) ?_))
        (repeat refine DCode.seq ?_) <;> refine DCode.conf [] [] (by kernel_rfl) (by kernel_rfl) ?_
        repeat (first | (refine DCf.valK 19 rfl rfl (fun _ => rfl) rfl rfl ?_; refine ⟨_, fun _ _ _ => OpVal.iaR tt_ok rfl rfl rfl rfl rfl rfl rfl (by omega) (by omega), ?_⟩) | (refine DCf.valK 3 rfl rfl (fun _ => rfl) rfl rfl ?_; refine ⟨_, fun _ _ _ => OpVal.loadRB (j := mid + m - 1 - (lo + hi) / 2) tt_ok rfl rfl rfl rfl rfl (by omega) (by omega), ?_⟩) | (refine DCf.valK 3 rfl rfl (fun _ => rfl) rfl rfl ?_; refine ⟨_, fun _ _ _ => OpVal.loadRB (j := (lo + hi) / 2) tt_ok rfl rfl rfl rfl rfl (by omega) (by omega), ?_⟩) | refine DCf.callV rfl (fun _ => rfl) rfl rfl rfl rfl (fun _ => rfl) Tryz.func33 rfl (by kernel_rfl) (fun _ => rfl) (by repeat (first | exact pures_nil | refine pures_cons ?_ ?_ | exact trivial | exact pure_aggB rfl | exact arr_pure _ | exact Load.pure _ | exact Area.pure _ | exact dvs_pure _ | exact pure_sc | exact pure_sl)) cc ?_ | (refine DCf.valK 0 rfl rfl (fun _ => rfl) rfl rfl ?_; first | refine ⟨_, fun _ _ _ => (OpVal.move rfl rfl), ?_⟩) | (refine DCf.valK 11 rfl rfl (fun _ => rfl) rfl rfl ?_; first | refine ⟨_, fun _ _ _ => (OpVal.sub rfl rfl rfl (by omega) (by omega)), ?_⟩) | (refine DCf.valK 16 rfl rfl (fun _ => rfl) rfl rfl ?_; first | refine ⟨_, fun _ _ _ => (OpVal.notB rfl rfl), ?_⟩) | (refine DCf.valK 14 rfl rfl (fun _ => rfl) rfl rfl ?_; first | refine ⟨_, fun _ _ _ => (OpVal.cmp rfl rfl rfl rfl).1 (by omega), ?_⟩))
        refine DCf.done ?_
        repeat (first | refine q_seq ?_ | refine q_then ?_ | refine q_block ?_ | refine DCode.region ?_ | refine DCode.condF rfl ?_ | refine DOps.nil ?_ | (refine DOps.valK 0 rfl rfl rfl rfl ?_; first | refine ⟨_, (OpVal.move rfl rfl), ?_⟩) | (refine DOps.valK 1 rfl rfl rfl rfl ?_; first | refine ⟨_, (OpVal.assign rfl rfl), ?_⟩))
        exact ⟨(lo, (lo + hi) / 2), ⟨k1, by show lo ≤ (lo + hi) / 2; omega, by show (lo + hi) / 2 ≤ hi0; omega, k4⟩, by show (lo + hi) / 2 - lo < hi - lo; omega, Sub.cons (by rfl) (Sub.cons (vI_congr (by (try dsimp only); omega)) (by (repeat (first | exact Off.refl _ _ | refine Sub.base ?_ | refine Sub.junk ?_ | refine Sub.cons (by rfl) ?_ | refine Off.cons rfl ?_ | refine Off.junks rfl ?_)))), by (repeat (first | exact MSubX.nil | refine MSubX.skip rfl ?_ | refine MSubX.cons (by rfl) ?_))⟩

      · rw [if_pos (by rw [hlx]; simpa using hc)] at k4
        repeat (first | refine q_seq ?_ | refine DCode.seq ?_ | refine DCode.region ?_ | refine DCode.block ?_ | refine DCode.skip ?_ | refine DCode.condT rfl ?_ | (refine DOps.valK 26 rfl rfl rfl rfl ?_; refine ⟨_, OpVal.toU tt_ok rfl rfl rfl rfl (by omega) (by omega), ?_⟩) | (refine DOps.valK 26 rfl rfl rfl rfl ?_; refine ⟨_, OpVal.toI tt_ok rfl rfl rfl rfl (by omega) (by omega), ?_⟩) | (refine DOps.valK 15 rfl rfl rfl rfl ?_; refine ⟨_, OpVal.half rfl rfl rfl, ?_⟩) | refine DOps.nil ?_ | (refine DOps.valK 0 rfl rfl rfl rfl ?_; first | refine ⟨_, (OpVal.move rfl rfl), ?_⟩) | (refine DOps.valK 1 rfl rfl rfl rfl ?_; first | refine ⟨_, (OpVal.assign rfl rfl), ?_⟩) | (refine DOps.valK 10 rfl rfl rfl rfl ?_; first | refine ⟨_, (OpVal.add rfl rfl rfl (by omega) (by omega)), ?_⟩) | (refine DOps.k 14 rfl ?_; first | refine DOps.cmpT rfl rfl rfl rfl rfl rfl rfl (by omega) ?_ | refine DOps.cmpF rfl rfl rfl rfl rfl rfl rfl (by omega) ?_))
        (repeat refine DCode.seq ?_) <;> refine DCode.conf [] [] (by kernel_rfl) (by kernel_rfl) ?_
        repeat (first | (refine DCf.valK 19 rfl rfl (fun _ => rfl) rfl rfl ?_; refine ⟨_, fun _ _ _ => OpVal.iaR tt_ok rfl rfl rfl rfl rfl rfl rfl (by omega) (by omega), ?_⟩) | (refine DCf.valK 3 rfl rfl (fun _ => rfl) rfl rfl ?_; refine ⟨_, fun _ _ _ => OpVal.loadRB (j := mid + m - 1 - (lo + hi) / 2) tt_ok rfl rfl rfl rfl rfl (by omega) (by omega), ?_⟩) | (refine DCf.valK 3 rfl rfl (fun _ => rfl) rfl rfl ?_; refine ⟨_, fun _ _ _ => OpVal.loadRB (j := (lo + hi) / 2) tt_ok rfl rfl rfl rfl rfl (by omega) (by omega), ?_⟩) | refine DCf.callV rfl (fun _ => rfl) rfl rfl rfl rfl (fun _ => rfl) Tryz.func33 rfl (by kernel_rfl) (fun _ => rfl) (by repeat (first | exact pures_nil | refine pures_cons ?_ ?_ | exact trivial | exact pure_aggB rfl | exact arr_pure _ | exact Load.pure _ | exact Area.pure _ | exact dvs_pure _ | exact pure_sc | exact pure_sl)) cc ?_ | (refine DCf.valK 0 rfl rfl (fun _ => rfl) rfl rfl ?_; first | refine ⟨_, fun _ _ _ => (OpVal.move rfl rfl), ?_⟩) | (refine DCf.valK 11 rfl rfl (fun _ => rfl) rfl rfl ?_; first | refine ⟨_, fun _ _ _ => (OpVal.sub rfl rfl rfl (by omega) (by omega)), ?_⟩) | (refine DCf.valK 16 rfl rfl (fun _ => rfl) rfl rfl ?_; first | refine ⟨_, fun _ _ _ => (OpVal.notB rfl rfl), ?_⟩) | (refine DCf.valK 14 rfl rfl (fun _ => rfl) rfl rfl ?_; first | refine ⟨_, fun _ _ _ => (OpVal.cmp rfl rfl rfl rfl).2 (by omega), ?_⟩))
        refine DCf.done ?_
        repeat (first | refine q_seq ?_ | refine q_then ?_ | refine q_block ?_ | refine DCode.region ?_ | refine DCode.condT rfl ?_ | refine DOps.nil ?_ | (refine DOps.valK 0 rfl rfl rfl rfl ?_; first | refine ⟨_, (OpVal.move rfl rfl), ?_⟩) | (refine DOps.valK 1 rfl rfl rfl rfl ?_; first | refine ⟨_, (OpVal.assign rfl rfl), ?_⟩) | (refine DOps.valK 10 rfl rfl rfl rfl ?_; first | refine ⟨_, (OpVal.add rfl rfl rfl (by omega) (by omega)), ?_⟩))
        exact ⟨((lo + hi) / 2 + 1, hi), ⟨by show lo0 ≤ (lo + hi) / 2 + 1; omega, by show (lo + hi) / 2 + 1 ≤ hi; omega, k3, k4⟩, by show hi - ((lo + hi) / 2 + 1) < hi - lo; omega, Sub.cons (vI_congr (by (try dsimp only); omega)) (by (repeat (first | exact Off.refl _ _ | refine Sub.base ?_ | refine Sub.junk ?_ | refine Sub.cons (by rfl) ?_ | refine Off.cons rfl ?_ | refine Off.junks rfl ?_))), by (repeat (first | exact MSubX.nil | refine MSubX.skip rfl ?_ | refine MSubX.cons (by rfl) ?_))⟩

    obtain rfl : lo = hi := by omega
    rw [BS_stop] at k4
    have hS : symM (ltX l) (n + 1) xs a m b = (let xs1 := if lo < m ∧ m < mid + m - lo then rot xs m (m - lo) (mid + m - lo - m) else xs
        let xs2 := if a < lo ∧ lo < mid then symM (ltX l) n xs1 a lo mid else xs1
        if mid < mid + m - lo ∧ mid + m - lo < b then symM (ltX l) n xs2 mid (mid + m - lo) b else xs2) := by
      rw [symM, if_neg c1, if_neg c2, hmid, ← k4]
    simp only [] at hS
    generalize he : mid + m - lo = e at hS
    have bnd : a ≤ lo ∧ lo ≤ m ∧ lo ≤ mid ∧ m ≤ e ∧ mid ≤ e ∧ e ≤ b ∧ a < mid ∧ mid < b := by omega
    clear k4 hst hlx
    repeat (first | refine q_seq ?_ | refine q_seqX ?_ | refine q_thenX ?_ | refine q_blockX ?_ | refine DCode.seq ?_ | refine DCode.region ?_ | refine DCode.exit ?_ | refine DCode.condF rfl ?_ | refine DOps.nil ?_ | (refine DOps.valK 0 rfl rfl rfl rfl ?_; first | refine ⟨_, (OpVal.move rfl rfl), ?_⟩) | (refine DOps.valK 1 rfl rfl rfl rfl ?_; first | refine ⟨_, (OpVal.assign rfl rfl), ?_⟩) | (refine DOps.valK 11 rfl rfl rfl rfl ?_; first | refine ⟨_, (OpVal.sub rfl rfl rfl (by omega) (by omega)), ?_⟩) | (refine DOps.k 14 rfl ?_; first | refine DOps.cmpT rfl rfl rfl rfl rfl rfl rfl (by omega) ?_ | refine DOps.cmpF rfl rfl rfl rfl rfl rfl rfl (by omega) ?_))
    refine DOps.cut [(185, vB (decide (lo < m ∧ m < e)))] [178, 179, 180, 181, 182, 183, 184, 185] [] ⟨trivial, trivial⟩ trivial ?_ ?_
    · by_cases q1 : lo < m
      · by_cases q2 : m < e
        · rw [decide_eq_true (And.intro q1 q2)]
          repeat (first | refine DOps.nil ?_ | (refine DOps.valK 0 rfl rfl rfl rfl ?_; first | refine ⟨_, (OpVal.move rfl rfl), ?_⟩) | (refine DOps.valK 2 rfl rfl rfl rfl ?_; first | refine ⟨_, (OpVal.pickT rfl rfl rfl), ?_⟩) | (refine DOps.k 14 rfl ?_; first | refine DOps.cmpT rfl rfl rfl rfl rfl rfl rfl (by omega) ?_ | refine DOps.cmpF rfl rfl rfl rfl rfl rfl rfl (by omega) ?_))
          exact ⟨rfl, by (repeat (first | exact Off.refl _ _ | refine Sub.base ?_ | refine Sub.junk ?_ | refine Sub.cons (by rfl) ?_ | refine Off.cons rfl ?_ | refine Off.junks rfl ?_)), by (repeat (first | exact MSubX.nil | refine MSubX.skip rfl ?_ | refine MSubX.cons (by rfl) ?_))⟩
        · rw [decide_eq_false (fun h => q2 h.2)]
          repeat (first | refine DOps.nil ?_ | (refine DOps.valK 0 rfl rfl rfl rfl ?_; first | refine ⟨_, (OpVal.move rfl rfl), ?_⟩) | (refine DOps.valK 2 rfl rfl rfl rfl ?_; first | refine ⟨_, (OpVal.pickT rfl rfl rfl), ?_⟩) | (refine DOps.k 14 rfl ?_; first | refine DOps.cmpT rfl rfl rfl rfl rfl rfl rfl (by omega) ?_ | refine DOps.cmpF rfl rfl rfl rfl rfl rfl rfl (by omega) ?_))
          exact ⟨rfl, by (repeat (first | exact Off.refl _ _ | refine Sub.base ?_ | refine Sub.junk ?_ | refine Sub.cons (by rfl) ?_ | refine Off.cons rfl ?_ | refine Off.junks rfl ?_)), by (repeat (first | exact MSubX.nil | refine MSubX.skip rfl ?_ | refine MSubX.cons (by rfl) ?_))⟩
      · rw [decide_eq_false (fun h => q1 h.1)]
        repeat (first | refine DOps.nil ?_ | refine DOps.off rfl rfl rfl ?_ | (refine DOps.valK 0 rfl rfl rfl rfl ?_; first | refine ⟨_, (OpVal.move rfl rfl), ?_⟩) | (refine DOps.valK 2 rfl rfl rfl rfl ?_; first | refine ⟨_, (OpVal.pickF rfl rfl rfl), ?_⟩) | (refine DOps.k 14 rfl ?_; first | refine DOps.cmpT rfl rfl rfl rfl rfl rfl rfl (by omega) ?_ | refine DOps.cmpF rfl rfl rfl rfl rfl rfl rfl (by omega) ?_))
        exact ⟨rfl, by (repeat (first | exact Off.refl _ _ | refine Sub.base ?_ | refine Sub.junk ?_ | refine Sub.cons (by rfl) ?_ | refine Off.cons rfl ?_ | refine Off.junks rfl ?_)), by (repeat (first | exact MSubX.nil | refine MSubX.skip rfl ?_ | refine MSubX.cons (by rfl) ?_))⟩
    intro env' M' hw
    repeat (first | refine q_then ?_ | refine q_thenX ?_ | refine q_thenR ?_ | refine q_block ?_ | refine q_blockX ?_ | refine q_blockR ?_ | refine q_seq ?_ | refine q_seqX ?_ | refine q_seqR ?_)
    refine DCode.weak hw ?_
    clear hw env' M'

    have hl1 : (if lo < m ∧ m < e then rot xs m (m - lo) (e - m) else xs).Perm xs := by
      split
      · rename_i h
        exact (rot_spec _ xs m (m - lo) (e - m) (Nat.le_refl _) (by omega) (by omega) (by omega) (by omega)).1.perm
      · exact .refl _
    refine DCode.cut [] [186, 187, 188, 189, 190, 191] [(0, some (.row 37 9 xs.length v (bC l (if lo < m ∧ m < e then rot xs m (m - lo) (e - m) else xs)) false))] trivial ⟨rowOk _ _ _ _ _, trivial⟩ ?_ ?_
    · refine DCode.condD rfl (fun h => ?_) (fun h => ?_)
      · have c := rotate_d l xs lo m e hn h.1 h.2 (by omega) (FC l)
        rw [if_pos h]
        rw [show ((e : Nat) : Int) = (mid : Int) + (m : Int) - (lo : Int) by omega] at c
        generalize rot xs m (m - lo) (e - m) = zs at c
        repeat (first | refine DCode.region ?_ | refine DOps.callRow rfl rfl rfl rfl Tryz.func80 rfl (by kernel_rfl) rfl rfl (by repeat (first | exact pures_nil | refine pures_cons ?_ ?_ | exact trivial | exact pure_aggB rfl | exact arr_pure _ | exact Load.pure _ | exact Area.pure _ | exact dvs_pure _ | exact pure_sc | exact pure_sl)) (bC_pure _) c (fun cs' h => ?_) | refine DOps.nil ?_ | (refine DOps.valK 0 rfl rfl rfl rfl ?_; first | refine ⟨_, (OpVal.move rfl rfl), ?_⟩))
        subst h
        repeat (first | fail)
        exact ⟨rfl, by (repeat (first | exact Off.refl _ _ | refine Sub.base ?_ | refine Sub.junk ?_ | refine Sub.cons (by rfl) ?_ | refine Off.cons rfl ?_ | refine Off.junks rfl ?_)), by (repeat (first | exact MSubX.nil | refine MSubX.skip rfl ?_ | refine MSubX.cons (by rfl) ?_))⟩
      · rw [if_neg h]
        repeat (first | refine DCode.skip ?_)
        exact ⟨rfl, by (repeat (first | exact Off.refl _ _ | refine Sub.base ?_ | refine Sub.junk ?_ | refine Sub.cons (by rfl) ?_ | refine Off.cons rfl ?_ | refine Off.junks rfl ?_)), by (repeat (first | exact MSubX.nil | refine MSubX.skip rfl ?_ | refine MSubX.cons (by rfl) ?_))⟩
    intro env' M' hw
    repeat (first | refine q_then ?_ | refine q_thenX ?_ | refine q_thenR ?_ | refine q_block ?_ | refine q_blockX ?_ | refine q_blockR ?_ | refine q_seq ?_ | refine q_seqX ?_ | refine q_seqR ?_)
    refine DCode.weak hw ?_
    clear hw env' M'
    generalize (if lo < m ∧ m < e then rot xs m (m - lo) (e - m) else xs) = ys at hS hl1 ⊢
    have hyl := hl1.length_eq
    have hyr := hr.perm hl1
    repeat (first | refine DCode.seq ?_ | refine DCode.region ?_ | (refine DOps.valK 0 rfl rfl rfl rfl ?_; first | refine ⟨_, (OpVal.move rfl rfl), ?_⟩))
    refine DOps.cut [(199, vB (decide (a < lo ∧ lo < mid)))] [192, 193, 194, 195, 196, 197, 198, 199] [] ⟨trivial, trivial⟩ trivial ?_ ?_
    · by_cases q1 : a < lo
      · by_cases q2 : lo < mid
        · rw [decide_eq_true (And.intro q1 q2)]
          repeat (first | refine DOps.nil ?_ | (refine DOps.valK 0 rfl rfl rfl rfl ?_; first | refine ⟨_, (OpVal.move rfl rfl), ?_⟩) | (refine DOps.valK 2 rfl rfl rfl rfl ?_; first | refine ⟨_, (OpVal.pickT rfl rfl rfl), ?_⟩) | (refine DOps.k 14 rfl ?_; first | refine DOps.cmpT rfl rfl rfl rfl rfl rfl rfl (by omega) ?_ | refine DOps.cmpF rfl rfl rfl rfl rfl rfl rfl (by omega) ?_))
          exact ⟨rfl, by (repeat (first | exact Off.refl _ _ | refine Sub.base ?_ | refine Sub.junk ?_ | refine Sub.cons (by rfl) ?_ | refine Off.cons rfl ?_ | refine Off.junks rfl ?_)), by (repeat (first | exact MSubX.nil | refine MSubX.skip rfl ?_ | refine MSubX.cons (by rfl) ?_))⟩
        · rw [decide_eq_false (fun h => q2 h.2)]
          repeat (first | refine DOps.nil ?_ | (refine DOps.valK 0 rfl rfl rfl rfl ?_; first | refine ⟨_, (OpVal.move rfl rfl), ?_⟩) | (refine DOps.valK 2 rfl rfl rfl rfl ?_; first | refine ⟨_, (OpVal.pickT rfl rfl rfl), ?_⟩) | (refine DOps.k 14 rfl ?_; first | refine DOps.cmpT rfl rfl rfl rfl rfl rfl rfl (by omega) ?_ | refine DOps.cmpF rfl rfl rfl rfl rfl rfl rfl (by omega) ?_))
          exact ⟨rfl, by (repeat (first | exact Off.refl _ _ | refine Sub.base ?_ | refine Sub.junk ?_ | refine Sub.cons (by rfl) ?_ | refine Off.cons rfl ?_ | refine Off.junks rfl ?_)), by (repeat (first | exact MSubX.nil | refine MSubX.skip rfl ?_ | refine MSubX.cons (by rfl) ?_))⟩
      · rw [decide_eq_false (fun h => q1 h.1)]
        repeat (first | refine DOps.nil ?_ | refine DOps.off rfl rfl rfl ?_ | (refine DOps.valK 0 rfl rfl rfl rfl ?_; first | refine ⟨_, (OpVal.move rfl rfl), ?_⟩) | (refine DOps.valK 2 rfl rfl rfl rfl ?_; first | refine ⟨_, (OpVal.pickF rfl rfl rfl), ?_⟩) | (refine DOps.k 14 rfl ?_; first | refine DOps.cmpT rfl rfl rfl rfl rfl rfl rfl (by omega) ?_ | refine DOps.cmpF rfl rfl rfl rfl rfl rfl rfl (by omega) ?_))
        exact ⟨rfl, by (repeat (first | exact Off.refl _ _ | refine Sub.base ?_ | refine Sub.junk ?_ | refine Sub.cons (by rfl) ?_ | refine Off.cons rfl ?_ | refine Off.junks rfl ?_)), by (repeat (first | exact MSubX.nil | refine MSubX.skip rfl ?_ | refine MSubX.cons (by rfl) ?_))⟩
    intro env' M' hw
    repeat (first | refine q_then ?_ | refine q_thenX ?_ | refine q_thenR ?_ | refine q_block ?_ | refine q_blockX ?_ | refine q_blockR ?_ | refine q_seq ?_ | refine q_seqX ?_ | refine q_seqR ?_)
    refine DCode.weak hw ?_
    clear hw env' M'

    have hl2 : (if a < lo ∧ lo < mid then symM (ltX l) n ys a lo mid else ys).length = xs.length ∧ InR l (if a < lo ∧ lo < mid then symM (ltX l) n ys a lo mid else ys) := by
      split
      · rename_i h
        have := symM_perm (ltX l) n ys a lo mid (by omega) h.1 h.2 (by omega)
        exact ⟨this.length_eq.trans hyl, hyr.perm this⟩
      · exact ⟨hyl, hyr⟩
    refine DCode.cut [] [200, 201, 202, 203, 204, 205] [(0, some (.row 37 9 xs.length v (bC l (if a < lo ∧ lo < mid then symM (ltX l) n ys a lo mid else ys)) false))] trivial ⟨rowOk _ _ _ _ _, trivial⟩ ?_ ?_
    · refine DCode.condD rfl (fun h => ?_) (fun h => ?_)
      · have c := symMerge_d l n ys a lo mid (by omega) h.1 h.2 (by omega) (by omega) hyr
        rw [if_pos h]
        rw [hyl] at c
        generalize symM (ltX l) n ys a lo mid = zs at c
        repeat (first | refine DCode.region ?_ | refine DOps.callRow rfl rfl rfl rfl Tryz.func65 rfl (by kernel_rfl) rfl rfl (by repeat (first | exact pures_nil | refine pures_cons ?_ ?_ | exact trivial | exact pure_aggB rfl | exact arr_pure _ | exact Load.pure _ | exact Area.pure _ | exact dvs_pure _ | exact pure_sc | exact pure_sl)) (bC_pure _) c (fun cs' h => ?_) | refine DOps.nil ?_ | (refine DOps.valK 0 rfl rfl rfl rfl ?_; first | refine ⟨_, (OpVal.move rfl rfl), ?_⟩))
        subst h
        repeat (first | fail)
        exact ⟨rfl, by (repeat (first | exact Off.refl _ _ | refine Sub.base ?_ | refine Sub.junk ?_ | refine Sub.cons (by rfl) ?_ | refine Off.cons rfl ?_ | refine Off.junks rfl ?_)), by (repeat (first | exact MSubX.nil | refine MSubX.skip rfl ?_ | refine MSubX.cons (by rfl) ?_))⟩
      · rw [if_neg h]
        repeat (first | refine DCode.skip ?_)
        exact ⟨rfl, by (repeat (first | exact Off.refl _ _ | refine Sub.base ?_ | refine Sub.junk ?_ | refine Sub.cons (by rfl) ?_ | refine Off.cons rfl ?_ | refine Off.junks rfl ?_)), by (repeat (first | exact MSubX.nil | refine MSubX.skip rfl ?_ | refine MSubX.cons (by rfl) ?_))⟩
    intro env' M' hw
    repeat (first | refine q_then ?_ | refine q_thenX ?_ | refine q_thenR ?_ | refine q_block ?_ | refine q_blockX ?_ | refine q_blockR ?_ | refine q_seq ?_ | refine q_seqX ?_ | refine q_seqR ?_)
    refine DCode.weak hw ?_
    clear hw env' M'
    generalize (if a < lo ∧ lo < mid then symM (ltX l) n ys a lo mid else ys) = us at hS hl2 ⊢
    obtain ⟨hul, hur⟩ := hl2
    repeat (first | refine DCode.seq ?_ | refine DCode.region ?_ | (refine DOps.valK 0 rfl rfl rfl rfl ?_; first | refine ⟨_, (OpVal.move rfl rfl), ?_⟩))
    refine DOps.cut [(213, vB (decide (mid < e ∧ e < b)))] [206, 207, 208, 209, 210, 211, 212, 213] [] ⟨trivial, trivial⟩ trivial ?_ ?_
    · by_cases q1 : mid < e
      · by_cases q2 : e < b
        · rw [decide_eq_true (And.intro q1 q2)]
          repeat (first | refine DOps.nil ?_ | (refine DOps.valK 0 rfl rfl rfl rfl ?_; first | refine ⟨_, (OpVal.move rfl rfl), ?_⟩) | (refine DOps.valK 2 rfl rfl rfl rfl ?_; first | refine ⟨_, (OpVal.pickT rfl rfl rfl), ?_⟩) | (refine DOps.k 14 rfl ?_; first | refine DOps.cmpT rfl rfl rfl rfl rfl rfl rfl (by omega) ?_ | refine DOps.cmpF rfl rfl rfl rfl rfl rfl rfl (by omega) ?_))
          exact ⟨rfl, by (repeat (first | exact Off.refl _ _ | refine Sub.base ?_ | refine Sub.junk ?_ | refine Sub.cons (by rfl) ?_ | refine Off.cons rfl ?_ | refine Off.junks rfl ?_)), by (repeat (first | exact MSubX.nil | refine MSubX.skip rfl ?_ | refine MSubX.cons (by rfl) ?_))⟩
        · rw [decide_eq_false (fun h => q2 h.2)]
          repeat (first | refine DOps.nil ?_ | (refine DOps.valK 0 rfl rfl rfl rfl ?_; first | refine ⟨_, (OpVal.move rfl rfl), ?_⟩) | (refine DOps.valK 2 rfl rfl rfl rfl ?_; first | refine ⟨_, (OpVal.pickT rfl rfl rfl), ?_⟩) | (refine DOps.k 14 rfl ?_; first | refine DOps.cmpT rfl rfl rfl rfl rfl rfl rfl (by omega) ?_ | refine DOps.cmpF rfl rfl rfl rfl rfl rfl rfl (by omega) ?_))
          exact ⟨rfl, by (repeat (first | exact Off.refl _ _ | refine Sub.base ?_ | refine Sub.junk ?_ | refine Sub.cons (by rfl) ?_ | refine Off.cons rfl ?_ | refine Off.junks rfl ?_)), by (repeat (first | exact MSubX.nil | refine MSubX.skip rfl ?_ | refine MSubX.cons (by rfl) ?_))⟩
      · rw [decide_eq_false (fun h => q1 h.1)]
        repeat (first | refine DOps.nil ?_ | refine DOps.off rfl rfl rfl ?_ | (refine DOps.valK 0 rfl rfl rfl rfl ?_; first | refine ⟨_, (OpVal.move rfl rfl), ?_⟩) | (refine DOps.valK 2 rfl rfl rfl rfl ?_; first | refine ⟨_, (OpVal.pickF rfl rfl rfl), ?_⟩) | (refine DOps.k 14 rfl ?_; first | refine DOps.cmpT rfl rfl rfl rfl rfl rfl rfl (by omega) ?_ | refine DOps.cmpF rfl rfl rfl rfl rfl rfl rfl (by omega) ?_))
        exact ⟨rfl, by (repeat (first | exact Off.refl _ _ | refine Sub.base ?_ | refine Sub.junk ?_ | refine Sub.cons (by rfl) ?_ | refine Off.cons rfl ?_ | refine Off.junks rfl ?_)), by (repeat (first | exact MSubX.nil | refine MSubX.skip rfl ?_ | refine MSubX.cons (by rfl) ?_))⟩
    intro env' M' hw
    repeat (first | refine q_then ?_ | refine q_thenX ?_ | refine q_thenR ?_ | refine q_block ?_ | refine q_blockX ?_ | refine q_blockR ?_ | refine q_seq ?_ | refine q_seqX ?_ | refine q_seqR ?_)
    refine DCode.weak hw ?_
    clear hw env' M'

    by_cases h : mid < e ∧ e < b
    · rw [if_pos h] at hS
      rw [decide_eq_true h]
      have c := symMerge_d l n us mid e b (by omega) h.1 h.2 (by omega) (by omega) hur
      rw [hul, ← hS] at c
      rw [show ((e : Nat) : Int) = (mid : Int) + (m : Int) - (lo : Int) by omega] at c
      repeat (first | refine DCode.region ?_ | refine DCode.condT rfl ?_ | refine DOps.callRow rfl rfl rfl rfl Tryz.func65 rfl (by kernel_rfl) rfl rfl (by repeat (first | exact pures_nil | refine pures_cons ?_ ?_ | exact trivial | exact pure_aggB rfl | exact arr_pure _ | exact Load.pure _ | exact Area.pure _ | exact dvs_pure _ | exact pure_sc | exact pure_sl)) (bC_pure _) c (fun cs' h => ?_) | refine DOps.nil ?_ | (refine DOps.valK 0 rfl rfl rfl rfl ?_; first | refine ⟨_, (OpVal.move rfl rfl), ?_⟩))
      subst h
      repeat (first | fail)
      exact endQM.row (.inl rfl) rfl .nil (fun t h => by cases h) rfl (bC_pure _) rfl
    · rw [if_neg h] at hS
      rw [decide_eq_false h, hS]
      repeat (first | refine DCode.skip ?_ | refine DCode.condF rfl ?_)
      exact endQM.row (.inl rfl) rfl .nil (fun t h => by cases h) rfl (bC_pure _) rfl
end Go.Proofs.YtejdeonbibbchaaGreatDoor
