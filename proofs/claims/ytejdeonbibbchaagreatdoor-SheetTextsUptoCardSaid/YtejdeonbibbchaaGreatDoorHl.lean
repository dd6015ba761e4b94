/- law25: the sort, on a row of boxes. -/
import Derived.Test.YtejdeonbibbchaaGreatDoorHk
set_option linter.unusedVariables false
set_option linter.unusedSimpArgs false
set_option linter.constructorNameAsVariable false
namespace Go.Proofs.YtejdeonbibbchaaGreatDoor
open Go Go.RowKit Go.Proofs.YtejdeonbibbchaaGreatDoor.DL
set_option linter.unusedVariables false
set_option linter.unusedSimpArgs false
attribute [local irreducible] DCode DOps OpVal DCalls DCallsM DCallsB DCallsR thenQ seqQ inBlockQ endQ endQM OpNew DCf

/-- Runs of twenty, each put in order. -/
def stabA (lt : Int → Int → Bool) (n : Nat) (xs : List Int) (a : Nat) : List Int :=
  if a + 20 ≤ n then stabA lt n (insUp lt a xs (a + 20 - (a + 1))) (a + 20) else insUp lt a xs (n - (a + 1))
termination_by n - a
decreasing_by omega
/-- Runs of a length, merged by twos. -/
def passA (lt : Int → Int → Bool) (n bs : Nat) (xs : List Int) (a : Nat) : List Int :=
  if h : 0 < bs ∧ a + 2 * bs ≤ n then passA lt n bs (symM lt (2 * bs) xs a (a + bs) (a + 2 * bs)) (a + 2 * bs) else if a + bs < n then symM lt (2 * bs) xs a (a + bs) n else xs
termination_by n - a
decreasing_by omega
def stabB (lt : Int → Int → Bool) (n : Nat) (xs : List Int) (bs : Nat) : List Int :=
  if h : 0 < bs ∧ bs < n then stabB lt n (passA lt n bs xs 0) (bs * 2) else xs
termination_by n - bs
decreasing_by omega
def sortS (lt : Int → Int → Bool) (xs : List Int) : List Int := stabB lt xs.length (stabA lt xs.length xs 0) 20

theorem passA_perm (lt : Int → Int → Bool) (n bs : Nat) (h0 : 0 < bs) : ∀ (f : Nat) (xs : List Int) (a : Nat), n - a ≤ f → n ≤ xs.length → (passA lt n bs xs a).Perm xs
  | f, xs, a, hf, hn => by
    rw [passA]
    split
    · rename_i h
      cases f with
      | zero => omega
      | succ f =>
        have p1 := symM_perm lt (2 * bs) xs a (a + bs) (a + 2 * bs) (by omega) (by omega) (by omega) (by omega)
        exact (passA_perm lt n bs h0 f _ _ (by omega) (by rw [p1.length_eq]; exact hn)).trans p1
    · split
      · exact symM_perm lt (2 * bs) xs a (a + bs) n (by omega) (by omega) (by omega) hn
      · exact .refl _

set_option maxRecDepth 10000 in
set_option maxHeartbeats 16000000 in
theorem stable_d (l : List Bx) (xs : List Int) (hn : xs.length ≤ 4194304) (hr : InR l xs) : DCallsR Tryz.prog 49 37 9 xs.length (bC l xs) [it (xs.length : Nat), .one (.d (FC l))] [] (fun cs => cs = bC l (sortS (ltX l) xs)) := by
  refine DCallsR.of0 (fun t ht => by cases ht) (bC_pure xs) (pures_cons pure_sc (pures_cons trivial pures_nil)) (fun cs' h => by rw [h]; exact bC_pure _) fun v => ?_
  refine DCallsM.enter tt_ok Tryz.func49 rfl Tryz.ntmps49 (by simp) ?_
  repeat (first | refine q_seq ?_ | refine DCode.seq ?_ | refine DCode.region ?_ | refine DCode.block ?_ | refine DOps.nil ?_ | (refine DOps.valK 0 rfl rfl rfl rfl ?_; first | refine ⟨_, (OpVal.move rfl rfl), ?_⟩) | (refine DOps.valK 1 rfl rfl rfl rfl ?_; first | refine ⟨_, (OpVal.assign rfl rfl), ?_⟩))
  generalize hN : xs.length = n at *
  refine DCode.loopG (fun s : Nat × List Int => [(7, vI .i64 (s.1 : Nat)), (8, vI .i64 ((s.1 + 20 : Nat) : Int))]) [7, 8, 11, 12, 13, 14, 15, 16, 17, 18, 19, 20, 21, 22] (fun s => [(0, some (.row 37 9 n v (bC l s.2) false))]) (fun s => s.1 ≤ n ∧ s.2.Perm xs ∧ stabA (ltX l) n s.2 s.1 = stabA (ltX l) n xs 0) (fun s => n - s.1) (0, xs) ⟨Nat.zero_le _, .refl _, rfl⟩ (fun i _ => ⟨trivial, trivial, trivial⟩) (fun i _ => ⟨rowOk _ _ _ _ _, trivial⟩) (by (repeat (first | exact Off.refl _ _ | refine Sub.base ?_ | refine Sub.junk ?_ | refine Sub.cons (by rfl) ?_ | refine Off.cons rfl ?_ | refine Off.junks rfl ?_))) (by (repeat (first | exact MSubX.nil | refine MSubX.skip rfl ?_ | refine MSubX.cons (by rfl) ?_))) ?_
  intro ⟨a, ys⟩ ⟨k1, k2, k3⟩
  simp only [] at k1 k2 k3
  show DCode _ _ _ _ _ ([(7, vI .i64 (a : Nat)), (8, vI .i64 ((a + 20 : Nat) : Int))] ++ junks _ _) ([(0, some (.row 37 9 n v (bC l ys) false))] ++ _)
  have hyl := k2.length_eq
  rw [hN] at hyl
  have hyr := hr.perm k2
  by_cases hlt : a + 20 ≤ n
  · rw [stabA, if_pos hlt] at k3
    have c := insertion_d l ys a (a + 20) (by omega) (by omega) (by omega) hyr
    have p1 := insUp_perm (ltX l) a ys (a + 20 - (a + 1)) (by omega)
    rw [hyl] at c
    generalize insUp (ltX l) a ys (a + 20 - (a + 1)) = zs at c k3 p1
    repeat (first | refine q_seq ?_ | refine q_then ?_ | refine q_block ?_ | refine DCode.seq ?_ | refine DCode.region ?_ | refine DCode.block ?_ | refine DCode.skip ?_ | refine DCode.condT rfl ?_ | refine DOps.callRow rfl rfl rfl rfl Tryz.func64 rfl (by kernel_rfl) rfl rfl (by repeat (first | exact pures_nil | refine pures_cons ?_ ?_ | exact trivial | exact pure_aggB rfl | exact arr_pure _ | exact Load.pure _ | exact Area.pure _ | exact dvs_pure _ | exact pure_sc | exact pure_sl)) (bC_pure _) c (fun cs' h => ?_) | refine DOps.nil ?_ | (refine DOps.valK 0 rfl rfl rfl rfl ?_; first | refine ⟨_, (OpVal.move rfl rfl), ?_⟩) | (refine DOps.valK 1 rfl rfl rfl rfl ?_; first | refine ⟨_, (OpVal.assign rfl rfl), ?_⟩) | (refine DOps.valK 10 rfl rfl rfl rfl ?_; first | refine ⟨_, (OpVal.add rfl rfl rfl (by omega) (by omega)), ?_⟩) | (refine DOps.k 14 rfl ?_; first | refine DOps.cmpT rfl rfl rfl rfl rfl rfl rfl (by omega) ?_ | refine DOps.cmpF rfl rfl rfl rfl rfl rfl rfl (by omega) ?_))
    subst h
    repeat (first | fail)
    exact ⟨(a + 20, zs), ⟨hlt, p1.trans k2, k3⟩, by show n - (a + 20) < n - a; omega, Sub.cons (by rfl) (Sub.cons (vI_congr (by (try dsimp only); omega)) (by (repeat (first | exact Off.refl _ _ | refine Sub.base ?_ | refine Sub.junk ?_ | refine Sub.cons (by rfl) ?_ | refine Off.cons rfl ?_ | refine Off.junks rfl ?_)))), by (repeat (first | exact MSubX.nil | refine MSubX.skip rfl ?_ | refine MSubX.cons (by rfl) ?_))⟩
  rw [stabA, if_neg hlt] at k3
  have c := insertion_d l ys a n (by omega) (by omega) (by omega) hyr
  have p1 := insUp_perm (ltX l) a ys (n - (a + 1)) (by omega)
  rw [hyl] at c
  rw [k3] at c p1
  have hsort : sortS (ltX l) xs = stabB (ltX l) n (stabA (ltX l) n xs 0) 20 := by rw [sortS, hN]
  generalize stabA (ltX l) n xs 0 = us at c p1 hsort
  have p2 := p1.trans k2
  repeat (first | refine q_seq ?_ | refine q_seqX ?_ | refine q_thenX ?_ | refine q_blockX ?_ | refine DCode.seq ?_ | refine DCode.region ?_ | refine DCode.block ?_ | refine DCode.exit ?_ | refine DCode.condF rfl ?_ | refine DOps.callRow rfl rfl rfl rfl Tryz.func64 rfl (by kernel_rfl) rfl rfl (by repeat (first | exact pures_nil | refine pures_cons ?_ ?_ | exact trivial | exact pure_aggB rfl | exact arr_pure _ | exact Load.pure _ | exact Area.pure _ | exact dvs_pure _ | exact pure_sc | exact pure_sl)) (bC_pure _) c (fun cs' h => ?_) | refine DOps.nil ?_ | (refine DOps.valK 0 rfl rfl rfl rfl ?_; first | refine ⟨_, (OpVal.move rfl rfl), ?_⟩) | (refine DOps.k 14 rfl ?_; first | refine DOps.cmpT rfl rfl rfl rfl rfl rfl rfl (by omega) ?_ | refine DOps.cmpF rfl rfl rfl rfl rfl rfl rfl (by omega) ?_))
  subst h
  clear k1 k2 k3 hyl hyr hlt c p1
  repeat (first | fail)
  refine DCode.keep [(0, .v (.one (.row 0 v))), (1, vI .i64 (n : Nat)), (2, .v (.one (.d (FC l)))), (6, vI .i64 20)] (Sub.cons rfl (Sub.cons rfl (Sub.cons rfl (Sub.cons rfl Sub.nil)))) ?_
  refine DCode.loopG (fun s : Nat × List Int => [(6, vI .i64 (s.1 : Nat))]) [6, 7, 8, 9, 28, 29, 30, 31, 32, 33, 34, 35, 36, 37, 38, 39, 40, 41, 42, 43, 44, 45, 46, 47, 48, 49, 50, 51, 52, 53, 54, 55, 56, 57, 58, 59, 60, 61, 62] (fun s => [(0, some (.row 37 9 n v (bC l s.2) false))]) (fun s => 0 < s.1 ∧ s.1 ≤ 8388628 ∧ s.2.Perm xs ∧ stabB (ltX l) n s.2 s.1 = sortS (ltX l) xs) (fun s => n - s.1) (20, us) ⟨by show 0 < 20; omega, by show 20 ≤ 8388628; omega, p2, hsort.symm⟩ (fun i _ => ⟨trivial, trivial⟩) (fun i _ => ⟨rowOk _ _ _ _ _, trivial⟩) (by (repeat (first | exact Off.refl _ _ | refine Sub.base ?_ | refine Sub.junk ?_ | refine Sub.cons (by rfl) ?_ | refine Off.cons rfl ?_ | refine Off.junks rfl ?_))) (by (repeat (first | exact MSubX.nil | refine MSubX.skip rfl ?_ | refine MSubX.cons (by rfl) ?_))) ?_
  intro ⟨bs, ys⟩ ⟨k0, k1, k2, k3⟩
  simp only [] at k0 k1 k2 k3
  show DCode _ _ _ _ _ ([(6, vI .i64 (bs : Nat))] ++ junks _ _) ([(0, some (.row 37 9 n v (bC l ys) false))] ++ _)
  have hyl := k2.length_eq
  rw [hN] at hyl
  by_cases hlt : bs < n
  rotate_left
  · rw [stabB, dif_neg (fun h => hlt h.2)] at k3
    rw [← k3]
    repeat (first | refine q_seq ?_ | refine q_seqX ?_ | refine q_thenX ?_ | refine q_blockX ?_ | refine DCode.seq ?_ | refine DCode.region ?_ | refine DCode.exit ?_ | refine DCode.condF rfl ?_ | refine DOps.nil ?_ | (refine DOps.valK 0 rfl rfl rfl rfl ?_; first | refine ⟨_, (OpVal.move rfl rfl), ?_⟩) | (refine DOps.k 14 rfl ?_; first | refine DOps.cmpT rfl rfl rfl rfl rfl rfl rfl (by omega) ?_ | refine DOps.cmpF rfl rfl rfl rfl rfl rfl rfl (by omega) ?_))
    exact endQM.row (.inl rfl) rfl .nil (fun t h => by cases h) rfl (bC_pure _) rfl
  rw [stabB, dif_pos ⟨k0, hlt⟩] at k3
  have pp := (passA_perm (ltX l) n bs k0 _ ys 0 (Nat.le_refl _) (by omega)).trans k2
  repeat (first | refine q_seq ?_ | refine DCode.seq ?_ | refine DCode.region ?_ | refine DCode.block ?_ | refine DCode.skip ?_ | refine DCode.condT rfl ?_ | (refine DOps.valK 15 rfl rfl rfl rfl ?_; refine ⟨_, OpVal.mul rfl rfl rfl (by omega) (by omega), ?_⟩) | refine DOps.nil ?_ | (refine DOps.valK 0 rfl rfl rfl rfl ?_; first | refine ⟨_, (OpVal.move rfl rfl), ?_⟩) | (refine DOps.valK 1 rfl rfl rfl rfl ?_; first | refine ⟨_, (OpVal.assign rfl rfl), ?_⟩) | (refine DOps.k 14 rfl ?_; first | refine DOps.cmpT rfl rfl rfl rfl rfl rfl rfl (by omega) ?_ | refine DOps.cmpF rfl rfl rfl rfl rfl rfl rfl (by omega) ?_))
  refine DCode.loopG (fun s : Nat × List Int => [(7, vI .i64 (s.1 : Nat)), (8, vI .i64 ((s.1 + 2 * bs : Nat) : Int))]) [7, 8, 33, 34, 35, 36, 37, 38, 39, 40, 41, 42, 43, 44, 45, 46, 47, 48] (fun s => [(0, some (.row 37 9 n v (bC l s.2) false))]) (fun s => s.1 ≤ n ∧ s.2.Perm xs ∧ passA (ltX l) n bs s.2 s.1 = passA (ltX l) n bs ys 0) (fun s => n - s.1) (0, ys) ⟨Nat.zero_le _, k2, rfl⟩ (fun i _ => ⟨trivial, trivial, trivial⟩) (fun i _ => ⟨rowOk _ _ _ _ _, trivial⟩) (Sub.cons (by rfl) (Sub.cons (vI_congr (by (try dsimp only); omega)) (by (repeat (first | exact Off.refl _ _ | refine Sub.base ?_ | refine Sub.junk ?_ | refine Sub.cons (by rfl) ?_ | refine Off.cons rfl ?_ | refine Off.junks rfl ?_))))) (by (repeat (first | exact MSubX.nil | refine MSubX.skip rfl ?_ | refine MSubX.cons (by rfl) ?_))) ?_
  intro ⟨a, zs⟩ ⟨j1, j2, j3⟩
  simp only [] at j1 j2 j3
  show DCode _ _ _ _ _ ([(7, vI .i64 (a : Nat)), (8, vI .i64 ((a + 2 * bs : Nat) : Int))] ++ junks _ _) ([(0, some (.row 37 9 n v (bC l zs) false))] ++ _)
  have hzl := j2.length_eq
  rw [hN] at hzl
  have hzr := hr.perm j2
  by_cases hle : a + 2 * bs ≤ n
  · rw [passA, dif_pos ⟨k0, hle⟩] at j3
    have c := symMerge_d l (2 * bs) zs a (a + bs) (a + 2 * bs) (by omega) (by omega) (by omega) (by omega) (by omega) hzr
    have p1 := symM_perm (ltX l) (2 * bs) zs a (a + bs) (a + 2 * bs) (by omega) (by omega) (by omega) (by omega)
    rw [hzl] at c
    generalize symM (ltX l) (2 * bs) zs a (a + bs) (a + 2 * bs) = ts at c j3 p1
    repeat (first | refine q_seq ?_ | refine q_then ?_ | refine q_block ?_ | refine DCode.seq ?_ | refine DCode.region ?_ | refine DCode.block ?_ | refine DCode.skip ?_ | refine DCode.condT rfl ?_ | refine DOps.callRow rfl rfl rfl rfl Tryz.func65 rfl (by kernel_rfl) rfl rfl (by repeat (first | exact pures_nil | refine pures_cons ?_ ?_ | exact trivial | exact pure_aggB rfl | exact arr_pure _ | exact Load.pure _ | exact Area.pure _ | exact dvs_pure _ | exact pure_sc | exact pure_sl)) (bC_pure _) c (fun cs' h => ?_) | (refine DOps.valK 15 rfl rfl rfl rfl ?_; refine ⟨_, OpVal.mul rfl rfl rfl (by omega) (by omega), ?_⟩) | refine DOps.nil ?_ | (refine DOps.valK 0 rfl rfl rfl rfl ?_; first | refine ⟨_, (OpVal.move rfl rfl), ?_⟩) | (refine DOps.valK 1 rfl rfl rfl rfl ?_; first | refine ⟨_, (OpVal.assign rfl rfl), ?_⟩) | (refine DOps.valK 10 rfl rfl rfl rfl ?_; first | refine ⟨_, (OpVal.add rfl rfl rfl (by omega) (by omega)), ?_⟩) | (refine DOps.k 14 rfl ?_; first | refine DOps.cmpT rfl rfl rfl rfl rfl rfl rfl (by omega) ?_ | refine DOps.cmpF rfl rfl rfl rfl rfl rfl rfl (by omega) ?_))
    subst h
    repeat (first | fail)
    exact ⟨(a + 2 * bs, ts), ⟨hle, p1.trans j2, j3⟩, by show n - (a + 2 * bs) < n - a; omega, Sub.cons (by rfl) (Sub.cons (vI_congr (by (try dsimp only); omega)) (by (repeat (first | exact Off.refl _ _ | refine Sub.base ?_ | refine Sub.junk ?_ | refine Sub.cons (by rfl) ?_ | refine Off.cons rfl ?_ | refine Off.junks rfl ?_)))), by (repeat (first | exact MSubX.nil | refine MSubX.skip rfl ?_ | refine MSubX.cons (by rfl) ?_))⟩
  rw [passA, dif_neg (fun h => hle h.2)] at j3
  by_cases hm : a + bs < n
  · rw [if_pos hm] at j3
    have c := symMerge_d l (2 * bs) zs a (a + bs) n (by omega) (by omega) (by omega) (by omega) (by omega) hzr
    rw [hzl, j3] at c
    generalize passA (ltX l) n bs ys 0 = ts at c k3 pp
    repeat (first | refine q_seq ?_ | refine q_seqX ?_ | refine q_then ?_ | refine q_thenX ?_ | refine q_block ?_ | refine q_blockX ?_ | refine DCode.seq ?_ | refine DCode.region ?_ | refine DCode.exit ?_ | refine DCode.condT rfl ?_ | refine DCode.condF rfl ?_ | refine DOps.callRow rfl rfl rfl rfl Tryz.func65 rfl (by kernel_rfl) rfl rfl (by repeat (first | exact pures_nil | refine pures_cons ?_ ?_ | exact trivial | exact pure_aggB rfl | exact arr_pure _ | exact Load.pure _ | exact Area.pure _ | exact dvs_pure _ | exact pure_sc | exact pure_sl)) (bC_pure _) c (fun cs' h => ?_) | (refine DOps.valK 15 rfl rfl rfl rfl ?_; refine ⟨_, OpVal.mul rfl rfl rfl (by omega) (by omega), ?_⟩) | refine DOps.nil ?_ | (refine DOps.valK 0 rfl rfl rfl rfl ?_; first | refine ⟨_, (OpVal.move rfl rfl), ?_⟩) | (refine DOps.valK 1 rfl rfl rfl rfl ?_; first | refine ⟨_, (OpVal.assign rfl rfl), ?_⟩) | (refine DOps.valK 10 rfl rfl rfl rfl ?_; first | refine ⟨_, (OpVal.add rfl rfl rfl (by omega) (by omega)), ?_⟩) | (refine DOps.k 14 rfl ?_; first | refine DOps.cmpT rfl rfl rfl rfl rfl rfl rfl (by omega) ?_ | refine DOps.cmpF rfl rfl rfl rfl rfl rfl rfl (by omega) ?_))
    subst h
    repeat (first | fail)
    exact ⟨(bs * 2, ts), ⟨by show 0 < bs * 2; omega, by show bs * 2 ≤ 8388628; omega, pp, k3⟩, by show n - bs * 2 < n - bs; omega, Sub.cons (vI_congr (by (try dsimp only); omega)) (by (repeat (first | exact Off.refl _ _ | refine Sub.base ?_ | refine Sub.junk ?_ | refine Sub.cons (by rfl) ?_ | refine Off.cons rfl ?_ | refine Off.junks rfl ?_))), by (repeat (first | exact MSubX.nil | refine MSubX.skip rfl ?_ | refine MSubX.cons (by rfl) ?_))⟩
  · rw [if_neg hm] at j3
    rw [← j3] at k3 pp
    repeat (first | refine q_seq ?_ | refine q_seqX ?_ | refine q_then ?_ | refine q_thenX ?_ | refine q_block ?_ | refine q_blockX ?_ | refine DCode.seq ?_ | refine DCode.region ?_ | refine DCode.skip ?_ | refine DCode.exit ?_ | refine DCode.condF rfl ?_ | (refine DOps.valK 15 rfl rfl rfl rfl ?_; refine ⟨_, OpVal.mul rfl rfl rfl (by omega) (by omega), ?_⟩) | refine DOps.nil ?_ | (refine DOps.valK 0 rfl rfl rfl rfl ?_; first | refine ⟨_, (OpVal.move rfl rfl), ?_⟩) | (refine DOps.valK 1 rfl rfl rfl rfl ?_; first | refine ⟨_, (OpVal.assign rfl rfl), ?_⟩) | (refine DOps.valK 10 rfl rfl rfl rfl ?_; first | refine ⟨_, (OpVal.add rfl rfl rfl (by omega) (by omega)), ?_⟩) | (refine DOps.k 14 rfl ?_; first | refine DOps.cmpT rfl rfl rfl rfl rfl rfl rfl (by omega) ?_ | refine DOps.cmpF rfl rfl rfl rfl rfl rfl rfl (by omega) ?_))
    exact ⟨(bs * 2, zs), ⟨by show 0 < bs * 2; omega, by show bs * 2 ≤ 8388628; omega, pp, k3⟩, by show n - bs * 2 < n - bs; omega, Sub.cons (vI_congr (by (try dsimp only); omega)) (by (repeat (first | exact Off.refl _ _ | refine Sub.base ?_ | refine Sub.junk ?_ | refine Sub.cons (by rfl) ?_ | refine Off.cons rfl ?_ | refine Off.junks rfl ?_))), by (repeat (first | exact MSubX.nil | refine MSubX.skip rfl ?_ | refine MSubX.cons (by rfl) ?_))⟩

set_option maxRecDepth 10000 in
set_option maxHeartbeats 16000000 in
theorem sortStable_d (l : List Bx) (xs : List Int) (hn : xs.length ≤ 4194304) (hr : InR l xs) : DCallsR Tryz.prog 32 37 9 xs.length (bC l xs) [.one (.d FS)] [] (fun cs => cs = bC l (sortS (ltX l) xs)) := by
  have c := stable_d l xs hn hr
  refine DCallsR.of0 (fun t ht => by cases ht) (bC_pure xs) (pures_cons trivial pures_nil) (fun cs' h => by rw [h]; exact bC_pure _) fun v => ?_
  refine DCallsM.enter tt_ok Tryz.func32 rfl Tryz.ntmps32 (by simp) ?_
  refine DCode.re (y := FC l) 1 rfl (DEq.func _ _) ?_
  repeat (first | refine DCode.region ?_ | refine DOps.callRow rfl rfl rfl rfl Tryz.func49 rfl (by kernel_rfl) rfl rfl (by repeat (first | exact pures_nil | refine pures_cons ?_ ?_ | exact trivial | exact pure_aggB rfl | exact arr_pure _ | exact Load.pure _ | exact Area.pure _ | exact dvs_pure _ | exact pure_sc | exact pure_sl)) (bC_pure _) c (fun cs' h => ?_) | refine DOps.nil ?_ | (refine DOps.valK 0 rfl rfl rfl rfl ?_; first | refine ⟨_, (OpVal.move rfl rfl), ?_⟩) | (refine DOps.valK 17 rfl rfl rfl rfl ?_; first | refine ⟨_, (OpVal.lenRow tt_ok rfl rfl rfl rfl rfl rfl rfl rfl), ?_⟩))
  subst h
  repeat (first | fail)
  exact endQM.row (.inl rfl) rfl .nil (fun t h => by cases h) rfl (bC_pure _) rfl
end Go.Proofs.YtejdeonbibbchaaGreatDoor
