/- law25: the stable sort's inner functions, on a row of boxes. -/
import Derived.Test.YtejdeonbibbchaaGreatDoorHi
import Derived.Test.YtejdeonbibbchaaGreatDoorHP
set_option linter.unusedVariables false
set_option linter.unusedSimpArgs false
set_option linter.constructorNameAsVariable false
namespace Go.Proofs.YtejdeonbibbchaaGreatDoor
open Go Go.RowKit Go.Proofs.YtejdeonbibbchaaGreatDoor.DL
set_option linter.unusedVariables false
set_option linter.unusedSimpArgs false
attribute [local irreducible] DCode DOps OpVal DCalls DCallsM DCallsB DCallsR thenQ seqQ inBlockQ endQ endQM OpNew DCf

set_option maxRecDepth 10000 in
set_option maxHeartbeats 8000000 in
theorem swapRange_d (l : List Bx) (xs : List Int) (a b k : Nat) (hn : xs.length ≤ 4194304) (ha : a + k ≤ xs.length) (hb : b + k ≤ xs.length) (F : DV) : DCallsR Tryz.prog 97 37 9 xs.length (bC l xs) [it a, it b, it k, .one (.d F)] [] (fun cs => cs = bC l (swpR xs a b k)) := by
  refine DCallsR.of0 (fun t ht => by cases ht) (bC_pure xs) (pures_cons pure_sc (pures_cons pure_sc (pures_cons pure_sc (pures_cons trivial pures_nil)))) (fun cs' h => by rw [h]; exact bC_pure _) fun v => ?_
  refine DCallsM.enter tt_ok Tryz.func97 rfl Tryz.ntmps97 (by simp) ?_
  repeat (first | refine q_seq ?_ | refine DCode.seq ?_ | refine DCode.region ?_ | refine DCode.block ?_ | refine DOps.nil ?_ | (refine DOps.valK 1 rfl rfl rfl rfl ?_; first | refine ⟨_, (OpVal.assign rfl rfl), ?_⟩))
  refine DCode.loopG (fun i : Nat => [(10, vI .i64 (i : Nat))]) [10, 11, 12, 13, 14, 15, 16, 17, 18, 19, 20, 21, 22, 23, 24, 25, 26, 27, 28, 29, 30, 31, 32, 33, 34, 35, 36, 37] (fun i => [(0, some (.row 37 9 xs.length v (bC l (swpR xs a b i)) false))]) (fun i => i ≤ k) (fun i => k - i) 0 (Nat.zero_le _) (fun i _ => ⟨trivial, trivial⟩) (fun i _ => ⟨rowOk _ _ _ _ _, trivial⟩) (by (repeat (first | exact Off.refl _ _ | refine Sub.base ?_ | refine Sub.junk ?_ | refine Sub.cons (by rfl) ?_ | refine Off.cons rfl ?_ | refine Off.junks rfl ?_))) (by (repeat (first | exact MSubX.nil | refine MSubX.skip rfl ?_ | refine MSubX.cons (by rfl) ?_))) ?_
  intro i hi
  show DCode _ _ _ _ _ ([(10, vI .i64 (i : Nat))] ++ junks _ _) ([(0, some (.row 37 9 xs.length v (bC l (swpR xs a b i)) false))] ++ _)
  have hl := swpR_length xs a b i
  by_cases hlt : i < k
  · have hnx : swpR xs a b (i + 1) = swp (swpR xs a b i) (a + i) (b + i) := rfl
    generalize swpR xs a b i = ys at hl hnx ⊢
    repeat (first | refine q_seq ?_ | refine DCode.seq ?_ | refine DCode.region ?_ | refine DCode.block ?_ | refine DCode.skip ?_ | refine DCode.condT rfl ?_ | refine DOps.nil ?_ | (refine DOps.valK 0 rfl rfl rfl rfl ?_; first | refine ⟨_, (OpVal.move rfl rfl), ?_⟩) | (refine DOps.k 14 rfl ?_; first | refine DOps.cmpT rfl rfl rfl rfl rfl rfl rfl (by omega) ?_ | refine DOps.cmpF rfl rfl rfl rfl rfl rfl rfl (by omega) ?_))
    (repeat refine DCode.seq ?_) <;> refine DCode.conf [(21, 0, 0), (23, 0, 0)] [([], []), ([], []), ([], []), ([], []), ([], [0]), ([], [0]), ([], [0]), ([], [0])] (by kernel_rfl) (by kernel_rfl) ?_
    repeat (first | (refine DCf.valK 19 rfl rfl (fun _ => rfl) rfl rfl ?_; refine ⟨_, fun _ _ _ => OpVal.iaR tt_ok rfl rfl rfl rfl rfl rfl rfl (by omega) (by omega), ?_⟩) | (refine DCf.valK 3 rfl rfl (fun _ => rfl) rfl rfl ?_; refine ⟨_, fun _ _ _ => OpVal.loadRB (j := b + i) tt_ok rfl rfl rfl rfl rfl (by omega) (by omega), ?_⟩) | (refine DCf.valK 3 rfl rfl (fun _ => rfl) rfl rfl ?_; refine ⟨_, fun _ _ _ => OpVal.loadRB (j := a + i) tt_ok rfl rfl rfl rfl rfl (by omega) (by omega), ?_⟩) | refine DCf.storeRB (j := a + i) tt_ok rfl rfl (fun _ => rfl) rfl (fun _ => rfl) (fun _ => rfl) rfl rfl (fun _ _ => rfl) (by omega) (by omega) rfl ?_ | refine DCf.storeRB (j := b + i) tt_ok rfl rfl (fun _ => rfl) rfl (fun _ => rfl) (fun _ => rfl) rfl rfl (fun _ _ => rfl) (by omega) (by simp; omega) rfl ?_ | (refine DCf.valK 0 rfl rfl (fun _ => rfl) rfl rfl ?_; first | refine ⟨_, fun _ _ _ => (OpVal.move rfl rfl), ?_⟩) | (refine DCf.valK 10 rfl rfl (fun _ => rfl) rfl rfl ?_; first | refine ⟨_, fun _ _ _ => (OpVal.add rfl rfl rfl (by omega) (by omega)), ?_⟩))
    refine DCf.done ?_
    repeat (first | refine q_seq ?_ | refine q_then ?_ | refine q_block ?_ | refine DCode.region ?_ | refine DOps.nil ?_ | (refine DOps.valK 0 rfl rfl rfl rfl ?_; first | refine ⟨_, (OpVal.move rfl rfl), ?_⟩) | (refine DOps.valK 1 rfl rfl rfl rfl ?_; first | refine ⟨_, (OpVal.assign rfl rfl), ?_⟩) | (refine DOps.valK 10 rfl rfl rfl rfl ?_; first | refine ⟨_, (OpVal.add rfl rfl rfl (by omega) (by omega)), ?_⟩))
    exact ⟨i + 1, by omega, by omega, Sub.cons (vI_congr (by omega)) (by (repeat (first | exact Off.refl _ _ | refine Sub.base ?_ | refine Sub.junk ?_ | refine Sub.cons (by rfl) ?_ | refine Off.cons rfl ?_ | refine Off.junks rfl ?_))), by rw [hnx]; (repeat (first | exact MSubX.nil | refine MSubX.skip rfl ?_ | refine MSubX.cons (by rfl) ?_))⟩
  · obtain rfl : i = k := by omega
    repeat (first | refine q_seq ?_ | refine q_seqX ?_ | refine q_thenX ?_ | refine q_blockX ?_ | refine DCode.seq ?_ | refine DCode.region ?_ | refine DCode.exit ?_ | refine DCode.condF rfl ?_ | refine DOps.nil ?_ | (refine DOps.valK 0 rfl rfl rfl rfl ?_; first | refine ⟨_, (OpVal.move rfl rfl), ?_⟩) | (refine DOps.k 14 rfl ?_; first | refine DOps.cmpT rfl rfl rfl rfl rfl rfl rfl (by omega) ?_ | refine DOps.cmpF rfl rfl rfl rfl rfl rfl rfl (by omega) ?_))
    exact endQM.row (.inl rfl) rfl .nil (fun t h => by cases h) rfl (bC_pure _) rfl

theorem rot_eq (xs : List Int) (m i : Nat) : rot xs m i i = swpR xs (m - i) m i := by rw [rot, dif_pos rfl]
theorem rot_gt (xs : List Int) {m i j : Nat} (h0 : 0 < j) (h : j < i) : rot xs m i j = rot (swpR xs (m - i) m j) m (i - j) j := by rw [rot, dif_neg (by omega), dif_neg (by omega), if_pos h]
theorem rot_lt (xs : List Int) {m i j : Nat} (h0 : 0 < i) (h : i < j) : rot xs m i j = rot (swpR xs (m - i) (m + j - i) i) m i (j - i) := by rw [rot, dif_neg (by omega), dif_neg (by omega), if_neg (by omega)]

set_option maxRecDepth 10000 in
set_option maxHeartbeats 8000000 in
theorem rotate_d (l : List Bx) (xs : List Int) (a m b : Nat) (hn : xs.length ≤ 4194304) (h1 : a < m) (h2 : m < b) (hb : b ≤ xs.length) (F : DV) : DCallsR Tryz.prog 80 37 9 xs.length (bC l xs) [it a, it m, it b, .one (.d F)] [] (fun cs => cs = bC l (rot xs m (m - a) (b - m))) := by
  refine DCallsR.of0 (fun t ht => by cases ht) (bC_pure xs) (pures_cons pure_sc (pures_cons pure_sc (pures_cons pure_sc (pures_cons trivial pures_nil)))) (fun cs' h => by rw [h]; exact bC_pure _) fun v => ?_
  refine DCallsM.enter tt_ok Tryz.func80 rfl Tryz.ntmps80 (by simp) ?_
  repeat (first | refine q_seq ?_ | refine DCode.seq ?_ | refine DCode.region ?_ | refine DCode.block ?_ | refine DOps.nil ?_ | (refine DOps.valK 0 rfl rfl rfl rfl ?_; first | refine ⟨_, (OpVal.move rfl rfl), ?_⟩) | (refine DOps.valK 1 rfl rfl rfl rfl ?_; first | refine ⟨_, (OpVal.assign rfl rfl), ?_⟩) | (refine DOps.valK 11 rfl rfl rfl rfl ?_; first | refine ⟨_, (OpVal.sub rfl rfl rfl (by omega) (by omega)), ?_⟩))
  refine DCode.loopG (fun s : Nat × Nat × List Int => [(10, vI .i64 (s.1 : Nat)), (11, vI .i64 (s.2.1 : Nat))]) [10, 11, 18, 19, 20, 21, 22, 23, 24, 25, 26, 27, 28, 29, 30, 31, 32, 33, 34, 35, 36, 37, 38, 39, 40, 41, 42, 43, 44, 45, 46, 47, 48, 49] (fun s => [(0, some (.row 37 9 xs.length v (bC l s.2.2) false))]) (fun s => 0 < s.1 ∧ 0 < s.2.1 ∧ s.1 ≤ m ∧ m + s.2.1 ≤ xs.length ∧ s.2.2.length = xs.length ∧ rot s.2.2 m s.1 s.2.1 = rot xs m (m - a) (b - m)) (fun s => s.1 + s.2.1) (m - a, b - m, xs) ⟨by show 0 < m - a; omega, by show 0 < b - m; omega, by show m - a ≤ m; omega, by show m + (b - m) ≤ xs.length; omega, rfl, rfl⟩ (fun i _ => ⟨trivial, trivial, trivial⟩) (fun i _ => ⟨rowOk _ _ _ _ _, trivial⟩) (Sub.cons (vI_congr (by (try dsimp only); omega)) (Sub.cons (vI_congr (by (try dsimp only); omega)) (by (repeat (first | exact Off.refl _ _ | refine Sub.base ?_ | refine Sub.junk ?_ | refine Sub.cons (by rfl) ?_ | refine Off.cons rfl ?_ | refine Off.junks rfl ?_))))) (by (repeat (first | exact MSubX.nil | refine MSubX.skip rfl ?_ | refine MSubX.cons (by rfl) ?_))) ?_
  intro ⟨i, j, ys⟩ ⟨k1, k2, k3, k4, k5, k6⟩
  simp only [] at k1 k2 k3 k4 k5 k6
  show DCode _ _ _ _ _ ([(10, vI .i64 (i : Nat)), (11, vI .i64 (j : Nat))] ++ junks _ _) ([(0, some (.row 37 9 xs.length v (bC l ys) false))] ++ _)
  generalize rot xs m (m - a) (b - m) = T at k6 ⊢
  rcases (show i = j ∨ j < i ∨ i < j by omega) with rfl | hlt | hlt
  · have c := swapRange_d l ys (m - i) m i (by omega) (by omega) (by omega) F
    rw [k5, show ((m - i : Nat) : Int) = (m : Int) - (i : Int) by omega, ← rot_eq, k6] at c
    repeat (first | refine q_seq ?_ | refine q_seqX ?_ | refine q_thenX ?_ | refine q_blockX ?_ | refine DCode.seq ?_ | refine DCode.region ?_ | refine DCode.exit ?_ | refine DCode.condF rfl ?_ | refine DOps.callRow rfl rfl rfl rfl Tryz.func97 rfl (by kernel_rfl) rfl rfl (by repeat (first | exact pures_nil | refine pures_cons ?_ ?_ | exact trivial | exact pure_aggB rfl | exact arr_pure _ | exact Load.pure _ | exact Area.pure _ | exact dvs_pure _ | exact pure_sc | exact pure_sl)) (bC_pure _) c (fun cs' h => ?_) | refine DOps.nil ?_ | (refine DOps.valK 0 rfl rfl rfl rfl ?_; first | refine ⟨_, (OpVal.move rfl rfl), ?_⟩) | (refine DOps.valK 11 rfl rfl rfl rfl ?_; first | refine ⟨_, (OpVal.sub rfl rfl rfl (by omega) (by omega)), ?_⟩) | (refine DOps.k 13 rfl ?_; first | refine DOps.cmpT rfl rfl rfl rfl rfl rfl rfl (by omega) ?_ | refine DOps.cmpF rfl rfl rfl rfl rfl rfl rfl (by omega) ?_))
    subst h
    repeat (first | fail)
    exact endQM.row (.inl rfl) rfl .nil (fun t h => by cases h) rfl (bC_pure _) rfl
  · have c := swapRange_d l ys (m - i) m j (by omega) (by omega) (by omega) F
    rw [k5, show ((m - i : Nat) : Int) = (m : Int) - (i : Int) by omega] at c
    rw [rot_gt ys k2 hlt] at k6
    have hl := swpR_length ys (m - i) m j
    generalize swpR ys (m - i) m j = zs at c k6 hl
    repeat (first | refine q_seq ?_ | refine q_then ?_ | refine q_block ?_ | refine DCode.seq ?_ | refine DCode.region ?_ | refine DCode.block ?_ | refine DCode.skip ?_ | refine DCode.condT rfl ?_ | refine DOps.callRow rfl rfl rfl rfl Tryz.func97 rfl (by kernel_rfl) rfl rfl (by repeat (first | exact pures_nil | refine pures_cons ?_ ?_ | exact trivial | exact pure_aggB rfl | exact arr_pure _ | exact Load.pure _ | exact Area.pure _ | exact dvs_pure _ | exact pure_sc | exact pure_sl)) (bC_pure _) c (fun cs' h => ?_) | refine DOps.nil ?_ | (refine DOps.valK 0 rfl rfl rfl rfl ?_; first | refine ⟨_, (OpVal.move rfl rfl), ?_⟩) | (refine DOps.valK 1 rfl rfl rfl rfl ?_; first | refine ⟨_, (OpVal.assign rfl rfl), ?_⟩) | (refine DOps.valK 11 rfl rfl rfl rfl ?_; first | refine ⟨_, (OpVal.sub rfl rfl rfl (by omega) (by omega)), ?_⟩) | (refine DOps.k 13 rfl ?_; first | refine DOps.cmpT rfl rfl rfl rfl rfl rfl rfl (by omega) ?_ | refine DOps.cmpF rfl rfl rfl rfl rfl rfl rfl (by omega) ?_) | (refine DOps.k 14 rfl ?_; first | refine DOps.cmpT rfl rfl rfl rfl rfl rfl rfl (by omega) ?_ | refine DOps.cmpF rfl rfl rfl rfl rfl rfl rfl (by omega) ?_))
    subst h
    repeat (first | fail)
    exact ⟨(i - j, j, zs), ⟨by show 0 < i - j; omega, k2, by show i - j ≤ m; omega, k4, by show zs.length = _; omega, k6⟩, by show i - j + j < i + j; omega, Sub.cons (vI_congr (by (try dsimp only); omega)) (by (repeat (first | exact Off.refl _ _ | refine Sub.base ?_ | refine Sub.junk ?_ | refine Sub.cons (by rfl) ?_ | refine Off.cons rfl ?_ | refine Off.junks rfl ?_))), by (repeat (first | exact MSubX.nil | refine MSubX.skip rfl ?_ | refine MSubX.cons (by rfl) ?_))⟩
  · have c := swapRange_d l ys (m - i) (m + j - i) i (by omega) (by omega) (by omega) F
    rw [k5, show ((m - i : Nat) : Int) = (m : Int) - (i : Int) by omega, show ((m + j - i : Nat) : Int) = (m : Int) + (j : Int) - (i : Int) by omega] at c
    rw [rot_lt ys k1 hlt] at k6
    have hl := swpR_length ys (m - i) (m + j - i) i
    generalize swpR ys (m - i) (m + j - i) i = zs at c k6 hl
    repeat (first | refine q_seq ?_ | refine q_then ?_ | refine q_block ?_ | refine DCode.seq ?_ | refine DCode.region ?_ | refine DCode.block ?_ | refine DCode.skip ?_ | refine DCode.condT rfl ?_ | refine DCode.condF rfl ?_ | refine DOps.callRow rfl rfl rfl rfl Tryz.func97 rfl (by kernel_rfl) rfl rfl (by repeat (first | exact pures_nil | refine pures_cons ?_ ?_ | exact trivial | exact pure_aggB rfl | exact arr_pure _ | exact Load.pure _ | exact Area.pure _ | exact dvs_pure _ | exact pure_sc | exact pure_sl)) (bC_pure _) c (fun cs' h => ?_) | refine DOps.nil ?_ | (refine DOps.valK 0 rfl rfl rfl rfl ?_; first | refine ⟨_, (OpVal.move rfl rfl), ?_⟩) | (refine DOps.valK 1 rfl rfl rfl rfl ?_; first | refine ⟨_, (OpVal.assign rfl rfl), ?_⟩) | (refine DOps.valK 10 rfl rfl rfl rfl ?_; first | refine ⟨_, (OpVal.add rfl rfl rfl (by omega) (by omega)), ?_⟩) | (refine DOps.valK 11 rfl rfl rfl rfl ?_; first | refine ⟨_, (OpVal.sub rfl rfl rfl (by omega) (by omega)), ?_⟩) | (refine DOps.k 13 rfl ?_; first | refine DOps.cmpT rfl rfl rfl rfl rfl rfl rfl (by omega) ?_ | refine DOps.cmpF rfl rfl rfl rfl rfl rfl rfl (by omega) ?_) | (refine DOps.k 14 rfl ?_; first | refine DOps.cmpT rfl rfl rfl rfl rfl rfl rfl (by omega) ?_ | refine DOps.cmpF rfl rfl rfl rfl rfl rfl rfl (by omega) ?_))
    subst h
    repeat (first | fail)
    exact ⟨(i, j - i, zs), ⟨k1, by show 0 < j - i; omega, k3, by show m + (j - i) ≤ _; omega, by show zs.length = _; omega, k6⟩, by show i + (j - i) < i + j; omega, Sub.cons (by rfl) (Sub.cons (vI_congr (by (try dsimp only); omega)) (by (repeat (first | exact Off.refl _ _ | refine Sub.base ?_ | refine Sub.junk ?_ | refine Sub.cons (by rfl) ?_ | refine Off.cons rfl ?_ | refine Off.junks rfl ?_)))), by (repeat (first | exact MSubX.nil | refine MSubX.skip rfl ?_ | refine MSubX.cons (by rfl) ?_))⟩

def cmpX (l : List Bx) (x y : Int) : Int := cmpB (gB l x) (gB l y)
def ltX (l : List Bx) (x y : Int) : Bool := decide (cmpX l x y < 0)
def InR (l : List Bx) (xs : List Int) : Prop := ∀ x ∈ xs, 0 ≤ x ∧ x < l.length
theorem InR.get {l : List Bx} {xs : List Int} (h : InR l xs) {i : Nat} (hi : i < xs.length) : 0 ≤ xs.getD i 0 ∧ xs.getD i 0 < l.length := by
  rw [List.getD_eq_getElem?_getD, List.getElem?_eq_getElem hi]
  exact h _ (List.getElem_mem hi)
theorem InR.perm {l : List Bx} {xs ys : List Int} (h : InR l xs) (hp : ys.Perm xs) : InR l ys := fun x hx => h x (hp.mem_iff.1 hx)
theorem fc_d (l : List Bx) {x y : Int} (hx : 0 ≤ x ∧ x < l.length) (hy : 0 ≤ y ∧ y < l.length) : DCalls Tryz.prog 33 ([(gB l x).tv, (gB l y).tv] ++ capTs 0 capC) (fun ts => ts = [it (cmpX l x y)]) := sortcmp_d (gB l x) (gB l y)

/-- What stands at j goes down as far as it is ahead. -/
def insIn (lt : Int → Int → Bool) (a : Nat) : Nat → List Int → List Int
  | 0, xs => xs
  | j + 1, xs => if a < j + 1 ∧ lt (gI xs (j + 1)) (gI xs j) = true then insIn lt a j (swp xs (j + 1) j) else xs
def insUp (lt : Int → Int → Bool) (a : Nat) (xs : List Int) : Nat → List Int
  | 0 => xs
  | k + 1 => insIn lt a (a + k + 1) (insUp lt a xs k)
theorem insIn_stop {lt : Int → Int → Bool} {a j : Nat} {xs : List Int} (h : ¬ (a < j ∧ lt (gI xs j) (gI xs (j - 1)) = true)) : insIn lt a j xs = xs := by
  cases j with
  | zero => rfl
  | succ j =>
    rw [Nat.add_sub_cancel] at h
    rw [insIn, if_neg h]
theorem insIn_perm (lt : Int → Int → Bool) (a : Nat) : ∀ (j : Nat) (xs : List Int), j < xs.length → (insIn lt a j xs).Perm xs
  | 0, xs, _ => .refl _
  | j + 1, xs, h => by
    rw [insIn]
    split
    · exact (insIn_perm lt a j _ (by rw [swp_length]; omega)).trans (swp_perm h (by omega))
    · exact .refl _
theorem insUp_perm (lt : Int → Int → Bool) (a : Nat) (xs : List Int) : ∀ k, a + k < xs.length ∨ k = 0 → (insUp lt a xs k).Perm xs
  | 0, _ => .refl _
  | k + 1, h => by
    have ih := insUp_perm lt a xs k (by omega)
    rw [insUp]
    exact (insIn_perm lt a _ _ (by rw [ih.length_eq]; omega)).trans ih

set_option maxRecDepth 10000 in
set_option maxHeartbeats 8000000 in
theorem insertion_d (l : List Bx) (xs : List Int) (a b : Nat) (hn : xs.length ≤ 4194304) (hb : b ≤ xs.length) (ha : a ≤ 4194304) (hr : InR l xs) : DCallsR Tryz.prog 64 37 9 xs.length (bC l xs) [it a, it b, .one (.d (FC l))] [] (fun cs => cs = bC l (insUp (ltX l) a xs (b - (a + 1)))) := by
  refine DCallsR.of0 (fun t ht => by cases ht) (bC_pure xs) (pures_cons pure_sc (pures_cons pure_sc (pures_cons trivial pures_nil))) (fun cs' h => by rw [h]; exact bC_pure _) fun v => ?_
  refine DCallsM.enter tt_ok Tryz.func64 rfl Tryz.ntmps64 (by simp) ?_
  repeat (first | refine q_seq ?_ | refine DCode.seq ?_ | refine DCode.region ?_ | refine DCode.block ?_ | refine DOps.nil ?_ | (refine DOps.valK 0 rfl rfl rfl rfl ?_; first | refine ⟨_, (OpVal.move rfl rfl), ?_⟩) | (refine DOps.valK 1 rfl rfl rfl rfl ?_; first | refine ⟨_, (OpVal.assign rfl rfl), ?_⟩) | (refine DOps.valK 10 rfl rfl rfl rfl ?_; first | refine ⟨_, (OpVal.add rfl rfl rfl (by omega) (by omega)), ?_⟩))
  refine DCode.loopG (fun k : Nat => [(8, vI .i64 ((a + 1 + k : Nat) : Int))]) [8, 9, 12, 13, 14, 15, 16, 17, 18, 19, 20, 21, 22, 23, 24, 25, 26, 27, 28, 29, 30, 31, 32, 33, 34, 35, 36, 37, 38, 39, 40, 41, 42, 43, 44, 45, 46, 47, 48, 49, 50, 51, 52] (fun k => [(0, some (.row 37 9 xs.length v (bC l (insUp (ltX l) a xs k)) false))]) (fun k => k ≤ b - (a + 1)) (fun k => b - (a + 1) - k) 0 (Nat.zero_le _) (fun i _ => ⟨trivial, trivial⟩) (fun i _ => ⟨rowOk _ _ _ _ _, trivial⟩) (Sub.cons (vI_congr (by omega)) (by (repeat (first | exact Off.refl _ _ | refine Sub.base ?_ | refine Sub.junk ?_ | refine Sub.cons (by rfl) ?_ | refine Off.cons rfl ?_ | refine Off.junks rfl ?_)))) (by (repeat (first | exact MSubX.nil | refine MSubX.skip rfl ?_ | refine MSubX.cons (by rfl) ?_))) ?_
  intro k hk
  show DCode _ _ _ _ _ ([(8, vI .i64 ((a + 1 + k : Nat) : Int))] ++ junks _ _) ([(0, some (.row 37 9 xs.length v (bC l (insUp (ltX l) a xs k)) false))] ++ _)
  by_cases hlt : a + 1 + k < b
  rotate_left
  · obtain rfl : k = b - (a + 1) := by omega
    repeat (first | refine q_seq ?_ | refine q_seqX ?_ | refine q_thenX ?_ | refine q_blockX ?_ | refine DCode.seq ?_ | refine DCode.region ?_ | refine DCode.exit ?_ | refine DCode.condF rfl ?_ | refine DOps.nil ?_ | (refine DOps.valK 0 rfl rfl rfl rfl ?_; first | refine ⟨_, (OpVal.move rfl rfl), ?_⟩) | (refine DOps.k 14 rfl ?_; first | refine DOps.cmpT rfl rfl rfl rfl rfl rfl rfl (by omega) ?_ | refine DOps.cmpF rfl rfl rfl rfl rfl rfl rfl (by omega) ?_))
    exact endQM.row (.inl rfl) rfl .nil (fun t h => by cases h) rfl (bC_pure _) rfl
  have hp := insUp_perm (ltX l) a xs k (by omega)
  have hnx : insUp (ltX l) a xs (k + 1) = insIn (ltX l) a (a + 1 + k) (insUp (ltX l) a xs k) := by rw [insUp, show a + k + 1 = a + 1 + k by omega]
  generalize insUp (ltX l) a xs k = us at hp hnx ⊢
  rw [show insIn (ltX l) a (a + 1 + k) us = insIn (ltX l) a (a + 1 + k) us from rfl] at hnx
  repeat (first | refine q_seq ?_ | refine DCode.seq ?_ | refine DCode.region ?_ | refine DCode.block ?_ | refine DCode.skip ?_ | refine DCode.condT rfl ?_ | refine DOps.nil ?_ | (refine DOps.valK 0 rfl rfl rfl rfl ?_; first | refine ⟨_, (OpVal.move rfl rfl), ?_⟩) | (refine DOps.valK 1 rfl rfl rfl rfl ?_; first | refine ⟨_, (OpVal.assign rfl rfl), ?_⟩) | (refine DOps.k 14 rfl ?_; first | refine DOps.cmpT rfl rfl rfl rfl rfl rfl rfl (by omega) ?_ | refine DOps.cmpF rfl rfl rfl rfl rfl rfl rfl (by omega) ?_))
  refine DCode.loopG (fun s : Nat × List Int => [(9, vI .i64 (s.1 : Nat))]) [9, 18, 19, 20, 21, 22, 23, 24, 25, 26, 27, 28, 29, 30, 31, 32, 33, 34, 35, 36, 37, 38, 39, 40, 41, 42, 43, 44, 45, 46, 47, 48, 49, 50, 51, 52] (fun s => [(0, some (.row 37 9 xs.length v (bC l s.2) false))]) (fun s => a ≤ s.1 ∧ s.1 < xs.length ∧ s.2.Perm xs ∧ insIn (ltX l) a s.1 s.2 = insIn (ltX l) a (a + 1 + k) us) (fun s => s.1) (a + 1 + k, us) ⟨by show a ≤ a + 1 + k; omega, by show a + 1 + k < _; omega, hp, rfl⟩ (fun i _ => ⟨trivial, trivial⟩) (fun i _ => ⟨rowOk _ _ _ _ _, trivial⟩) (by (repeat (first | exact Off.refl _ _ | refine Sub.base ?_ | refine Sub.junk ?_ | refine Sub.cons (by rfl) ?_ | refine Off.cons rfl ?_ | refine Off.junks rfl ?_))) (by (repeat (first | exact MSubX.nil | refine MSubX.skip rfl ?_ | refine MSubX.cons (by rfl) ?_))) ?_
  intro ⟨j, ys⟩ ⟨k1, k2, k3, k4⟩
  simp only [] at k1 k2 k3 k4
  show DCode _ _ _ _ _ ([(9, vI .i64 (j : Nat))] ++ junks _ _) ([(0, some (.row 37 9 xs.length v (bC l ys) false))] ++ _)
  rw [← k4] at hnx
  have hyl := k3.length_eq
  have hyr := hr.perm k3
  by_cases hj : a < j
  rotate_left
  · rw [insIn_stop (fun h => hj h.1)] at hnx
    (repeat refine DCode.seq ?_) <;> refine DCode.conf [] [] (by kernel_rfl) (by kernel_rfl) ?_
    repeat (first | refine DCf.off rfl (fun _ => rfl) rfl rfl ?_ | (refine DCf.valK 0 rfl rfl (fun _ => rfl) rfl rfl ?_; first | refine ⟨_, fun _ _ _ => (OpVal.move rfl rfl), ?_⟩) | (refine DCf.valK 2 rfl rfl (fun _ => rfl) rfl rfl ?_; first | refine ⟨_, fun _ _ _ => (OpVal.pickF rfl rfl rfl), ?_⟩) | (refine DCf.valK 14 rfl rfl (fun _ => rfl) rfl rfl ?_; first | refine ⟨_, fun _ _ _ => (OpVal.cmp rfl rfl rfl rfl).2 (by omega), ?_⟩))
    refine DCf.done ?_
    repeat (first | refine q_seq ?_ | refine q_seqX ?_ | refine q_then ?_ | refine q_thenX ?_ | refine q_block ?_ | refine q_blockX ?_ | refine DCode.region ?_ | refine DCode.exit ?_ | refine DCode.condF rfl ?_ | refine DOps.nil ?_ | (refine DOps.valK 0 rfl rfl rfl rfl ?_; first | refine ⟨_, (OpVal.move rfl rfl), ?_⟩) | (refine DOps.valK 1 rfl rfl rfl rfl ?_; first | refine ⟨_, (OpVal.assign rfl rfl), ?_⟩) | (refine DOps.valK 10 rfl rfl rfl rfl ?_; first | refine ⟨_, (OpVal.add rfl rfl rfl (by omega) (by omega)), ?_⟩))
    exact ⟨k + 1, by omega, by omega, Sub.cons (vI_congr (by omega)) (by (repeat (first | exact Off.refl _ _ | refine Sub.base ?_ | refine Sub.junk ?_ | refine Sub.cons (by rfl) ?_ | refine Off.cons rfl ?_ | refine Off.junks rfl ?_))), by rw [hnx]; (repeat (first | exact MSubX.nil | refine MSubX.skip rfl ?_ | refine MSubX.cons (by rfl) ?_))⟩
  have cc := fc_d l (hyr.get (by omega : j < ys.length)) (hyr.get (by omega : j - 1 < ys.length))
  have hlx : ltX l (gI ys j) (gI ys (j - 1)) = decide (cmpX l (ys.getD j 0) (ys.getD (j - 1) 0) < 0) := rfl
  by_cases hc : cmpX l (ys.getD j 0) (ys.getD (j - 1) 0) < 0
  rotate_left
  · rw [insIn_stop (fun h => by rw [hlx] at h; exact hc (by simpa using h.2))] at hnx
    (repeat refine DCode.seq ?_) <;> refine DCode.conf [] [] (by kernel_rfl) (by kernel_rfl) ?_
    repeat (first | (refine DCf.valK 19 rfl rfl (fun _ => rfl) rfl rfl ?_; refine ⟨_, fun _ _ _ => OpVal.iaR tt_ok rfl rfl rfl rfl rfl rfl rfl (by omega) (by omega), ?_⟩) | (refine DCf.valK 3 rfl rfl (fun _ => rfl) rfl rfl ?_; refine ⟨_, fun _ _ _ => OpVal.loadRB (j := j) tt_ok rfl rfl rfl rfl rfl (by omega) (by omega), ?_⟩) | (refine DCf.valK 3 rfl rfl (fun _ => rfl) rfl rfl ?_; refine ⟨_, fun _ _ _ => OpVal.loadRB (j := j - 1) tt_ok rfl rfl rfl rfl rfl (by omega) (by omega), ?_⟩) | refine DCf.callV rfl (fun _ => rfl) rfl rfl rfl rfl (fun _ => rfl) Tryz.func33 rfl (by kernel_rfl) (fun _ => rfl) (by repeat (first | exact pures_nil | refine pures_cons ?_ ?_ | exact trivial | exact pure_aggB rfl | exact arr_pure _ | exact Load.pure _ | exact Area.pure _ | exact dvs_pure _ | exact pure_sc | exact pure_sl)) cc ?_ | (refine DCf.valK 0 rfl rfl (fun _ => rfl) rfl rfl ?_; first | refine ⟨_, fun _ _ _ => (OpVal.move rfl rfl), ?_⟩) | (refine DCf.valK 2 rfl rfl (fun _ => rfl) rfl rfl ?_; first | refine ⟨_, fun _ _ _ => (OpVal.pickT rfl rfl rfl), ?_⟩) | (refine DCf.valK 11 rfl rfl (fun _ => rfl) rfl rfl ?_; first | refine ⟨_, fun _ _ _ => (OpVal.sub rfl rfl rfl (by omega) (by omega)), ?_⟩) | (refine DCf.valK 14 rfl rfl (fun _ => rfl) rfl rfl ?_; first | refine ⟨_, fun _ _ _ => (OpVal.cmp rfl rfl rfl rfl).1 (by omega), ?_⟩ | refine ⟨_, fun _ _ _ => (OpVal.cmp rfl rfl rfl rfl).2 (by omega), ?_⟩))
    refine DCf.done ?_
    repeat (first | refine q_seq ?_ | refine q_seqX ?_ | refine q_then ?_ | refine q_thenX ?_ | refine q_block ?_ | refine q_blockX ?_ | refine DCode.region ?_ | refine DCode.exit ?_ | refine DCode.condF rfl ?_ | refine DOps.nil ?_ | (refine DOps.valK 0 rfl rfl rfl rfl ?_; first | refine ⟨_, (OpVal.move rfl rfl), ?_⟩) | (refine DOps.valK 1 rfl rfl rfl rfl ?_; first | refine ⟨_, (OpVal.assign rfl rfl), ?_⟩) | (refine DOps.valK 10 rfl rfl rfl rfl ?_; first | refine ⟨_, (OpVal.add rfl rfl rfl (by omega) (by omega)), ?_⟩))
    exact ⟨k + 1, by omega, by omega, Sub.cons (vI_congr (by omega)) (by (repeat (first | exact Off.refl _ _ | refine Sub.base ?_ | refine Sub.junk ?_ | refine Sub.cons (by rfl) ?_ | refine Off.cons rfl ?_ | refine Off.junks rfl ?_))), by rw [hnx]; (repeat (first | exact MSubX.nil | refine MSubX.skip rfl ?_ | refine MSubX.cons (by rfl) ?_))⟩
  · obtain ⟨j, rfl⟩ : ∃ i, j = i + 1 := ⟨j - 1, by omega⟩
    rw [insIn, if_pos ⟨hj, by rw [show gI ys j = gI ys (j + 1 - 1) from rfl, hlx]; exact decide_eq_true hc⟩] at k4
    have hsp := swp_perm (xs := ys) (i := j + 1) (j := j) (by omega) (by omega)
    have hsw : swp ys (j + 1) j = (ys.set (j + 1) (ys.getD j 0)).set j (ys.getD (j + 1) 0) := rfl
    (repeat refine DCode.seq ?_) <;> refine DCode.conf [] [] (by kernel_rfl) (by kernel_rfl) ?_
    repeat (first | (refine DCf.valK 19 rfl rfl (fun _ => rfl) rfl rfl ?_; refine ⟨_, fun _ _ _ => OpVal.iaR tt_ok rfl rfl rfl rfl rfl rfl rfl (by omega) (by omega), ?_⟩) | (refine DCf.valK 3 rfl rfl (fun _ => rfl) rfl rfl ?_; refine ⟨_, fun _ _ _ => OpVal.loadRB (j := j + 1) tt_ok rfl rfl rfl rfl rfl (by omega) (by omega), ?_⟩) | (refine DCf.valK 3 rfl rfl (fun _ => rfl) rfl rfl ?_; refine ⟨_, fun _ _ _ => OpVal.loadRB (j := j + 1 - 1) tt_ok rfl rfl rfl rfl rfl (by omega) (by omega), ?_⟩) | refine DCf.callV rfl (fun _ => rfl) rfl rfl rfl rfl (fun _ => rfl) Tryz.func33 rfl (by kernel_rfl) (fun _ => rfl) (by repeat (first | exact pures_nil | refine pures_cons ?_ ?_ | exact trivial | exact pure_aggB rfl | exact arr_pure _ | exact Load.pure _ | exact Area.pure _ | exact dvs_pure _ | exact pure_sc | exact pure_sl)) cc ?_ | (refine DCf.valK 0 rfl rfl (fun _ => rfl) rfl rfl ?_; first | refine ⟨_, fun _ _ _ => (OpVal.move rfl rfl), ?_⟩) | (refine DCf.valK 2 rfl rfl (fun _ => rfl) rfl rfl ?_; first | refine ⟨_, fun _ _ _ => (OpVal.pickT rfl rfl rfl), ?_⟩) | (refine DCf.valK 11 rfl rfl (fun _ => rfl) rfl rfl ?_; first | refine ⟨_, fun _ _ _ => (OpVal.sub rfl rfl rfl (by omega) (by omega)), ?_⟩) | (refine DCf.valK 14 rfl rfl (fun _ => rfl) rfl rfl ?_; first | refine ⟨_, fun _ _ _ => (OpVal.cmp rfl rfl rfl rfl).1 (by omega), ?_⟩))
    refine DCf.done ?_
    repeat (first | refine q_seq ?_ | refine DCode.seq ?_ | refine DCode.block ?_ | refine DCode.skip ?_ | refine DCode.condT rfl ?_)
    (repeat refine DCode.seq ?_) <;> refine DCode.conf [(15, 0, 0), (17, 0, 0)] [([], []), ([], []), ([], [0]), ([], [0]), ([], [0])] (by kernel_rfl) (by kernel_rfl) ?_
    repeat (first | (refine DCf.valK 19 rfl rfl (fun _ => rfl) rfl rfl ?_; refine ⟨_, fun _ _ _ => OpVal.iaR tt_ok rfl rfl rfl rfl rfl rfl rfl (by omega) (by omega), ?_⟩) | (refine DCf.valK 3 rfl rfl (fun _ => rfl) rfl rfl ?_; refine ⟨_, fun _ _ _ => OpVal.loadRB (j := j + 1) tt_ok rfl rfl rfl rfl rfl (by omega) (by omega), ?_⟩) | (refine DCf.valK 3 rfl rfl (fun _ => rfl) rfl rfl ?_; refine ⟨_, fun _ _ _ => OpVal.loadRB (j := j) tt_ok rfl rfl rfl rfl rfl (by omega) (by omega), ?_⟩) | refine DCf.storeRB (j := j + 1) tt_ok rfl rfl (fun _ => rfl) rfl (fun _ => rfl) (fun _ => rfl) rfl rfl (fun _ _ => rfl) (by omega) (by omega) rfl ?_ | refine DCf.storeRB (j := j) tt_ok rfl rfl (fun _ => rfl) rfl (fun _ => rfl) (fun _ => rfl) rfl rfl (fun _ _ => rfl) (by omega) (by simp; omega) rfl ?_ | (refine DCf.valK 0 rfl rfl (fun _ => rfl) rfl rfl ?_; first | refine ⟨_, fun _ _ _ => (OpVal.move rfl rfl), ?_⟩) | (refine DCf.valK 11 rfl rfl (fun _ => rfl) rfl rfl ?_; first | refine ⟨_, fun _ _ _ => (OpVal.sub rfl rfl rfl (by omega) (by omega)), ?_⟩))
    refine DCf.done ?_
    repeat (first | refine q_seq ?_ | refine q_then ?_ | refine q_block ?_ | refine DCode.region ?_ | refine DOps.nil ?_ | (refine DOps.valK 0 rfl rfl rfl rfl ?_; first | refine ⟨_, (OpVal.move rfl rfl), ?_⟩) | (refine DOps.valK 1 rfl rfl rfl rfl ?_; first | refine ⟨_, (OpVal.assign rfl rfl), ?_⟩) | (refine DOps.valK 11 rfl rfl rfl rfl ?_; first | refine ⟨_, (OpVal.sub rfl rfl rfl (by omega) (by omega)), ?_⟩))
    exact ⟨(j, swp ys (j + 1) j), ⟨by show a ≤ j; omega, by show j < _; omega, hsp.trans k3, k4⟩, by show j < j + 1; omega, Sub.cons (vI_congr (by (try dsimp only); omega)) (by (repeat (first | exact Off.refl _ _ | refine Sub.base ?_ | refine Sub.junk ?_ | refine Sub.cons (by rfl) ?_ | refine Off.cons rfl ?_ | refine Off.junks rfl ?_))), by (repeat (first | exact MSubX.nil | refine MSubX.skip rfl ?_ | refine MSubX.cons (by rfl) ?_))⟩
end Go.Proofs.YtejdeonbibbchaaGreatDoor
