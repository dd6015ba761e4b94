/- law25, the reference: a page file printed: the walk. -/
import Derived.Test.YtejdeonbibbchaaGreatDoorHh
import Derived.Test.YtejdeonbibbchaaGreatDoorHy
set_option linter.unusedVariables false
set_option linter.unusedSimpArgs false
set_option linter.constructorNameAsVariable false
namespace Go.Proofs.YtejdeonbibbchaaGreatDoor
open Go Go.RowKit Go.Proofs.YtejdeonbibbchaaGreatDoor.DL
set_option linter.unusedVariables false
set_option linter.unusedSimpArgs false
attribute [local irreducible] DCode DOps OpVal DCalls DCallsM DCallsB DCallsR thenQ seqQ inBlockQ endQ endQM OpNew DCf DDr DDr2 DAny

def rowT (xs : List Int) : List UInt8 := xs.flatMap fun x => 32 :: Lib.itoa x
theorem rowT_snoc {xs : List Int} {i : Nat} (h : i < xs.length) : rowT (xs.take (i + 1)) = rowT (xs.take i) ++ ([32] ++ Lib.itoa (xs.getD i 0)) := by
  rw [rowT, take_snoc (List.getElem?_eq_getElem h), List.flatMap_append, List.getD_eq_getElem?_getD, List.getElem?_eq_getElem h]
  simp [rowT]
theorem rowT_nums : ∀ (x : Int) (xs : List Int), rowT (x :: xs) = 32 :: nums (x :: xs)
  | x, [] => by simp [rowT, nums, inter_one]
  | x, y :: xs => by
    have ih := rowT_nums y xs
    rw [nums, List.map_cons, List.map_cons, inter_cons, ← List.map_cons, ← nums]
    rw [rowT, List.flatMap_cons, ← rowT, ih]
    simp
theorem rowT_len {xs : List Int} (h : ∀ v ∈ xs, in64 v) : (rowT xs).length ≤ 22 * xs.length := by
  induction xs with
  | nil => exact Nat.le_refl _
  | cons x xs ih =>
    have h1 := itoa_len64 (h x (List.mem_cons_self ..))
    have h2 := ih fun v hv => h v (List.mem_cons_of_mem _ hv)
    rw [rowT, List.flatMap_cons, ← rowT, List.length_append, List.length_cons, List.length_cons]
    omega
set_option maxRecDepth 10000 in
set_option maxHeartbeats 8000000 in
theorem row_d (xs : List Int) (hl : xs.length ≤ 100) (h : ∀ v ∈ xs, in64 v) : DCalls Tryz.prog 30 [tN xs] (fun ts => ts = [tT (rowT xs)]) := by
  refine DCalls.enter tt_ok Tryz.func30 rfl Tryz.ntmps30 (by simp) (by repeat (first | exact pures_nil | refine pures_cons ?_ ?_ | exact trivial | exact pure_aggB rfl | exact arr_pure _ | exact Load.pure _ | exact Area.pure _ | exact dvs_pure _ | exact pure_sc | exact pure_sl)) ?_
  repeat (first | refine q_seq ?_ | refine DCode.seq ?_ | refine DCode.region ?_ | refine DCode.block ?_ | refine DOps.nil ?_ | (refine DOps.valK 1 rfl rfl rfl rfl ?_; first | refine ⟨_, (OpVal.assign rfl rfl), ?_⟩))
  refine DCode.loopG (fun s : Nat => [(4, vI .i64 (s : Nat)), (3, vT (rowT (xs.take s)))]) [3, 4, 5, 6, 7, 8, 9, 10, 11, 12, 13, 14, 15, 16, 17, 18] (fun _ => []) (fun i => i ≤ xs.length) (fun i => xs.length - i) 0 (Nat.zero_le _) (fun i _ => ⟨trivial, trivial, trivial⟩) (fun i _ => trivial) (by (repeat (first | exact Off.refl _ _ | refine Sub.base ?_ | refine Sub.junk ?_ | refine Sub.cons (by rfl) ?_ | refine Off.cons rfl ?_ | refine Off.junks rfl ?_))) (by (repeat (first | exact MSubX.nil | refine MSubX.skip rfl ?_ | refine MSubX.cons (by rfl) ?_))) ?_
  intro i hi
  show DCode _ _ _ _ _ ([(4, vI .i64 (i : Nat)), (3, vT (rowT (xs.take i)))] ++ junks _ _) ([] ++ _)
  by_cases hlt : i < xs.length
  · have hs := rowT_snoc hlt
    have hm : xs.getD i 0 ∈ xs := by rw [List.getD_eq_getElem?_getD, List.getElem?_eq_getElem hlt]; exact List.getElem_mem hlt
    have h1 := h _ hm
    have h2 := itoa_len64 h1
    have h3 := rowT_len (xs := xs.take i) fun v hv => h v (List.mem_of_mem_take hv)
    rw [List.length_take] at h3
    have cs := signed_d (xs.getD i 0) h1
    generalize hz : xs.getD i 0 = z at *
    generalize rowT (xs.take i) = X at *
    repeat (first | refine q_seq ?_ | refine q_then ?_ | refine q_block ?_ | refine DCode.seq ?_ | refine DCode.region ?_ | refine DCode.block ?_ | refine DCode.skip ?_ | refine DCode.condT rfl ?_ | (refine DOps.valK 3 rfl rfl rfl rfl ?_; refine ⟨_, OpVal.cast (OpVal.ldN (X := xs) (m := i) tt_ok rfl rfl rfl rfl (Int.toNat_natCast _)) (congrArg (vI .i64) hz), ?_⟩) | refine DOps.call1 (ts := [it z]) rfl rfl rfl rfl rfl Tryz.func48 rfl (by kernel_rfl) rfl (by repeat (first | exact pures_nil | refine pures_cons ?_ ?_ | exact trivial | exact pure_aggB rfl | exact arr_pure _ | exact Load.pure _ | exact Area.pure _ | exact dvs_pure _ | exact pure_sc | exact pure_sl)) (cs) ?_ | refine DOps.nil ?_ | (refine DOps.valK 0 rfl rfl rfl rfl ?_; first | refine ⟨_, (OpVal.move rfl rfl), ?_⟩) | (refine DOps.valK 1 rfl rfl rfl rfl ?_; first | refine ⟨_, (OpVal.assign rfl rfl), ?_⟩) | (refine DOps.valK 10 rfl rfl rfl rfl ?_; first | refine ⟨_, (OpVal.add rfl rfl rfl (by omega) (by omega)), ?_⟩ | refine ⟨_, (OpVal.cat rfl rfl rfl (by (try simp only [List.length_append, List.length_cons, List.length_nil, List.length_take, List.length_drop]); omega)), ?_⟩) | (refine DOps.valK 19 rfl rfl rfl rfl ?_; first | refine ⟨_, (OpVal.iaD tt_ok rfl rfl rfl rfl rfl rfl (by omega) (by omega)), ?_⟩) | (refine DOps.valK 17 rfl rfl rfl rfl ?_; first | refine ⟨_, (OpVal.lenD tt_ok rfl rfl rfl rfl rfl rfl rfl), ?_⟩) | (refine DOps.k 14 rfl ?_; first | refine DOps.cmpT rfl rfl rfl rfl rfl rfl rfl (by omega) ?_ | refine DOps.cmpF rfl rfl rfl rfl rfl rfl rfl (by omega) ?_))
    exact ⟨i + 1, hlt, by omega, Sub.cons (vI_congr (by omega)) (Sub.cons (congrArg vT hs.symm) (by (repeat (first | exact Off.refl _ _ | refine Sub.base ?_ | refine Sub.junk ?_ | refine Sub.cons (by rfl) ?_ | refine Off.cons rfl ?_ | refine Off.junks rfl ?_)))), by (repeat (first | exact MSubX.nil | refine MSubX.skip rfl ?_ | refine MSubX.cons (by rfl) ?_))⟩
  · obtain rfl : i = xs.length := by omega
    rw [List.take_length]
    repeat (first | refine q_seq ?_ | refine q_seqX ?_ | refine q_thenX ?_ | refine q_blockX ?_ | refine DCode.seq ?_ | refine DCode.region ?_ | refine DCode.exit ?_ | refine DCode.ret ?_ | refine DCode.condF rfl ?_ | refine DOps.nil ?_ | (refine DOps.valK 0 rfl rfl rfl rfl ?_; first | refine ⟨_, (OpVal.move rfl rfl), ?_⟩) | (refine DOps.valK 1 rfl rfl rfl rfl ?_; first | refine ⟨_, (OpVal.assign rfl rfl), ?_⟩) | (refine DOps.valK 17 rfl rfl rfl rfl ?_; first | refine ⟨_, (OpVal.lenD tt_ok rfl rfl rfl rfl rfl rfl rfl), ?_⟩) | (refine DOps.k 14 rfl ?_; first | refine DOps.cmpT rfl rfl rfl rfl rfl rfl rfl (by omega) ?_ | refine DOps.cmpF rfl rfl rfl rfl rfl rfl rfl (by omega) ?_))
    exact endQ.ret rfl (.cons (.tmp rfl) .nil) (pures_cons trivial pures_nil) rfl
set_option maxRecDepth 10000 in
set_option maxHeartbeats 8000000 in
theorem rprint_d (f : Fl) (hn : f.boxes.length ≤ 9223372036854775806) (hb : bndB f.boxes 4194304) : DCalls Tryz.prog 11 [f.tv] (fun ts => ts = [tT (printF f)]) := by
  have ck := rcheck_d f hn (fun i => Nat.le_trans (hb i) (by omega))
  by_cases hc : checkF f = 0
  rotate_left
  · rw [show printF f = [] by rw [printF, if_neg hc]]
    generalize checkF f = c at *
    refine DCalls.enter tt_ok Tryz.func11 rfl Tryz.ntmps11 (by simp) (by repeat (first | exact pures_nil | refine pures_cons ?_ ?_ | exact trivial | exact pure_aggB rfl | exact arr_pure _ | exact Load.pure _ | exact Area.pure _ | exact dvs_pure _ | exact pure_sc | exact pure_sl)) ?_
    repeat (first | refine q_seq ?_ | refine q_seqR ?_ | refine DCode.seq ?_ | refine DCode.region ?_ | refine DCode.ret ?_ | refine DCode.condT rfl ?_ | (refine DOps.valK 3 rfl rfl rfl rfl ?_; refine ⟨.v (f).tv, OpVal.cast (OpVal.load tt_ok rfl rfl rfl rfl rfl rfl) rfl, ?_⟩) | refine DOps.call1 (ts := [f.tv]) rfl rfl rfl rfl rfl Tryz.func9 rfl (by kernel_rfl) rfl (by repeat (first | exact pures_nil | refine pures_cons ?_ ?_ | exact trivial | exact pure_aggB rfl | exact arr_pure _ | exact Load.pure _ | exact Area.pure _ | exact dvs_pure _ | exact pure_sc | exact pure_sl)) (ck) ?_ | refine DOps.nil ?_ | (refine DOps.valK 1 rfl rfl rfl rfl ?_; first | refine ⟨_, (OpVal.assign rfl rfl), ?_⟩) | (refine DOps.k 13 rfl ?_; first | refine DOps.cmpT rfl rfl rfl rfl rfl rfl rfl (by omega) ?_ | refine DOps.cmpF rfl rfl rfl rfl rfl rfl rfl (by omega) ?_) | (refine DOps.k 30 rfl ?_; refine DOps.boxS rfl rfl rfl rfl rfl rfl ?_))
    exact endQ.ret rfl (.cons (.tmp rfl) .nil) (pures_cons trivial pures_nil) rfl
  have hfl := boxes_len hc hb
  rw [show printF f = headT f ++ f.boxes.flatMap boxT by rw [printF, if_pos hc]]
  obtain ⟨h1, h2, h3⟩ := check_iff.1 hc
  rw [hc] at ck
  have hhl := headT_len h1
  have cn := row_d f.ns (by simp [Fl.ns]) (head_in h1)
  have hrl : (rowT f.ns).length ≤ 22 * 3 := rowT_len (head_in h1)
  have hhe : pagesW ++ rowT f.ns ++ [10] = headT f := by
    rw [headT, Fl.ns, rowT_nums]; rfl
  obtain ⟨X, hX⟩ : ∃ X : Nat → List UInt8, ∀ i, X i = headT f ++ (f.boxes.take i).flatMap boxT := ⟨_, fun _ => rfl⟩
  have hX0 : pagesW ++ rowT f.ns ++ [10] = X 0 := by rw [hX, hhe]; simp
  have hXs : ∀ i, i < f.boxes.length → X (i + 1) = X i ++ boxT (f.boxes.getD i bx0) := fun i hi => by rw [hX, hX, boxes_snoc hi, List.append_assoc]
  have hXl : ∀ i, i ≤ f.boxes.length → (X i).length ≤ 200 + 4194504 * i := fun i hi => by
    have := hfl i hi
    rw [hX, List.length_append]; omega
  rw [show headT f ++ f.boxes.flatMap boxT = X f.boxes.length by rw [hX, List.take_length]]
  clear hX hhe
  generalize hR : rowT f.ns = RT at *
  refine DCalls.enter tt_ok Tryz.func11 rfl Tryz.ntmps11 (by simp) (by repeat (first | exact pures_nil | refine pures_cons ?_ ?_ | exact trivial | exact pure_aggB rfl | exact arr_pure _ | exact Load.pure _ | exact Area.pure _ | exact dvs_pure _ | exact pure_sc | exact pure_sl)) ?_
  repeat (first | refine q_seq ?_ | refine DCode.seq ?_ | refine DCode.region ?_ | refine DCode.skip ?_ | refine DCode.condF rfl ?_ | (refine DOps.valK 3 rfl rfl rfl rfl ?_; refine ⟨.v (f).tv, OpVal.cast (OpVal.load tt_ok rfl rfl rfl rfl rfl rfl) rfl, ?_⟩) | refine DOps.call1 (ts := [f.tv]) rfl rfl rfl rfl rfl Tryz.func9 rfl (by kernel_rfl) rfl (by repeat (first | exact pures_nil | refine pures_cons ?_ ?_ | exact trivial | exact pure_aggB rfl | exact arr_pure _ | exact Load.pure _ | exact Area.pure _ | exact dvs_pure _ | exact pure_sc | exact pure_sl)) (ck) ?_ | (refine DOps.k 28 rfl ?_; refine DOps.new (r := .v (tN [f.pages, f.width, f.height])) rfl rfl rfl (OpNew.bsl tt_ok (iD [f.pages, f.width, f.height]) _ rfl rfl rfl rfl rfl rfl rfl rfl rfl rfl (ints_flat [f.pages, f.width, f.height])) ?_) | refine DOps.call1 (ts := [tN f.ns]) rfl rfl rfl rfl rfl Tryz.func30 rfl (by kernel_rfl) rfl (by repeat (first | exact pures_nil | refine pures_cons ?_ ?_ | exact trivial | exact pure_aggB rfl | exact arr_pure _ | exact Load.pure _ | exact Area.pure _ | exact dvs_pure _ | exact pure_sc | exact pure_sl)) (cn) ?_ | refine DOps.nil ?_ | (refine DOps.valK 1 rfl rfl rfl rfl ?_; first | refine ⟨_, (OpVal.assign rfl rfl), ?_⟩) | (refine DOps.valK 3 rfl rfl rfl rfl ?_; first | refine ⟨_, (OpVal.load1 tt_ok rfl rfl rfl rfl rfl rfl), ?_⟩) | (refine DOps.valK 10 rfl rfl rfl rfl ?_; first | refine ⟨_, (OpVal.cat rfl rfl rfl (by (try simp only [List.length_append, List.length_cons, List.length_nil, List.length_take, List.length_drop]); omega)), ?_⟩) | (refine DOps.valK 18 rfl rfl rfl rfl ?_; first | refine ⟨_, (OpVal.fa tt_ok rfl rfl rfl rfl rfl rfl), ?_⟩) | (refine DOps.k 13 rfl ?_; first | refine DOps.cmpT rfl rfl rfl rfl rfl rfl rfl (by omega) ?_ | refine DOps.cmpF rfl rfl rfl rfl rfl rfl rfl (by omega) ?_) | (refine DOps.k 30 rfl ?_; refine DOps.boxS rfl rfl rfl rfl rfl rfl ?_))
  repeat (first | refine DCode.block ?_)
  refine DCode.loopG (fun s : Nat => [(4, vI .i64 (s : Nat)), (3, vT (X s))]) [3, 4, 5, 19, 20, 21, 22, 23, 24, 25, 26, 27, 28, 29, 30, 31, 32, 33, 34, 35, 36, 37, 38, 39, 40, 41, 42, 43, 44, 45, 46, 47, 48, 49, 50, 51, 52, 53, 54, 55, 56] (fun _ => []) (fun i => i ≤ f.boxes.length) (fun i => f.boxes.length - i) 0 (Nat.zero_le _) (fun i _ => ⟨trivial, trivial, trivial⟩) (fun i _ => trivial) (by rw [← hX0]; (repeat (first | exact Off.refl _ _ | refine Sub.base ?_ | refine Sub.junk ?_ | refine Sub.cons (by rfl) ?_ | refine Off.cons rfl ?_ | refine Off.junks rfl ?_))) (by (repeat (first | exact MSubX.nil | refine MSubX.skip rfl ?_ | refine MSubX.cons (by rfl) ?_))) ?_
  intro i hi
  show DCode _ _ _ _ _ ([(4, vI .i64 (i : Nat)), (3, vT (X i))] ++ junks _ _) ([] ++ _)
  have hxl := hXl i hi
  by_cases hlt : i < f.boxes.length
  · have hr := h3 _ (getD_memB (L := f.boxes) (i := i) hlt)
    have hsn := hXs i hlt
    have htl := hb i
    have hbe : boxW ++ rowT (f.boxes.getD i bx0).ns ++ [32] ++ (f.boxes.getD i bx0).text ++ [10] = boxT (f.boxes.getD i bx0) := by
      rw [boxT, Bx.ns, rowT_nums]; rfl
    rw [← hbe] at hsn
    have cb := row_d (f.boxes.getD i bx0).ns (by simp [Bx.ns]) (right_in h1 hr)
    have hrl2 : (rowT (f.boxes.getD i bx0).ns).length ≤ 22 * 8 := rowT_len (right_in h1 hr)
    clear hbe
    generalize hR2 : rowT (f.boxes.getD i bx0).ns = RB at *
    repeat (first | refine q_seq ?_ | refine DCode.seq ?_ | refine DCode.region ?_ | refine DCode.skip ?_ | refine DCode.condT rfl ?_ | refine DOps.nil ?_ | (refine DOps.valK 0 rfl rfl rfl rfl ?_; first | refine ⟨_, (OpVal.move rfl rfl), ?_⟩) | (refine DOps.valK 3 rfl rfl rfl rfl ?_; first | refine ⟨_, (OpVal.load1 tt_ok rfl rfl rfl rfl rfl rfl), ?_⟩) | (refine DOps.valK 18 rfl rfl rfl rfl ?_; first | refine ⟨_, (OpVal.fa tt_ok rfl rfl rfl rfl rfl rfl), ?_⟩) | (refine DOps.valK 17 rfl rfl rfl rfl ?_; first | refine ⟨_, (OpVal.lenD tt_ok rfl rfl rfl rfl rfl rfl rfl), ?_⟩) | (refine DOps.k 14 rfl ?_; first | refine DOps.cmpT rfl rfl rfl rfl rfl rfl rfl (by omega) ?_ | refine DOps.cmpF rfl rfl rfl rfl rfl rfl rfl (by omega) ?_))
    repeat (first | refine q_seq ?_ | refine DCode.seq ?_ | refine DCode.region ?_ | refine DCode.block ?_ | (refine DOps.valK 3 rfl rfl rfl rfl ?_; refine ⟨_, OpVal.ldX tt_ok rfl rfl rfl (Int.toNat_natCast i) rfl, ?_⟩) | refine DOps.nil ?_ | (refine DOps.valK 0 rfl rfl rfl rfl ?_; first | refine ⟨_, (OpVal.move rfl rfl), ?_⟩) | (refine DOps.valK 3 rfl rfl rfl rfl ?_; first | refine ⟨_, (OpVal.load1 tt_ok rfl rfl rfl rfl rfl rfl), ?_⟩) | (refine DOps.valK 18 rfl rfl rfl rfl ?_; first | refine ⟨_, (OpVal.fa tt_ok rfl rfl rfl rfl rfl rfl), ?_⟩) | (refine DOps.valK 19 rfl rfl rfl rfl ?_; first | refine ⟨_, (OpVal.iaD tt_ok rfl rfl rfl rfl rfl rfl (by omega) (by omega)), ?_⟩) | (refine DOps.k 29 rfl ?_; refine DOps.alS tt_ok rfl rfl rfl rfl rfl rfl rfl ?_) | (refine DOps.k 31 rfl ?_; refine DOps.store tt_ok rfl rfl rfl rfl rfl rfl rfl rfl (Nat.le_of_ble_eq_true rfl) rfl ?_))
    refine DCode.drawA 26 (by kernel_rfl) (by kernel_rfl) ?_
    repeat (first | refine DDr2.new (r := .v (tN (f.boxes.getD i bx0).ns)) rfl rfl rfl (OpNew.bsl tt_ok (iD (f.boxes.getD i bx0).ns) _ rfl rfl rfl rfl rfl rfl rfl rfl rfl rfl (ints_flat (f.boxes.getD i bx0).ns)) ?_ | refine DDr2.call rfl rfl rfl rfl rfl Tryz.func30 rfl (by kernel_rfl) rfl (by repeat (first | exact pures_nil | refine pures_cons ?_ ?_ | exact trivial | exact pure_aggB rfl | exact arr_pure _ | exact Load.pure _ | exact Area.pure _ | exact dvs_pure _ | exact pure_sc | exact pure_sl)) (cb) ?_ | (refine DDr2.valE rfl rfl rfl ?_; first | refine ⟨_, (OpVal.move rfl rfl), ?_⟩ | refine ⟨_, (OpVal.fa tt_ok rfl rfl rfl rfl rfl rfl), ?_⟩ | refine ⟨_, (OpVal.load1 tt_ok rfl rfl rfl rfl rfl rfl), ?_⟩ | refine ⟨_, (OpVal.cat rfl rfl rfl (by (try simp only [List.length_append, List.length_cons, List.length_nil, List.length_take, List.length_drop]); omega)), ?_⟩))
    refine DDr2.done 1 rfl rfl ?_
    repeat' (first | refine DAny.intro _ _ rfl ?_ | refine DAny.fin rfl ?_ | exact DAlts.nil | refine DAlts.cons rfl ?_ ?_ | refine q_seq ?_ | refine q_then ?_ | refine q_block ?_ | refine DCode.region ?_ | refine DOps.nil ?_ | (refine DOps.valK 0 rfl rfl rfl rfl ?_; first | refine ⟨_, (OpVal.move rfl rfl), ?_⟩) | (refine DOps.valK 1 rfl rfl rfl rfl ?_; first | refine ⟨_, (OpVal.assign rfl rfl), ?_⟩) | (refine DOps.valK 10 rfl rfl rfl rfl ?_; first | refine ⟨_, (OpVal.add rfl rfl rfl (by omega) (by omega)), ?_⟩))
    exact ⟨i + 1, hlt, by omega, Sub.cons (vI_congr (by omega)) (Sub.cons (congrArg vT hsn.symm) (by (repeat (first | exact Off.refl _ _ | refine Sub.base ?_ | refine Sub.junk ?_ | refine Sub.cons (by rfl) ?_ | refine Off.cons rfl ?_ | refine Off.junks rfl ?_)))), by (repeat (first | exact MSubX.nil | refine MSubX.skip rfl ?_ | refine MSubX.cons (by rfl) ?_))⟩
  · obtain rfl : i = f.boxes.length := by omega
    repeat (first | refine q_seq ?_ | refine q_seqX ?_ | refine q_thenX ?_ | refine q_blockX ?_ | refine DCode.seq ?_ | refine DCode.region ?_ | refine DCode.exit ?_ | refine DCode.ret ?_ | refine DCode.condF rfl ?_ | refine DOps.nil ?_ | (refine DOps.valK 0 rfl rfl rfl rfl ?_; first | refine ⟨_, (OpVal.move rfl rfl), ?_⟩) | (refine DOps.valK 1 rfl rfl rfl rfl ?_; first | refine ⟨_, (OpVal.assign rfl rfl), ?_⟩) | (refine DOps.valK 3 rfl rfl rfl rfl ?_; first | refine ⟨_, (OpVal.load1 tt_ok rfl rfl rfl rfl rfl rfl), ?_⟩) | (refine DOps.valK 18 rfl rfl rfl rfl ?_; first | refine ⟨_, (OpVal.fa tt_ok rfl rfl rfl rfl rfl rfl), ?_⟩) | (refine DOps.valK 17 rfl rfl rfl rfl ?_; first | refine ⟨_, (OpVal.lenD tt_ok rfl rfl rfl rfl rfl rfl rfl), ?_⟩) | (refine DOps.k 14 rfl ?_; first | refine DOps.cmpT rfl rfl rfl rfl rfl rfl rfl (by omega) ?_ | refine DOps.cmpF rfl rfl rfl rfl rfl rfl rfl (by omega) ?_))
    exact endQ.ret rfl (.cons (.tmp rfl) .nil) (pures_cons trivial pures_nil) rfl
end Go.Proofs.YtejdeonbibbchaaGreatDoor
