/- law25: a page file printed: the walk. -/
import Derived.Test.YtejdeonbibbchaaGreatDoorHg
import Derived.Test.YtejdeonbibbchaaGreatDoorWb
import Derived.Test.YtejdeonbibbchaaGreatDoorD41
set_option linter.unusedVariables false
set_option linter.unusedSimpArgs false
set_option linter.constructorNameAsVariable false
namespace Go.Proofs.YtejdeonbibbchaaGreatDoor
open Go Go.RowKit Go.Proofs.YtejdeonbibbchaaGreatDoor.DL
set_option linter.unusedVariables false
set_option linter.unusedSimpArgs false
attribute [local irreducible] DCode DOps OpVal DCalls DCallsM DCallsB DCallsR thenQ seqQ inBlockQ endQ endQM OpNew DCf DDr DDr2 DAny

theorem boxT_len {f : Fl} {b : Bx} {n : Nat} (hf : headB f = true) (h : rightB f b = true) (hb : b.text.length ≤ n) : (boxT b).length ≤ n + 200 := by
  have := nums_len (xs := b.ns) (right_in hf h)
  rw [boxT]
  simp only [List.length_append, List.length_cons, List.length_nil, Bx.ns] at *
  omega
theorem headT_len {f : Fl} (hf : headB f = true) : (headT f).length ≤ 200 ∧ 0 < (headT f).length := by
  have := nums_len (xs := f.ns) (head_in hf)
  rw [headT]
  simp only [List.length_append, List.length_cons, List.length_nil, Fl.ns] at *
  omega
theorem boxes_snoc {L : List Bx} {i : Nat} (hi : i < L.length) : (L.take (i + 1)).flatMap boxT = (L.take i).flatMap boxT ++ boxT (L.getD i bx0) := by
  rw [take_snoc (List.getElem?_eq_getElem hi), List.flatMap_append, List.getD_eq_getElem?_getD, List.getElem?_eq_getElem hi]
  simp
theorem boxes_len {f : Fl} {n : Nat} (h : checkF f = 0) (hb : bndB f.boxes n) : ∀ i, i ≤ f.boxes.length → ((f.boxes.take i).flatMap boxT).length ≤ (n + 200) * i
  | 0, _ => by simp
  | i + 1, hi => by
    obtain ⟨h1, h2, h3⟩ := check_iff.1 h
    have ih := boxes_len h hb i (by omega)
    have := boxT_len h1 (h3 _ (getD_memB (L := f.boxes) (i := i) hi)) (hb i)
    rw [boxes_snoc hi, List.length_append, Nat.mul_succ]
    omega
set_option maxRecDepth 10000 in
set_option maxHeartbeats 8000000 in
theorem print_d (f : Fl) (hn : f.boxes.length ≤ 9223372036854775806) (hb : bndB f.boxes 4194304) : DCalls Tryz.prog 10 [f.tv] (fun ts => ts = [tT (printF f)]) := by
  have ck := check_d f hn (fun i => Nat.le_trans (hb i) (by omega))
  by_cases hc : checkF f = 0
  rotate_left
  · rw [show printF f = [] by rw [printF, if_neg hc]]
    generalize checkF f = c at *
    refine DCalls.enter tt_ok Tryz.func10 rfl Tryz.ntmps10 (by simp) (by repeat (first | exact pures_nil | refine pures_cons ?_ ?_ | exact trivial | exact pure_aggB rfl | exact arr_pure _ | exact Load.pure _ | exact Area.pure _ | exact dvs_pure _ | exact pure_sc | exact pure_sl)) ?_
    repeat (first | refine q_seq ?_ | refine q_seqR ?_ | refine DCode.seq ?_ | refine DCode.region ?_ | refine DCode.ret ?_ | refine DCode.condT rfl ?_ | (refine DOps.valK 3 rfl rfl rfl rfl ?_; refine ⟨.v (f).tv, OpVal.cast (OpVal.load tt_ok rfl rfl rfl rfl rfl rfl) rfl, ?_⟩) | refine DOps.call1 (ts := [f.tv]) rfl rfl rfl rfl rfl Tryz.func8 rfl (by kernel_rfl) rfl (by repeat (first | exact pures_nil | refine pures_cons ?_ ?_ | exact trivial | exact pure_aggB rfl | exact arr_pure _ | exact Load.pure _ | exact Area.pure _ | exact dvs_pure _ | exact pure_sc | exact pure_sl)) (ck) ?_ | refine DOps.nil ?_ | (refine DOps.valK 1 rfl rfl rfl rfl ?_; first | refine ⟨_, (OpVal.assign rfl rfl), ?_⟩) | (refine DOps.k 13 rfl ?_; first | refine DOps.cmpT rfl rfl rfl rfl rfl rfl rfl (by omega) ?_ | refine DOps.cmpF rfl rfl rfl rfl rfl rfl rfl (by omega) ?_) | (refine DOps.k 30 rfl ?_; refine DOps.boxS rfl rfl rfl rfl rfl rfl ?_))
    exact endQ.ret rfl (.cons (.tmp rfl) .nil) (pures_cons trivial pures_nil) rfl
  have hfl := boxes_len hc hb
  rw [show printF f = headT f ++ f.boxes.flatMap boxT by rw [printF, if_pos hc]]
  obtain ⟨h1, h2, h3⟩ := check_iff.1 hc
  rw [hc] at ck
  have hhl := headT_len h1
  have hnl0 : (nums f.ns).length ≤ 3 * 22 := nums_len (head_in h1)
  have cn := numbers_d f.ns (by simp [Fl.ns]) (head_in h1)
  have cw0 := writeString_m (.d (.sc (.pointer none))) (.slice none 0 0) [] (headT f) (.inl rfl) (by simp only [List.length_nil]; omega)
  obtain ⟨X, hX⟩ : ∃ X : Nat → List UInt8, ∀ i, X i = headT f ++ (f.boxes.take i).flatMap boxT := ⟨_, fun _ => rfl⟩
  have hX0 : [] ++ headT f = X 0 := by rw [hX]; simp
  have hXs : ∀ i, i < f.boxes.length → X (i + 1) = X i ++ boxT (f.boxes.getD i bx0) := fun i hi => by rw [hX, hX, boxes_snoc hi, List.append_assoc]
  have hXl : ∀ i, i ≤ f.boxes.length → (X i).length ≤ 200 + 4194504 * i := fun i hi => by
    have := hfl i hi
    rw [hX, List.length_append]; omega
  have hXn : ∀ i, X i ≠ [] := fun i e => by
    have := congrArg List.length (hX i)
    rw [e, List.length_append, List.length_nil] at this
    omega
  rw [show headT f ++ f.boxes.flatMap boxT = X f.boxes.length by rw [hX, List.take_length]]
  rw [hX0] at cw0
  clear hX0
  refine DCalls.enter tt_ok Tryz.func10 rfl Tryz.ntmps10 (by simp) (by repeat (first | exact pures_nil | refine pures_cons ?_ ?_ | exact trivial | exact pure_aggB rfl | exact arr_pure _ | exact Load.pure _ | exact Area.pure _ | exact dvs_pure _ | exact pure_sc | exact pure_sl)) ?_
  repeat (first | refine q_seq ?_ | refine DCode.seq ?_ | refine DCode.region ?_ | refine DCode.skip ?_ | refine DCode.condF rfl ?_ | (refine DOps.valK 3 rfl rfl rfl rfl ?_; refine ⟨.v (f).tv, OpVal.cast (OpVal.load tt_ok rfl rfl rfl rfl rfl rfl) rfl, ?_⟩) | refine DOps.call1 (ts := [f.tv]) rfl rfl rfl rfl rfl Tryz.func8 rfl (by kernel_rfl) rfl (by repeat (first | exact pures_nil | refine pures_cons ?_ ?_ | exact trivial | exact pure_aggB rfl | exact arr_pure _ | exact Load.pure _ | exact Area.pure _ | exact dvs_pure _ | exact pure_sc | exact pure_sl)) (ck) ?_ | refine DOps.nil ?_ | (refine DOps.valK 1 rfl rfl rfl rfl ?_; first | refine ⟨_, (OpVal.assign rfl rfl), ?_⟩) | (refine DOps.valK 3 rfl rfl rfl rfl ?_; first | refine ⟨_, (OpVal.load1 tt_ok rfl rfl rfl rfl rfl rfl), ?_⟩) | (refine DOps.valK 18 rfl rfl rfl rfl ?_; first | refine ⟨_, (OpVal.fa tt_ok rfl rfl rfl rfl rfl rfl), ?_⟩) | (refine DOps.k 13 rfl ?_; first | refine DOps.cmpT rfl rfl rfl rfl rfl rfl rfl (by omega) ?_ | refine DOps.cmpF rfl rfl rfl rfl rfl rfl rfl (by omega) ?_) | (refine DOps.k 30 rfl ?_; refine DOps.boxS rfl rfl rfl rfl rfl rfl ?_) | (refine DOps.k 29 rfl ?_; refine DOps.alS tt_ok rfl rfl rfl rfl rfl rfl rfl ?_))
  refine DOps.fresh (b := 3) 900 5 rfl ?_
  repeat (first | refine q_seq ?_ | refine DCode.seq ?_ | refine DCode.region ?_ | refine DCode.block ?_ | (refine DOps.k 28 rfl ?_; refine DOps.new (r := .v (tN [f.pages, f.width, f.height])) rfl rfl rfl (OpNew.bsl tt_ok (iD [f.pages, f.width, f.height]) _ rfl rfl rfl rfl rfl rfl rfl rfl rfl rfl (ints_flat [f.pages, f.width, f.height])) ?_) | refine DOps.call1 (ts := [tN f.ns]) rfl rfl rfl rfl rfl Tryz.func28 rfl (by kernel_rfl) rfl (by repeat (first | exact pures_nil | refine pures_cons ?_ ?_ | exact trivial | exact pure_aggB rfl | exact arr_pure _ | exact Load.pure _ | exact Area.pure _ | exact dvs_pure _ | exact pure_sc | exact pure_sl)) (cn) ?_ | refine DOps.callW (b := 3) (r := 900) (by decide) rfl rfl rfl rfl Tryz.func27 rfl (by kernel_rfl) rfl rfl rfl (pures_cons trivial pures_nil) (bldB_ok (c0_ok (.inl rfl))) (bldR_ok (l := []) (v := .slice none 0 0)) cw0 (fun v1 => ?_) | refine DOps.nil ?_ | (refine DOps.valK 0 rfl rfl rfl rfl ?_; first | refine ⟨_, (OpVal.move rfl rfl), ?_⟩) | (refine DOps.valK 3 rfl rfl rfl rfl ?_; first | refine ⟨_, (OpVal.load1 tt_ok rfl rfl rfl rfl rfl rfl), ?_⟩) | (refine DOps.valK 10 rfl rfl rfl rfl ?_; first | refine ⟨_, (OpVal.cat rfl rfl rfl (by (try simp only [List.length_append, List.length_cons, List.length_nil, List.length_take, List.length_drop]); omega)), ?_⟩) | (refine DOps.valK 18 rfl rfl rfl rfl ?_; first | refine ⟨_, (OpVal.fa tt_ok rfl rfl rfl rfl rfl rfl), ?_⟩) | (refine DOps.valK 17 rfl rfl rfl rfl ?_; first | refine ⟨_, (OpVal.lenD tt_ok rfl rfl rfl rfl rfl rfl rfl), ?_⟩))
  refine DCode.loopG (fun s : Nat × Value => [(23, vI .i64 (s.1 : Nat))]) [5, 23, 24, 25, 26, 27, 28, 29, 30, 31, 32, 33, 34, 35, 36, 37, 38, 39, 40, 41, 42, 43, 44, 45, 46, 47, 48, 49, 50, 51, 52] (fun s => [(3, some (bldB (.ptr 3 0) s.2)), (900, some (bldR (X s.1) s.2))]) (fun s => s.1 ≤ f.boxes.length) (fun s => f.boxes.length - s.1) (0, v1) (Nat.zero_le _) (fun i _ => ⟨trivial, trivial⟩) (fun i _ => ⟨⟨_, rfl, bldB_ok (c0_ok (.inr rfl))⟩, ⟨_, rfl, bldR_ok⟩, trivial⟩) (by (repeat (first | exact Off.refl _ _ | refine Sub.base ?_ | refine Sub.junk ?_ | refine Sub.cons (by rfl) ?_ | refine Off.cons rfl ?_ | refine Off.junks rfl ?_))) (by (repeat (first | exact MSubX.nil | refine MSubX.skip rfl ?_ | refine MSubX.cons (by rfl) ?_))) ?_
  intro ⟨i, v⟩ hi
  simp only [] at hi
  show DCode _ _ _ _ _ ([(23, vI .i64 (i : Nat))] ++ junks _ _) ([(3, some (bldB (.ptr 3 0) v)), (900, some (bldR (X i) v))] ++ _)
  have hxl := hXl i hi
  have hxn := hXn i
  by_cases hlt : i < f.boxes.length
  · have hr := h3 _ (getD_memB (L := f.boxes) (i := i) hlt)
    have hbl := boxT_len h1 hr (hb i)
    have hsn := hXs i hlt
    have cb := numbers_d (f.boxes.getD i bx0).ns (by simp [Bx.ns]) (right_in h1 hr)
    have cw := writeString_m (.ptr 3 0) v (X i) (boxT (f.boxes.getD i bx0)) (.inr rfl) (by omega)
    rw [← hsn] at cw
    have hnl := nums_len (xs := (f.boxes.getD i bx0).ns) (right_in h1 hr)
    have hnl : (nums (f.boxes.getD i bx0).ns).length ≤ 8 * 22 := hnl
    have htl := hb i
    repeat (first | refine q_seq ?_ | refine DCode.seq ?_ | refine DCode.region ?_ | refine DCode.block ?_ | refine DCode.skip ?_ | refine DCode.condT rfl ?_ | (refine DOps.valK 3 rfl rfl rfl rfl ?_; refine ⟨_, OpVal.ldX tt_ok rfl rfl rfl (Int.toNat_natCast i) rfl, ?_⟩) | refine DOps.nil ?_ | (refine DOps.valK 19 rfl rfl rfl rfl ?_; first | refine ⟨_, (OpVal.iaD tt_ok rfl rfl rfl rfl rfl rfl (by omega) (by omega)), ?_⟩) | (refine DOps.k 14 rfl ?_; first | refine DOps.cmpT rfl rfl rfl rfl rfl rfl rfl (by omega) ?_ | refine DOps.cmpF rfl rfl rfl rfl rfl rfl rfl (by omega) ?_) | (refine DOps.k 29 rfl ?_; refine DOps.alS tt_ok rfl rfl rfl rfl rfl rfl rfl ?_) | (refine DOps.k 31 rfl ?_; refine DOps.store tt_ok rfl rfl rfl rfl rfl rfl rfl rfl (Nat.le_of_ble_eq_true rfl) rfl ?_))
    refine DCode.drawA 24 (by kernel_rfl) (by kernel_rfl) ?_
    repeat (first | refine DDr2.new (r := .v (tN (f.boxes.getD i bx0).ns)) rfl rfl rfl (OpNew.bsl tt_ok (iD (f.boxes.getD i bx0).ns) _ rfl rfl rfl rfl rfl rfl rfl rfl rfl rfl (ints_flat (f.boxes.getD i bx0).ns)) ?_ | refine DDr2.call rfl rfl rfl rfl rfl Tryz.func28 rfl (by kernel_rfl) rfl (by repeat (first | exact pures_nil | refine pures_cons ?_ ?_ | exact trivial | exact pure_aggB rfl | exact arr_pure _ | exact Load.pure _ | exact Area.pure _ | exact dvs_pure _ | exact pure_sc | exact pure_sl)) (cb) ?_ | (refine DDr2.valE rfl rfl rfl ?_; first | refine ⟨_, (OpVal.fa tt_ok rfl rfl rfl rfl rfl rfl), ?_⟩ | refine ⟨_, (OpVal.load1 tt_ok rfl rfl rfl rfl rfl rfl), ?_⟩ | refine ⟨_, (OpVal.cat rfl rfl rfl (by (try simp only [List.length_append, List.length_cons, List.length_nil, List.length_take, List.length_drop]); omega)), ?_⟩))
    refine DDr2.done 1 rfl rfl ?_
    repeat' (first | refine DAny.intro _ _ rfl ?_ | refine DAny.fin rfl ?_ | exact DAlts.nil | refine DAlts.cons rfl ?_ ?_ | refine q_seq ?_ | refine q_then ?_ | refine q_block ?_ | refine DCode.region ?_ | refine DOps.callW (b := 3) (r := 900) (by decide) rfl rfl rfl rfl Tryz.func27 rfl (by kernel_rfl) rfl rfl rfl (pures_cons trivial pures_nil) (bldB_ok (c0_ok (.inr rfl))) bldR_ok cw (fun v2 => ?_) | refine DOps.nil ?_ | (refine DOps.valK 0 rfl rfl rfl rfl ?_; first | refine ⟨_, (OpVal.move rfl rfl), ?_⟩) | (refine DOps.valK 10 rfl rfl rfl rfl ?_; first | refine ⟨_, (OpVal.add rfl rfl rfl (by omega) (by omega)), ?_⟩))
    exact ⟨(i + 1, v2), hlt, by simp only []; omega, Sub.cons (vI_congr (by simp only []; omega)) (by (repeat (first | exact Off.refl _ _ | refine Sub.base ?_ | refine Sub.junk ?_ | refine Sub.cons (by rfl) ?_ | refine Off.cons rfl ?_ | refine Off.junks rfl ?_))), by (repeat (first | exact MSubX.nil | refine MSubX.skip rfl ?_ | refine MSubX.cons (by rfl) ?_))⟩
  · obtain rfl : i = f.boxes.length := by omega
    have cs := string_m (.ptr 3 0) v (X f.boxes.length) (.inl hxn)
    repeat (first | refine q_seq ?_ | refine q_seqX ?_ | refine q_thenX ?_ | refine q_blockX ?_ | refine DCode.seq ?_ | refine DCode.region ?_ | refine DCode.exit ?_ | refine DCode.ret ?_ | refine DCode.condF rfl ?_ | refine DOps.callBye (b := 3) (r := 900) (by decide) rfl rfl rfl rfl rfl Tryz.func29 rfl (by kernel_rfl) rfl rfl rfl pures_nil (bldB_ok (c0_ok (.inr rfl))) bldR_ok cs (pures_cons trivial pures_nil) ?_ | refine DOps.nil ?_ | (refine DOps.valK 1 rfl rfl rfl rfl ?_; first | refine ⟨_, (OpVal.assign rfl rfl), ?_⟩) | (refine DOps.k 14 rfl ?_; first | refine DOps.cmpT rfl rfl rfl rfl rfl rfl rfl (by omega) ?_ | refine DOps.cmpF rfl rfl rfl rfl rfl rfl rfl (by omega) ?_))
    exact endQ.ret rfl (.cons (.tmp rfl) .nil) (pures_cons trivial pures_nil) rfl
end Go.Proofs.YtejdeonbibbchaaGreatDoor
