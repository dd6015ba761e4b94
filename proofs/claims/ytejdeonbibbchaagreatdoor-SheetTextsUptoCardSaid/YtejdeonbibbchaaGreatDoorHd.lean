/- law25: boxes that are clear; numbers printed: the walks. -/
import Derived.Test.YtejdeonbibbchaaGreatDoorHc
set_option linter.unusedVariables false
set_option linter.unusedSimpArgs false
set_option linter.constructorNameAsVariable false
namespace Go.Proofs.YtejdeonbibbchaaGreatDoor
open Go Go.RowKit Go.Proofs.YtejdeonbibbchaaGreatDoor.DL
set_option linter.unusedVariables false
set_option linter.unusedSimpArgs false
attribute [local irreducible] DCode DOps OpVal DCalls DCallsM DCallsB DCallsR thenQ seqQ inBlockQ endQ endQM OpNew DCf

set_option maxRecDepth 10000 in
set_option maxHeartbeats 8000000 in
theorem clear_d (f : Fl) (hn : f.boxes.length ≤ 9223372036854775806) : DCalls Tryz.prog 13 [f.tv] (fun ts => ts = [bt (clearW f.boxes)]) := by
  refine DCalls.enter tt_ok Tryz.func13 rfl Tryz.ntmps13 (by simp) (by repeat (first | exact pures_nil | refine pures_cons ?_ ?_ | exact trivial | exact pure_aggB rfl | exact arr_pure _ | exact Load.pure _ | exact Area.pure _ | exact dvs_pure _ | exact pure_sc | exact pure_sl)) ?_
  repeat (first | refine q_seq ?_ | refine DCode.seq ?_ | refine DCode.region ?_ | refine DCode.block ?_ | refine DOps.nil ?_ | (refine DOps.valK 0 rfl rfl rfl rfl ?_; first | refine ⟨_, (OpVal.move rfl rfl), ?_⟩) | (refine DOps.valK 1 rfl rfl rfl rfl ?_; first | refine ⟨_, (OpVal.assign rfl rfl), ?_⟩) | (refine DOps.valK 3 rfl rfl rfl rfl ?_; first | refine ⟨_, (OpVal.load1 tt_ok rfl rfl rfl rfl rfl rfl), ?_⟩) | (refine DOps.valK 18 rfl rfl rfl rfl ?_; first | refine ⟨_, (OpVal.fa tt_ok rfl rfl rfl rfl rfl rfl), ?_⟩) | (refine DOps.valK 17 rfl rfl rfl rfl ?_; first | refine ⟨_, (OpVal.lenD tt_ok rfl rfl rfl rfl rfl rfl rfl), ?_⟩) | (refine DOps.k 30 rfl ?_; refine DOps.boxS rfl rfl rfl rfl rfl rfl ?_))
  refine DCode.loopG (fun i : Nat => [(10, vI .i64 (i : Nat))]) [2, 3, 4, 6, 10, 11, 12, 13, 14, 15, 16, 17, 18, 19, 20, 21, 22, 23, 24, 25, 26, 27, 28, 29] (fun _ => []) (fun i => i ≤ f.boxes.length ∧ ((List.range i).all fun i => (f.boxes.take i).all (apartB (f.boxes.getD i bx0))) = true) (fun i => f.boxes.length - i) 0 ⟨Nat.zero_le _, rfl⟩ (fun i _ => ⟨trivial, trivial⟩) (fun i _ => trivial) (by (repeat (first | exact Off.refl _ _ | refine Sub.base ?_ | refine Sub.junk ?_ | refine Sub.cons (by rfl) ?_ | refine Off.cons rfl ?_ | refine Off.junks rfl ?_))) (by (repeat (first | exact MSubX.nil | refine MSubX.skip rfl ?_ | refine MSubX.cons (by rfl) ?_))) ?_
  intro i ⟨hi, hal⟩
  show DCode _ _ _ _ _ ([(10, vI .i64 (i : Nat))] ++ junks _ _) ([] ++ _)
  by_cases hlt : i < f.boxes.length
  rotate_left
  · obtain rfl : i = f.boxes.length := by omega
    rw [show clearW f.boxes = true from hal]
    repeat (first | refine q_seq ?_ | refine q_seqX ?_ | refine q_thenX ?_ | refine q_blockX ?_ | refine DCode.seq ?_ | refine DCode.region ?_ | refine DCode.exit ?_ | refine DCode.ret ?_ | refine DCode.condF rfl ?_ | refine DOps.nil ?_ | (refine DOps.valK 1 rfl rfl rfl rfl ?_; first | refine ⟨_, (OpVal.assign rfl rfl), ?_⟩) | (refine DOps.k 14 rfl ?_; first | refine DOps.cmpT rfl rfl rfl rfl rfl rfl rfl (by omega) ?_ | refine DOps.cmpF rfl rfl rfl rfl rfl rfl rfl (by omega) ?_))
    exact endQ.ret rfl (.cons (.tmp rfl) .nil) (pures_cons trivial pures_nil) rfl
  have htl : (f.boxes.take i).length = i := by rw [List.length_take]; omega
  repeat (first | refine q_seq ?_ | refine DCode.seq ?_ | refine DCode.region ?_ | refine DCode.block ?_ | refine DCode.skip ?_ | refine DCode.condT rfl ?_ | (refine DOps.valK 3 rfl rfl rfl rfl ?_; refine ⟨_, OpVal.ldX tt_ok rfl rfl rfl (Int.toNat_natCast i) rfl, ?_⟩) | refine DOps.nil ?_ | (refine DOps.valK 0 rfl rfl rfl rfl ?_; first | refine ⟨_, (OpVal.move rfl rfl), ?_⟩) | (refine DOps.valK 1 rfl rfl rfl rfl ?_; first | refine ⟨_, (OpVal.assign rfl rfl), ?_⟩) | (refine DOps.valK 3 rfl rfl rfl rfl ?_; first | refine ⟨_, (OpVal.load1 tt_ok rfl rfl rfl rfl rfl rfl), ?_⟩) | (refine DOps.valK 18 rfl rfl rfl rfl ?_; first | refine ⟨_, (OpVal.fa tt_ok rfl rfl rfl rfl rfl rfl), ?_⟩) | (refine DOps.valK 19 rfl rfl rfl rfl ?_; first | refine ⟨_, (OpVal.iaD tt_ok rfl rfl rfl rfl rfl rfl (by omega) (by omega)), ?_⟩) | (refine DOps.k 14 rfl ?_; first | refine DOps.cmpT rfl rfl rfl rfl rfl rfl rfl (by omega) ?_ | refine DOps.cmpF rfl rfl rfl rfl rfl rfl rfl (by omega) ?_) | (refine DOps.k 29 rfl ?_; refine DOps.alS tt_ok rfl rfl rfl rfl rfl rfl rfl ?_) | (refine DOps.k 31 rfl ?_; refine DOps.store tt_ok rfl rfl rfl rfl rfl rfl rfl rfl (Nat.le_of_ble_eq_true rfl) rfl ?_))
  (refine DOps.valK 22 rfl rfl rfl rfl ?_; refine ⟨_, OpVal.slH tt_ok i rfl rfl rfl rfl rfl rfl (by omega), ?_⟩)
  refine DOps.re (y := dB (f.boxes.take i)) 18 rfl (takeB _ _ hi) ?_
  repeat (first | refine q_seq ?_ | refine DCode.block ?_ | refine DOps.nil ?_ | (refine DOps.valK 0 rfl rfl rfl rfl ?_; first | refine ⟨_, (OpVal.move rfl rfl), ?_⟩) | (refine DOps.valK 17 rfl rfl rfl rfl ?_; first | refine ⟨_, (OpVal.lenD tt_ok rfl rfl rfl rfl rfl rfl rfl), ?_⟩))
  refine DCode.loopG (fun k : Nat => [(20, vI .i64 (k : Nat))]) [2, 6, 20, 21, 22, 23, 24, 25, 26, 27, 28] (fun _ => []) (fun k => k ≤ i ∧ ((f.boxes.take i).take k).all (apartB (f.boxes.getD i bx0)) = true) (fun k => i - k) 0 ⟨Nat.zero_le _, rfl⟩ (fun i _ => ⟨trivial, trivial⟩) (fun i _ => trivial) (by (repeat (first | exact Off.refl _ _ | refine Sub.base ?_ | refine Sub.junk ?_ | refine Sub.cons (by rfl) ?_ | refine Off.cons rfl ?_ | refine Off.junks rfl ?_))) (by (repeat (first | exact MSubX.nil | refine MSubX.skip rfl ?_ | refine MSubX.cons (by rfl) ?_))) ?_
  intro k ⟨hk, hin⟩
  show DCode _ _ _ _ _ ([(20, vI .i64 (k : Nat))] ++ junks _ _) ([] ++ _)
  by_cases hkl : k < i
  · have ca := apart_d (f.boxes.getD i bx0) ((f.boxes.take i).getD k bx0)
    have hst := all_take (p := apartB (f.boxes.getD i bx0)) (L := f.boxes.take i) (i := k) (by omega)
    have hmem := getD_memB (L := f.boxes.take i) (i := k) (by omega)
    cases hr : apartB (f.boxes.getD i bx0) ((f.boxes.take i).getD k bx0) with
    | false =>
      rw [hr] at ca
      rw [show clearW f.boxes = false from List.all_eq_false.2 ⟨i, List.mem_range.2 hlt, by
        rw [Bool.not_eq_true]
        exact List.all_eq_false.2 ⟨_, hmem, by rw [hr]; simp⟩⟩]
      repeat (first | refine q_seq ?_ | refine q_seqR ?_ | refine q_thenR ?_ | refine q_blockR ?_ | refine DCode.seq ?_ | refine DCode.region ?_ | refine DCode.block ?_ | refine DCode.skip ?_ | refine DCode.ret ?_ | refine DCode.condT rfl ?_ | (refine DOps.valK 3 rfl rfl rfl rfl ?_; refine ⟨_, OpVal.ldX (L := f.boxes.take i) tt_ok rfl rfl rfl (Int.toNat_natCast k) rfl, ?_⟩) | (refine DOps.valK 3 rfl rfl rfl rfl ?_; refine ⟨.v ((f.boxes.getD i bx0)).tv, OpVal.cast (OpVal.load tt_ok rfl rfl rfl rfl rfl rfl) rfl, ?_⟩) | (refine DOps.valK 3 rfl rfl rfl rfl ?_; refine ⟨.v (((f.boxes.take i).getD k bx0)).tv, OpVal.cast (OpVal.load tt_ok rfl rfl rfl rfl rfl rfl) rfl, ?_⟩) | refine DOps.call1 (ts := [(f.boxes.getD i bx0).tv, ((f.boxes.take i).getD k bx0).tv]) rfl rfl rfl rfl rfl Tryz.func31 rfl (by kernel_rfl) rfl (by repeat (first | exact pures_nil | refine pures_cons ?_ ?_ | exact trivial | exact pure_aggB rfl | exact arr_pure _ | exact Load.pure _ | exact Area.pure _ | exact dvs_pure _ | exact pure_sc | exact pure_sl)) (ca) ?_ | refine DOps.nil ?_ | (refine DOps.valK 1 rfl rfl rfl rfl ?_; first | refine ⟨_, (OpVal.assign rfl rfl), ?_⟩) | (refine DOps.valK 19 rfl rfl rfl rfl ?_; first | refine ⟨_, (OpVal.iaD tt_ok rfl rfl rfl rfl rfl rfl (by omega) (by omega)), ?_⟩) | (refine DOps.valK 16 rfl rfl rfl rfl ?_; first | refine ⟨_, (OpVal.notB rfl rfl), ?_⟩) | (refine DOps.k 14 rfl ?_; first | refine DOps.cmpT rfl rfl rfl rfl rfl rfl rfl (by omega) ?_ | refine DOps.cmpF rfl rfl rfl rfl rfl rfl rfl (by omega) ?_) | (refine DOps.k 29 rfl ?_; refine DOps.alS tt_ok rfl rfl rfl rfl rfl rfl rfl ?_) | (refine DOps.k 31 rfl ?_; refine DOps.store tt_ok rfl rfl rfl rfl rfl rfl rfl rfl (Nat.le_of_ble_eq_true rfl) rfl ?_))
      exact endQ.ret rfl (.cons (.tmp rfl) .nil) (pures_cons trivial pures_nil) rfl
    | true =>
      rw [hr] at ca
      repeat (first | refine q_seq ?_ | refine q_then ?_ | refine q_block ?_ | refine DCode.seq ?_ | refine DCode.region ?_ | refine DCode.block ?_ | refine DCode.skip ?_ | refine DCode.condT rfl ?_ | refine DCode.condF rfl ?_ | (refine DOps.valK 3 rfl rfl rfl rfl ?_; refine ⟨_, OpVal.ldX (L := f.boxes.take i) tt_ok rfl rfl rfl (Int.toNat_natCast k) rfl, ?_⟩) | (refine DOps.valK 3 rfl rfl rfl rfl ?_; refine ⟨.v ((f.boxes.getD i bx0)).tv, OpVal.cast (OpVal.load tt_ok rfl rfl rfl rfl rfl rfl) rfl, ?_⟩) | (refine DOps.valK 3 rfl rfl rfl rfl ?_; refine ⟨.v (((f.boxes.take i).getD k bx0)).tv, OpVal.cast (OpVal.load tt_ok rfl rfl rfl rfl rfl rfl) rfl, ?_⟩) | refine DOps.call1 (ts := [(f.boxes.getD i bx0).tv, ((f.boxes.take i).getD k bx0).tv]) rfl rfl rfl rfl rfl Tryz.func31 rfl (by kernel_rfl) rfl (by repeat (first | exact pures_nil | refine pures_cons ?_ ?_ | exact trivial | exact pure_aggB rfl | exact arr_pure _ | exact Load.pure _ | exact Area.pure _ | exact dvs_pure _ | exact pure_sc | exact pure_sl)) (ca) ?_ | refine DOps.nil ?_ | (refine DOps.valK 0 rfl rfl rfl rfl ?_; first | refine ⟨_, (OpVal.move rfl rfl), ?_⟩) | (refine DOps.valK 10 rfl rfl rfl rfl ?_; first | refine ⟨_, (OpVal.add rfl rfl rfl (by omega) (by omega)), ?_⟩) | (refine DOps.valK 19 rfl rfl rfl rfl ?_; first | refine ⟨_, (OpVal.iaD tt_ok rfl rfl rfl rfl rfl rfl (by omega) (by omega)), ?_⟩) | (refine DOps.valK 16 rfl rfl rfl rfl ?_; first | refine ⟨_, (OpVal.notB rfl rfl), ?_⟩) | (refine DOps.k 14 rfl ?_; first | refine DOps.cmpT rfl rfl rfl rfl rfl rfl rfl (by omega) ?_ | refine DOps.cmpF rfl rfl rfl rfl rfl rfl rfl (by omega) ?_) | (refine DOps.k 29 rfl ?_; refine DOps.alS tt_ok rfl rfl rfl rfl rfl rfl rfl ?_) | (refine DOps.k 31 rfl ?_; refine DOps.store tt_ok rfl rfl rfl rfl rfl rfl rfl rfl (Nat.le_of_ble_eq_true rfl) rfl ?_))
      exact ⟨k + 1, ⟨hkl, by rw [hst, hin, hr]; rfl⟩, by omega, Sub.cons (vI_congr (by omega)) (by (repeat (first | exact Off.refl _ _ | refine Sub.base ?_ | refine Sub.junk ?_ | refine Sub.cons (by rfl) ?_ | refine Off.cons rfl ?_ | refine Off.junks rfl ?_))), by (repeat (first | exact MSubX.nil | refine MSubX.skip rfl ?_ | refine MSubX.cons (by rfl) ?_))⟩
  · obtain rfl : k = i := by omega
    rw [List.take_of_length_le (by omega)] at hin
    repeat (first | refine q_seq ?_ | refine q_seqX ?_ | refine q_then ?_ | refine q_thenX ?_ | refine q_block ?_ | refine q_blockX ?_ | refine DCode.seq ?_ | refine DCode.region ?_ | refine DCode.exit ?_ | refine DCode.condF rfl ?_ | refine DOps.nil ?_ | (refine DOps.valK 0 rfl rfl rfl rfl ?_; first | refine ⟨_, (OpVal.move rfl rfl), ?_⟩) | (refine DOps.valK 10 rfl rfl rfl rfl ?_; first | refine ⟨_, (OpVal.add rfl rfl rfl (by omega) (by omega)), ?_⟩) | (refine DOps.k 14 rfl ?_; first | refine DOps.cmpT rfl rfl rfl rfl rfl rfl rfl (by omega) ?_ | refine DOps.cmpF rfl rfl rfl rfl rfl rfl rfl (by omega) ?_))
    exact ⟨k + 1, ⟨hlt, by rw [List.range_succ, List.all_append, hal]; simpa using hin⟩, by omega, Sub.cons (vI_congr (by omega)) (by (repeat (first | exact Off.refl _ _ | refine Sub.base ?_ | refine Sub.junk ?_ | refine Sub.cons (by rfl) ?_ | refine Off.cons rfl ?_ | refine Off.junks rfl ?_))), by (repeat (first | exact MSubX.nil | refine MSubX.skip rfl ?_ | refine MSubX.cons (by rfl) ?_))⟩
theorem join_len {L : List (List UInt8)} {sep : List UInt8} {n : Nat} (h : ∀ a ∈ L, a.length ≤ n) : (Lib.join L sep).length ≤ L.length * (n + sep.length) := by
  rw [Lib.join]
  induction L with
  | nil => simp [List.intercalate]
  | cons a r ih =>
    have ha := h a (List.mem_cons_self ..)
    cases r with
    | nil => simp [List.intercalate]; omega
    | cons b r =>
      have ih := ih fun x hx => h x (List.mem_cons_of_mem _ hx)
      have e : sep.intercalate (a :: b :: r) = a ++ (sep ++ sep.intercalate (b :: r)) := by simp [List.intercalate]
      rw [e, List.length_append, List.length_append, List.length_cons, Nat.succ_mul]
      omega
theorem nums_len {xs : List Int} (h : ∀ v ∈ xs, in64 v) : (nums xs).length ≤ xs.length * 22 := by
  have := join_len (sep := [32]) (n := 21) (L := xs.map Lib.itoa) fun a ha => by
    obtain ⟨v, hv, rfl⟩ := List.mem_map.1 ha
    exact itoa_len64 (h v hv)
  rw [List.length_map] at this
  exact this
set_option maxRecDepth 10000 in
set_option maxHeartbeats 8000000 in
theorem numbers_d (xs : List Int) (hx : xs.length ≤ 1000) (h64 : ∀ v ∈ xs, in64 v) : DCalls Tryz.prog 28 [tN xs] (fun ts => ts = [tT (nums xs)]) := by
  have hnl := nums_len h64
  refine DCalls.enter tt_ok Tryz.func28 rfl Tryz.ntmps28 (by simp) (by repeat (first | exact pures_nil | refine pures_cons ?_ ?_ | exact trivial | exact pure_aggB rfl | exact arr_pure _ | exact Load.pure _ | exact Area.pure _ | exact dvs_pure _ | exact pure_sc | exact pure_sl)) ?_
  repeat (first | refine q_seq ?_ | refine DCode.seq ?_ | refine DCode.region ?_ | refine DCode.block ?_ | refine DOps.val (d := 3) (r := .v (.one (.row 900 (.slice none 0 0)))) rfl rfl rfl (OpVal.nilRow (.inl rfl) rfl) ?_ | refine DOps.nil ?_ | (refine DOps.valK 0 rfl rfl rfl rfl ?_; first | refine ⟨_, (OpVal.move rfl rfl), ?_⟩) | (refine DOps.valK 1 rfl rfl rfl rfl ?_; first | refine ⟨_, (OpVal.assign rfl rfl), ?_⟩) | (refine DOps.valK 17 rfl rfl rfl rfl ?_; first | refine ⟨_, (OpVal.lenD tt_ok rfl rfl rfl rfl rfl rfl rfl), ?_⟩))
  refine DCode.nilRow 900 9 1 ?_
  refine DCode.loopG (fun s : Nat × List (List UInt8) × Value => [(8, vI .i64 (s.1 : Nat)), (3, .v (.one (.row 900 s.2.2)))]) [3, 5, 8, 9, 10, 11, 12, 13, 14, 15, 16, 17] (fun s => [(900, some (.row 9 1 s.2.1.length s.2.2 ((s.2.1.map dS).map .d) false))]) (fun x => x.1 ≤ xs.length ∧ x.2.1.length = x.1 ∧ x.2.1 = (xs.take x.1).map Lib.itoa) (fun x => xs.length - x.1) (0, [], .slice none 0 0) ⟨Nat.zero_le _, rfl, rfl⟩ (fun i _ => ⟨trivial, trivial, trivial⟩) (fun i _ => ⟨⟨_, rfl, rowOkX⟩, trivial⟩) (by (repeat (first | exact Off.refl _ _ | refine Sub.base ?_ | refine Sub.junk ?_ | refine Sub.cons (by rfl) ?_ | refine Off.cons rfl ?_ | refine Off.junks rfl ?_))) (by (repeat (first | exact MSubX.nil | refine MSubX.skip rfl ?_ | refine MSubX.cons (by rfl) ?_))) ?_
  intro ⟨i, out, v⟩ ⟨hi, ho, he⟩
  simp only [] at hi ho he
  show DCode _ _ _ _ _ ([(8, vI .i64 (i : Nat)), (3, .v (.one (.row 900 v)))] ++ junks _ _) ([(900, some (.row 9 1 out.length v ((out.map dS).map .d) false))] ++ _)
  by_cases hlt : i < xs.length
  · obtain ⟨b, hb⟩ : ∃ b, xs[i]? = some b := ⟨xs[i], List.getElem?_eq_getElem hlt⟩
    have hgd : xs.getD i 0 = b := by rw [List.getD_eq_getElem?_getD, hb]; rfl
    obtain ⟨b0, b1⟩ := h64 b (List.mem_of_getElem? hb)
    have cf := formatInt_c b b0 b1
    have hsn : (xs.take (i + 1)).map Lib.itoa = (xs.take i).map Lib.itoa ++ [Lib.itoa b] := by rw [List.take_add_one, hb]; simp
    repeat (first | refine q_seq ?_ | refine DCode.seq ?_ | refine DCode.region ?_ | refine DCode.block ?_ | refine DCode.skip ?_ | refine DCode.condT rfl ?_ | (refine DOps.valK 3 rfl rfl rfl rfl ?_; refine ⟨_, OpVal.cast (OpVal.ldN (X := xs) (m := i) tt_ok rfl rfl rfl rfl (Int.toNat_natCast _)) (congrArg (vI .i64) hgd), ?_⟩) | refine DOps.call1 (ts := [it b, it 10]) rfl rfl rfl rfl rfl Tryz.func40 rfl (by kernel_rfl) rfl (by repeat (first | exact pures_nil | refine pures_cons ?_ ?_ | exact trivial | exact pure_aggB rfl | exact arr_pure _ | exact Load.pure _ | exact Area.pure _ | exact dvs_pure _ | exact pure_sc | exact pure_sl)) (cf) ?_ | (refine DOps.k 28 rfl ?_; refine DOps.new (r := .v (.one (.d (.sl 1 1 fun _ _ => dS (Lib.itoa b))))) rfl rfl rfl (OpNew.bsl tt_ok [dS (Lib.itoa b)] _ rfl rfl rfl rfl rfl rfl rfl rfl rfl rfl (one_str (Lib.itoa b))) ?_) | refine DOps.nil ?_ | (refine DOps.valK 0 rfl rfl rfl rfl ?_; first | refine ⟨_, (OpVal.move rfl rfl), ?_⟩) | (refine DOps.valK 1 rfl rfl rfl rfl ?_; first | refine ⟨_, (OpVal.assign rfl rfl), ?_⟩) | (refine DOps.valK 19 rfl rfl rfl rfl ?_; first | refine ⟨_, (OpVal.iaD tt_ok rfl rfl rfl rfl rfl rfl (by omega) (by omega)), ?_⟩) | (refine DOps.k 14 rfl ?_; first | refine DOps.cmpT rfl rfl rfl rfl rfl rfl rfl (by omega) ?_ | refine DOps.cmpF rfl rfl rfl rfl rfl rfl rfl (by omega) ?_))
    generalize Lib.itoa b = kx at *
    refine DOps.append (n' := (out ++ [kx]).length) (cs' := ((out ++ [kx]).map dS).map .d) tt_ok [dS (kx)] rfl rfl rfl rfl rfl rfl rfl rfl rfl rfl rfl rfl rfl (by omega) (by show ((out).length + 1) * 16 ≤ 140737488355328; omega) (by show (out).length + 1 ≤ 9223372036854775807; omega) rfl (one_str (kx)) (by simp) (strs_snoc (out) (kx)) fun v' => ?_
    repeat (first | refine q_seq ?_ | refine q_then ?_ | refine q_block ?_ | refine DCode.region ?_ | refine DOps.nil ?_ | (refine DOps.valK 0 rfl rfl rfl rfl ?_; first | refine ⟨_, (OpVal.move rfl rfl), ?_⟩) | (refine DOps.valK 1 rfl rfl rfl rfl ?_; first | refine ⟨_, (OpVal.assign rfl rfl), ?_⟩) | (refine DOps.valK 10 rfl rfl rfl rfl ?_; first | refine ⟨_, (OpVal.add rfl rfl rfl (by omega) (by omega)), ?_⟩))
    exact ⟨(i + 1, out ++ [kx], v'), ⟨hlt, by simp; omega, by simp only []; rw [hsn, he]⟩, by simp only []; omega, Sub.cons (vI_congr (by simp only []; omega)) (by (repeat (first | exact Off.refl _ _ | refine Sub.base ?_ | refine Sub.junk ?_ | refine Sub.cons (by rfl) ?_ | refine Off.cons rfl ?_ | refine Off.junks rfl ?_))), by (repeat (first | exact MSubX.nil | refine MSubX.skip rfl ?_ | refine MSubX.cons (by rfl) ?_))⟩
  · obtain rfl : i = xs.length := by omega
    rw [List.take_length] at he
    have hnum : nums xs = Lib.join out [32] := by rw [he]; rfl
    rw [hnum] at hnl ⊢
    have cj := join_c out [32] (elS out) (fun i x hx => by rw [elS, List.getD_eq_getElem?_getD, hx]; rfl) (by omega) (by omega)
    repeat (first | refine q_seq ?_ | refine q_seqX ?_ | refine q_thenX ?_ | refine q_blockX ?_ | refine DCode.seq ?_ | refine DCode.region ?_ | refine DCode.exit ?_ | refine DCode.ret ?_ | refine DCode.condF rfl ?_ | refine DOps.freeze (b := 900) (d := 18) ((out).map dS) (elS (out)) rfl rfl (strs_flat (out)) ?_ | refine DOps.call1 (ts := [tL out, tT [32]]) rfl rfl rfl rfl rfl Tryz.func47 rfl (by kernel_rfl) rfl (by repeat (first | exact pures_nil | refine pures_cons ?_ ?_ | exact trivial | exact pure_aggB rfl | exact arr_pure _ | exact Load.pure _ | exact Area.pure _ | exact dvs_pure _ | exact pure_sc | exact pure_sl)) (cj) ?_ | refine DOps.nil ?_ | (refine DOps.valK 0 rfl rfl rfl rfl ?_; first | refine ⟨_, (OpVal.move rfl rfl), ?_⟩) | (refine DOps.valK 1 rfl rfl rfl rfl ?_; first | refine ⟨_, (OpVal.assign rfl rfl), ?_⟩) | (refine DOps.k 14 rfl ?_; first | refine DOps.cmpT rfl rfl rfl rfl rfl rfl rfl (by omega) ?_ | refine DOps.cmpF rfl rfl rfl rfl rfl rfl rfl (by omega) ?_))
    exact endQ.ret rfl (.cons (.tmp rfl) .nil) (pures_cons trivial pures_nil) rfl
set_option maxRecDepth 10000 in
set_option maxHeartbeats 8000000 in
theorem splitAfter_d (s : List UInt8) (hs : s.length < 4294967281) : DCalls Tryz.prog 15 [tT s, tT [10]] (fun ts => ts = [tL (splitAL s [10])]) := by
  have cg := genSplit_c s [10] (by decide) hs
  refine DCalls.enter tt_ok Tryz.func15 rfl Tryz.ntmps15 (by simp) (by repeat (first | exact pures_nil | refine pures_cons ?_ ?_ | exact trivial | exact pure_aggB rfl | exact arr_pure _ | exact Load.pure _ | exact Area.pure _ | exact dvs_pure _ | exact pure_sc | exact pure_sl)) ?_
  repeat (first | refine q_seq ?_ | refine DCode.seq ?_ | refine DCode.region ?_ | refine DCode.ret ?_ | refine DOps.call1 (ts := [tT s, tT [10], it 1, it (-1)]) rfl rfl rfl rfl rfl Tryz.func37 rfl (by kernel_rfl) rfl (by repeat (first | exact pures_nil | refine pures_cons ?_ ?_ | exact trivial | exact pure_aggB rfl | exact arr_pure _ | exact Load.pure _ | exact Area.pure _ | exact dvs_pure _ | exact pure_sc | exact pure_sl)) (cg) ?_ | refine DOps.nil ?_ | (refine DOps.valK 0 rfl rfl rfl rfl ?_; first | refine ⟨_, (OpVal.move rfl rfl), ?_⟩) | (refine DOps.valK 1 rfl rfl rfl rfl ?_; first | refine ⟨_, (OpVal.assign rfl rfl), ?_⟩) | (refine DOps.valK 17 rfl rfl rfl rfl ?_; first | refine ⟨_, (OpVal.lenT tt_ok rfl rfl rfl rfl rfl rfl rfl), ?_⟩))
  exact endQ.ret rfl (.cons (.tmp rfl) .nil) (pures_cons trivial pures_nil) rfl
end Go.Proofs.YtejdeonbibbchaaGreatDoor
