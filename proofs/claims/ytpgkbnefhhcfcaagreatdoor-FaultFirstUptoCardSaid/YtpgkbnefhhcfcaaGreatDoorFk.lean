/- law01, the reference: numbers: the walks. -/
import Derived.Test.YtpgkbnefhhcfcaaGreatDoorV0
import Derived.Test.YtpgkbnefhhcfcaaGreatDoorD44
import Derived.Test.YtpgkbnefhhcfcaaGreatDoorT
set_option linter.unusedVariables false
set_option linter.unusedSimpArgs false
set_option linter.constructorNameAsVariable false
namespace Go.Proofs.YtpgkbnefhhcfcaaGreatDoor
open Go Go.RowKit Go.Proofs.YtpgkbnefhhcfcaaGreatDoor.DL
set_option linter.unusedVariables false
set_option linter.unusedSimpArgs false
attribute [local irreducible] DCode DOps OpVal DCalls DCallsM DCallsB DCallsR thenQ seqQ inBlockQ endQ endQM OpNew DCf

/-! ### Numbers -/
theorem dig_slice {d : Nat} (h : d < 10) : (([48, 49, 50, 51, 52, 53, 54, 55, 56, 57] : List UInt8).take (d + 1)).drop d = [UInt8.ofNat (48 + d)] := by
  match d, h with
  | 0, _ => rfl
  | 1, _ => rfl
  | 2, _ => rfl
  | 3, _ => rfl
  | 4, _ => rfl
  | 5, _ => rfl
  | 6, _ => rfl
  | 7, _ => rfl
  | 8, _ => rfl
  | 9, _ => rfl
set_option maxRecDepth 10000 in
set_option maxHeartbeats 8000000 in
theorem rdigits_d (n : Nat) (hn : n < 18446744073709551616) : DCalls Tryz.prog 35 [ut n] (fun ts => ts = [tT (Lib.decDigits n)]) := by
  have hlen := dec_len (n := n) (k := 19) (by omega)
  refine DCalls.enter tt_ok Tryz.func35 rfl Tryz.ntmps35 (by simp) (by repeat (first | exact pures_nil | refine pures_cons ?_ ?_ | exact trivial | exact pure_aggB rfl | exact arr_pure _ | exact Load.pure _ | exact Area.pure _ | exact dvs_pure _ | exact pure_sc | exact pure_sl)) ?_
  repeat (first | first | refine q_seq ?_ | refine q_seqX ?_ | refine q_seqR ?_ | refine q_then ?_ | refine q_thenX ?_ | refine q_thenR ?_ | refine q_block ?_ | refine q_blockX ?_ | refine q_blockY rfl ?_ | refine q_blockR ?_ | refine DCode.seq ?_ | refine DCode.region ?_ | refine DCode.block ?_ | refine DCode.skip ?_ | refine DCode.exit ?_ | refine DCode.ret ?_ | refine DCode.condT rfl ?_ | refine DCode.condF rfl ?_ | refine DCode.condD rfl (fun _ => ?_) (fun _ => ?_) | first | refine DOps.nil ?_ | refine DOps.off rfl rfl rfl ?_ | (refine DOps.valK 0 rfl rfl rfl rfl ?_; first | refine ⟨_, (OpVal.move rfl rfl), ?_⟩ | refine ⟨_, (OpVal.moveT rfl rfl), ?_⟩) | (refine DOps.valK 1 rfl rfl rfl rfl ?_; first | refine ⟨_, (OpVal.assign rfl rfl), ?_⟩) | (refine DOps.valK 10 rfl rfl rfl rfl ?_; first | refine ⟨_, (OpVal.add rfl rfl rfl (by omega) (by omega)), ?_⟩ | refine ⟨_, (OpVal.arith rfl rfl rfl rfl), ?_⟩ | refine ⟨_, (OpVal.cat rfl rfl rfl (by (try simp only [List.length_append, List.length_cons, List.length_nil, List.length_take, List.length_drop]); omega)), ?_⟩) | (refine DOps.valK 15 rfl rfl rfl rfl ?_; first | refine ⟨_, (OpVal.arith rfl rfl rfl rfl), ?_⟩) | (refine DOps.k 14 rfl ?_; first | refine DOps.cmpT rfl rfl rfl rfl rfl rfl rfl (by omega) ?_ | refine DOps.cmpF rfl rfl rfl rfl rfl rfl rfl (by omega) ?_))
  refine DCode.loopG (fun s : Nat × List UInt8 => [(0, vU s.1), (3, vT s.2)]) [0, 3, 4, 5, 6, 7, 8, 9, 10, 11, 12, 13, 14, 15] (fun _ => []) (fun s => s.1 < 18446744073709551616 ∧ Lib.decDigits s.1 ++ s.2 = Lib.decDigits n) (fun s => s.1) (n, []) ⟨hn, List.append_nil _⟩ (fun i _ => ⟨trivial, trivial, trivial⟩) (fun i _ => trivial) (by (repeat (first | exact Off.refl _ _ | refine Sub.base ?_ | refine Sub.junk ?_ | refine Sub.cons (by rfl) ?_ | refine Off.cons rfl ?_ | refine Off.junks rfl ?_))) (by (repeat (first | exact MSubX.nil | refine MSubX.skip rfl ?_ | refine MSubX.cons (by rfl) ?_))) ?_
  intro ⟨i, out⟩ ⟨h1, h2⟩
  simp only [] at h1 h2
  show DCode _ _ _ _ _ ([(0, vU i), (3, vT out)] ++ junks _ _) ([] ++ _)
  have hol : out.length ≤ 20 := by
    have := congrArg List.length h2
    rw [List.length_append] at this
    omega
  by_cases hlt : i < 10
  · have e1 := dig_slice hlt
    have e2 := dec_one hlt
    rw [e2] at h2
    repeat (first | first | refine q_seq ?_ | refine q_seqX ?_ | refine q_seqR ?_ | refine q_then ?_ | refine q_thenX ?_ | refine q_thenR ?_ | refine q_block ?_ | refine q_blockX ?_ | refine q_blockY rfl ?_ | refine q_blockR ?_ | refine DCode.seq ?_ | refine DCode.region ?_ | refine DCode.block ?_ | refine DCode.skip ?_ | refine DCode.exit ?_ | refine DCode.ret ?_ | refine DCode.condT rfl ?_ | refine DCode.condF rfl ?_ | refine DCode.condD rfl (fun _ => ?_) (fun _ => ?_) | (refine DOps.valK 10 rfl rfl rfl rfl ?_; refine ⟨_, OpVal.addU (m := i) (n := 1) rfl rfl rfl (by omega), ?_⟩) | (refine DOps.valK 22 rfl rfl rfl rfl ?_; refine ⟨_, OpVal.cast (OpVal.sliceT (l := digSet) (b := i) (e := i + 1) tt_ok rfl rfl rfl rfl ⟨_, rfl⟩ ⟨_, rfl⟩ (by omega) (by simp only [List.length_cons, List.length_nil]; omega)) (congrArg vT e1), ?_⟩) | first | refine DOps.nil ?_ | refine DOps.off rfl rfl rfl ?_ | (refine DOps.valK 0 rfl rfl rfl rfl ?_; first | refine ⟨_, (OpVal.move rfl rfl), ?_⟩ | refine ⟨_, (OpVal.moveT rfl rfl), ?_⟩) | (refine DOps.valK 1 rfl rfl rfl rfl ?_; first | refine ⟨_, (OpVal.assign rfl rfl), ?_⟩) | (refine DOps.valK 10 rfl rfl rfl rfl ?_; first | refine ⟨_, (OpVal.add rfl rfl rfl (by omega) (by omega)), ?_⟩ | refine ⟨_, (OpVal.arith rfl rfl rfl rfl), ?_⟩ | refine ⟨_, (OpVal.cat rfl rfl rfl (by (try simp only [List.length_append, List.length_cons, List.length_nil, List.length_take, List.length_drop]); omega)), ?_⟩) | (refine DOps.valK 15 rfl rfl rfl rfl ?_; first | refine ⟨_, (OpVal.arith rfl rfl rfl rfl), ?_⟩) | (refine DOps.k 14 rfl ?_; first | refine DOps.cmpT rfl rfl rfl rfl rfl rfl rfl (by omega) ?_ | refine DOps.cmpF rfl rfl rfl rfl rfl rfl rfl (by omega) ?_))
    exact endQ.ret rfl (.cons (.tmp rfl) .nil) (pures_cons trivial pures_nil) (by rw [← h2])
  · have hm : i % 10 < 10 := Nat.mod_lt _ (by decide)
    have e1 := dig_slice hm
    have e2 := dec_step i hlt
    rw [e2] at h2
    repeat (first | first | refine q_seq ?_ | refine q_seqX ?_ | refine q_seqR ?_ | refine q_then ?_ | refine q_thenX ?_ | refine q_thenR ?_ | refine q_block ?_ | refine q_blockX ?_ | refine q_blockY rfl ?_ | refine q_blockR ?_ | refine DCode.seq ?_ | refine DCode.region ?_ | refine DCode.block ?_ | refine DCode.skip ?_ | refine DCode.exit ?_ | refine DCode.ret ?_ | refine DCode.condT rfl ?_ | refine DCode.condF rfl ?_ | refine DCode.condD rfl (fun _ => ?_) (fun _ => ?_) | (refine DOps.valK 10 rfl rfl rfl rfl ?_; refine ⟨_, OpVal.addU (m := i % 10) (n := 1) rfl rfl rfl (by omega), ?_⟩) | (refine DOps.valK 15 rfl rfl rfl rfl ?_; refine ⟨_, OpVal.remU (m := i) (n := 10) rfl rfl rfl (by decide), ?_⟩) | (refine DOps.valK 15 rfl rfl rfl rfl ?_; refine ⟨_, OpVal.quoU (m := i) (n := 10) rfl rfl rfl (by omega) (by decide), ?_⟩) | (refine DOps.valK 22 rfl rfl rfl rfl ?_; refine ⟨_, OpVal.cast (OpVal.sliceT (l := digSet) (b := i % 10) (e := i % 10 + 1) tt_ok rfl rfl rfl rfl ⟨_, rfl⟩ ⟨_, rfl⟩ (by omega) (by simp only [List.length_cons, List.length_nil]; omega)) (congrArg vT e1), ?_⟩) | first | refine DOps.nil ?_ | refine DOps.off rfl rfl rfl ?_ | (refine DOps.valK 0 rfl rfl rfl rfl ?_; first | refine ⟨_, (OpVal.move rfl rfl), ?_⟩ | refine ⟨_, (OpVal.moveT rfl rfl), ?_⟩) | (refine DOps.valK 1 rfl rfl rfl rfl ?_; first | refine ⟨_, (OpVal.assign rfl rfl), ?_⟩) | (refine DOps.valK 10 rfl rfl rfl rfl ?_; first | refine ⟨_, (OpVal.add rfl rfl rfl (by omega) (by omega)), ?_⟩ | refine ⟨_, (OpVal.arith rfl rfl rfl rfl), ?_⟩ | refine ⟨_, (OpVal.cat rfl rfl rfl (by (try simp only [List.length_append, List.length_cons, List.length_nil, List.length_take, List.length_drop]); omega)), ?_⟩) | (refine DOps.valK 15 rfl rfl rfl rfl ?_; first | refine ⟨_, (OpVal.arith rfl rfl rfl rfl), ?_⟩) | (refine DOps.k 14 rfl ?_; first | refine DOps.cmpT rfl rfl rfl rfl rfl rfl rfl (by omega) ?_ | refine DOps.cmpF rfl rfl rfl rfl rfl rfl rfl (by omega) ?_))
    exact ⟨(i / 10, [UInt8.ofNat (48 + i % 10)] ++ out), ⟨by simp only []; omega, by rw [← h2]; simp⟩, by simp only []; omega, (by (repeat (first | exact Off.refl _ _ | refine Sub.base ?_ | refine Sub.junk ?_ | refine Sub.cons (by rfl) ?_ | refine Off.cons rfl ?_ | refine Off.junks rfl ?_))), by (repeat (first | exact MSubX.nil | refine MSubX.skip rfl ?_ | refine MSubX.cons (by rfl) ?_))⟩
set_option maxRecDepth 10000 in
set_option maxHeartbeats 8000000 in
theorem signed_d (n : Int) (h : in64 n) : DCalls Tryz.prog 26 [it n] (fun ts => ts = [tT (Lib.itoa n)]) := by
  obtain ⟨h0, h1⟩ := h
  by_cases hv : n < 0
  · have cd := rdigits_d n.natAbs (by omega)
    have hl := dec_len (n := n.natAbs) (k := 18) (by omega)
    rw [show Lib.itoa n = [45] ++ Lib.decDigits n.natAbs by rw [Lib.itoa, if_pos hv]; rfl]
    have e1 : -(n + 1) = ((n.natAbs - 1 : Nat) : Int) := by omega
    have e2 : n.natAbs - 1 + 1 = n.natAbs := by omega
    generalize n.natAbs = m at *
    refine DCalls.enter tt_ok Tryz.func26 rfl Tryz.ntmps26 (by simp) (by repeat (first | exact pures_nil | refine pures_cons ?_ ?_ | exact trivial | exact pure_aggB rfl | exact arr_pure _ | exact Load.pure _ | exact Area.pure _ | exact dvs_pure _ | exact pure_sc | exact pure_sl)) ?_
    repeat (first | first | refine q_seq ?_ | refine q_seqX ?_ | refine q_seqR ?_ | refine q_then ?_ | refine q_thenX ?_ | refine q_thenR ?_ | refine q_block ?_ | refine q_blockX ?_ | refine q_blockY rfl ?_ | refine q_blockR ?_ | refine DCode.seq ?_ | refine DCode.region ?_ | refine DCode.block ?_ | refine DCode.skip ?_ | refine DCode.exit ?_ | refine DCode.ret ?_ | refine DCode.condT rfl ?_ | refine DCode.condF rfl ?_ | refine DCode.condD rfl (fun _ => ?_) (fun _ => ?_) | (refine DOps.valK 16 rfl rfl rfl rfl ?_; refine ⟨_, OpVal.cast (OpVal.neg64 rfl rfl (by omega) (by omega)) (vI_congr e1), ?_⟩) | (refine DOps.valK 26 rfl rfl rfl rfl ?_; refine ⟨_, OpVal.toU tt_ok rfl rfl rfl rfl (by omega) (by omega), ?_⟩) | (refine DOps.valK 10 rfl rfl rfl rfl ?_; refine ⟨_, OpVal.cast (OpVal.addU (m := m - 1) (n := 1) rfl rfl rfl (by omega)) (congrArg vU e2), ?_⟩) | refine DOps.call1 (ts := [ut m]) rfl rfl rfl rfl rfl Tryz.func35 rfl (by kernel_rfl) rfl (by repeat (first | exact pures_nil | refine pures_cons ?_ ?_ | exact trivial | exact pure_aggB rfl | exact arr_pure _ | exact Load.pure _ | exact Area.pure _ | exact dvs_pure _ | exact pure_sc | exact pure_sl)) (cd) ?_ | first | refine DOps.nil ?_ | refine DOps.off rfl rfl rfl ?_ | (refine DOps.valK 0 rfl rfl rfl rfl ?_; first | refine ⟨_, (OpVal.move rfl rfl), ?_⟩ | refine ⟨_, (OpVal.moveT rfl rfl), ?_⟩) | (refine DOps.valK 1 rfl rfl rfl rfl ?_; first | refine ⟨_, (OpVal.assign rfl rfl), ?_⟩) | (refine DOps.valK 10 rfl rfl rfl rfl ?_; first | refine ⟨_, (OpVal.add rfl rfl rfl (by omega) (by omega)), ?_⟩ | refine ⟨_, (OpVal.arith rfl rfl rfl rfl), ?_⟩ | refine ⟨_, (OpVal.cat rfl rfl rfl (by (try simp only [List.length_append, List.length_cons, List.length_nil, List.length_take, List.length_drop]); omega)), ?_⟩) | (refine DOps.valK 16 rfl rfl rfl rfl ?_; first | refine ⟨_, (OpVal.neg64 rfl rfl (by omega) (by omega)), ?_⟩ | refine ⟨_, (OpVal.notB rfl rfl), ?_⟩) | (refine DOps.k 14 rfl ?_; first | refine DOps.cmpT rfl rfl rfl rfl rfl rfl rfl (by omega) ?_ | refine DOps.cmpF rfl rfl rfl rfl rfl rfl rfl (by omega) ?_))
    exact endQ.ret rfl (.cons (.tmp rfl) .nil) (pures_cons trivial pures_nil) rfl
  · have cd := rdigits_d n.toNat (by omega)
    rw [show Lib.itoa n = Lib.decDigits n.toNat by rw [Lib.itoa, if_neg hv]]
    have e1 : n = ((n.toNat : Nat) : Int) := by omega
    generalize n.toNat = m at *
    refine DCalls.enter tt_ok Tryz.func26 rfl Tryz.ntmps26 (by simp) (by repeat (first | exact pures_nil | refine pures_cons ?_ ?_ | exact trivial | exact pure_aggB rfl | exact arr_pure _ | exact Load.pure _ | exact Area.pure _ | exact dvs_pure _ | exact pure_sc | exact pure_sl)) ?_
    repeat (first | first | refine q_seq ?_ | refine q_seqX ?_ | refine q_seqR ?_ | refine q_then ?_ | refine q_thenX ?_ | refine q_thenR ?_ | refine q_block ?_ | refine q_blockX ?_ | refine q_blockY rfl ?_ | refine q_blockR ?_ | refine DCode.seq ?_ | refine DCode.region ?_ | refine DCode.block ?_ | refine DCode.skip ?_ | refine DCode.exit ?_ | refine DCode.ret ?_ | refine DCode.condT rfl ?_ | refine DCode.condF rfl ?_ | refine DCode.condD rfl (fun _ => ?_) (fun _ => ?_) | (refine DOps.valK 26 rfl rfl rfl rfl ?_; refine ⟨_, OpVal.cast (OpVal.toU tt_ok rfl rfl rfl rfl (by omega) (by omega)) (vI_congr e1), ?_⟩) | refine DOps.call1 (ts := [ut m]) rfl rfl rfl rfl rfl Tryz.func35 rfl (by kernel_rfl) rfl (by repeat (first | exact pures_nil | refine pures_cons ?_ ?_ | exact trivial | exact pure_aggB rfl | exact arr_pure _ | exact Load.pure _ | exact Area.pure _ | exact dvs_pure _ | exact pure_sc | exact pure_sl)) (cd) ?_ | first | refine DOps.nil ?_ | refine DOps.off rfl rfl rfl ?_ | (refine DOps.valK 0 rfl rfl rfl rfl ?_; first | refine ⟨_, (OpVal.move rfl rfl), ?_⟩ | refine ⟨_, (OpVal.moveT rfl rfl), ?_⟩) | (refine DOps.valK 1 rfl rfl rfl rfl ?_; first | refine ⟨_, (OpVal.assign rfl rfl), ?_⟩) | (refine DOps.valK 10 rfl rfl rfl rfl ?_; first | refine ⟨_, (OpVal.add rfl rfl rfl (by omega) (by omega)), ?_⟩ | refine ⟨_, (OpVal.arith rfl rfl rfl rfl), ?_⟩ | refine ⟨_, (OpVal.cat rfl rfl rfl (by (try simp only [List.length_append, List.length_cons, List.length_nil, List.length_take, List.length_drop]); omega)), ?_⟩) | (refine DOps.valK 16 rfl rfl rfl rfl ?_; first | refine ⟨_, (OpVal.neg64 rfl rfl (by omega) (by omega)), ?_⟩ | refine ⟨_, (OpVal.notB rfl rfl), ?_⟩) | (refine DOps.k 14 rfl ?_; first | refine DOps.cmpT rfl rfl rfl rfl rfl rfl rfl (by omega) ?_ | refine DOps.cmpF rfl rfl rfl rfl rfl rfl rfl (by omega) ?_))
    exact endQ.ret rfl (.cons (.tmp rfl) .nil) (pures_cons trivial pures_nil) rfl
end Go.Proofs.YtpgkbnefhhcfcaaGreatDoor
