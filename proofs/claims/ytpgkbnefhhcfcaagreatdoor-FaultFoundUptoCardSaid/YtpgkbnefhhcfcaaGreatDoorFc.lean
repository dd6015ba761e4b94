/- law01: whether a stage's name may be; the first one of some faults: the walks. -/
import Derived.Test.YtpgkbnefhhcfcaaGreatDoorFb
import Derived.Test.YtpgkbnefhhcfcaaGreatDoorD45
set_option linter.unusedVariables false
set_option linter.unusedSimpArgs false
set_option linter.constructorNameAsVariable false
namespace Go.Proofs.YtpgkbnefhhcfcaaGreatDoor
open Go Go.RowKit Go.Proofs.YtpgkbnefhhcfcaaGreatDoor.DL
set_option linter.unusedVariables false
set_option linter.unusedSimpArgs false
attribute [local irreducible] DCode DOps OpVal DCalls DCallsM DCallsB DCallsR thenQ seqQ inBlockQ endQ endQM OpNew DCf DDr

abbrev lowS : List UInt8 := [97, 98, 99, 100, 101, 102, 103, 104, 105, 106, 107, 108, 109, 110, 111, 112, 113, 114, 115, 116, 117, 118, 119, 120, 121, 122]
theorem low_fin : ∀ n : Fin 256, lowS.contains (UInt8.ofNat n.val) = isLow (UInt8.ofNat n.val) := by decide +kernel
theorem low_contains (c : UInt8) : lowS.contains c = isLow c := by
  have := low_fin ⟨c.toNat, c.toNat_lt⟩
  simpa using this
theorem dropWhile_nil {α : Type} (p : α → Bool) : ∀ l : List α, l.dropWhile p = [] ↔ ∀ x ∈ l, p x = true
  | [] => by simp
  | x :: l => by
    rw [List.dropWhile_cons]
    by_cases h : p x = true
    · rw [if_pos h, dropWhile_nil p l]
      simp [h]
    · rw [if_neg h]
      simp [h]
theorem trimS_none {l cs : List UInt8} : Lib.trimS l cs = [] ↔ ∀ x ∈ l, cs.contains x = true := by
  rw [Lib.trimS, Lib.trimLeftS, dropWhile_nil]
  constructor
  · intro h
    have hd : l.reverse.dropWhile (cs.contains ·) = [] := by
      cases e : l.reverse.dropWhile (cs.contains ·) with
      | nil => rfl
      | cons y r =>
        have h1 : cs.contains y = true := h y (by rw [Lib.trimRightS, e]; simp)
        have h2 := List.head?_dropWhile_not (cs.contains ·) l.reverse
        rw [e] at h2
        simp at h2
        simp at h1
        exact absurd h1 h2
    rw [dropWhile_nil] at hd
    exact fun x hx => hd x (List.mem_reverse.2 hx)
  · intro h x hx
    refine h x ?_
    rw [Lib.trimRightS, List.mem_reverse] at hx
    exact List.mem_reverse.1 ((List.dropWhile_sublist _).subset hx)
theorem trim_name {s : List UInt8} : Lib.trimS s lowS = [] ↔ s.all isLow = true := by
  rw [trimS_none, List.all_eq_true]
  constructor <;> intro h x hx
  · rw [← low_contains]; exact h x hx
  · rw [low_contains]; exact h x hx
set_option maxRecDepth 10000 in
set_option maxHeartbeats 8000000 in
theorem name_d (s : List UInt8) (hs : s.length ≤ 9223372036854775806) : DCalls Tryz.prog 22 [tT s] (fun ts => ts = [bt (nameB s)]) := by
  have ct := trim_c s lowS (by omega) (by decide) (by decide)
  by_cases h0 : s = []
  · subst h0
    rw [show nameB [] = false from rfl]
    refine DCalls.enter tt_ok Tryz.func22 rfl Tryz.ntmps22 (by simp) (by repeat (first | exact pures_nil | refine pures_cons ?_ ?_ | exact trivial | exact pure_aggB rfl | exact arr_pure _ | exact Load.pure _ | exact Area.pure _ | exact dvs_pure _ | exact pure_sc | exact pure_sl)) ?_
    repeat (first | first | refine q_seq ?_ | refine q_seqX ?_ | refine q_seqR ?_ | refine q_then ?_ | refine q_thenX ?_ | refine q_thenR ?_ | refine q_block ?_ | refine q_blockX ?_ | refine q_blockY rfl ?_ | refine q_blockR ?_ | refine DCode.seq ?_ | refine DCode.region ?_ | refine DCode.block ?_ | refine DCode.skip ?_ | refine DCode.exit ?_ | refine DCode.ret ?_ | refine DCode.condT rfl ?_ | refine DCode.condF rfl ?_ | refine DCode.condD rfl (fun _ => ?_) (fun _ => ?_) | first | refine DOps.nil ?_ | refine DOps.off rfl rfl rfl ?_ | (refine DOps.valK 0 rfl rfl rfl rfl ?_; first | refine ⟨_, (OpVal.move rfl rfl), ?_⟩ | refine ⟨_, (OpVal.moveT rfl rfl), ?_⟩) | (refine DOps.valK 1 rfl rfl rfl rfl ?_; first | refine ⟨_, (OpVal.assign rfl rfl), ?_⟩) | (refine DOps.valK 12 rfl rfl rfl rfl ?_; first | refine ⟨_, (OpVal.eqlST rfl rfl rfl (by first | assumption | with_reducible rfl)), ?_⟩ | refine ⟨_, (OpVal.eqlSF rfl rfl rfl (by first | assumption | with_reducible rfl)), ?_⟩) | (refine DOps.valK 13 rfl rfl rfl rfl ?_; first | refine ⟨_, (OpVal.neqST rfl rfl rfl (by first | assumption | with_reducible rfl)), ?_⟩ | refine ⟨_, (OpVal.neqSF rfl rfl rfl (by first | assumption | with_reducible rfl)), ?_⟩) | (refine DOps.valK 2 rfl rfl rfl rfl ?_; first | refine ⟨_, (OpVal.pickT rfl rfl rfl), ?_⟩ | refine ⟨_, (OpVal.pickF rfl rfl rfl), ?_⟩) | (refine DOps.k 12 rfl ?_; first | refine DOps.cmpT rfl rfl rfl rfl rfl rfl rfl (by omega) ?_ | refine DOps.cmpF rfl rfl rfl rfl rfl rfl rfl (by omega) ?_) | (refine DOps.k 13 rfl ?_; first | refine DOps.cmpT rfl rfl rfl rfl rfl rfl rfl (by omega) ?_ | refine DOps.cmpF rfl rfl rfl rfl rfl rfl rfl (by omega) ?_))
    exact endQ.ret rfl (.cons (.tmp rfl) .nil) (pures_cons trivial pures_nil) rfl
  · have hne : s.isEmpty = false := by simpa using h0
    by_cases h1 : Lib.trimS s lowS = []
    · rw [show nameB s = true by rw [nameB, hne, trim_name.1 h1]; rfl]
      rw [h1] at ct
      refine DCalls.enter tt_ok Tryz.func22 rfl Tryz.ntmps22 (by simp) (by repeat (first | exact pures_nil | refine pures_cons ?_ ?_ | exact trivial | exact pure_aggB rfl | exact arr_pure _ | exact Load.pure _ | exact Area.pure _ | exact dvs_pure _ | exact pure_sc | exact pure_sl)) ?_
      repeat (first | first | refine q_seq ?_ | refine q_seqX ?_ | refine q_seqR ?_ | refine q_then ?_ | refine q_thenX ?_ | refine q_thenR ?_ | refine q_block ?_ | refine q_blockX ?_ | refine q_blockY rfl ?_ | refine q_blockR ?_ | refine DCode.seq ?_ | refine DCode.region ?_ | refine DCode.block ?_ | refine DCode.skip ?_ | refine DCode.exit ?_ | refine DCode.ret ?_ | refine DCode.condT rfl ?_ | refine DCode.condF rfl ?_ | refine DCode.condD rfl (fun _ => ?_) (fun _ => ?_) | refine DOps.call1 (ts := [tT s, tT lowS]) rfl rfl rfl rfl rfl Tryz.func33 rfl (by kernel_rfl) rfl (by repeat (first | exact pures_nil | refine pures_cons ?_ ?_ | exact trivial | exact pure_aggB rfl | exact arr_pure _ | exact Load.pure _ | exact Area.pure _ | exact dvs_pure _ | exact pure_sc | exact pure_sl)) (ct) ?_ | first | refine DOps.nil ?_ | refine DOps.off rfl rfl rfl ?_ | (refine DOps.valK 0 rfl rfl rfl rfl ?_; first | refine ⟨_, (OpVal.move rfl rfl), ?_⟩ | refine ⟨_, (OpVal.moveT rfl rfl), ?_⟩) | (refine DOps.valK 1 rfl rfl rfl rfl ?_; first | refine ⟨_, (OpVal.assign rfl rfl), ?_⟩) | (refine DOps.valK 12 rfl rfl rfl rfl ?_; first | refine ⟨_, (OpVal.eqlST rfl rfl rfl (by first | assumption | with_reducible rfl)), ?_⟩ | refine ⟨_, (OpVal.eqlSF rfl rfl rfl (by first | assumption | with_reducible rfl)), ?_⟩) | (refine DOps.valK 13 rfl rfl rfl rfl ?_; first | refine ⟨_, (OpVal.neqST rfl rfl rfl (by first | assumption | with_reducible rfl)), ?_⟩ | refine ⟨_, (OpVal.neqSF rfl rfl rfl (by first | assumption | with_reducible rfl)), ?_⟩) | (refine DOps.valK 2 rfl rfl rfl rfl ?_; first | refine ⟨_, (OpVal.pickT rfl rfl rfl), ?_⟩ | refine ⟨_, (OpVal.pickF rfl rfl rfl), ?_⟩) | (refine DOps.k 12 rfl ?_; first | refine DOps.cmpT rfl rfl rfl rfl rfl rfl rfl (by omega) ?_ | refine DOps.cmpF rfl rfl rfl rfl rfl rfl rfl (by omega) ?_) | (refine DOps.k 13 rfl ?_; first | refine DOps.cmpT rfl rfl rfl rfl rfl rfl rfl (by omega) ?_ | refine DOps.cmpF rfl rfl rfl rfl rfl rfl rfl (by omega) ?_))
      exact endQ.ret rfl (.cons (.tmp rfl) .nil) (pures_cons trivial pures_nil) rfl
    · rw [show nameB s = false by
        rw [nameB, hne]
        cases e : s.all isLow with
        | true => exact absurd (trim_name.2 e) h1
        | false => rfl]
      generalize Lib.trimS s lowS = T at *
      refine DCalls.enter tt_ok Tryz.func22 rfl Tryz.ntmps22 (by simp) (by repeat (first | exact pures_nil | refine pures_cons ?_ ?_ | exact trivial | exact pure_aggB rfl | exact arr_pure _ | exact Load.pure _ | exact Area.pure _ | exact dvs_pure _ | exact pure_sc | exact pure_sl)) ?_
      repeat (first | first | refine q_seq ?_ | refine q_seqX ?_ | refine q_seqR ?_ | refine q_then ?_ | refine q_thenX ?_ | refine q_thenR ?_ | refine q_block ?_ | refine q_blockX ?_ | refine q_blockY rfl ?_ | refine q_blockR ?_ | refine DCode.seq ?_ | refine DCode.region ?_ | refine DCode.block ?_ | refine DCode.skip ?_ | refine DCode.exit ?_ | refine DCode.ret ?_ | refine DCode.condT rfl ?_ | refine DCode.condF rfl ?_ | refine DCode.condD rfl (fun _ => ?_) (fun _ => ?_) | refine DOps.call1 (ts := [tT s, tT lowS]) rfl rfl rfl rfl rfl Tryz.func33 rfl (by kernel_rfl) rfl (by repeat (first | exact pures_nil | refine pures_cons ?_ ?_ | exact trivial | exact pure_aggB rfl | exact arr_pure _ | exact Load.pure _ | exact Area.pure _ | exact dvs_pure _ | exact pure_sc | exact pure_sl)) (ct) ?_ | first | refine DOps.nil ?_ | refine DOps.off rfl rfl rfl ?_ | (refine DOps.valK 0 rfl rfl rfl rfl ?_; first | refine ⟨_, (OpVal.move rfl rfl), ?_⟩ | refine ⟨_, (OpVal.moveT rfl rfl), ?_⟩) | (refine DOps.valK 1 rfl rfl rfl rfl ?_; first | refine ⟨_, (OpVal.assign rfl rfl), ?_⟩) | (refine DOps.valK 12 rfl rfl rfl rfl ?_; first | refine ⟨_, (OpVal.eqlST rfl rfl rfl (by first | assumption | with_reducible rfl)), ?_⟩ | refine ⟨_, (OpVal.eqlSF rfl rfl rfl (by first | assumption | with_reducible rfl)), ?_⟩) | (refine DOps.valK 13 rfl rfl rfl rfl ?_; first | refine ⟨_, (OpVal.neqST rfl rfl rfl (by first | assumption | with_reducible rfl)), ?_⟩ | refine ⟨_, (OpVal.neqSF rfl rfl rfl (by first | assumption | with_reducible rfl)), ?_⟩) | (refine DOps.valK 2 rfl rfl rfl rfl ?_; first | refine ⟨_, (OpVal.pickT rfl rfl rfl), ?_⟩ | refine ⟨_, (OpVal.pickF rfl rfl rfl), ?_⟩) | (refine DOps.k 12 rfl ?_; first | refine DOps.cmpT rfl rfl rfl rfl rfl rfl rfl (by omega) ?_ | refine DOps.cmpF rfl rfl rfl rfl rfl rfl rfl (by omega) ?_) | (refine DOps.k 13 rfl ?_; first | refine DOps.cmpT rfl rfl rfl rfl rfl rfl rfl (by omega) ?_ | refine DOps.cmpF rfl rfl rfl rfl rfl rfl rfl (by omega) ?_))
      exact endQ.ret rfl (.cons (.tmp rfl) .nil) (pures_cons trivial pures_nil) rfl
end Go.Proofs.YtpgkbnefhhcfcaaGreatDoor
