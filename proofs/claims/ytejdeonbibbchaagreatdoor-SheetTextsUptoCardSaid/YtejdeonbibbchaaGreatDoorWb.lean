/- A strings.Builder's methods: told at the block named 3, with its bytes in the row named 900. -/
import Derived.Test.YtejdeonbibbchaaGreatDoorD41
import Derived.Test.YtejdeonbibbchaaGreatDoorT
import Derived.Test.YtejdeonbibbchaaGreatDoorSh
import Derived.Shelf.Strings.Builder1

set_option linter.unusedVariables false
set_option linter.unusedSimpArgs false
set_option linter.constructorNameAsVariable false
namespace Go.Proofs.YtejdeonbibbchaaGreatDoor
open Go Go.RowKit Go.Proofs.YtejdeonbibbchaaGreatDoor.DL
set_option linter.unusedVariables false
set_option linter.unusedSimpArgs false
attribute [local irreducible] DCode DOps OpVal DCalls DCallsM DCallsB DCallsR thenQ seqQ inBlockQ endQ endQM OpNew DCf

abbrev bldB (c0 : CV) (v : Value) : Blk := .box 59 [c0, .row 900 v]
abbrev bldR (l : List UInt8) (v : Value) : Blk := .row 5 1 l.length v (bc l) false
theorem bldB_ok {c0 : CV} {v : Value} {M : Mem} (h : c0.ok M) : (bldB c0 v).ok M := fun c hc => by
  rcases List.mem_cons.1 hc with rfl | hc
  · exact h
  · rcases List.mem_cons.1 hc with rfl | hc
    · trivial
    · cases hc
theorem bldR_ok {l : List UInt8} {v : Value} {M : Mem} : (bldR l v).ok M := fun c hc => by
  obtain ⟨x, _, rfl⟩ := List.mem_map.1 hc
  trivial

set_option maxRecDepth 10000 in
set_option maxHeartbeats 8000000 in
theorem copyCheck_m (c0 : CV) (v : Value) (h0 : c0 = .d (.sc (.pointer none)) ∨ c0 = .ptr 3 0) : DCallsM Tryz.prog 46 [.one (.ptr 3 0)] [(3, some (bldB c0 v))] (fun ts M' => ts = [] ∧ mget M' 3 = some (bldB (.ptr 3 0) v)) := by
  refine DCallsM.enter tt_ok Tryz.func46 rfl Tryz.ntmps46 (by simp) ?_
  rcases h0 with rfl | rfl
  · repeat (first | first | refine q_seq ?_ | refine q_seqX ?_ | refine q_seqR ?_ | refine q_then ?_ | refine q_thenX ?_ | refine q_thenR ?_ | refine q_block ?_ | refine q_blockX ?_ | refine q_blockY rfl ?_ | refine q_blockR ?_ | refine DCode.seq ?_ | refine DCode.region ?_ | refine DCode.block ?_ | refine DCode.skip ?_ | refine DCode.exit ?_ | refine DCode.ret ?_ | refine DCode.condT rfl ?_ | refine DCode.condF rfl ?_ | refine DCode.condD rfl (fun _ => ?_) (fun _ => ?_) | (refine DOps.valK 12 rfl rfl rfl rfl ?_; refine ⟨_, OpVal.eqlPN tt_ok rfl rfl rfl, ?_⟩) | (refine DOps.valK 26 rfl rfl rfl rfl ?_; refine ⟨_, OpVal.toUns tt_ok rfl rfl rfl Tryz.underlying89 rfl rfl (by decide) (Nat.zero_lt_succ _), ?_⟩) | (refine DOps.valK 26 rfl rfl rfl rfl ?_; refine ⟨_, OpVal.ofUns tt_ok rfl rfl rfl Tryz.underlying89 rfl rfl (by kernel_rfl), ?_⟩) | (refine DOps.valK 17 rfl rfl rfl rfl ?_; refine ⟨_, OpVal.same rfl rfl rfl Tryz.func61 rfl rfl (by kernel_rfl) (by kernel_rfl) rfl, ?_⟩) | first | refine DOps.nil ?_ | refine DOps.off rfl rfl rfl ?_ | (refine DOps.valK 0 rfl rfl rfl rfl ?_; first | refine ⟨_, (OpVal.move rfl rfl), ?_⟩ | refine ⟨_, (OpVal.moveT rfl rfl), ?_⟩) | (refine DOps.valK 3 rfl rfl rfl rfl ?_; first | refine ⟨_, (OpVal.ldS tt_ok rfl rfl rfl rfl (Int.toNat_natCast _)), ?_⟩ | refine ⟨_, (OpVal.load1 tt_ok rfl rfl rfl rfl rfl rfl), ?_⟩) | (refine DOps.valK 24 rfl rfl rfl rfl ?_; first | refine ⟨_, (OpVal.nilCheckP rfl rfl), ?_⟩ | refine ⟨_, (OpVal.nilCheckD rfl rfl), ?_⟩) | (refine DOps.valK 18 rfl rfl rfl rfl ?_; first | refine ⟨_, (OpVal.fa tt_ok rfl rfl rfl rfl rfl rfl), ?_⟩ | refine ⟨_, (OpVal.faD tt_ok rfl rfl rfl rfl rfl rfl), ?_⟩) | (refine DOps.valK 12 rfl rfl rfl rfl ?_; first | refine ⟨_, (OpVal.eqlST rfl rfl rfl (by first | assumption | with_reducible rfl)), ?_⟩ | refine ⟨_, (OpVal.eqlSF rfl rfl rfl (by first | assumption | with_reducible rfl)), ?_⟩) | (refine DOps.valK 13 rfl rfl rfl rfl ?_; first | refine ⟨_, (OpVal.neqST rfl rfl rfl (by first | assumption | with_reducible rfl)), ?_⟩ | refine ⟨_, (OpVal.neqSF rfl rfl rfl (by first | assumption | with_reducible rfl)), ?_⟩) | (refine DOps.k 12 rfl ?_; first | refine DOps.cmpT rfl rfl rfl rfl rfl rfl rfl (by omega) ?_ | refine DOps.cmpF rfl rfl rfl rfl rfl rfl rfl (by omega) ?_) | (refine DOps.k 13 rfl ?_; first | refine DOps.cmpT rfl rfl rfl rfl rfl rfl rfl (by omega) ?_ | refine DOps.cmpF rfl rfl rfl rfl rfl rfl rfl (by omega) ?_) | (refine DOps.k 31 rfl ?_; refine DOps.store tt_ok rfl rfl rfl rfl rfl rfl rfl rfl (Nat.le_of_ble_eq_true rfl) rfl ?_))
    refine endQM.boxK (.inl rfl) rfl .nil pures_nil rfl (fun c hc => ?_)
    rcases List.mem_cons.1 hc with rfl | hc
    · show has _ _
      exact fun h => by cases h
    · rcases List.mem_cons.1 hc with rfl | hc
      · trivial
      · cases hc
  · repeat (first | first | refine q_seq ?_ | refine q_seqX ?_ | refine q_seqR ?_ | refine q_then ?_ | refine q_thenX ?_ | refine q_thenR ?_ | refine q_block ?_ | refine q_blockX ?_ | refine q_blockY rfl ?_ | refine q_blockR ?_ | refine DCode.seq ?_ | refine DCode.region ?_ | refine DCode.block ?_ | refine DCode.skip ?_ | refine DCode.exit ?_ | refine DCode.ret ?_ | refine DCode.condT rfl ?_ | refine DCode.condF rfl ?_ | refine DCode.condD rfl (fun _ => ?_) (fun _ => ?_) | (refine DOps.valK 12 rfl rfl rfl rfl ?_; refine ⟨_, OpVal.eqlPF tt_ok rfl rfl rfl, ?_⟩) | (refine DOps.valK 13 rfl rfl rfl rfl ?_; refine ⟨_, OpVal.neqPP tt_ok rfl rfl rfl rfl rfl, ?_⟩) | first | refine DOps.nil ?_ | refine DOps.off rfl rfl rfl ?_ | (refine DOps.valK 0 rfl rfl rfl rfl ?_; first | refine ⟨_, (OpVal.move rfl rfl), ?_⟩ | refine ⟨_, (OpVal.moveT rfl rfl), ?_⟩) | (refine DOps.valK 3 rfl rfl rfl rfl ?_; first | refine ⟨_, (OpVal.ldS tt_ok rfl rfl rfl rfl (Int.toNat_natCast _)), ?_⟩ | refine ⟨_, (OpVal.load1 tt_ok rfl rfl rfl rfl rfl rfl), ?_⟩) | (refine DOps.valK 24 rfl rfl rfl rfl ?_; first | refine ⟨_, (OpVal.nilCheckP rfl rfl), ?_⟩ | refine ⟨_, (OpVal.nilCheckD rfl rfl), ?_⟩) | (refine DOps.valK 18 rfl rfl rfl rfl ?_; first | refine ⟨_, (OpVal.fa tt_ok rfl rfl rfl rfl rfl rfl), ?_⟩ | refine ⟨_, (OpVal.faD tt_ok rfl rfl rfl rfl rfl rfl), ?_⟩) | (refine DOps.valK 12 rfl rfl rfl rfl ?_; first | refine ⟨_, (OpVal.eqlST rfl rfl rfl (by first | assumption | with_reducible rfl)), ?_⟩ | refine ⟨_, (OpVal.eqlSF rfl rfl rfl (by first | assumption | with_reducible rfl)), ?_⟩) | (refine DOps.valK 13 rfl rfl rfl rfl ?_; first | refine ⟨_, (OpVal.neqST rfl rfl rfl (by first | assumption | with_reducible rfl)), ?_⟩ | refine ⟨_, (OpVal.neqSF rfl rfl rfl (by first | assumption | with_reducible rfl)), ?_⟩) | (refine DOps.k 12 rfl ?_; first | refine DOps.cmpT rfl rfl rfl rfl rfl rfl rfl (by omega) ?_ | refine DOps.cmpF rfl rfl rfl rfl rfl rfl rfl (by omega) ?_) | (refine DOps.k 13 rfl ?_; first | refine DOps.cmpT rfl rfl rfl rfl rfl rfl rfl (by omega) ?_ | refine DOps.cmpF rfl rfl rfl rfl rfl rfl rfl (by omega) ?_) | (refine DOps.k 31 rfl ?_; refine DOps.store tt_ok rfl rfl rfl rfl rfl rfl rfl rfl (Nat.le_of_ble_eq_true rfl) rfl ?_))
    refine endQM.boxK (.inl rfl) rfl .nil pures_nil rfl (fun c hc => ?_)
    rcases List.mem_cons.1 hc with rfl | hc
    · show has _ _
      exact fun h => by cases h
    · rcases List.mem_cons.1 hc with rfl | hc
      · trivial
      · cases hc
theorem c0_ok {c0 : CV} {k : Blk} {r : Mem} (h0 : c0 = .d (.sc (.pointer none)) ∨ c0 = .ptr 3 0) : c0.ok ((3, some k) :: r) := by
  rcases h0 with rfl | rfl
  · trivial
  · show has _ _
    exact fun h => by cases h

set_option maxRecDepth 10000 in
set_option maxHeartbeats 8000000 in
theorem writeString_m (c0 : CV) (v : Value) (l s : List UInt8) (h0 : c0 = .d (.sc (.pointer none)) ∨ c0 = .ptr 3 0) (hm : l.length + s.length ≤ 140737488355328) :
    DCallsM Tryz.prog 27 [.one (.ptr 3 0), tT s] [(3, some (bldB c0 v)), (900, some (bldR l v))] (fun ts M' => ts = [it s.length, .one (.d (.sc .nilIface))] ∧ ∃ v', mget M' 3 = some (bldB (.ptr 3 0) v') ∧ mget M' 900 = some (bldR (l ++ s) v')) := by
  refine DCallsM.enter tt_ok Tryz.func27 rfl Tryz.ntmps27 (by simp) ?_
  repeat (first | first | refine q_seq ?_ | refine q_seqX ?_ | refine q_seqR ?_ | refine q_then ?_ | refine q_thenX ?_ | refine q_thenR ?_ | refine q_block ?_ | refine q_blockX ?_ | refine q_blockY rfl ?_ | refine q_blockR ?_ | refine DCode.seq ?_ | refine DCode.region ?_ | refine DCode.block ?_ | refine DCode.skip ?_ | refine DCode.exit ?_ | refine DCode.ret ?_ | refine DCode.condT rfl ?_ | refine DCode.condF rfl ?_ | refine DCode.condD rfl (fun _ => ?_) (fun _ => ?_) | first | refine DOps.nil ?_ | refine DOps.off rfl rfl rfl ?_ | (refine DOps.valK 0 rfl rfl rfl rfl ?_; first | refine ⟨_, (OpVal.move rfl rfl), ?_⟩ | refine ⟨_, (OpVal.moveT rfl rfl), ?_⟩) | (refine DOps.valK 1 rfl rfl rfl rfl ?_; first | refine ⟨_, (OpVal.assign rfl rfl), ?_⟩) | (refine DOps.valK 3 rfl rfl rfl rfl ?_; first | refine ⟨_, (OpVal.ldS tt_ok rfl rfl rfl rfl (Int.toNat_natCast _)), ?_⟩ | refine ⟨_, (OpVal.load1 tt_ok rfl rfl rfl rfl rfl rfl), ?_⟩) | (refine DOps.valK 24 rfl rfl rfl rfl ?_; first | refine ⟨_, (OpVal.nilCheckP rfl rfl), ?_⟩ | refine ⟨_, (OpVal.nilCheckD rfl rfl), ?_⟩) | (refine DOps.valK 18 rfl rfl rfl rfl ?_; first | refine ⟨_, (OpVal.fa tt_ok rfl rfl rfl rfl rfl rfl), ?_⟩ | refine ⟨_, (OpVal.faD tt_ok rfl rfl rfl rfl rfl rfl), ?_⟩) | (refine DOps.valK 17 rfl rfl rfl rfl ?_; first | refine ⟨_, (OpVal.lenD tt_ok rfl rfl rfl rfl rfl rfl rfl), ?_⟩ | refine ⟨_, (OpVal.lenT tt_ok rfl rfl rfl rfl rfl rfl rfl), ?_⟩ | refine ⟨_, (OpVal.lenRow tt_ok rfl rfl rfl rfl rfl rfl rfl rfl), ?_⟩) | (refine DOps.k 31 rfl ?_; refine DOps.store tt_ok rfl rfl rfl rfl rfl rfl rfl rfl (Nat.le_of_ble_eq_true rfl) rfl ?_))
  refine DOps.callK (args := []) (rs := []) rfl rfl rfl rfl Tryz.func46 rfl (by kernel_rfl) rfl rfl pures_nil (bldB_ok (c0_ok h0)) (copyCheck_m c0 v h0) ?_
  repeat (first | first | refine q_seq ?_ | refine q_seqX ?_ | refine q_seqR ?_ | refine q_then ?_ | refine q_thenX ?_ | refine q_thenR ?_ | refine q_block ?_ | refine q_blockX ?_ | refine q_blockY rfl ?_ | refine q_blockR ?_ | refine DCode.seq ?_ | refine DCode.region ?_ | refine DCode.block ?_ | refine DCode.skip ?_ | refine DCode.exit ?_ | refine DCode.ret ?_ | refine DCode.condT rfl ?_ | refine DCode.condF rfl ?_ | refine DCode.condD rfl (fun _ => ?_) (fun _ => ?_) | first | refine DOps.nil ?_ | refine DOps.off rfl rfl rfl ?_ | (refine DOps.valK 0 rfl rfl rfl rfl ?_; first | refine ⟨_, (OpVal.move rfl rfl), ?_⟩ | refine ⟨_, (OpVal.moveT rfl rfl), ?_⟩) | (refine DOps.valK 1 rfl rfl rfl rfl ?_; first | refine ⟨_, (OpVal.assign rfl rfl), ?_⟩) | (refine DOps.valK 3 rfl rfl rfl rfl ?_; first | refine ⟨_, (OpVal.ldS tt_ok rfl rfl rfl rfl (Int.toNat_natCast _)), ?_⟩ | refine ⟨_, (OpVal.load1 tt_ok rfl rfl rfl rfl rfl rfl), ?_⟩) | (refine DOps.valK 24 rfl rfl rfl rfl ?_; first | refine ⟨_, (OpVal.nilCheckP rfl rfl), ?_⟩ | refine ⟨_, (OpVal.nilCheckD rfl rfl), ?_⟩) | (refine DOps.valK 18 rfl rfl rfl rfl ?_; first | refine ⟨_, (OpVal.fa tt_ok rfl rfl rfl rfl rfl rfl), ?_⟩ | refine ⟨_, (OpVal.faD tt_ok rfl rfl rfl rfl rfl rfl), ?_⟩) | (refine DOps.valK 17 rfl rfl rfl rfl ?_; first | refine ⟨_, (OpVal.lenD tt_ok rfl rfl rfl rfl rfl rfl rfl), ?_⟩ | refine ⟨_, (OpVal.lenT tt_ok rfl rfl rfl rfl rfl rfl rfl), ?_⟩ | refine ⟨_, (OpVal.lenRow tt_ok rfl rfl rfl rfl rfl rfl rfl rfl), ?_⟩) | (refine DOps.k 31 rfl ?_; refine DOps.store tt_ok rfl rfl rfl rfl rfl rfl rfl rfl (Nat.le_of_ble_eq_true rfl) rfl ?_))
  refine DOps.appendS tt_ok rfl rfl rfl rfl rfl rfl rfl rfl rfl rfl hm (List.length_append ..).symm (List.map_append ..).symm (fun v' => ?_)
  repeat (first | first | refine q_seq ?_ | refine q_seqX ?_ | refine q_seqR ?_ | refine q_then ?_ | refine q_thenX ?_ | refine q_thenR ?_ | refine q_block ?_ | refine q_blockX ?_ | refine q_blockY rfl ?_ | refine q_blockR ?_ | refine DCode.seq ?_ | refine DCode.region ?_ | refine DCode.block ?_ | refine DCode.skip ?_ | refine DCode.exit ?_ | refine DCode.ret ?_ | refine DCode.condT rfl ?_ | refine DCode.condF rfl ?_ | refine DCode.condD rfl (fun _ => ?_) (fun _ => ?_) | first | refine DOps.nil ?_ | refine DOps.off rfl rfl rfl ?_ | (refine DOps.valK 0 rfl rfl rfl rfl ?_; first | refine ⟨_, (OpVal.move rfl rfl), ?_⟩ | refine ⟨_, (OpVal.moveT rfl rfl), ?_⟩) | (refine DOps.valK 1 rfl rfl rfl rfl ?_; first | refine ⟨_, (OpVal.assign rfl rfl), ?_⟩) | (refine DOps.valK 3 rfl rfl rfl rfl ?_; first | refine ⟨_, (OpVal.ldS tt_ok rfl rfl rfl rfl (Int.toNat_natCast _)), ?_⟩ | refine ⟨_, (OpVal.load1 tt_ok rfl rfl rfl rfl rfl rfl), ?_⟩) | (refine DOps.valK 24 rfl rfl rfl rfl ?_; first | refine ⟨_, (OpVal.nilCheckP rfl rfl), ?_⟩ | refine ⟨_, (OpVal.nilCheckD rfl rfl), ?_⟩) | (refine DOps.valK 18 rfl rfl rfl rfl ?_; first | refine ⟨_, (OpVal.fa tt_ok rfl rfl rfl rfl rfl rfl), ?_⟩ | refine ⟨_, (OpVal.faD tt_ok rfl rfl rfl rfl rfl rfl), ?_⟩) | (refine DOps.valK 17 rfl rfl rfl rfl ?_; first | refine ⟨_, (OpVal.lenD tt_ok rfl rfl rfl rfl rfl rfl rfl), ?_⟩ | refine ⟨_, (OpVal.lenT tt_ok rfl rfl rfl rfl rfl rfl rfl), ?_⟩ | refine ⟨_, (OpVal.lenRow tt_ok rfl rfl rfl rfl rfl rfl rfl rfl), ?_⟩) | (refine DOps.k 31 rfl ?_; refine DOps.store tt_ok rfl rfl rfl rfl rfl rfl rfl rfl (Nat.le_of_ble_eq_true rfl) rfl ?_))
  exact endQM.two (.inr rfl) rfl (.cons (.tmp rfl) (.cons (.tmp rfl) .nil)) (pures_cons trivial (pures_cons trivial pures_nil)) rfl rfl (bldB_ok (c0_ok (.inr rfl))) bldR_ok ⟨rfl, v', rfl, rfl⟩
end Go.Proofs.YtejdeonbibbchaaGreatDoor
set_option linter.unusedVariables false
set_option linter.unusedSimpArgs false
set_option linter.constructorNameAsVariable false
namespace Go.Proofs.YtejdeonbibbchaaGreatDoor
open Go Go.Shelf Go.RowKit Go.Proofs Go.Proofs.YtejdeonbibbchaaGreatDoor.DL

section
variable {P : Program} {ρ : Ren}
set_option maxHeartbeats 2000000 in
set_option maxRecDepth 100000 in
theorem string_row (L : Lays.n169 P ρ) (X : Builder.Extra P ρ) (b g cap : Nat) (p : Value) (cur : Array Value) (l : List UInt8) (w : World) (h0 : l ≠ []) (hbk : w.heap[b]? = some (.cells #[p, .slice (some ⟨g, 0, none⟩) l.length cap] (ρ.t 72) (0, 0)))
    (hown : w.ownsRow 0 (ρ.t 5) 1 (.slice (some ⟨g, 0, none⟩) l.length cap) l.length (Lib.byteCells l)) (hg : w.heap[g]? = some (.cells cur (ρ.t 5) (0, 0))) (hnc : l.length ≤ cap) (hcm : cap ≤ maxLen) (hcs : cur.size = cap * 1) :
    Calls P (ρ.f 169) #[.pointer (some ⟨b, 0, none⟩)] w fun e w' => e = .returned (.string ⟨l.toArray⟩) ∧ w' = w.drew.freeze ⟨g, 0, none⟩ l.length := by
  have hl0 : l.length ≠ 0 := by simpa using h0
  have c1 : w.drew.cell? ⟨b, 1, none⟩ = some (.slice (some ⟨g, 0, none⟩) l.length cap) := by
    have : w.drew.heap[b]? = some (.cells #[p, .slice (some ⟨g, 0, none⟩) l.length cap] (ρ.t 72) (0, 0)) := hbk
    rw [Lib.cell_of_heap this]; rfl
  have hSD : (Builtin.unsafeSliceData_ #[(ρ.t 37)] (ρ.t 127) #[.slice (some ⟨g, 0, none⟩) l.length cap]).run P w.drew = .ok (.pointer (some ⟨g, 0, none⟩)) w.drew :=
    Lib.run_unsafeSliceData_row _ _ _ _ _ _ (by omega)
  have hUS : (Builtin.unsafeString_ #[(ρ.t 127), (ρ.t 3)] (ρ.t 9) #[.pointer (some ⟨g, 0, none⟩), .int .i64 l.length]).run P w.drew = .ok (.string ⟨l.toArray⟩) (w.drew.freeze ⟨g, 0, none⟩ l.length) := by
    refine Lib.run_unsafeString_row w.drew (ρ.t 127) (ρ.t 3) (ρ.t 9) (ρ.t 5) L.t127 X.cellsByte g cur.size (by have hg' : w.drew.heap[g]? = some (.cells cur (ρ.t 5) (0, 0)) := hg; simp [World.shape?, hg']) l h0 (by omega) (by unfold maxLen at hcm; omega) ?_
    intro j x hx
    exact hown.cells (g := g) rfl j (.int .u8 x.toNat) (by simp [Lib.byteCells, hx])
  have mixed := L.mixed
  have t72 := L.t72; have a72 := L.a72; have z72 := L.z72; have v72 := L.v72; have u72 := run_underlying L.t72
  have t70 := L.t70; have a70 := L.a70; have z70 := L.z70; have v70 := L.v70; have u70 := run_underlying L.t70
  have t37 := L.t37; have a37 := L.a37; have z37 := L.z37; have v37 := L.v37; have u37 := run_underlying L.t37
  have t127 := L.t127; have a127 := L.a127; have z127 := L.z127; have v127 := L.v127; have u127 := run_underlying L.t127
  have t3 := L.t3; have a3 := L.a3; have z3 := L.z3; have v3 := L.v3; have u3 := run_underlying L.t3
  have t9 := L.t9; have a9 := L.a9; have z9 := L.z9; have v9 := L.v9; have u9 := run_underlying L.t9
  have t5 := X.t5; have a5 := X.a5; have z5 := X.z5; have v5 := X.v5; have u5 := run_underlying X.t5
  go_enter L.f169, Body.n169_ntmps ρ
  go_wp2
  go_region_o
  all_goals (go_wp2; go_ret; exact ⟨rfl, rfl⟩)
set_option maxHeartbeats 2000000 in
set_option maxRecDepth 100000 in
theorem string_nil (L : Lays.n169 P ρ) (X : Builder.Extra P ρ) (b : Nat) (p : Value) (w : World) (hbk : w.heap[b]? = some (.cells #[p, .slice none 0 0] (ρ.t 72) (0, 0))) :
    Calls P (ρ.f 169) #[.pointer (some ⟨b, 0, none⟩)] w fun e w' => e = .returned (.string ⟨#[]⟩) ∧ w' = w.drew := by
  have hUS := Any.unsafeString_none L X
  have c1 : w.drew.cell? ⟨b, 1, none⟩ = some (.slice none 0 0) := by
    have : w.drew.heap[b]? = some (.cells #[p, .slice none 0 0] (ρ.t 72) (0, 0)) := hbk
    rw [Lib.cell_of_heap this]; rfl
  have hSD : (Builtin.unsafeSliceData_ #[(ρ.t 37)] (ρ.t 127) #[.slice none 0 0]).run P w.drew = .ok (.pointer none) w.drew := rfl
  have mixed := L.mixed
  have t72 := L.t72; have a72 := L.a72; have z72 := L.z72; have v72 := L.v72; have u72 := run_underlying L.t72
  have t70 := L.t70; have a70 := L.a70; have z70 := L.z70; have v70 := L.v70; have u70 := run_underlying L.t70
  have t37 := L.t37; have a37 := L.a37; have z37 := L.z37; have v37 := L.v37; have u37 := run_underlying L.t37
  have t127 := L.t127; have a127 := L.a127; have z127 := L.z127; have v127 := L.v127; have u127 := run_underlying L.t127
  have t3 := L.t3; have a3 := L.a3; have z3 := L.z3; have v3 := L.v3; have u3 := run_underlying L.t3
  have t9 := L.t9; have a9 := L.a9; have z9 := L.z9; have v9 := L.v9; have u9 := run_underlying L.t9
  have t5 := X.t5; have a5 := X.a5; have z5 := X.z5; have v5 := X.v5; have u5 := run_underlying X.t5
  go_enter L.f169, Body.n169_ntmps ρ
  go_wp2
  go_region_o
  all_goals (go_wp2; go_ret; exact ⟨rfl, rfl⟩)
end

theorem grown_freeze (w : World) (g n : Nat) : w.grownBy (w.drew.freeze ⟨g, 0, none⟩ n) (some g) := by
  unfold World.freeze
  split
  · exact ⟨rfl, rfl, rfl, Nat.le_refl _, fun _ _ _ => rfl⟩
  · refine ⟨rfl, rfl, rfl, by show w.heap.size ≤ (Array.modify w.heap g _).size; simp, fun k _ hk => ?_⟩
    show (Array.modify w.heap g _)[k]? = _
    simp only [Array.getElem?_modify]
    rw [if_neg fun e => hk (by rw [e])]

theorem string_m (c0 : CV) (v : Value) (l : List UInt8) (hl : l ≠ [] ∨ (l = [] ∧ v = .slice none 0 0)) :
    DCallsM Tryz.prog 29 [.one (.ptr 3 0)] [(3, some (bldB c0 v)), (900, some (bldR l v))] (fun ts _ => ts = [tT l]) := by
  intro γ Pr w vs hp hmr hok hts
  obtain ⟨v0, us, rfl, r0, hr⟩ := hts.inv
  obtain rfl := hr.inv0
  obtain rfl : v0 = .pointer (some ⟨γ.blk 3, 0, none⟩) := r0
  obtain ⟨b1, ⟨xs, hheap, hx⟩, b3⟩ := hmr.mem 3 _ rfl
  obtain ⟨ys, hown, hy, hg⟩ := hmr.mem 900 (bldR l v) rfl
  have hap := hmr.apart 900 3 (bldR l v) (bldB c0 v) rfl rfl (by decide)
  have hys : ys = Lib.byteCells l := by
    apply List.ext_getElem?
    intro i
    by_cases hi : i < l.length
    · obtain ⟨u, hu, hd⟩ := hy.2 i (.d (.sc (.int .u8 (l[i]).toNat))) (by simp [hi])
      rw [hu, hd.2]; simp [Lib.byteCells, hi]
    · have h1 := hy.1
      rw [List.getElem?_eq_none (by simp at h1; omega), List.getElem?_eq_none (by simp [Lib.byteCells]; omega)]
  obtain ⟨p, q, rfl⟩ : ∃ p q, xs = [p, q] := by
    have h1 := hx.1
    match xs, h1 with
    | [p, q], _ => exact ⟨p, q, rfl⟩
  obtain ⟨q', hq, hq2, _⟩ := hx.2 1 (.row 900 v) rfl
  obtain rfl : q' = q := by simpa using hq.symm
  obtain rfl : q' = v := hq2
  subst hys
  have fin : ∀ e w', e = Ending.returned (.string ⟨l.toArray⟩) → w.grownBy w' q'.ownBlock → ∃ us ts γ' Pr' M', e = .returned (joined us) ∧ Sim ⟨w, Pr, γ, [(3, some (bldB c0 q')), (900, some (bldR l q'))]⟩ w' ∧ PExt Pr Pr' (Ctx.may ⟨w, Pr, γ, [(3, some (bldB c0 q')), (900, some (bldR l q'))]⟩) ∧ (∀ b o, Pr b o → w'.cell? ⟨b, o, none⟩ = w.cell? ⟨b, o, none⟩) ∧ (∀ b o, Pr' b o → b < w'.heap.size) ∧
      MRel γ' Pr' ⟨w, Pr, γ, [(3, some (bldB c0 q')), (900, some (bldR l q'))]⟩ M' w' ∧ Cn.agree [(3, some (bldB c0 q')), (900, some (bldR l q'))] γ γ' ∧ (∀ b, has [(3, some (bldB c0 q')), (900, some (bldR l q'))] b ↔ has M' b) ∧ TsRep γ' Pr' w' ts us ∧ (∀ t ∈ ts, t.ok M') ∧ ts = [tT l] := by
    intro e w' he hgr
    have K : Kept Pr w Pr w' := ⟨fun _ _ x => x, fun g o hp' => heap_cell (hgr.block g (hp.lt g o hp') (fun e => (hg g e.symm).2.2 rfl o hp')) o⟩
    have hlt : γ.blk 3 < w.heap.size := by
      rcases Nat.lt_or_ge (γ.blk 3) w.heap.size with h | h
      · exact h
      · rw [Array.getElem?_eq_none h] at hheap; cases hheap
    have hne : some (γ.blk 3) ≠ q'.ownBlock := fun e => hap (γ.blk 3) e.symm rfl
    have hhas : ∀ b, has [(3, some (bldB c0 q')), (900, some (bldR l q'))] b ↔ has [(3, some (bldB c0 q')), (900, some (Blk.row 5 1 0 (.slice none 0 0) [] false))] b := fun b => by
      unfold has
      rw [mget_cons, mget_cons, mget_cons, mget_cons]
      split
      · simp
      · split <;> simp
    refine ⟨[.string ⟨l.toArray⟩], [tT l], γ, Pr, [(3, some (bldB c0 q')), (900, some (.row 5 1 0 (.slice none 0 0) [] false))], he, ⟨hgr.os, hgr.tape, hgr.output, hgr.size, fun k hk => ?_⟩, PExt.refl _ _, K.cell, fun b o h => Nat.lt_of_lt_of_le (hp.lt b o h) hgr.size, ⟨fun b k hk => ?_, fun b k hk => ?_, fun b b' k k' hk hk' hne' g hgb => ?_⟩, Cn.agree_refl _ _, fun b => ?_, TsRep.scs [_] (by simp [Value.oneCell']), (by intro t ht; simp at ht; subst ht; trivial), rfl⟩
    · refine hgr.block k (Nat.lt_of_not_le fun h => hk (.inl h)) fun e => hk (.inr ⟨900, _, rfl, e.symm⟩)
    · rcases mget_two hk with ⟨rfl, hk'⟩ | ⟨_, rfl, hk'⟩
      · obtain rfl := Option.some.inj hk'
        exact ⟨b1, ⟨[p, q'], (hgr.block _ hlt hne).trans hheap, LRep.move (Cn.agree_refl _ _) K (hmr.memB 3 _ rfl) hx⟩, b3⟩
      · obtain rfl := Option.some.inj hk'
        exact nilRow_rep 5 1 900
    · rcases mget_two hk with ⟨rfl, hk'⟩ | ⟨_, rfl, hk'⟩
      · obtain rfl := Option.some.inj hk'
        exact Blk.ok_le (fun b => (hhas b).1) (hmr.memB 3 (bldB c0 q') rfl)
      · obtain rfl := Option.some.inj hk'
        exact fun c hc => by cases hc
    · rcases mget_two hk with ⟨rfl, h1⟩ | ⟨_, rfl, h1⟩
      · rcases mget_two hk' with ⟨rfl, _⟩ | ⟨_, rfl, h2⟩
        · exact absurd rfl hne'
        · obtain rfl := Option.some.inj h2
          exact fun h => by cases h
      · obtain rfl := Option.some.inj h1
        cases hgb
    · exact hhas b
  rcases hl with hl | ⟨rfl, rfl⟩
  · rcases hown.2 with ⟨_, hz⟩ | ⟨g, cap, cur, rfl, _, hgc, hnc, hcm, hcs, _⟩
    · exact absurd (List.eq_nil_of_length_eq_zero hz) hl
    · refine (string_row Tryz.lays169 Tryz.Builder_Extra_169 (γ.blk 3) g cap p cur l w hl hheap hown hgc hnc hcm hcs).mono fun e w' ⟨he, hw⟩ => fin e w' he ?_
      rw [hw]
      exact grown_freeze w g l.length
  · refine (string_nil Tryz.lays169 Tryz.Builder_Extra_169 (γ.blk 3) p w hheap).mono fun e w' ⟨he, hw⟩ => fin e w' he ?_
    rw [hw]
    exact ⟨rfl, rfl, rfl, Nat.le_refl _, fun _ _ _ => rfl⟩
end Go.Proofs.YtejdeonbibbchaaGreatDoor
