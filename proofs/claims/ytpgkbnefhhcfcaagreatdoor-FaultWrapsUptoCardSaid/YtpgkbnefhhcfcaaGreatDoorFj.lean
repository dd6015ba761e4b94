/- law01: errors.Join of two errors: the walk. -/
import Derived.Test.YtpgkbnefhhcfcaaGreatDoorFb
import Derived.LaidEql
import Derived.Stop.Asserts
import Derived.RowKitTokens
set_option linter.unusedVariables false
set_option linter.unusedSimpArgs false
set_option linter.constructorNameAsVariable false
namespace Go.Proofs.YtpgkbnefhhcfcaaGreatDoor
open Go Go.RowKit Go.Proofs Go.Proofs.YtpgkbnefhhcfcaaGreatDoor.DL
set_option linter.unusedVariables false
set_option maxHeartbeats 4000000 in
set_option maxRecDepth 100000 in
theorem join_nn (b o c : Nat) (w : World) (h0 : w.cell? ⟨b, o, none⟩ = some .nilIface) (h1 : w.cell? ⟨b, o + 1, none⟩ = some .nilIface) (hc : 2 ≤ c) :
    Calls Tryz.prog 21 #[.slice (some ⟨b, o, none⟩) 2 c] w fun e w' => e = .returned .nilIface ∧ w' = w := by
  go_enter Tryz.func21, Tryz.ntmps21
  go_wp2
  refine wp_loop_rounds 3 ?_
  rw [rounds_succ]
  go_wp2
  rw [rounds_succ]
  go_wp2
  rw [rounds_succ]
  go_wp2
  go_ret
  exact ⟨rfl, rfl⟩
theorem mk1 (w : World) : (Instr.makeSlice 66 (.int .i64 0) (.int .i64 1)).run Tryz.prog w = .ok (.slice (some ⟨w.heap.size, 0, none⟩) 0 1) (w.alloc (.cells #[.nilIface] 42)) := by kernel_rfl
theorem mk2 (w : World) : (Instr.makeSlice 66 (.int .i64 0) (.int .i64 2)).run Tryz.prog w = .ok (.slice (some ⟨w.heap.size, 0, none⟩) 0 2) (w.alloc (.cells #[.nilIface, .nilIface] 42)) := by kernel_rfl
set_option maxHeartbeats 4000000 in
set_option maxRecDepth 100000 in
theorem join_en (b o c : Nat) (t : TypeId) (u : Value) (w : World) (h0 : w.cell? ⟨b, o, none⟩ = some (.iface t u)) (h1 : w.cell? ⟨b, o + 1, none⟩ = some .nilIface) (hc : 2 ≤ c) :
    Calls Tryz.prog 21 #[.slice (some ⟨b, o, none⟩) 2 c] w fun e w' => (∃ k, e = .returned (.iface 67 (.pointer (some ⟨k, 0, none⟩)))) ∧ Below w.heap.size w w' := by
  have m1 := mk1
  have hlt : b < w.heap.size := Lib.lt_of_cell h0
  have a1 : ∀ q1 k, (w.alloc q1).cell? ⟨b, k, none⟩ = w.cell? ⟨b, k, none⟩ := fun q1 k => heap_cell (Below.heap_alloc w _ b hlt) k
  have a2 : ∀ q1 q2 k, ((w.alloc q1).alloc q2).cell? ⟨b, k, none⟩ = w.cell? ⟨b, k, none⟩ := fun q1 q2 k => (heap_cell (Below.heap_alloc (w.alloc q1) _ b (by simp; omega)) k).trans (a1 q1 k)
  have a3 : ∀ q1 q2 q3 k, (((w.alloc q1).alloc q2).alloc q3).cell? ⟨b, k, none⟩ = w.cell? ⟨b, k, none⟩ := fun q1 q2 q3 k => (heap_cell (Below.heap_alloc ((w.alloc q1).alloc q2) _ b (by simp; omega)) k).trans (a2 q1 q2 k)
  have a4 : ∀ q1 q2 q3 q4 k, ((((w.alloc q1).alloc q2).alloc q3).alloc q4).cell? ⟨b, k, none⟩ = w.cell? ⟨b, k, none⟩ := fun q1 q2 q3 q4 k => (heap_cell (Below.heap_alloc (((w.alloc q1).alloc q2).alloc q3) _ b (by simp; omega)) k).trans (a3 q1 q2 q3 k)
  have a5 : ∀ q1 q2 q3 q4 q5 k, (((((w.alloc q1).alloc q2).alloc q3).alloc q4).alloc q5).cell? ⟨b, k, none⟩ = w.cell? ⟨b, k, none⟩ := fun q1 q2 q3 q4 q5 k => (heap_cell (Below.heap_alloc ((((w.alloc q1).alloc q2).alloc q3).alloc q4) _ b (by simp; omega)) k).trans (a4 q1 q2 q3 q4 k)
  have a6 : ∀ q1 q2 q3 q4 q5 q6 k, ((((((w.alloc q1).alloc q2).alloc q3).alloc q4).alloc q5).alloc q6).cell? ⟨b, k, none⟩ = w.cell? ⟨b, k, none⟩ := fun q1 q2 q3 q4 q5 q6 k => (heap_cell (Below.heap_alloc (((((w.alloc q1).alloc q2).alloc q3).alloc q4).alloc q5) _ b (by simp; omega)) k).trans (a5 q1 q2 q3 q4 q5 k)
  go_enter Tryz.func21, Tryz.ntmps21
  go_wp2
  refine wp_loop_rounds 3 ?_
  rw [rounds_succ]
  go_wp2
  rw [rounds_succ]
  go_wp2
  rw [rounds_succ]
  go_wp2
  refine wp_loop_rounds 3 ?_
  rw [rounds_succ]
  go_wp2
  rw [rounds_succ]
  go_wp2
  rw [rounds_succ]
  go_wp2
  go_ret
  refine ⟨⟨_, rfl⟩, ?_⟩
  repeat (first | exact Below.refl _ _ | refine Below.alloc ?_ (by first | exact Nat.le_refl _ | (simp only [World.alloc, Array.size_push]; omega)) _)
set_option maxHeartbeats 4000000 in
set_option maxRecDepth 100000 in
theorem join_ne (b o c : Nat) (t : TypeId) (u : Value) (w : World) (h0 : w.cell? ⟨b, o, none⟩ = some .nilIface) (h1 : w.cell? ⟨b, o + 1, none⟩ = some (.iface t u)) (hc : 2 ≤ c) :
    Calls Tryz.prog 21 #[.slice (some ⟨b, o, none⟩) 2 c] w fun e w' => (∃ k, e = .returned (.iface 67 (.pointer (some ⟨k, 0, none⟩)))) ∧ Below w.heap.size w w' := by
  have m1 := mk1
  have hlt : b < w.heap.size := Lib.lt_of_cell h0
  have a1 : ∀ q1 k, (w.alloc q1).cell? ⟨b, k, none⟩ = w.cell? ⟨b, k, none⟩ := fun q1 k => heap_cell (Below.heap_alloc w _ b hlt) k
  have a2 : ∀ q1 q2 k, ((w.alloc q1).alloc q2).cell? ⟨b, k, none⟩ = w.cell? ⟨b, k, none⟩ := fun q1 q2 k => (heap_cell (Below.heap_alloc (w.alloc q1) _ b (by simp; omega)) k).trans (a1 q1 k)
  have a3 : ∀ q1 q2 q3 k, (((w.alloc q1).alloc q2).alloc q3).cell? ⟨b, k, none⟩ = w.cell? ⟨b, k, none⟩ := fun q1 q2 q3 k => (heap_cell (Below.heap_alloc ((w.alloc q1).alloc q2) _ b (by simp; omega)) k).trans (a2 q1 q2 k)
  have a4 : ∀ q1 q2 q3 q4 k, ((((w.alloc q1).alloc q2).alloc q3).alloc q4).cell? ⟨b, k, none⟩ = w.cell? ⟨b, k, none⟩ := fun q1 q2 q3 q4 k => (heap_cell (Below.heap_alloc (((w.alloc q1).alloc q2).alloc q3) _ b (by simp; omega)) k).trans (a3 q1 q2 q3 k)
  have a5 : ∀ q1 q2 q3 q4 q5 k, (((((w.alloc q1).alloc q2).alloc q3).alloc q4).alloc q5).cell? ⟨b, k, none⟩ = w.cell? ⟨b, k, none⟩ := fun q1 q2 q3 q4 q5 k => (heap_cell (Below.heap_alloc ((((w.alloc q1).alloc q2).alloc q3).alloc q4) _ b (by simp; omega)) k).trans (a4 q1 q2 q3 q4 k)
  have a6 : ∀ q1 q2 q3 q4 q5 q6 k, ((((((w.alloc q1).alloc q2).alloc q3).alloc q4).alloc q5).alloc q6).cell? ⟨b, k, none⟩ = w.cell? ⟨b, k, none⟩ := fun q1 q2 q3 q4 q5 q6 k => (heap_cell (Below.heap_alloc (((((w.alloc q1).alloc q2).alloc q3).alloc q4).alloc q5) _ b (by simp; omega)) k).trans (a5 q1 q2 q3 q4 q5 k)
  go_enter Tryz.func21, Tryz.ntmps21
  go_wp2
  refine wp_loop_rounds 3 ?_
  rw [rounds_succ]
  go_wp2
  rw [rounds_succ]
  go_wp2
  rw [rounds_succ]
  go_wp2
  refine wp_loop_rounds 3 ?_
  rw [rounds_succ]
  go_wp2
  rw [rounds_succ]
  go_wp2
  rw [rounds_succ]
  go_wp2
  go_ret
  refine ⟨⟨_, rfl⟩, ?_⟩
  repeat (first | exact Below.refl _ _ | refine Below.alloc ?_ (by first | exact Nat.le_refl _ | (simp only [World.alloc, Array.size_push]; omega)) _)
set_option maxHeartbeats 4000000 in
set_option maxRecDepth 100000 in
theorem join_ee (b o c : Nat) (t : TypeId) (u v : Value) (w : World) (h0 : w.cell? ⟨b, o, none⟩ = some (.iface t u)) (h1 : w.cell? ⟨b, o + 1, none⟩ = some (.iface t v)) (hc : 2 ≤ c) :
    Calls Tryz.prog 21 #[.slice (some ⟨b, o, none⟩) 2 c] w fun e w' => (∃ k, e = .returned (.iface 67 (.pointer (some ⟨k, 0, none⟩)))) ∧ Below w.heap.size w w' := by
  have m1 := mk2
  have hlt : b < w.heap.size := Lib.lt_of_cell h0
  have a1 : ∀ q1 k, (w.alloc q1).cell? ⟨b, k, none⟩ = w.cell? ⟨b, k, none⟩ := fun q1 k => heap_cell (Below.heap_alloc w _ b hlt) k
  have a2 : ∀ q1 q2 k, ((w.alloc q1).alloc q2).cell? ⟨b, k, none⟩ = w.cell? ⟨b, k, none⟩ := fun q1 q2 k => (heap_cell (Below.heap_alloc (w.alloc q1) _ b (by simp; omega)) k).trans (a1 q1 k)
  have a3 : ∀ q1 q2 q3 k, (((w.alloc q1).alloc q2).alloc q3).cell? ⟨b, k, none⟩ = w.cell? ⟨b, k, none⟩ := fun q1 q2 q3 k => (heap_cell (Below.heap_alloc ((w.alloc q1).alloc q2) _ b (by simp; omega)) k).trans (a2 q1 q2 k)
  have a4 : ∀ q1 q2 q3 q4 k, ((((w.alloc q1).alloc q2).alloc q3).alloc q4).cell? ⟨b, k, none⟩ = w.cell? ⟨b, k, none⟩ := fun q1 q2 q3 q4 k => (heap_cell (Below.heap_alloc (((w.alloc q1).alloc q2).alloc q3) _ b (by simp; omega)) k).trans (a3 q1 q2 q3 k)
  have a5 : ∀ q1 q2 q3 q4 q5 k, (((((w.alloc q1).alloc q2).alloc q3).alloc q4).alloc q5).cell? ⟨b, k, none⟩ = w.cell? ⟨b, k, none⟩ := fun q1 q2 q3 q4 q5 k => (heap_cell (Below.heap_alloc ((((w.alloc q1).alloc q2).alloc q3).alloc q4) _ b (by simp; omega)) k).trans (a4 q1 q2 q3 q4 k)
  have a6 : ∀ q1 q2 q3 q4 q5 q6 k, ((((((w.alloc q1).alloc q2).alloc q3).alloc q4).alloc q5).alloc q6).cell? ⟨b, k, none⟩ = w.cell? ⟨b, k, none⟩ := fun q1 q2 q3 q4 q5 q6 k => (heap_cell (Below.heap_alloc (((((w.alloc q1).alloc q2).alloc q3).alloc q4).alloc q5) _ b (by simp; omega)) k).trans (a5 q1 q2 q3 q4 q5 k)
  go_enter Tryz.func21, Tryz.ntmps21
  go_wp2
  refine wp_loop_rounds 3 ?_
  rw [rounds_succ]
  go_wp2
  rw [rounds_succ]
  go_wp2
  rw [rounds_succ]
  go_wp2
  refine wp_loop_rounds 3 ?_
  rw [rounds_succ]
  go_wp2
  rw [rounds_succ]
  go_wp2
  rw [rounds_succ]
  go_wp2
  go_ret
  refine ⟨⟨_, rfl⟩, ?_⟩
  repeat (first | exact Below.refl _ _ | refine Below.alloc ?_ (by first | exact Nat.le_refl _ | (simp only [World.alloc, Array.size_push]; omega)) _)
/-- .. told as data. -/
def joinE (a b : Bool) : TV := if a = true ∧ b = true then .one (.d (.sc .nilIface)) else .one (.d (.ifc 67 (.pp 0 fun _ => .sc .nilIface)))
def errD (ok : Bool) : DV := if ok = true then .sc .nilIface else .ifc 97 (.pp 0 fun _ => .sc .nilIface)
theorem errD_rep {Pr : Prot} {w : World} {ok : Bool} {u : Value} (h : DRep Pr w (errD ok) u) : (ok = true ∧ u = .nilIface) ∨ (ok = false ∧ ∃ v, u = .iface 97 v) := by
  cases ok with
  | true => exact .inl ⟨rfl, h.2⟩
  | false =>
    obtain ⟨v, rfl, _⟩ := h
    exact .inr ⟨rfl, v, rfl⟩
theorem join_d (p q : Bool) : DCalls Tryz.prog 21 [.one (.d (.sl 2 1 fun i _ => if i = 0 then errD p else errD q))] (fun ts => ts = [joinE p q]) := by
  refine DCalls.libP _ (fun Pr w vs hp hr => ?_) (by intro t ht; simp at ht; subst ht; unfold joinE; split <;> trivial)
  obtain ⟨v0, us, rfl, r0, hr⟩ := hr.inv
  obtain rfl := hr.inv0
  obtain ⟨A, c, rfl, hc, hh⟩ := r0
  obtain ⟨b, o, rfl, hcell⟩ := hh (by decide)
  obtain ⟨_, u0, h0, d0⟩ := hcell 0 (by decide) 0 (by decide)
  obtain ⟨_, u1, h1, d1⟩ := hcell 1 (by decide) 0 (by decide)
  have fin : ∀ e w', (∃ k, e = Ending.returned (.iface 67 (.pointer (some ⟨k, 0, none⟩)))) ∧ Below w.heap.size w w' → joinE p q = .one (.d (.ifc 67 (.pp 0 fun _ => .sc .nilIface))) →
      ∃ us Pr', e = .returned (joined us) ∧ Below w.heap.size w w' ∧ PExt Pr Pr' (fun k => w.heap.size ≤ k) ∧ (∀ b o, Pr' b o → b < w'.heap.size) ∧ TsRep γ0 Pr' w' [joinE p q] us := fun e w' ⟨⟨k, he⟩, hb⟩ hj => by
    rw [hj]
    exact ⟨[_], Pr, he, hb, PExt.refl _ _, fun b o hx => Nat.lt_of_lt_of_le (hp.lt b o hx) hb.size, TsRep.cons ⟨_, rfl, k, 0, rfl, fun j hj => absurd hj (Nat.not_lt_zero j)⟩ TsRep.nil⟩
  rcases errD_rep d0 with ⟨rfl, rfl⟩ | ⟨rfl, v0, rfl⟩
  · rcases errD_rep d1 with ⟨rfl, rfl⟩ | ⟨rfl, v1, rfl⟩
    · refine (join_nn b o c w h0 h1 hc).mono fun e w' ⟨he, hw⟩ => ?_
      subst hw
      exact ⟨[_], Pr, he, Below.refl _ _, PExt.refl _ _, hp.lt, TsRep.scs [_] (by simp [Value.oneCell'])⟩
    · exact (join_ne b o c _ v1 w h0 h1 hc).mono fun e w' h => fin e w' h rfl
  · rcases errD_rep d1 with ⟨rfl, rfl⟩ | ⟨rfl, v1, rfl⟩
    · exact (join_en b o c _ v0 w h0 h1 hc).mono fun e w' h => fin e w' h rfl
    · exact (join_ee b o c _ v0 v1 w h0 h1 hc).mono fun e w' h => fin e w' h rfl
end Go.Proofs.YtpgkbnefhhcfcaaGreatDoor
