/- law25: how two boxes stand; rows of boxes: the walks. -/
import Derived.Test.YtejdeonbibbchaaGreatDoorHg
import Derived.Test.YtejdeonbibbchaaGreatDoorD41
set_option linter.unusedVariables false
set_option linter.unusedSimpArgs false
set_option linter.constructorNameAsVariable false
namespace Go.Proofs.YtejdeonbibbchaaGreatDoor.DL
open Go.RowKit
theorem DEq.func (f : FuncId) (cap : Nat → DV) : DEq (.sc (.func (.func f) #[] #[])) (.fn f 0 cap) := fun Pr w v ⟨_, hv⟩ => ⟨[], hv, rfl, fun j hj => absurd hj (Nat.not_lt_zero _)⟩
end Go.Proofs.YtejdeonbibbchaaGreatDoor.DL
namespace Go.Proofs.YtejdeonbibbchaaGreatDoor
open Go Go.RowKit Go.Proofs.YtejdeonbibbchaaGreatDoor.DL
set_option linter.unusedVariables false
set_option linter.unusedSimpArgs false
attribute [local irreducible] DCode DOps OpVal DCalls DCallsM DCallsB DCallsR thenQ seqQ inBlockQ endQ endQM OpNew DCf DDr DDr2 DAny

def cmpI (x y : Int) : Int := if x < y then -1 else if y < x then 1 else 0
/-- How two boxes stand. -/
def cmpB (a b : Bx) : Int := if cmpI a.page b.page ≠ 0 then cmpI a.page b.page else if cmpI a.y b.y ≠ 0 then cmpI a.y b.y else cmpI a.x b.x
set_option maxRecDepth 10000 in
set_option maxHeartbeats 8000000 in
theorem nan_d (x : Int) : DCalls Tryz.prog 50 [it x] (fun ts => ts = [bt false]) := by
  refine DCalls.enter tt_ok Tryz.func50 rfl Tryz.ntmps50 (by simp) (by repeat (first | exact pures_nil | refine pures_cons ?_ ?_ | exact trivial | exact pure_aggB rfl | exact arr_pure _ | exact Load.pure _ | exact Area.pure _ | exact dvs_pure _ | exact pure_sc | exact pure_sl)) ?_
  repeat (first | refine q_seq ?_ | refine DCode.seq ?_ | refine DCode.region ?_ | refine DCode.ret ?_ | refine DOps.nil ?_ | (refine DOps.valK 0 rfl rfl rfl rfl ?_; first | refine ⟨_, (OpVal.move rfl rfl), ?_⟩) | (refine DOps.valK 1 rfl rfl rfl rfl ?_; first | refine ⟨_, (OpVal.assign rfl rfl), ?_⟩) | (refine DOps.k 13 rfl ?_; first | refine DOps.cmpT rfl rfl rfl rfl rfl rfl rfl (by omega) ?_ | refine DOps.cmpF rfl rfl rfl rfl rfl rfl rfl (by omega) ?_))
  exact endQ.ret rfl (.cons (.tmp rfl) .nil) (pures_cons trivial pures_nil) rfl
set_option maxRecDepth 10000 in
set_option maxHeartbeats 8000000 in
theorem nan64_d (x : Int) : DCalls Tryz.prog 51 [it x] (fun ts => ts = [bt false]) := by
  refine DCalls.enter tt_ok Tryz.func51 rfl Tryz.ntmps51 (by simp) (by repeat (first | exact pures_nil | refine pures_cons ?_ ?_ | exact trivial | exact pure_aggB rfl | exact arr_pure _ | exact Load.pure _ | exact Area.pure _ | exact dvs_pure _ | exact pure_sc | exact pure_sl)) ?_
  repeat (first | refine q_seq ?_ | refine DCode.seq ?_ | refine DCode.region ?_ | refine DCode.ret ?_ | refine DOps.nil ?_ | (refine DOps.valK 0 rfl rfl rfl rfl ?_; first | refine ⟨_, (OpVal.move rfl rfl), ?_⟩) | (refine DOps.valK 1 rfl rfl rfl rfl ?_; first | refine ⟨_, (OpVal.assign rfl rfl), ?_⟩) | (refine DOps.k 13 rfl ?_; first | refine DOps.cmpT rfl rfl rfl rfl rfl rfl rfl (by omega) ?_ | refine DOps.cmpF rfl rfl rfl rfl rfl rfl rfl (by omega) ?_))
  exact endQ.ret rfl (.cons (.tmp rfl) .nil) (pures_cons trivial pures_nil) rfl
set_option maxRecDepth 10000 in
set_option maxHeartbeats 8000000 in
theorem cmp_d (x y : Int) : DCalls Tryz.prog 35 [it x, it y] (fun ts => ts = [it (cmpI x y)]) := by
  have h1 := nan_d x
  have h2 := nan_d y
  refine DCalls.enter tt_ok Tryz.func35 rfl Tryz.ntmps35 (by simp) (by repeat (first | exact pures_nil | refine pures_cons ?_ ?_ | exact trivial | exact pure_aggB rfl | exact arr_pure _ | exact Load.pure _ | exact Area.pure _ | exact dvs_pure _ | exact pure_sc | exact pure_sl)) ?_
  repeat' (first | refine q_seq ?_ | refine q_seqR ?_ | refine DCode.seq ?_ | refine DCode.region ?_ | refine DCode.skip ?_ | refine DCode.ret ?_ | refine DCode.condT rfl ?_ | refine DCode.condF rfl ?_ | refine DOps.call1 (ts := [it x]) rfl rfl rfl rfl rfl Tryz.func50 rfl (by kernel_rfl) rfl (by repeat (first | exact pures_nil | refine pures_cons ?_ ?_ | exact trivial | exact pure_aggB rfl | exact arr_pure _ | exact Load.pure _ | exact Area.pure _ | exact dvs_pure _ | exact pure_sc | exact pure_sl)) (h1) ?_ | refine DOps.call1 (ts := [it y]) rfl rfl rfl rfl rfl Tryz.func50 rfl (by kernel_rfl) rfl (by repeat (first | exact pures_nil | refine pures_cons ?_ ?_ | exact trivial | exact pure_aggB rfl | exact arr_pure _ | exact Load.pure _ | exact Area.pure _ | exact dvs_pure _ | exact pure_sc | exact pure_sl)) (h2) ?_ | refine DOps.nil ?_ | (refine DOps.valK 0 rfl rfl rfl rfl ?_; first | refine ⟨_, (OpVal.move rfl rfl), ?_⟩) | (refine DOps.valK 1 rfl rfl rfl rfl ?_; first | refine ⟨_, (OpVal.assign rfl rfl), ?_⟩) | refine DOps.cmp rfl rfl rfl rfl rfl rfl rfl (fun _ => ?_) (fun _ => ?_))
  all_goals refine endQ.ret rfl (.cons (.tmp rfl) .nil) (pures_cons pure_sc pures_nil) ?_
  all_goals simp [cmpI, *]
set_option maxRecDepth 10000 in
set_option maxHeartbeats 8000000 in
theorem cmp64_d (x y : Int) : DCalls Tryz.prog 36 [it x, it y] (fun ts => ts = [it (cmpI x y)]) := by
  have h1 := nan64_d x
  have h2 := nan64_d y
  refine DCalls.enter tt_ok Tryz.func36 rfl Tryz.ntmps36 (by simp) (by repeat (first | exact pures_nil | refine pures_cons ?_ ?_ | exact trivial | exact pure_aggB rfl | exact arr_pure _ | exact Load.pure _ | exact Area.pure _ | exact dvs_pure _ | exact pure_sc | exact pure_sl)) ?_
  repeat' (first | refine q_seq ?_ | refine q_seqR ?_ | refine DCode.seq ?_ | refine DCode.region ?_ | refine DCode.skip ?_ | refine DCode.ret ?_ | refine DCode.condT rfl ?_ | refine DCode.condF rfl ?_ | refine DOps.call1 (ts := [it x]) rfl rfl rfl rfl rfl Tryz.func51 rfl (by kernel_rfl) rfl (by repeat (first | exact pures_nil | refine pures_cons ?_ ?_ | exact trivial | exact pure_aggB rfl | exact arr_pure _ | exact Load.pure _ | exact Area.pure _ | exact dvs_pure _ | exact pure_sc | exact pure_sl)) (h1) ?_ | refine DOps.call1 (ts := [it y]) rfl rfl rfl rfl rfl Tryz.func51 rfl (by kernel_rfl) rfl (by repeat (first | exact pures_nil | refine pures_cons ?_ ?_ | exact trivial | exact pure_aggB rfl | exact arr_pure _ | exact Load.pure _ | exact Area.pure _ | exact dvs_pure _ | exact pure_sc | exact pure_sl)) (h2) ?_ | refine DOps.nil ?_ | (refine DOps.valK 0 rfl rfl rfl rfl ?_; first | refine ⟨_, (OpVal.move rfl rfl), ?_⟩) | (refine DOps.valK 1 rfl rfl rfl rfl ?_; first | refine ⟨_, (OpVal.assign rfl rfl), ?_⟩) | refine DOps.cmp rfl rfl rfl rfl rfl rfl rfl (fun _ => ?_) (fun _ => ?_))
  all_goals refine endQ.ret rfl (.cons (.tmp rfl) .nil) (pures_cons pure_sc pures_nil) ?_
  all_goals simp [cmpI, *]
/-- The first one that is not nought. -/
def orW : List Int → Int
  | [] => 0
  | x :: r => if x ≠ 0 then x else orW r
theorem orW_hit : ∀ {xs : List Int} {i : Nat} {b : Int}, (∀ x ∈ xs.take i, x = 0) → xs[i]? = some b → b ≠ 0 → orW xs = b
  | [], i, b, _, h, _ => by simp at h
  | x :: r, 0, b, _, h, hb => by
    obtain rfl : x = b := by simpa using h
    rw [orW, if_pos hb]
  | x :: r, i + 1, b, h0, h, hb => by
    have hx : x = 0 := h0 x (by simp)
    rw [orW, if_neg (by simp [hx]), orW_hit (xs := r) (i := i) (fun y hy => h0 y (by rw [List.take_succ_cons]; exact List.mem_cons_of_mem _ hy)) (by simpa using h) hb]
theorem orW_none : ∀ {xs : List Int}, (∀ x ∈ xs, x = 0) → orW xs = 0
  | [], _ => rfl
  | x :: r, h => by
    have hx : x = 0 := h x (by simp)
    rw [orW, if_neg (by simp [hx]), orW_none (fun y hy => h y (by simp [hy]))]
set_option maxRecDepth 10000 in
set_option maxHeartbeats 8000000 in
theorem or_d (xs : List Int) (hx : xs.length ≤ 9223372036854775806) : DCalls Tryz.prog 34 [tN xs] (fun ts => ts = [it (orW xs)]) := by
  refine DCalls.enter tt_ok Tryz.func34 rfl Tryz.ntmps34 (by simp) (by repeat (first | exact pures_nil | refine pures_cons ?_ ?_ | exact trivial | exact pure_aggB rfl | exact arr_pure _ | exact Load.pure _ | exact Area.pure _ | exact dvs_pure _ | exact pure_sc | exact pure_sl)) ?_
  repeat (first | refine q_seq ?_ | refine DCode.seq ?_ | refine DCode.region ?_ | refine DCode.block ?_ | refine DOps.nil ?_ | (refine DOps.valK 0 rfl rfl rfl rfl ?_; first | refine ⟨_, (OpVal.move rfl rfl), ?_⟩) | (refine DOps.valK 1 rfl rfl rfl rfl ?_; first | refine ⟨_, (OpVal.assign rfl rfl), ?_⟩) | (refine DOps.valK 17 rfl rfl rfl rfl ?_; first | refine ⟨_, (OpVal.lenD tt_ok rfl rfl rfl rfl rfl rfl rfl), ?_⟩))
  refine DCode.loopG (fun i : Nat => [(8, vI .i64 (i : Nat))]) [2, 5, 8, 9, 10, 11, 12, 13, 14, 15, 16] (fun _ => []) (fun i => i ≤ xs.length ∧ ∀ x ∈ xs.take i, x = 0) (fun i => xs.length - i) 0 ⟨Nat.zero_le _, by simp⟩ (fun i _ => ⟨trivial, trivial⟩) (fun i _ => trivial) (by (repeat (first | exact Off.refl _ _ | refine Sub.base ?_ | refine Sub.junk ?_ | refine Sub.cons (by rfl) ?_ | refine Off.cons rfl ?_ | refine Off.junks rfl ?_))) (by (repeat (first | exact MSubX.nil | refine MSubX.skip rfl ?_ | refine MSubX.cons (by rfl) ?_))) ?_
  intro i ⟨hi, ha⟩
  show DCode _ _ _ _ _ ([(8, vI .i64 (i : Nat))] ++ junks _ _) ([] ++ _)
  by_cases hlt : i < xs.length
  · obtain ⟨b, hb⟩ : ∃ b, xs[i]? = some b := ⟨xs[i], List.getElem?_eq_getElem hlt⟩
    have hgd : xs.getD i 0 = b := by rw [List.getD_eq_getElem?_getD, hb]; rfl
    have hsn := take_snoc hb
    by_cases h0 : b = 0
    · repeat (first | refine q_seq ?_ | refine q_then ?_ | refine q_block ?_ | refine DCode.seq ?_ | refine DCode.region ?_ | refine DCode.block ?_ | refine DCode.skip ?_ | refine DCode.condT rfl ?_ | refine DCode.condF rfl ?_ | (refine DOps.valK 3 rfl rfl rfl rfl ?_; refine ⟨_, OpVal.cast (OpVal.ldN (X := xs) (m := i) tt_ok rfl rfl rfl rfl (Int.toNat_natCast _)) (congrArg (vI .i64) hgd), ?_⟩) | refine DOps.nil ?_ | (refine DOps.valK 0 rfl rfl rfl rfl ?_; first | refine ⟨_, (OpVal.move rfl rfl), ?_⟩) | (refine DOps.valK 1 rfl rfl rfl rfl ?_; first | refine ⟨_, (OpVal.assign rfl rfl), ?_⟩) | (refine DOps.valK 10 rfl rfl rfl rfl ?_; first | refine ⟨_, (OpVal.add rfl rfl rfl (by omega) (by omega)), ?_⟩) | (refine DOps.valK 19 rfl rfl rfl rfl ?_; first | refine ⟨_, (OpVal.iaD tt_ok rfl rfl rfl rfl rfl rfl (by omega) (by omega)), ?_⟩) | (refine DOps.k 13 rfl ?_; first | refine DOps.cmpT rfl rfl rfl rfl rfl rfl rfl (by omega) ?_ | refine DOps.cmpF rfl rfl rfl rfl rfl rfl rfl (by omega) ?_) | (refine DOps.k 14 rfl ?_; first | refine DOps.cmpT rfl rfl rfl rfl rfl rfl rfl (by omega) ?_ | refine DOps.cmpF rfl rfl rfl rfl rfl rfl rfl (by omega) ?_))
      exact ⟨i + 1, ⟨hlt, fun x hx => by
        rw [hsn, List.mem_append, List.mem_singleton] at hx
        rcases hx with hx | rfl
        · exact ha x hx
        · exact h0⟩, by omega, Sub.cons (vI_congr (by omega)) (by (repeat (first | exact Off.refl _ _ | refine Sub.base ?_ | refine Sub.junk ?_ | refine Sub.cons (by rfl) ?_ | refine Off.cons rfl ?_ | refine Off.junks rfl ?_))), by (repeat (first | exact MSubX.nil | refine MSubX.skip rfl ?_ | refine MSubX.cons (by rfl) ?_))⟩
    · rw [orW_hit ha hb h0]
      repeat (first | refine q_seq ?_ | refine q_seqR ?_ | refine q_thenR ?_ | refine q_blockR ?_ | refine DCode.seq ?_ | refine DCode.region ?_ | refine DCode.block ?_ | refine DCode.skip ?_ | refine DCode.ret ?_ | refine DCode.condT rfl ?_ | (refine DOps.valK 3 rfl rfl rfl rfl ?_; refine ⟨_, OpVal.cast (OpVal.ldN (X := xs) (m := i) tt_ok rfl rfl rfl rfl (Int.toNat_natCast _)) (congrArg (vI .i64) hgd), ?_⟩) | refine DOps.nil ?_ | (refine DOps.valK 0 rfl rfl rfl rfl ?_; first | refine ⟨_, (OpVal.move rfl rfl), ?_⟩) | (refine DOps.valK 1 rfl rfl rfl rfl ?_; first | refine ⟨_, (OpVal.assign rfl rfl), ?_⟩) | (refine DOps.valK 19 rfl rfl rfl rfl ?_; first | refine ⟨_, (OpVal.iaD tt_ok rfl rfl rfl rfl rfl rfl (by omega) (by omega)), ?_⟩) | (refine DOps.k 13 rfl ?_; first | refine DOps.cmpT rfl rfl rfl rfl rfl rfl rfl (by omega) ?_ | refine DOps.cmpF rfl rfl rfl rfl rfl rfl rfl (by omega) ?_) | (refine DOps.k 14 rfl ?_; first | refine DOps.cmpT rfl rfl rfl rfl rfl rfl rfl (by omega) ?_ | refine DOps.cmpF rfl rfl rfl rfl rfl rfl rfl (by omega) ?_))
      exact endQ.ret rfl (.cons (.tmp rfl) .nil) (pures_cons trivial pures_nil) rfl
  · obtain rfl : i = xs.length := by omega
    rw [List.take_length] at ha
    rw [orW_none ha]
    repeat (first | refine q_seq ?_ | refine q_seqX ?_ | refine q_thenX ?_ | refine q_blockX ?_ | refine DCode.seq ?_ | refine DCode.region ?_ | refine DCode.exit ?_ | refine DCode.ret ?_ | refine DCode.condF rfl ?_ | refine DOps.nil ?_ | (refine DOps.valK 0 rfl rfl rfl rfl ?_; first | refine ⟨_, (OpVal.move rfl rfl), ?_⟩) | (refine DOps.valK 1 rfl rfl rfl rfl ?_; first | refine ⟨_, (OpVal.assign rfl rfl), ?_⟩) | (refine DOps.k 14 rfl ?_; first | refine DOps.cmpT rfl rfl rfl rfl rfl rfl rfl (by omega) ?_ | refine DOps.cmpF rfl rfl rfl rfl rfl rfl rfl (by omega) ?_))
    exact endQ.ret rfl (.cons (.tmp rfl) .nil) (pures_cons trivial pures_nil) rfl
set_option maxRecDepth 10000 in
set_option maxHeartbeats 8000000 in
theorem sortcmp_d (a b : Bx) : DCalls Tryz.prog 33 [a.tv, b.tv] (fun ts => ts = [it (cmpB a b)]) := by
  have h1 := cmp_d a.page b.page
  have h2 := cmp64_d a.y b.y
  have h3 := cmp64_d a.x b.x
  have h4 := or_d [cmpI a.page b.page, cmpI a.y b.y, cmpI a.x b.x] (by simp)
  have he : cmpB a b = orW [cmpI a.page b.page, cmpI a.y b.y, cmpI a.x b.x] := by
    simp only [cmpB, orW]
    split
    · rfl
    · split
      · rfl
      · split
        · rfl
        · rename_i h; exact Classical.byContradiction fun q => h q
  rw [he]
  generalize cmpI a.page b.page = c1 at *
  generalize cmpI a.y b.y = c2 at *
  generalize cmpI a.x b.x = c3 at *
  refine DCalls.enter tt_ok Tryz.func33 rfl Tryz.ntmps33 (by simp) (by repeat (first | exact pures_nil | refine pures_cons ?_ ?_ | exact trivial | exact pure_aggB rfl | exact arr_pure _ | exact Load.pure _ | exact Area.pure _ | exact dvs_pure _ | exact pure_sc | exact pure_sl)) ?_
  repeat (first | refine q_seq ?_ | refine DCode.seq ?_ | refine DCode.region ?_ | refine DOps.nil ?_ | (refine DOps.valK 1 rfl rfl rfl rfl ?_; first | refine ⟨_, (OpVal.assign rfl rfl), ?_⟩) | (refine DOps.k 30 rfl ?_; refine DOps.boxS rfl rfl rfl rfl rfl rfl ?_))
  refine DCode.drawA 17 (by kernel_rfl) (by kernel_rfl) ?_
  repeat (first | refine DDr2.new (r := .v (tN [c1, c2, c3])) rfl rfl rfl (OpNew.bsl tt_ok (iD [c1, c2, c3]) _ rfl rfl rfl rfl rfl rfl rfl rfl rfl rfl (ints_flat [c1, c2, c3])) ?_ | (refine DDr2.call (ts := [it a.page, it b.page]) rfl rfl rfl rfl rfl Tryz.func35 rfl (by kernel_rfl) rfl (by repeat (first | exact pures_nil | refine pures_cons ?_ ?_ | exact trivial | exact pure_aggB rfl | exact arr_pure _ | exact Load.pure _ | exact Area.pure _ | exact dvs_pure _ | exact pure_sc | exact pure_sl)) h1 ?_) | (refine DDr2.call (ts := [it a.y, it b.y]) rfl rfl rfl rfl rfl Tryz.func36 rfl (by kernel_rfl) rfl (by repeat (first | exact pures_nil | refine pures_cons ?_ ?_ | exact trivial | exact pure_aggB rfl | exact arr_pure _ | exact Load.pure _ | exact Area.pure _ | exact dvs_pure _ | exact pure_sc | exact pure_sl)) h2 ?_) | (refine DDr2.call (ts := [it a.x, it b.x]) rfl rfl rfl rfl rfl Tryz.func36 rfl (by kernel_rfl) rfl (by repeat (first | exact pures_nil | refine pures_cons ?_ ?_ | exact trivial | exact pure_aggB rfl | exact arr_pure _ | exact Load.pure _ | exact Area.pure _ | exact dvs_pure _ | exact pure_sc | exact pure_sl)) h3 ?_) | (refine DDr2.call (ts := [tN [c1, c2, c3]]) rfl rfl rfl rfl rfl Tryz.func34 rfl (by kernel_rfl) rfl (pures_cons trivial pures_nil) h4 ?_) | (refine DDr2.valE rfl rfl rfl ?_; first | refine ⟨_, (OpVal.fa tt_ok rfl rfl rfl rfl rfl rfl), ?_⟩ | refine ⟨_, (OpVal.load1 tt_ok rfl rfl rfl rfl rfl rfl), ?_⟩))
  refine DDr2.done 1 rfl rfl ?_
  repeat' (first | refine DAny.intro _ _ rfl ?_ | refine DAny.fin rfl ?_ | exact DAlts.nil | refine DAlts.cons rfl ?_ ?_ | refine q_seq ?_ | refine q_then ?_ | refine DCode.ret ?_ | refine DOps.nil ?_ | (refine DOps.valK 1 rfl rfl rfl rfl ?_; first | refine ⟨_, (OpVal.assign rfl rfl), ?_⟩))
  exact endQ.ret rfl (.cons (.tmp rfl) .nil) (pures_cons trivial pures_nil) rfl
/-! ### Rows of boxes, by their places in a list -/
def gB (l : List Bx) (m : Int) : Bx := l.getD m.toNat bx0
def bC (l : List Bx) (xs : List Int) : List CV := rx Bx.dv (xs.map (gB l))
theorem bC_pure {l : List Bx} (xs : List Int) : ∀ c ∈ bC l xs, c.pure := rx_pure _
theorem rowOk {l : List Bx} (e n : Nat) (v : Value) (xs : List Int) (M : Mem) : ∃ k, some (Blk.row e 9 n v (bC l xs) false) = some k ∧ k.ok M := ⟨_, rfl, fun c hc => CV.pure_ok (bC_pure xs c hc)⟩
theorem gB_getD {l : List Bx} {xs : List Int} {j : Nat} (h : j < xs.length) : (xs.map (gB l)).getD j bx0 = gB l (xs.getD j 0) := by
  rw [List.getD_eq_getElem?_getD, List.getElem?_map, List.getElem?_eq_getElem h, List.getD_eq_getElem?_getD, List.getElem?_eq_getElem h]
  rfl
namespace DL
section
variable {P : Program} {N : Nat} {ops : Array Oper} {Q : DPost} {env : Env} {M M0 : Mem} {o : Oper} {rest : List Oper} {l' : List Oper} {ws : List (Nat × Nat × Nat)} {un : List (List Nat × List Nat)} {i : Nat}
theorem OpVal.loadRB {T : TypeId → Option TyI} (hT : TOk P T) {l : List Bx} {t e : TypeId} {d0 : TypeDesc} {b0 : Nat} {z0 : Value} {x : Operand} {b n off j : Nat} {v : Value} {xs : List Int} {fz : Bool} (ho : o.op = .load t x) (ht : T t = some ⟨d0, 9, b0, z0⟩) (ha : aggD d0 = true)
    (hx : opv env x = .v (.one (.rp b v off))) (hm : mget M b = some (.row e 9 n v (bC l xs) fz)) (hj : off = j * 9) (hk : j < xs.length) : OpVal P N env M o (.v (gB l (xs.getD j 0)).tv) := by
  have := OpVal.loadRX (N := N) hT (dv := Bx.dv) (k := 9) (fun _ => rfl) (L := xs.map (gB l)) bx0 ho ht ha hx hm hj (by rw [List.length_map]; exact hk)
  rw [gB_getD hk] at this
  exact this
theorem DOps.storeRB {T : TypeId → Option TyI} (hT : TOk P T) {l : List Bx} {t e : TypeId} {d0 : TypeDesc} {b0 : Nat} {z0 : Value} {x y : Operand} {b n off j : Nat} {v : Value} {q : Int} {xs ys : List Int} (hg : gd ops env o = some true) (hd : o.dst = none) (ho : o.op = .store t x y)
    (ht : T t = some ⟨d0, 9, b0, z0⟩) (hx : opv env x = .v (.one (.rp b v off))) (hy : opv env y = .v (gB l q).tv) (hm : mget M b = some (.row e 9 n v (bC l xs) false)) (hj : off = j * 9) (hk : j < xs.length) (hs : xs.set j q = ys)
    (h : DOps P N M0 ops Q rest env ((b, some (.row e 9 n v (bC l ys) false)) :: M)) : DOps P N M0 ops Q (o :: rest) env M := by
  subst hs
  exact DOps.storeRX (dv := Bx.dv) (k := 9) (q := gB l q) (L := xs.map (gB l)) hT (fun _ => rfl) hg hd ho ht hx hy hm hj (by rw [List.length_map]; exact hk) (by rw [List.map_set]) h
theorem DCf.storeRB {T : TypeId → Option TyI} (hT : TOk P T) {l : List Bx} {t e : TypeId} {d0 : TypeDesc} {b0 : Nat} {z0 : Value} {x y : Operand} {b n off j : Nat} {v : Value} {q : Int} {xs ys : List Int} (hd : o.dst = none) (ho : o.op = .store t x y) (hg : ∀ E, gd l'.toArray (restr env (o.looksAt l'.toArray) ++ E) o = some true)
    (ht : T t = some ⟨d0, 9, b0, z0⟩) (hx : ∀ E, opv (restr env (o.looksAt l'.toArray) ++ E) x = .v (.one (.rp b v off))) (hy : ∀ E, opv (restr env (o.looksAt l'.toArray) ++ E) y = .v (gB l q).tv) (hw : wsAt ws i = some (b, 0)) (hm : mget M b = some (.row e 9 n v (bC l xs) false))
    (hm' : ∀ xs' ys', mget (genM (un.getD i ([], [])) xs' ys' M) b = some (.row e 9 n v (bC l xs) false)) (hj : off = j * 9) (hk : j < xs.length) (hs : xs.set j q = ys) (h : DCf P N M0 l' Q ws un (i + 1) rest env ((b, some (.row e 9 n v (bC l ys) false)) :: M)) :
    DCf P N M0 l' Q ws un i (o :: rest) env M := by
  subst hs
  exact DCf.storeRX (dv := Bx.dv) (k := 9) (q := gB l q) (L := xs.map (gB l)) hT (fun _ => rfl) hd ho hg ht hx hy hw hm hm' hj (by rw [List.length_map]; exact hk) (by rw [List.map_set]) h
end
end DL
/-- The sort's closure, as a value. -/
abbrev capC : Nat → DV := fun _ => di 0
abbrev FS : DV := .sc (.func (.func 33) #[] #[])
abbrev FC (l : List Bx) : DV := .fn 33 0 capC
end Go.Proofs.YtejdeonbibbchaaGreatDoor
