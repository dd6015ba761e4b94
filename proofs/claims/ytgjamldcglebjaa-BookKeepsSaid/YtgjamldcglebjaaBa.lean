/- Book: pages as data; on which page a line stands. -/
import Derived.Test.YtgjamldcglebjaaU
import Derived.Test.YtgjamldcglebjaaV
import Derived.Test.YtgjamldcglebjaaD15
namespace Go.Proofs.Ytgjamldcglebjaa
open Go Go.RowKit Go.Proofs.Ytgjamldcglebjaa.DL
set_option linter.unusedVariables false
attribute [local irreducible] DCode DOps OpVal DCalls DCallsM DCallsB thenQ seqQ inBlockQ endQ endQM OpNew

def leafD (x : LeafM) : List DV := di x.first :: di x.lines :: (x.shown.map di ++ x.left.map di)
theorem leafC_D (x : LeafM) : leafC x = (leafD x).map .d := by
  simp only [leafC, leafD, List.map_cons, List.map_append, List.map_map]; rfl
theorem leafD_length (x : LeafM) (h : x.ten) : (leafD x).length = 22 := by simp [leafD, h.1, h.2]
def leaves (ps : List LeafM) : DV := .sl ps.length 22 fun i j => (leafD (ps.getD i leaf0)).getD j (di 0)
def TenL (ps : List LeafM) : Prop := ∀ x ∈ ps, x.ten
theorem TenL.get {ps : List LeafM} (h : TenL ps) (k : Nat) (hk : k < ps.length) : (ps.getD k leaf0).ten := by
  rw [List.getD_eq_getElem?_getD, List.getElem?_eq_getElem hk]
  exact h _ (List.getElem_mem hk)
theorem leaves_flat : ∀ (l : List LeafM), TenL l → ∀ p, p < l.length → ∀ q, q < 22 → (l.flatMap leafD)[p * 22 + q]? = some ((leafD (l.getD p leaf0)).getD q (di 0))
  | [], _, p, hp, _, _ => absurd hp (Nat.not_lt_zero _)
  | y :: l, ht, p, hp, q, hq => by
    have hy : (leafD y).length = 22 := leafD_length y (ht y (List.mem_cons_self ..))
    rw [List.flatMap_cons]
    match p, hp with
    | 0, _ =>
      rw [Nat.zero_mul, Nat.zero_add, List.getElem?_append_left (by omega), List.getElem?_eq_getElem (by omega), List.getD_cons_zero, List.getD_eq_getElem?_getD, List.getElem?_eq_getElem (by omega), Option.getD_some]
    | p + 1, hp =>
      rw [List.getElem?_append_right (by omega), show (p + 1) * 22 + q - (leafD y).length = p * 22 + q by omega, leaves_flat l (fun x hx => ht x (List.mem_cons_of_mem _ hx)) p (by simpa using hp) q hq, List.getD_cons_succ]
theorem flat_length22 : ∀ (l : List LeafM), TenL l → (l.flatMap leafD).length = l.length * 22
  | [], _ => rfl
  | y :: l, ht => by
    rw [List.flatMap_cons, List.length_append, leafD_length y (ht y (List.mem_cons_self ..)), flat_length22 l fun x hx => ht x (List.mem_cons_of_mem _ hx), List.length_cons]
    omega

theorem one_flat22 {ds : List DV} {k : Nat} (h : ds.length = k) (z : DV) : ∀ p, p < 1 → ∀ q, q < k → ds[p * k + q]? = some (ds.getD q z) := fun p hp q hq => by
  obtain rfl : p = 0 := by omega
  rw [Nat.zero_mul, Nat.zero_add, List.getD_eq_getElem?_getD, List.getElem?_eq_getElem (by omega), Option.getD_some]
theorem leaf_dropL (z : LeafM) (hz : z.ten) : ((leafC z).drop 12).take 10 = z.left.map ci := by
  have h : leafC z = (ci z.first :: ci z.lines :: z.shown.map ci) ++ z.left.map ci := rfl
  rw [h, List.drop_append_of_le_length (by simp [hz.1]), List.drop_of_length_le (by simp [hz.1]), List.nil_append, List.take_of_length_le (by simp [hz.2])]

/-! ### On which page a line stands -/
def onB (line : Int) (x : LeafM) : Bool := decide (x.first ≤ line) && decide (w64 (line - x.first) < x.lines)
def pageAt (ps : List LeafM) (line : Int) : Nat := fitGo (fun k => onB line (ps.getD k leaf0)) ps.length 0
def pageW (ps : List LeafM) (line : Int) : Int := if pageAt ps line < ps.length then pageAt ps line else -1
theorem fitGo_at {f : Nat → Bool} {n k : Nat} (hk : k < n) (h0 : ∀ j, j < k → f j = false) (h : f k = true) : fitGo f n 0 = k := by
  obtain ⟨_, f2, f3, f4⟩ := fitGo_spec f n 0
  rcases Nat.lt_trichotomy (fitGo f n 0) k with hlt | heq | hgt
  · have := f4 (by omega)
    rw [h0 _ hlt] at this
    cases this
  · exact heq
  · have := f3 k (Nat.zero_le _) hgt
    rw [h] at this
    cases this
theorem fitGo_none {f : Nat → Bool} {n : Nat} (h0 : ∀ j, j < n → f j = false) : fitGo f n 0 = n := by
  obtain ⟨_, f2, f3, f4⟩ := fitGo_spec f n 0
  rcases Nat.lt_or_ge (fitGo f n 0) n with hlt | hge
  · have := f4 (by omega)
    rw [h0 _ hlt] at this
    cases this
  · omega
theorem page_found {ps : List LeafM} {line : Int} {k : Nat} (hk : k < ps.length) (h0 : ∀ j, j < k → onB line (ps.getD j leaf0) = false) (h : onB line (ps.getD k leaf0) = true) : pageW ps line = k := by
  have := fitGo_at (f := fun k => onB line (ps.getD k leaf0)) hk h0 h
  unfold pageW pageAt
  rw [this, if_pos hk]
theorem page_none {ps : List LeafM} {line : Int} (h0 : ∀ j, j < ps.length → onB line (ps.getD j leaf0) = false) : pageW ps line = -1 := by
  have := fitGo_none (f := fun k => onB line (ps.getD k leaf0)) h0
  unfold pageW pageAt
  rw [this, if_neg (Nat.lt_irrefl _)]

theorem on_d (x : LeafM) (hx : x.ten) (line : Int) : DCalls Try.prog 51 [x.tv, .one (.d (.pp 1 fun _ => di line))] (fun ts => ts = [bt (onB line x)]) := by
  refine DCalls.enter tt_ok Try.func51 rfl Try.ntmps51 (by simp) ?_ ?_
  · exact pures_cons (LeafM.pure x) (pures_cons trivial pures_nil)
  repeat' (first | first | refine q_seq ?_ | refine q_seqX ?_ | refine q_seqR ?_ | refine q_then ?_ | refine q_thenX ?_ | refine q_thenR ?_ | refine q_block ?_ | refine q_blockX ?_ | refine q_blockY rfl ?_ | refine q_blockR ?_ | refine DCode.seq ?_ | refine DCode.region ?_ | refine DCode.block ?_ | refine DCode.skip ?_ | refine DCode.exit ?_ | refine DCode.ret ?_ | refine DCode.condT rfl ?_ | refine DCode.condF rfl ?_ | refine DCode.condD rfl (fun _ => ?_) (fun _ => ?_) | refine DOps.val rfl rfl rfl (OpVal.ld (y := di line) tt_ok rfl rfl rfl rfl (by omega) rfl) ?_ | first | refine DOps.nil ?_ | refine DOps.val rfl rfl rfl (OpVal.move rfl rfl) ?_ | refine DOps.val rfl rfl rfl (OpVal.moveT rfl rfl) ?_ | refine DOps.val rfl rfl rfl (OpVal.assign rfl rfl) ?_ | refine DOps.off rfl rfl rfl ?_ | refine DOps.cmpT rfl rfl rfl rfl rfl rfl rfl (by omega) ?_ | refine DOps.cmpF rfl rfl rfl rfl rfl rfl rfl (by omega) ?_ | refine DOps.val rfl rfl rfl (OpVal.add rfl rfl rfl (by omega) (by omega)) ?_ | refine DOps.val rfl rfl rfl (OpVal.sub rfl rfl rfl (by omega) (by omega)) ?_ | refine DOps.val rfl rfl rfl (OpVal.neg64 rfl rfl (by omega) (by omega)) ?_ | refine DOps.val rfl rfl rfl (OpVal.arith rfl rfl rfl rfl) ?_ | refine DOps.val rfl rfl rfl (OpVal.pickT rfl rfl rfl) ?_ | refine DOps.val rfl rfl rfl (OpVal.pickF rfl rfl rfl) ?_ | refine DOps.val rfl rfl rfl (OpVal.notB rfl rfl) ?_ | refine DOps.val rfl rfl rfl (OpVal.extract rfl rfl rfl) ?_ | refine DOps.val rfl rfl rfl (OpVal.fa tt_ok rfl rfl rfl rfl rfl rfl) ?_ | refine DOps.val rfl rfl rfl (OpVal.faD tt_ok rfl rfl rfl rfl rfl rfl) ?_ | refine DOps.val rfl rfl rfl (OpVal.load1 tt_ok rfl rfl rfl rfl rfl rfl) ?_ | refine DOps.val rfl rfl rfl (OpVal.lenD tt_ok rfl rfl rfl rfl rfl rfl rfl) ?_ | refine DOps.val rfl rfl rfl (OpVal.iaA tt_ok rfl rfl rfl rfl rfl (by omega) (by omega)) ?_ | refine DOps.val rfl rfl rfl (OpVal.iaD tt_ok rfl rfl rfl rfl rfl rfl (by omega) (by omega)) ?_ | refine DOps.val rfl rfl rfl (OpVal.iaDA tt_ok rfl rfl rfl rfl rfl (by omega) (by omega)) ?_ | refine DOps.val rfl rfl rfl (OpVal.nilCheckP rfl rfl) ?_ | refine DOps.val rfl rfl rfl (OpVal.nilCheckD rfl rfl) ?_ | refine DOps.val rfl rfl rfl (OpVal.buildS tt_ok rfl rfl rfl rfl rfl rfl rfl rfl) ?_ | refine DOps.val rfl rfl rfl (OpVal.buildA tt_ok rfl rfl rfl rfl rfl rfl rfl rfl) ?_ | refine DOps.boxS rfl rfl rfl rfl rfl rfl ?_ | refine DOps.alS tt_ok rfl rfl rfl rfl rfl rfl rfl ?_ | refine DOps.store tt_ok rfl rfl rfl rfl rfl rfl rfl rfl (Nat.le_of_ble_eq_true rfl) rfl ?_ | refine DOps.cmp rfl rfl rfl rfl rfl rfl rfl (fun _ => ?_) (fun _ => ?_))
  all_goals refine endQ.ret rfl (.cons (.tmp rfl) .nil) (pures_cons pure_sc pures_nil) (bt1 ?_)
  all_goals simp [onB, *]
end Go.Proofs.Ytgjamldcglebjaa
