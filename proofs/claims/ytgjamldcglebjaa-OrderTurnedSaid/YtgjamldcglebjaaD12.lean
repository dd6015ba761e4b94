/- Opening what came in, as data: what a row's reading of its arguments says of the cells. No program in sight. -/
import Derived.Test.YtgjamldcglebjaaD11
import Derived.Deep.Slices
import Derived.ChangeOld
import Derived.Below
namespace Go.Proofs.Ytgjamldcglebjaa.DL
open Go Go.RowKit Go.ChangeShapes Go.WideShapes Go.Deep

/-- All that was there at the begin is never written. -/
def inW (W : World) : Prot := fun b _ => b < W.heap.size
/-- Cells, as data. -/
def Cells (W : World) (ds : List DV) (cs : List Value) : Prop := cs.length = ds.length ∧ ∀ (i : Nat) d, ds[i]? = some d → ∃ u, cs[i]? = some u ∧ DRep (inW W) W d u
theorem Cells.nil (W : World) : Cells W [] [] := ⟨rfl, fun i d h => by simp at h⟩
theorem Cells.append {W : World} {a b : List DV} {x y : List Value} (h : Cells W a x) (k : Cells W b y) : Cells W (a ++ b) (x ++ y) := by
  refine ⟨by rw [List.length_append, List.length_append, h.1, k.1], fun i d hd => ?_⟩
  by_cases hi : i < a.length
  · rw [List.getElem?_append_left hi] at hd
    obtain ⟨u, hu, hr⟩ := h.2 i d hd
    exact ⟨u, by rw [List.getElem?_append_left (by rw [h.1]; exact hi)]; exact hu, hr⟩
  · rw [List.getElem?_append_right (by omega)] at hd
    obtain ⟨u, hu, hr⟩ := k.2 _ d hd
    exact ⟨u, by rw [List.getElem?_append_right (by rw [h.1]; omega), h.1]; exact hu, hr⟩

structure Opens (P : Program) (t : TypeId) (Γ : List DV → Prop) : Prop where
  op : ∀ {H : Type} (enc : TypeId × Value → H) (W : World) (fuel : Nat) (cs : List Value) (x : DataW H × List MemPlace), DataW.trod enc P W 0 (fun _ => true) true fuel t cs = some x → ∃ ds, Γ ds ∧ Cells W ds cs

section
variable {P : Program} {t e : TypeId} {Γ Γ' : List DV → Prop}
theorem Opens.mono (h : Opens P t Γ) (hg : ∀ ds, Γ ds → Γ' ds) : Opens P t Γ' := ⟨fun enc W fuel cs x hx =>
  let ⟨ds, h1, h2⟩ := h.op enc W fuel cs x hx
  ⟨ds, hg ds h1, h2⟩⟩
theorem Cells.one {W : World} {v : Value} (h : v.oneCell' = true) : Cells W [.sc v] [v] := by
  refine ⟨rfl, fun i d hd => ?_⟩
  match i, hd with
  | 0, hd => simp at hd; subst hd; exact ⟨v, rfl, h, rfl⟩
  | i + 1, hd => simp at hd
theorem Opens.int {k : IntKind} (ht : P.underlying t = some (.int k)) : Opens P t (fun ds => ∃ n, ds = [.sc (.int k n)] ∧ (Lit.int k n).wf = true) := .mk fun enc W fuel cs x hx => by
  obtain ⟨n, rfl, _, hw⟩ := DataW.trod_int ht hx
  exact ⟨_, ⟨n, rfl, hw⟩, Cells.one rfl⟩
theorem Opens.bool (ht : P.underlying t = some .bool) : Opens P t (fun ds => ∃ b, ds = [.sc (.bool b)]) := .mk fun enc W fuel cs x hx => by
  obtain ⟨b, rfl, _⟩ := DataW.trod_bool ht hx
  exact ⟨_, ⟨b, rfl⟩, Cells.one rfl⟩
theorem Opens.string (ht : P.underlying t = some .string) : Opens P t (fun ds => ∃ s : ByteArray, ds = [.sc (.string s)] ∧ s.size ≤ maxLen) := .mk fun enc W fuel cs x hx => by
  obtain ⟨s, rfl, _, hs⟩ := DataW.trod_string ht hx
  exact ⟨_, ⟨s, rfl, hs⟩, Cells.one rfl⟩

/-- Parts, one behind the other. -/
theorem cells_parts {W : World} : ∀ (sizes : List Nat) (cs : List Value) (Γ : Nat → List DV → Prop), cs.length = sizes.sum →
    (∀ (i s : Nat), sizes[i]? = some s → ∃ ds, Γ i ds ∧ Cells W ds ((cs.drop (sizes.take i).sum).take s)) →
    ∃ l : List (List DV), l.length = sizes.length ∧ (∀ (i : Nat) p, l[i]? = some p → Γ i p) ∧ Cells W l.flatten cs
  | [], cs, Γ, hl, _ => by
    obtain rfl : cs = [] := List.eq_nil_of_length_eq_zero (by simpa using hl)
    exact ⟨[], rfl, fun i p h => by simp at h, Cells.nil W⟩
  | s :: ss, cs, Γ, hl, h => by
    obtain ⟨d0, g0, c0⟩ := h 0 s rfl
    simp only [List.take_zero, List.sum_nil, List.drop_zero] at c0
    rw [List.sum_cons] at hl
    obtain ⟨l, l1, l2, l3⟩ := cells_parts ss (cs.drop s) (fun i => Γ (i + 1)) (by rw [List.length_drop]; omega) fun i q hq => by
      obtain ⟨ds, g, c⟩ := h (i + 1) q (by simpa using hq)
      refine ⟨ds, g, ?_⟩
      rw [List.take_succ_cons, List.sum_cons] at c
      rw [List.drop_drop]
      exact c
    refine ⟨d0 :: l, by simp [l1], fun i p hp => ?_, ?_⟩
    · match i, hp with
      | 0, hp => simp at hp; subst hp; exact g0
      | i + 1, hp => exact l2 i p (by simpa using hp)
    · rw [List.flatten_cons, ← List.take_append_drop s cs]
      exact Cells.append c0 l3

theorem sum_take_replicate (k : Nat) : ∀ (n i : Nat), i ≤ n → ((List.replicate n k).take i).sum = i * k := fun n i h => by
  rw [List.take_replicate, Nat.min_eq_left h, List.sum_replicate_nat]

theorem Opens.array {n k : Nat} (ht : P.underlying t = some (.array n e)) (hk : P.cellsOf e = k) (hs : P.cellsOf t = n * k) (h : Opens P e Γ) :
    Opens P t (fun ds => ∃ l : List (List DV), l.length = n ∧ (∀ p ∈ l, Γ p) ∧ ds = l.flatten) := .mk fun enc W fuel cs x hx => by
  cases fuel with
  | zero => simp [DataW.trod] at hx
  | succ m =>
    unfold DataW.trod at hx
    rw [ht] at hx
    have hx : (if cs.length = P.cellsOf t then ((List.range n).mapM fun i => DataW.trod enc P W 0 (fun _ => true) true m e ((cs.drop (i * P.cellsOf e)).take (P.cellsOf e))).map fun xs => (DataW.agg (xs.map (·.1)), xs.flatMap (·.2)) else none) = some x := by
      split at hx <;> simp_all
    split at hx
    · rename_i hl
      rw [Option.map_eq_some_iff] at hx
      obtain ⟨xs, hm, _⟩ := hx
      obtain ⟨l, l1, l2, l3⟩ := cells_parts (W := W) (List.replicate n k) cs (fun _ => Γ) (by rw [List.sum_replicate_nat, hl, hs]) fun i s hi => by
        obtain ⟨hin, rfl⟩ : i < n ∧ k = s := by
          rw [List.getElem?_replicate] at hi
          split at hi
          · rename_i h1; exact ⟨h1, by simpa using hi⟩
          · cases hi
        rw [sum_take_replicate k n i (by omega)]
        have hg := mapM_some_get hm i i (by simp [hin])
        have hlen : xs.length = n := by simpa using mapM_some_length hm
        rw [List.getElem?_eq_getElem (by omega), hk] at hg
        exact h.op enc W m _ _ hg
      refine ⟨l.flatten, ⟨l, by simpa using l1, fun p hp => ?_, rfl⟩, l3⟩
      obtain ⟨i, hi, rfl⟩ := List.getElem_of_mem hp
      exact l2 i _ (List.getElem?_eq_getElem hi)
    · cases hx

theorem Opens.struct {fs : Array Field} (ht : P.underlying t = some (.struct fs)) (sizes : List Nat) (hz : sizes = fs.toList.map fun f => P.cellsOf f.type) (ho : ∀ (i : Nat) f, fs[i]? = some f → f.offset = (sizes.take i).sum)
    (hs : P.cellsOf t = sizes.sum) (Γs : Nat → List DV → Prop) (h : ∀ (i : Nat) f, fs[i]? = some f → Opens P f.type (Γs i)) :
    Opens P t (fun ds => ∃ l : List (List DV), l.length = fs.size ∧ (∀ (i : Nat) p, l[i]? = some p → Γs i p) ∧ ds = l.flatten) := .mk fun enc W fuel cs x hx => by
  obtain ⟨xs, m, rfl, _, hl, hxl, hf⟩ := DataW.trod_struct ht hx
  obtain ⟨l, l1, l2, l3⟩ := cells_parts (W := W) sizes cs Γs (by rw [hl, hs]) fun i s hi => by
    rw [hz, List.getElem?_map, Option.map_eq_some_iff] at hi
    obtain ⟨f, hfi, rfl⟩ := hi
    have hfa : fs[i]? = some f := by rw [← hfi, Array.getElem?_toList]
    have hg := hf i f hfa
    have hil : i < fs.size := by
      rcases Nat.lt_or_ge i fs.size with h1 | h1
      · exact h1
      · rw [Array.getElem?_eq_none h1] at hfa; cases hfa
    rw [List.getElem?_eq_getElem (by omega), ho i f hfa] at hg
    exact (h i f hfa).op enc W m _ _ hg
  exact ⟨l.flatten, ⟨l, by rw [l1, hz]; simp, l2, rfl⟩, l3⟩

theorem Opens.slice {k : Nat} (ht : P.underlying t = some (.slice e)) (hk : P.cellsOf e = k) (h0 : 0 < k) (z : DV) (h : Opens P e Γ) :
    Opens P t (fun ds => ∃ l : List (List DV), l.length ≤ maxLen ∧ (∀ p ∈ l, Γ p ∧ p.length = k) ∧ ds = [.sl l.length k fun i j => (l.getD i []).getD j z]) := .mk fun enc W fuel cs x hx => by
  rcases open_slice ht hx with ⟨rfl, _⟩ | ⟨a, len, cap, m, n, D, Pl, rfl, _, hlc, hcm, hm, _, hel⟩
  · refine ⟨[.sl 0 k fun i j => (([] : List (List DV)).getD i []).getD j z], ⟨[], Nat.zero_le _, (fun p hp => by cases hp), rfl⟩, rfl, fun i d hd => ?_⟩
    match i, hd with
    | 0, hd =>
      simp at hd; subst hd
      exact ⟨_, rfl, none, 0, rfl, Nat.le_refl _, fun h => absurd h (Nat.lt_irrefl _)⟩
    | i + 1, hd => simp at hd
  · have hml : m = cap := by simpa using hm
    subst hml hk
    obtain ⟨F, hF⟩ := choose_lt (n := len) (p := fun i (q : List DV) => Γ q ∧ ∃ cs', W.cells? 0 (a.add (i * P.cellsOf e)) (P.cellsOf e) = some cs' ∧ Cells W q cs') fun i hi => by
      obtain ⟨cs', h1, h2⟩ := hel i (by omega)
      obtain ⟨ds, g, c⟩ := h.op enc W n cs' _ h2
      exact ⟨ds, g, cs', h1, c⟩
    have hFl : ∀ i, i < len → (F i).length = P.cellsOf e := fun i hi => by
      obtain ⟨_, cs', h1, h2⟩ := hF i hi
      rw [← h2.1]; exact (World.cells?_some h1).2.1
    refine ⟨_, ⟨(List.range len).map F, by simp; omega, fun p hp => ?_, rfl⟩, rfl, fun i d hd => ?_⟩
    · obtain ⟨i, hi, rfl⟩ := List.mem_map.1 hp
      exact ⟨(hF i (List.mem_range.1 hi)).1, hFl i (List.mem_range.1 hi)⟩
    · match i, hd with
      | i + 1, hd => simp at hd
      | 0, hd =>
        simp only [List.length_map, List.length_range, List.getElem?_cons_zero, Option.some.injEq] at hd
        subst hd
        refine ⟨_, rfl, some a, _, rfl, hlc, fun hlen => ?_⟩
        have hcell : ∀ i, i < len → ∀ j, j < P.cellsOf e → ∃ u, W.cell? (a.add (i * P.cellsOf e + j)) = some u ∧ DRep (inW W) W ((F i).getD j z) u := fun i hi j hj => by
          obtain ⟨_, cs', h1, h2⟩ := hF i hi
          obtain ⟨_, hcl, hc⟩ := World.cells?_some h1
          have hj' : j < (F i).length := by rw [hFl i hi]; exact hj
          obtain ⟨u, hu, hr⟩ := h2.2 j _ (List.getElem?_eq_getElem hj')
          refine ⟨u, by rw [← add_add, hc j hj, hu], ?_⟩
          rw [List.getD_eq_getElem?_getD, List.getElem?_eq_getElem hj', Option.getD_some]
          exact hr
        obtain ⟨u0, hu0, _⟩ := hcell 0 hlen 0 h0
        obtain ⟨b, o, spot⟩ := a
        have hspot : spot = none := by simpa [Addr.add] using World.cell?_spot hu0
        subst hspot
        refine ⟨b, o, rfl, fun i hi j hj => ?_⟩
        obtain ⟨u, hu, hr⟩ := hcell i hi j hj
        rw [add_plain] at hu
        refine ⟨?_, u, hu, ?_⟩
        · have := World.cells?_block (cells?_one (base := 0) (Nat.zero_le _) hu) (Nat.lt_succ_self 0)
          exact this
        · have : ((List.range len).map F).getD i [] = F i := by simp [List.getD_eq_getElem?_getD, hi]
          show DRep (inW W) W ((((List.range len).map F).getD i []).getD j z) u
          rw [this]; exact hr
end

/-! ### Arguments, and a law's call -/
section
variable {P : Program} {γ : Cn} {Pr : Prot} {W w : World}
theorem TsRep.nil : TsRep γ Pr w [] [] := ⟨rfl, fun i t h => by simp at h⟩
theorem TsRep.cons {t : TV} {u : Value} {ts : List TV} {us : List Value} (h : TRep γ Pr w t u) (k : TsRep γ Pr w ts us) : TsRep γ Pr w (t :: ts) (u :: us) := by
  refine ⟨by rw [List.length_cons, List.length_cons, k.1], fun i x hx => ?_⟩
  match i, hx with
  | 0, hx => simp at hx; subst hx; exact ⟨u, rfl, h⟩
  | i + 1, hx => exact k.2 i x (by simpa using hx)
theorem trep_agg {ds : List DV} {cs : Array Value} (h : Cells W ds cs.toList) : TRep γ (inW W) W (.agg (ds.map .d)) (.agg cs) := by
  refine ⟨cs.toList, rfl, by rw [List.length_map]; exact h.1, fun i c hc => ?_⟩
  rw [List.getElem?_map, Option.map_eq_some_iff] at hc
  obtain ⟨d, hd, rfl⟩ := hc
  exact h.2 i d hd
theorem trep_one {d : DV} {v : Value} (h : Cells W [d] [v]) : TRep γ (inW W) W (.one (.d d)) v := by
  obtain ⟨u, hu, hr⟩ := h.2 0 d rfl
  simp at hu; subst hu
  exact hr
/-- A law that answers true, as a walk. -/
theorem calls_of {f : FuncId} {args : List TV} {b : Bool} (h : DCalls P f args fun ts => ts = [bt b]) {vs : List Value} (hr : TsRep γ0 (inW W) W args vs) (hg : glbP (inW W) W) :
    Calls P f vs.toArray W fun e w' => e = .returned (.bool b) ∧ Below W.heap.size W w' :=
  (h (inW W) W vs ⟨fun b o hb => hb, hg⟩ hr).mono fun e w' ⟨us, ts, Pr', h1, h2, _, _, h5, _, h7⟩ => by
    subst h7
    obtain ⟨hl, hh⟩ := h5
    obtain ⟨u, hu, hr⟩ := hh 0 _ rfl
    match us, hl with
    | [u'], _ =>
      simp at hu; subst hu
      obtain ⟨_, rfl⟩ := hr
      exact ⟨h1, h2⟩
end
end Go.Proofs.Ytgjamldcglebjaa.DL
