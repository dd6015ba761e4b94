/- The library's functions, as calls of data: strings.ReplaceAll, strings.Join, strings.Cut, strconv.Itoa, strconv.Atoi. -/
import Derived.Test.YtdneiepigllnkaaDoorD19
import Derived.Test.YtdneiepigllnkaaDoorSi
import Derived.Test.YtdneiepigllnkaaDoorD12
import Derived.WalkSmall
namespace Go.Proofs.YtdneiepigllnkaaDoor.DL
open Go.RowKit Go.Sort

theorem cell_block {w : World} {g : Nat} {arr : List Value} (h0 : arr ≠ []) (h : ∀ o, w.cell? ⟨g, o, none⟩ = arr[o]?) : ∃ t z, w.heap[g]? = some (.cells arr.toArray t z) := by
  have hz := h 0
  unfold World.cell? at h hz
  cases hb : w.heap[g]? with
  | none =>
    rw [hb] at hz
    cases arr with
    | nil => exact absurd rfl h0
    | cons x r => simp at hz
  | some b =>
    rw [hb] at hz
    simp only [hb] at h
    cases b with
    | cells cs t z =>
      refine ⟨t, z, ?_⟩
      have : cs = arr.toArray := by
        apply Array.ext_getElem?
        intro o
        have := h o
        simpa using this
      rw [this]
    | _ =>
      cases arr with
      | nil => exact absurd rfl h0
      | cons x r => simp at hz

theorem PV.max {Pr : Prot} {w : World} (h : PV Pr w) : ∃ m, w.cell? ⟨0, 0, none⟩ = some (.int .i64 m) := by
  obtain ⟨m, hm⟩ := h.glob.2.1
  exact ⟨m, by simpa [glbB] using hm⟩
theorem gTab : Tryd.prog.globalNamed "internal/strconv.uint64pow10" = some 3 := by kernel_rfl
theorem PV.tab {Pr : Prot} {w : World} (h : PV Pr w) : Lib.TabIs Tryd.prog w "internal/strconv.uint64pow10" .u64 Lib.pow10Tab := by
  have hc := h.glob.2.2.1
  have hc : ∀ o, w.cell? ⟨3, o, none⟩ = (Lib.pow10Tab.map fun z => Value.int .u64 z)[o]? := fun o => by
    have := hc o
    simpa [glbB] using this
  obtain ⟨t, z, hb⟩ := cell_block (by decide) hc
  unfold Lib.TabIs World.var?
  rw [gTab]
  simp only [Option.bind_some, hb]

theorem below_grow (w : World) (k : Nat) (os : Array Obj) : Below w.heap.size w (grow (w.drewN k) os) := by
  refine ⟨rfl, rfl, rfl, by simp [grow], fun i hi => ?_⟩
  show (w.heap ++ os)[i]? = w.heap[i]?
  rw [Array.getElem?_append_left hi]

theorem itoa_c (n : Int) (h0 : -9223372036854775808 ≤ n) (h1 : n ≤ 9223372036854775807) : DCalls Tryd.prog 37 [.one (.d (.sc (.int .i64 n)))] fun ts => ts = [tT (Lib.itoa n)] :=
  DCalls.lib1 rfl fun Pr w vs hp hr => by
    obtain ⟨v0, us, rfl, r0, hr⟩ := hr.inv
    obtain rfl := hr.inv0
    obtain rfl := r0.sc
    refine (Tryd.strconv_Itoa n h0 h1 w hp.tab).mono ?_
    rintro e w' ⟨he, k, os, rfl⟩
    exact ⟨he, below_grow w k os⟩

theorem PV.err4 {Pr : Prot} {w : World} (h : PV Pr w) : ∃ t p, w.cell? ⟨4, 0, none⟩ = some (.iface t p) := by
  obtain ⟨t, p, hm⟩ := h.glob.2.2.2.1
  exact ⟨t, p, by simpa [glbB] using hm⟩
theorem PV.err5 {Pr : Prot} {w : World} (h : PV Pr w) : ∃ t p, w.cell? ⟨5, 0, none⟩ = some (.iface t p) := by
  obtain ⟨t, p, hm⟩ := h.glob.2.2.2.2
  exact ⟨t, p, by simpa [glbB] using hm⟩

theorem cut_c (l sep : List UInt8) (hs : l.length < 4294967281) : DCalls Tryd.prog 45 [tT l, tT sep] fun ts => ts = [tT (Lib.cut l sep).1, tT (Lib.cut l sep).2.1, .one (.d (.sc (.bool (Lib.cut l sep).2.2)))] :=
  DCalls.libP _ (fun Pr w vs hp hr => by
    obtain ⟨v0, us, rfl, r0, hr⟩ := hr.inv
    obtain ⟨v1, us, rfl, r1, hr⟩ := hr.inv
    obtain rfl := hr.inv0
    obtain rfl := r0.sc; obtain rfl := r1.sc
    obtain ⟨m, hm⟩ := hp.max
    refine (Tryd.strings_Cut ⟨l.toArray⟩ ⟨sep.toArray⟩ m w (by simpa [ByteArray.size] using hs) hm).mono ?_
    rintro e w' ⟨he, k, rfl⟩
    exact ⟨[_, _, _], Pr, he, ⟨rfl, rfl, rfl, Nat.le_refl _, fun _ _ => rfl⟩, PExt.refl _ _, hp.lt, TsRep.scs [_, _, _] (by simp [Value.oneCell'])⟩) (by intro t ht; simp at ht; rcases ht with rfl | rfl | rfl <;> trivial)

/-- What strconv.Atoi hands back: a number, and whether it is an error. -/
def atoiV (l : List UInt8) : Int := match Lib.atoiAll l with | .ok v => v | Lib.NumEnd.syntax => 0 | .range => Lib.atoiSat l
def atoiE (l : List UInt8) : TV := match Lib.atoiAll l with | .ok _ => .one (.d (.sc .nilIface)) | _ => .one (.d (.ifc 112 (.pp 0 fun _ => .sc .nilIface)))
theorem atoi_c (l : List UInt8) (hs : l.length ≤ 4294967296) : DCalls Tryd.prog 62 [tT l] fun ts => ts = [.one (.d (.sc (.int .i64 (atoiV l)))), atoiE l] := by
  match h : Lib.atoiAll l with
  | .ok v =>
    rw [show atoiV l = v by rw [atoiV, h], show atoiE l = .one (.d (.sc .nilIface)) by rw [atoiE, h]]
    refine DCalls.libP _ (fun Pr w vs hp hr => ?_) (by intro t ht; simp at ht; rcases ht with rfl | rfl <;> trivial)
    obtain ⟨v0, us, rfl, r0, hr⟩ := hr.inv
    obtain rfl := hr.inv0
    obtain rfl := r0.sc
    refine (Tryd.strconv_Atoi_ok ⟨l.toArray⟩ (by simp [ByteArray.size]; omega) v h w).mono ?_
    rintro e w' ⟨he, hw⟩
    have hb : Below w.heap.size w w' := by
      rcases hw with rfl | ⟨t, rfl⟩
      · exact Below.refl _ _
      · exact Lib.bytesWorld_below w 5 t
    exact ⟨[_, _], Pr, he, hb, PExt.refl _ _, fun b o hx => Nat.lt_of_lt_of_le (hp.lt b o hx) hb.size, TsRep.scs [_, _] (by simp [Value.oneCell'])⟩
  | Lib.NumEnd.syntax =>
    rw [show atoiV l = 0 by rw [atoiV, h], show atoiE l = .one (.d (.ifc 112 (.pp 0 fun _ => .sc .nilIface))) by rw [atoiE, h]]
    refine DCalls.libP _ (fun Pr w vs hp hr => ?_) (by intro t ht; simp at ht; rcases ht with rfl | rfl <;> trivial)
    obtain ⟨v0, us, rfl, r0, hr⟩ := hr.inv
    obtain rfl := hr.inv0
    obtain rfl := r0.sc
    obtain ⟨te, pe, hc⟩ := hp.err4
    refine (Tryd.strconv_Atoi_syntax ⟨l.toArray⟩ (by simp [ByteArray.size]; omega) h _ w hc (.inr ⟨te, pe, rfl⟩)).mono ?_
    rintro e w' ⟨n, he, _, _, hb⟩
    exact ⟨[_, _], Pr, he, hb, PExt.refl _ _, fun b o hx => Nat.lt_of_lt_of_le (hp.lt b o hx) hb.size, TsRep.cons ⟨rfl, rfl⟩ (TsRep.cons ⟨_, rfl, n, 0, rfl, fun j hj => absurd hj (Nat.not_lt_zero j)⟩ TsRep.nil)⟩
  | .range =>
    rw [show atoiV l = Lib.atoiSat l by rw [atoiV, h], show atoiE l = .one (.d (.ifc 112 (.pp 0 fun _ => .sc .nilIface))) by rw [atoiE, h]]
    refine DCalls.libP _ (fun Pr w vs hp hr => ?_) (by intro t ht; simp at ht; rcases ht with rfl | rfl <;> trivial)
    obtain ⟨v0, us, rfl, r0, hr⟩ := hr.inv
    obtain rfl := hr.inv0
    obtain rfl := r0.sc
    obtain ⟨te, pe, hc⟩ := hp.err5
    refine (Tryd.strconv_Atoi_range ⟨l.toArray⟩ (by simp [ByteArray.size]; omega) h _ w hc (.inr ⟨te, pe, rfl⟩)).mono ?_
    rintro e w' ⟨n, he, _, _, hb⟩
    exact ⟨[_, _], Pr, he, hb, PExt.refl _ _, fun b o hx => Nat.lt_of_lt_of_le (hp.lt b o hx) hb.size, TsRep.cons ⟨rfl, rfl⟩ (TsRep.cons ⟨_, rfl, n, 0, rfl, fun j hj => absurd hj (Nat.not_lt_zero j)⟩ TsRep.nil)⟩
end Go.Proofs.YtdneiepigllnkaaDoor.DL
namespace Go.Proofs.YtdneiepigllnkaaDoor
open Go Go.RowKit Go.Proofs.YtdneiepigllnkaaDoor.DL
abbrev di (n : Int) : DV := .sc (.int .i64 n)
abbrev ci (n : Int) : CV := .d (di n)
abbrev it (n : Int) : TV := .one (.d (.sc (.int .i64 n)))
end Go.Proofs.YtdneiepigllnkaaDoor
