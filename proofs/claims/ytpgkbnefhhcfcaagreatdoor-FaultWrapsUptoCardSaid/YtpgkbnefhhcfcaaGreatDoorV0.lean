/- The library's functions, as calls of data: strings.Split, strings.Trim, strconv.Itoa, strconv.Atoi. -/
import Derived.Test.YtpgkbnefhhcfcaaGreatDoorD45
import Derived.Test.YtpgkbnefhhcfcaaGreatDoorSh
import Derived.WalkSmall
import Derived.Lib.SplitLaws
import Derived.Shelf.Strings.SlTrimAscii
import Derived.Test.YtpgkbnefhhcfcaaGreatDoorFq
set_option linter.unusedVariables false
set_option linter.unusedSimpArgs false
set_option linter.constructorNameAsVariable false
namespace Go.Proofs.YtpgkbnefhhcfcaaGreatDoor.DL
open Go.RowKit Go.Sort

theorem cell_block {w : World} {g : Nat} {arr : List Value} (h0 : arr ≠ []) (h : ∀ o, w.cell? ⟨g, o, none⟩ = arr[o]?) : ∃ t z, w.heap[g]? = some (.cells arr.toArray t z) := by
  have hz := h 0
  unfold World.cell? at h hz
  cases hb : w.heap[g]? with
  | none =>
    rw [hb] at hz
    cases arr with
    | nil => exact absurd rfl h0
    | cons x r => simp at hz
  | some b =>
    rw [hb] at hz
    simp only [hb] at h
    cases b with
    | cells cs t z =>
      refine ⟨t, z, ?_⟩
      have : cs = arr.toArray := by
        apply Array.ext_getElem?
        intro o
        have := h o
        simpa using this
      rw [this]
    | _ =>
      cases arr with
      | nil => exact absurd rfl h0
      | cons x r => simp at hz

theorem PV.max {Pr : Prot} {w : World} (h : PV Pr w) : ∃ m, w.cell? ⟨3, 0, none⟩ = some (.int .i64 m) := by
  obtain ⟨m, hm⟩ := h.glob.2.1
  exact ⟨m, by simpa [glbB] using hm⟩
theorem gTab : Tryz.prog.globalNamed "internal/strconv.uint64pow10" = some 6 := by kernel_rfl
theorem PV.tab {Pr : Prot} {w : World} (h : PV Pr w) : Lib.TabIs Tryz.prog w "internal/strconv.uint64pow10" .u64 Lib.pow10Tab := by
  have hc := h.glob.2.2.1
  have hc : ∀ o, w.cell? ⟨6, o, none⟩ = (Lib.pow10Tab.map fun z => Value.int .u64 z)[o]? := fun o => by
    have := hc o
    simpa [glbB] using this
  obtain ⟨t, z, hb⟩ := cell_block (by decide) hc
  unfold Lib.TabIs World.var?
  rw [gTab]
  simp only [Option.bind_some, hb]

theorem below_grow (w : World) (k : Nat) (os : Array Obj) : Below w.heap.size w (grow (w.drewN k) os) := by
  refine ⟨rfl, rfl, rfl, by simp [grow], fun i hi => ?_⟩
  show (w.heap ++ os)[i]? = w.heap[i]?
  rw [Array.getElem?_append_left hi]

theorem itoa_c (n : Int) (h0 : -9223372036854775808 ≤ n) (h1 : n ≤ 9223372036854775807) : DCalls Tryz.prog 66 [.one (.d (.sc (.int .i64 n)))] fun ts => ts = [tT (Lib.itoa n)] :=
  DCalls.lib1 rfl fun Pr w vs hp hr => by
    obtain ⟨v0, us, rfl, r0, hr⟩ := hr.inv
    obtain rfl := hr.inv0
    obtain rfl := r0.sc
    refine (Tryz.strconv_Itoa n h0 h1 w hp.tab).mono ?_
    rintro e w' ⟨he, k, os, rfl⟩
    exact ⟨he, below_grow w k os⟩

/-- A text, split. -/
def splitL (l sep : List UInt8) : List (List UInt8) := (Lib.splitB ⟨sep.toArray⟩ 0 (Lib.countB ⟨l.toArray⟩ ⟨sep.toArray⟩) ⟨l.toArray⟩).map (·.data.toList)
/-- What is handed back is new memory that holds texts. -/
theorem DCalls.strs {P : Program} {f : FuncId} {args : List TV} (L : List ByteArray)
    (h : ∀ Pr w vs, PV Pr w → TsRep γ0 Pr w args vs → ∃ cap cells t, L.length ≤ cap ∧ (∀ (i : Nat) x, L[i]? = some x → cells[i]? = some (.string x)) ∧ Calls P f vs.toArray w fun e w' => e = .returned (.slice (some ⟨w.heap.size, 0, none⟩) L.length cap) ∧ w' = w.alloc (.cells cells t)) :
    DCalls P f args fun ts => ts = [tL (L.map (·.data.toList))] :=
  DCalls.libP _ (fun Pr w vs hp hr => by
    obtain ⟨cap, cells, t, hcap, hc, hcalls⟩ := h Pr w vs hp hr
    refine hcalls.mono ?_
    rintro e w' ⟨he, rfl⟩
    refine ⟨[_], fun g o => Pr g o ∨ g = w.heap.size, he, (Below.refl _ _).alloc (Nat.le_refl _) _, ⟨fun _ _ h => .inl h, fun g o h => h.imp id fun h => Nat.le_of_eq h.symm⟩, fun g o h => ?_, rfl, fun i t ht => ?_⟩
    · rcases h with h | rfl
      · exact Nat.lt_of_lt_of_le (hp.lt g o h) (by show w.heap.size ≤ (w.heap.push _).size; simp)
      · show w.heap.size < (w.heap.push _).size
        simp
    · match i, ht with
      | 0, ht =>
        obtain rfl : tL (L.map (·.data.toList)) = t := by simpa using ht
        refine ⟨_, rfl, _, _, by rw [List.length_map], by rw [List.length_map]; exact hcap, fun _ => ⟨w.heap.size, 0, rfl, fun p hp' q hq => ⟨.inr rfl, ?_⟩⟩⟩
        obtain rfl : q = 0 := by omega
        have hp2 : p < L.length := by simpa using hp'
        refine ⟨.string L[p], ?_, rfl, ?_⟩
        · rw [Lib.cell_of_heap (heap_alloc_new w _)]
          simpa using hc p L[p] (List.getElem?_eq_getElem hp2)
        · simp [List.getD_eq_getElem?_getD, hp2]
      | i + 1, ht => simp at ht) (by intro t ht; simp at ht; subst ht; trivial)
theorem splitL_eq (l sep : List UInt8) : splitL l sep = Lib.split l sep := by
  rw [splitL, Lib.splitB_data]; rfl
theorem split_c (l sep : List UInt8) (h1 : 1 ≤ sep.length) (hs : l.length < 4294967281) : DCalls Tryz.prog 19 [tT l, tT sep] fun ts => ts = [tL (splitL l sep)] :=
  DCalls.strs _ fun Pr w vs hp hr => by
    obtain ⟨v0, us, rfl, r0, hr⟩ := hr.inv
    obtain ⟨v1, us, rfl, r1, hr⟩ := hr.inv
    obtain rfl := hr.inv0
    obtain rfl := r0.sc; obtain rfl := r1.sc
    obtain ⟨m, hm⟩ := hp.max
    have hlen := Lib.splitB_all ⟨sep.toArray⟩ (by simpa [ByteArray.size] using h1) 0 (Lib.countB ⟨l.toArray⟩ ⟨sep.toArray⟩) ⟨l.toArray⟩ rfl
    refine ⟨_, _, _, Nat.le_refl _, ?_, (Tryz.strings_Split ⟨l.toArray⟩ ⟨sep.toArray⟩ m w (by simpa [ByteArray.size] using hs) hm (by simpa [ByteArray.size] using h1)).mono fun e w' ⟨he, hw⟩ => ⟨by rw [he, hlen], hw⟩⟩
    intro i x hx
    simp [hx]
theorem PV.errS {Pr : Prot} {w : World} (h : PV Pr w) : ∃ t p, w.cell? ⟨1, 0, none⟩ = some (.iface t p) := by
  obtain ⟨t, p, hm⟩ := h.glob.2.2.2.1
  exact ⟨t, p, by simpa [glbB] using hm⟩
theorem PV.errR {Pr : Prot} {w : World} (h : PV Pr w) : ∃ t p, w.cell? ⟨2, 0, none⟩ = some (.iface t p) := by
  obtain ⟨t, p, hm⟩ := h.glob.2.2.2.2.1
  exact ⟨t, p, by simpa [glbB] using hm⟩
def atoiE (l : List UInt8) : TV := match Lib.atoiAll l with | .ok _ => .one (.d (.sc .nilIface)) | _ => .one (.d (.ifc 97 (.pp 0 fun _ => .sc .nilIface)))
theorem atoi_c (l : List UInt8) (hs : l.length ≤ 4294967296) : DCalls Tryz.prog 20 [tT l] fun ts => ts = [.one (.d (.sc (.int .i64 (atoiV l)))), atoiE l] := by
  match h : Lib.atoiAll l with
  | .ok v =>
    rw [show atoiV l = v by rw [atoiV, h], show atoiE l = .one (.d (.sc .nilIface)) by rw [atoiE, h]]
    refine DCalls.libP _ (fun Pr w vs hp hr => ?_) (by intro t ht; simp at ht; rcases ht with rfl | rfl <;> trivial)
    obtain ⟨v0, us, rfl, r0, hr⟩ := hr.inv
    obtain rfl := hr.inv0
    obtain rfl := r0.sc
    refine (Tryz.strconv_Atoi_ok ⟨l.toArray⟩ (by simp [ByteArray.size]; omega) v h w).mono ?_
    rintro e w' ⟨he, hw⟩
    have hb : Below w.heap.size w w' := by
      rcases hw with rfl | ⟨t, rfl⟩
      · exact Below.refl _ _
      · exact Lib.bytesWorld_below w 5 t
    exact ⟨[_, _], Pr, he, hb, PExt.refl _ _, fun b o hx => Nat.lt_of_lt_of_le (hp.lt b o hx) hb.size, TsRep.scs [_, _] (by simp [Value.oneCell'])⟩
  | Lib.NumEnd.syntax =>
    rw [show atoiV l = 0 by rw [atoiV, h], show atoiE l = .one (.d (.ifc 97 (.pp 0 fun _ => .sc .nilIface))) by rw [atoiE, h]]
    refine DCalls.libP _ (fun Pr w vs hp hr => ?_) (by intro t ht; simp at ht; rcases ht with rfl | rfl <;> trivial)
    obtain ⟨v0, us, rfl, r0, hr⟩ := hr.inv
    obtain rfl := hr.inv0
    obtain rfl := r0.sc
    obtain ⟨te, pe, hc⟩ := hp.errS
    refine (Tryz.strconv_Atoi_syntax ⟨l.toArray⟩ (by simp [ByteArray.size]; omega) h _ w hc (.inr ⟨te, pe, rfl⟩)).mono ?_
    rintro e w' ⟨n, he, _, _, hb⟩
    exact ⟨[_, _], Pr, he, hb, PExt.refl _ _, fun b o hx => Nat.lt_of_lt_of_le (hp.lt b o hx) hb.size, TsRep.cons ⟨rfl, rfl⟩ (TsRep.cons ⟨_, rfl, n, 0, rfl, fun j hj => absurd hj (Nat.not_lt_zero j)⟩ TsRep.nil)⟩
  | .range =>
    rw [show atoiV l = Lib.atoiSat l by rw [atoiV, h], show atoiE l = .one (.d (.ifc 97 (.pp 0 fun _ => .sc .nilIface))) by rw [atoiE, h]]
    refine DCalls.libP _ (fun Pr w vs hp hr => ?_) (by intro t ht; simp at ht; rcases ht with rfl | rfl <;> trivial)
    obtain ⟨v0, us, rfl, r0, hr⟩ := hr.inv
    obtain rfl := hr.inv0
    obtain rfl := r0.sc
    obtain ⟨te, pe, hc⟩ := hp.errR
    refine (Tryz.strconv_Atoi_range ⟨l.toArray⟩ (by simp [ByteArray.size]; omega) h _ w hc (.inr ⟨te, pe, rfl⟩)).mono ?_
    rintro e w' ⟨n, he, _, _, hb⟩
    exact ⟨[_, _], Pr, he, hb, PExt.refl _ _, fun b o hx => Nat.lt_of_lt_of_le (hp.lt b o hx) hb.size, TsRep.cons ⟨rfl, rfl⟩ (TsRep.cons ⟨_, rfl, n, 0, rfl, fun j hj => absurd hj (Nat.not_lt_zero j)⟩ TsRep.nil)⟩
theorem trim_c (l cs : List UInt8) (hl : l.length ≤ 9223372036854775807) (hc : cs.length < 4294967281) (ha : ∀ b ∈ cs, b.toNat < 128) : DCalls Tryz.prog 33 [tT l, tT cs] fun ts => ts = [tT (Lib.trimS l cs)] :=
  DCalls.lib1 rfl fun Pr w vs hp hr => by
    obtain ⟨v0, us, rfl, r0, hr⟩ := hr.inv
    obtain ⟨v1, us, rfl, r1, hr⟩ := hr.inv
    obtain rfl := hr.inv0
    obtain rfl := r0.sc; obtain rfl := r1.sc
    exact Any.strings_Trim_laid Tryz.lays160 (by kernel_rfl) ⟨l.toArray⟩ ⟨cs.toArray⟩ w (by simpa [ByteArray.size] using hl) (by simpa [ByteArray.size] using hc) fun j b hb => ha b (by have := List.mem_of_getElem? hb; simpa using this)
end Go.Proofs.YtpgkbnefhhcfcaaGreatDoor.DL
