/- The library's functions, as calls of data: strings.Join, strings.Cut, strings.Contains, strings.CutPrefix, strings.TrimLeft, strconv.FormatInt, strconv.ParseInt. -/
import Derived.Test.YtkjekbgfmkfkjaaDoorD38
import Derived.Test.YtkjekbgfmkfkjaaDoorSh
import Derived.WalkSmall
import Derived.Lib.SplitLaws
namespace Go.Proofs.YtkjekbgfmkfkjaaDoor.DL
open Go.RowKit Go.Sort
set_option linter.unusedVariables false
set_option linter.unusedSimpArgs false
set_option linter.constructorNameAsVariable false

theorem cell_block {w : World} {g : Nat} {arr : List Value} (h0 : arr ≠ []) (h : ∀ o, w.cell? ⟨g, o, none⟩ = arr[o]?) : ∃ t z, w.heap[g]? = some (.cells arr.toArray t z) := by
  have hz := h 0
  unfold World.cell? at h hz
  cases hb : w.heap[g]? with
  | none =>
    rw [hb] at hz
    cases arr with
    | nil => exact absurd rfl h0
    | cons x r => simp at hz
  | some b =>
    rw [hb] at hz
    simp only [hb] at h
    cases b with
    | cells cs t z =>
      refine ⟨t, z, ?_⟩
      have : cs = arr.toArray := by
        apply Array.ext_getElem?
        intro o
        have := h o
        simpa using this
      rw [this]
    | _ =>
      cases arr with
      | nil => exact absurd rfl h0
      | cons x r => simp at hz

theorem PV.max {Pr : Prot} {w : World} (h : PV Pr w) : ∃ m, w.cell? ⟨2, 0, none⟩ = some (.int .i64 m) := by
  obtain ⟨m, hm⟩ := h.glob.2.1
  exact ⟨m, by simpa [glbB] using hm⟩
theorem gTab : Tryd.prog.globalNamed "internal/strconv.uint64pow10" = some 5 := by kernel_rfl
theorem PV.tab {Pr : Prot} {w : World} (h : PV Pr w) : Lib.TabIs Tryd.prog w "internal/strconv.uint64pow10" .u64 Lib.pow10Tab := by
  have hc := h.glob.2.2.1
  have hc : ∀ o, w.cell? ⟨5, o, none⟩ = (Lib.pow10Tab.map fun z => Value.int .u64 z)[o]? := fun o => by
    have := hc o
    simpa [glbB] using this
  obtain ⟨t, z, hb⟩ := cell_block (by decide) hc
  unfold Lib.TabIs World.var?
  rw [gTab]
  simp only [Option.bind_some, hb]

theorem below_grow (w : World) (k : Nat) (os : Array Obj) : Below w.heap.size w (grow (w.drewN k) os) := by
  refine ⟨rfl, rfl, rfl, by simp [grow], fun i hi => ?_⟩
  show (w.heap ++ os)[i]? = w.heap[i]?
  rw [Array.getElem?_append_left hi]

theorem formatInt_c (n : Int) (h0 : -9223372036854775808 ≤ n) (h1 : n ≤ 9223372036854775807) : DCalls Tryd.prog 74 [.one (.d (.sc (.int .i64 n))), .one (.d (.sc (.int .i64 10)))] fun ts => ts = [tT (Lib.itoa n)] :=
  DCalls.lib1 rfl fun Pr w vs hp hr => by
    obtain ⟨v0, us, rfl, r0, hr⟩ := hr.inv
    obtain ⟨v1, us, rfl, r1, hr⟩ := hr.inv
    obtain rfl := hr.inv0
    obtain rfl := r0.sc; obtain rfl := r1.sc
    refine (Tryd.strconv_FormatInt_10 n h0 h1 w hp.tab).mono ?_
    rintro e w' ⟨he, k, os, rfl⟩
    exact ⟨he, below_grow w k os⟩

theorem cut_c (l sep : List UInt8) (hs : l.length < 4294967281) : DCalls Tryd.prog 59 [tT l, tT sep] fun ts => ts = [tT (Lib.cut l sep).1, tT (Lib.cut l sep).2.1, .one (.d (.sc (.bool (Lib.cut l sep).2.2)))] :=
  DCalls.libP _ (fun Pr w vs hp hr => by
    obtain ⟨v0, us, rfl, r0, hr⟩ := hr.inv
    obtain ⟨v1, us, rfl, r1, hr⟩ := hr.inv
    obtain rfl := hr.inv0
    obtain rfl := r0.sc; obtain rfl := r1.sc
    obtain ⟨m, hm⟩ := hp.max
    refine (Tryd.strings_Cut ⟨l.toArray⟩ ⟨sep.toArray⟩ m w (by simpa [ByteArray.size] using hs) hm).mono ?_
    rintro e w' ⟨he, k, rfl⟩
    exact ⟨[_, _, _], Pr, he, ⟨rfl, rfl, rfl, Nat.le_refl _, fun _ _ => rfl⟩, PExt.refl _ _, hp.lt, TsRep.scs [_, _, _] (by simp [Value.oneCell'])⟩) (by intro t ht; simp at ht; rcases ht with rfl | rfl | rfl <;> trivial)

theorem trimLeft_c (l : List UInt8) (c : UInt8) (hc : c.toNat < 128) : DCalls Tryd.prog 69 [tT l, tT [c]] fun ts => ts = [tT (Lib.trimLeftB l c)] :=
  DCalls.lib1 rfl fun Pr w vs hp hr => by
    obtain ⟨v0, us, rfl, r0, hr⟩ := hr.inv
    obtain ⟨v1, us, rfl, r1, hr⟩ := hr.inv
    obtain rfl := hr.inv0
    obtain rfl := r0.sc; obtain rfl := r1.sc
    refine (Tryd.strings_TrimLeft_one ⟨l.toArray⟩ c hc w).mono ?_
    rintro e w' ⟨he, rfl⟩
    exact ⟨he, Below.refl _ _⟩
theorem cutPrefix_c (l p : List UInt8) : DCalls Tryd.prog 67 [tT l, tT p] fun ts => ts = [tT (Lib.trimPrefix l p), .one (.d (.sc (.bool (Lib.hasPrefix l p))))] :=
  DCalls.libP _ (fun Pr w vs hp hr => by
    obtain ⟨v0, us, rfl, r0, hr⟩ := hr.inv
    obtain ⟨v1, us, rfl, r1, hr⟩ := hr.inv
    obtain rfl := hr.inv0
    obtain rfl := r0.sc; obtain rfl := r1.sc
    refine (Tryd.strings_CutPrefix ⟨l.toArray⟩ ⟨p.toArray⟩ w).mono ?_
    rintro e w' ⟨he, rfl⟩
    exact ⟨[_, _], Pr, he, Below.refl _ _, PExt.refl _ _, hp.lt, TsRep.scs [_, _] (by simp [Value.oneCell'])⟩) (by intro t ht; simp at ht; rcases ht with rfl | rfl <;> trivial)
theorem mul64_c (x y : Nat) (hx : x < 18446744073709551616) (hy : y < 18446744073709551616) : DCalls Tryd.prog 76 [.one (.d (.sc (.int .u64 x))), .one (.d (.sc (.int .u64 y)))] fun ts => ts = [.one (.d (.sc (.int .u64 ((x * y / 18446744073709551616 : Nat) : Int)))), .one (.d (.sc (.int .u64 ((x * y % 18446744073709551616 : Nat) : Int))))] :=
  DCalls.libP _ (fun Pr w vs hp hr => by
    obtain ⟨v0, us, rfl, r0, hr⟩ := hr.inv
    obtain ⟨v1, us, rfl, r1, hr⟩ := hr.inv
    obtain rfl := hr.inv0
    obtain rfl := r0.sc; obtain rfl := r1.sc
    refine (Tryd.bits_Mul64 x y hx hy w).mono ?_
    rintro e w' ⟨he, rfl⟩
    exact ⟨[_, _], Pr, he, Below.refl _ _, PExt.refl _ _, hp.lt, TsRep.scs [_, _] (by simp [Value.oneCell'])⟩) (by intro t ht; simp at ht; rcases ht with rfl | rfl <;> trivial)
theorem parseInt_c (l : List UInt8) (v : Int) (hl : l.length ≤ 9223372036854775806) (hv : Lib.parseIntB 64 l = .ok v) : DCalls Tryd.prog 70 [tT l, .one (.d (.sc (.int .i64 10))), .one (.d (.sc (.int .i64 64)))] fun ts => ts = [.one (.d (.sc (.int .i64 v))), .one (.d (.sc .nilIface))] :=
  DCalls.libP _ (fun Pr w vs hp hr => by
    obtain ⟨v0, us, rfl, r0, hr⟩ := hr.inv
    obtain ⟨v1, us, rfl, r1, hr⟩ := hr.inv
    obtain ⟨v2, us, rfl, r2, hr⟩ := hr.inv
    obtain rfl := hr.inv0
    obtain rfl := r0.sc; obtain rfl := r1.sc; obtain rfl := r2.sc
    refine (Tryd.strconv_ParseInt_10_at64_ok ⟨l.toArray⟩ (by simpa [ByteArray.size] using hl) v hv w).mono ?_
    rintro e w' ⟨he, hw⟩
    have hb : Below w.heap.size w w' := by
      rcases hw with rfl | ⟨t, rfl⟩
      · exact Below.refl _ _
      · exact Lib.bytesWorld_below w 5 t
    exact ⟨[_, _], Pr, he, hb, PExt.refl _ _, fun b o hx => Nat.lt_of_lt_of_le (hp.lt b o hx) hb.size, TsRep.scs [_, _] (by simp [Value.oneCell'])⟩) (by intro t ht; simp at ht; rcases ht with rfl | rfl <;> trivial)
end Go.Proofs.YtkjekbgfmkfkjaaDoor.DL
