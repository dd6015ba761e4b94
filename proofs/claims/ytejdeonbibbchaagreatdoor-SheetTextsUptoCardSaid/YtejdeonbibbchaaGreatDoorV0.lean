/- The library's functions, as calls of data: strings.Join, strings.Contains, strings.CutSuffix, strings.Split, strings.SplitN, strings.genSplit, strconv.FormatInt, strconv.ParseInt. -/
import Derived.Test.YtejdeonbibbchaaGreatDoorD41
import Derived.Test.YtejdeonbibbchaaGreatDoorSh
import Derived.WalkSmall
import Derived.Lib.SplitLaws
set_option linter.unusedVariables false
set_option linter.unusedSimpArgs false
set_option linter.constructorNameAsVariable false
namespace Go.Proofs.YtejdeonbibbchaaGreatDoor.DL
open Go.RowKit Go.Sort

theorem cell_block {w : World} {g : Nat} {arr : List Value} (h0 : arr ≠ []) (h : ∀ o, w.cell? ⟨g, o, none⟩ = arr[o]?) : ∃ t z, w.heap[g]? = some (.cells arr.toArray t z) := by
  have hz := h 0
  unfold World.cell? at h hz
  cases hb : w.heap[g]? with
  | none =>
    rw [hb] at hz
    cases arr with
    | nil => exact absurd rfl h0
    | cons x r => simp at hz
  | some b =>
    rw [hb] at hz
    simp only [hb] at h
    cases b with
    | cells cs t z =>
      refine ⟨t, z, ?_⟩
      have : cs = arr.toArray := by
        apply Array.ext_getElem?
        intro o
        have := h o
        simpa using this
      rw [this]
    | _ =>
      cases arr with
      | nil => exact absurd rfl h0
      | cons x r => simp at hz

theorem PV.max {Pr : Prot} {w : World} (h : PV Pr w) : ∃ m, w.cell? ⟨0, 0, none⟩ = some (.int .i64 m) := by
  obtain ⟨m, hm⟩ := h.glob.2.1
  exact ⟨m, by simpa [glbB] using hm⟩
theorem gTab : Tryz.prog.globalNamed "internal/strconv.uint64pow10" = some 3 := by kernel_rfl
theorem PV.tab {Pr : Prot} {w : World} (h : PV Pr w) : Lib.TabIs Tryz.prog w "internal/strconv.uint64pow10" .u64 Lib.pow10Tab := by
  have hc := h.glob.2.2.1
  have hc : ∀ o, w.cell? ⟨3, o, none⟩ = (Lib.pow10Tab.map fun z => Value.int .u64 z)[o]? := fun o => by
    have := hc o
    simpa [glbB] using this
  obtain ⟨t, z, hb⟩ := cell_block (by decide) hc
  unfold Lib.TabIs World.var?
  rw [gTab]
  simp only [Option.bind_some, hb]

theorem below_grow (w : World) (k : Nat) (os : Array Obj) : Below w.heap.size w (grow (w.drewN k) os) := by
  refine ⟨rfl, rfl, rfl, by simp [grow], fun i hi => ?_⟩
  show (w.heap ++ os)[i]? = w.heap[i]?
  rw [Array.getElem?_append_left hi]

theorem formatInt_c (n : Int) (h0 : -9223372036854775808 ≤ n) (h1 : n ≤ 9223372036854775807) : DCalls Tryz.prog 40 [.one (.d (.sc (.int .i64 n))), .one (.d (.sc (.int .i64 10)))] fun ts => ts = [tT (Lib.itoa n)] :=
  DCalls.lib1 rfl fun Pr w vs hp hr => by
    obtain ⟨v0, us, rfl, r0, hr⟩ := hr.inv
    obtain ⟨v1, us, rfl, r1, hr⟩ := hr.inv
    obtain rfl := hr.inv0
    obtain rfl := r0.sc; obtain rfl := r1.sc
    refine (Tryz.strconv_FormatInt_10 n h0 h1 w hp.tab).mono ?_
    rintro e w' ⟨he, k, os, rfl⟩
    exact ⟨he, below_grow w k os⟩

theorem join_c (xs : List (List UInt8)) (sep : List UInt8) (el : Nat → Nat → DV) (hel : ∀ (i : Nat) x, xs[i]? = some x → el i 0 = .sc (.string ⟨x.toArray⟩)) (hN : xs.length ≤ 140737488355328) (hlen : (Lib.join xs sep).length ≤ 140737488355328) :
    DCalls Tryz.prog 47 [.one (.d (.sl xs.length 1 el)), tT sep] fun ts => ts = [tT (Lib.join xs sep)] :=
  DCalls.lib1 rfl fun Pr w vs hp hr => by
    obtain ⟨v0, us, rfl, r0, hr⟩ := hr.inv
    obtain ⟨v1, us, rfl, r1, hr⟩ := hr.inv
    obtain rfl := hr.inv0
    obtain rfl := r1.sc
    obtain ⟨a, c, rfl, hc, hh⟩ := r0
    by_cases h0 : 0 < xs.length
    · obtain ⟨b, o, rfl, hcell⟩ := hh h0
      have hmap : (xs.map fun x => (⟨x.toArray⟩ : ByteArray)).map (·.data.toList) = xs := by
        rw [List.map_map]
        conv => rhs; rw [← List.map_id xs]
        apply List.map_congr_left
        intro x _
        simp
      have := Tryz.strings_Join b o c (xs.map fun x => ⟨x.toArray⟩) ⟨sep.toArray⟩ w (fun j x hx => by
          rw [List.getElem?_map, Option.map_eq_some_iff] at hx
          obtain ⟨y, hy, rfl⟩ := hx
          obtain ⟨hlt, _⟩ := List.getElem?_eq_some_iff.1 hy
          obtain ⟨_, u, hu, hd⟩ := hcell j hlt 0 (by omega)
          rw [hel j y hy] at hd
          obtain rfl := hd.2
          rw [Nat.mul_one, Nat.add_zero] at hu
          exact hu)
        (hp.lt b _ (hcell 0 h0 0 (by omega)).1) (by simpa using hN) (by simpa using hc) (by rw [hmap]; simpa using hlen)
      rw [hmap, List.length_map] at this
      exact this
    · have hx : xs = [] := List.eq_nil_of_length_eq_zero (by omega)
      subst hx
      exact (Tryz.strings_Join_none a c ⟨sep.toArray⟩ w).mono fun e w' ⟨he, hw⟩ => ⟨he, hw ▸ Below.refl _ _⟩
theorem contains_c (l sub : List UInt8) (hs : l.length < 4294967281) : DCalls Tryz.prog 44 [tT l, tT sub] fun ts => ts = [.one (.d (.sc (.bool (Lib.contains l sub))))] :=
  DCalls.lib1 rfl fun Pr w vs hp hr => by
    obtain ⟨v0, us, rfl, r0, hr⟩ := hr.inv
    obtain ⟨v1, us, rfl, r1, hr⟩ := hr.inv
    obtain rfl := hr.inv0
    obtain rfl := r0.sc; obtain rfl := r1.sc
    obtain ⟨m, hm⟩ := hp.max
    refine (Tryz.strings_Contains ⟨l.toArray⟩ ⟨sub.toArray⟩ m w (by simpa [ByteArray.size] using hs) hm).mono ?_
    rintro e w' ⟨he, rfl⟩
    exact ⟨he, Below.refl _ _⟩
theorem parseInt_c (l : List UInt8) (v : Int) (hl : l.length ≤ 9223372036854775806) (hv : Lib.parseIntB 64 l = .ok v) : DCalls Tryz.prog 39 [tT l, .one (.d (.sc (.int .i64 10))), .one (.d (.sc (.int .i64 64)))] fun ts => ts = [.one (.d (.sc (.int .i64 v))), .one (.d (.sc .nilIface))] :=
  DCalls.libP _ (fun Pr w vs hp hr => by
    obtain ⟨v0, us, rfl, r0, hr⟩ := hr.inv
    obtain ⟨v1, us, rfl, r1, hr⟩ := hr.inv
    obtain ⟨v2, us, rfl, r2, hr⟩ := hr.inv
    obtain rfl := hr.inv0
    obtain rfl := r0.sc; obtain rfl := r1.sc; obtain rfl := r2.sc
    refine (Tryz.strconv_ParseInt_10_at64_ok ⟨l.toArray⟩ (by simpa [ByteArray.size] using hl) v hv w).mono ?_
    rintro e w' ⟨he, hw⟩
    have hb : Below w.heap.size w w' := by
      rcases hw with rfl | ⟨t, rfl⟩
      · exact Below.refl _ _
      · exact Lib.bytesWorld_below w 5 t
    exact ⟨[_, _], Pr, he, hb, PExt.refl _ _, fun b o hx => Nat.lt_of_lt_of_le (hp.lt b o hx) hb.size, TsRep.scs [_, _] (by simp [Value.oneCell'])⟩) (by intro t ht; simp at ht; rcases ht with rfl | rfl <;> trivial)
/-- A text, split. -/
def splitL (l sep : List UInt8) : List (List UInt8) := (Lib.splitB ⟨sep.toArray⟩ 0 (Lib.countB ⟨l.toArray⟩ ⟨sep.toArray⟩) ⟨l.toArray⟩).map (·.data.toList)
/-- What is handed back is new memory that holds texts. -/
theorem DCalls.strs {P : Program} {f : FuncId} {args : List TV} (L : List ByteArray)
    (h : ∀ Pr w vs, PV Pr w → TsRep γ0 Pr w args vs → ∃ cap cells t, L.length ≤ cap ∧ (∀ (i : Nat) x, L[i]? = some x → cells[i]? = some (.string x)) ∧ Calls P f vs.toArray w fun e w' => e = .returned (.slice (some ⟨w.heap.size, 0, none⟩) L.length cap) ∧ w' = w.alloc (.cells cells t)) :
    DCalls P f args fun ts => ts = [tL (L.map (·.data.toList))] :=
  DCalls.libP _ (fun Pr w vs hp hr => by
    obtain ⟨cap, cells, t, hcap, hc, hcalls⟩ := h Pr w vs hp hr
    refine hcalls.mono ?_
    rintro e w' ⟨he, rfl⟩
    refine ⟨[_], fun g o => Pr g o ∨ g = w.heap.size, he, (Below.refl _ _).alloc (Nat.le_refl _) _, ⟨fun _ _ h => .inl h, fun g o h => h.imp id fun h => Nat.le_of_eq h.symm⟩, fun g o h => ?_, rfl, fun i t ht => ?_⟩
    · rcases h with h | rfl
      · exact Nat.lt_of_lt_of_le (hp.lt g o h) (by show w.heap.size ≤ (w.heap.push _).size; simp)
      · show w.heap.size < (w.heap.push _).size
        simp
    · match i, ht with
      | 0, ht =>
        obtain rfl : tL (L.map (·.data.toList)) = t := by simpa using ht
        refine ⟨_, rfl, _, _, by rw [List.length_map], by rw [List.length_map]; exact hcap, fun _ => ⟨w.heap.size, 0, rfl, fun p hp' q hq => ⟨.inr rfl, ?_⟩⟩⟩
        obtain rfl : q = 0 := by omega
        have hp2 : p < L.length := by simpa using hp'
        refine ⟨.string L[p], ?_, rfl, ?_⟩
        · rw [Lib.cell_of_heap (heap_alloc_new w _)]
          simpa using hc p L[p] (List.getElem?_eq_getElem hp2)
        · simp [List.getD_eq_getElem?_getD, hp2]
      | i + 1, ht => simp at ht) (by intro t ht; simp at ht; subst ht; trivial)
theorem cellsOf_get {L : List ByteArray} {n : Nat} (h : L.length ≤ n) : ∀ (i : Nat) x, L[i]? = some x → (Lib.cellsOf L n)[i]? = some (.string x) := fun i x hx => by
  have hi := (List.getElem?_eq_some_iff.1 hx).1
  have hg := (List.getElem?_eq_some_iff.1 hx).2
  simp [Lib.cellsOf, List.getElem?_append, hi, hg]
theorem splitB_le (sep : ByteArray) (sv : Nat) : ∀ (k : Nat) (s : ByteArray), (Lib.splitB sep sv k s).length ≤ k + 1
  | 0, s => by simp [Lib.splitB]
  | k + 1, s => by
    rw [Lib.splitB]
    split
    · simp
    · have := splitB_le sep sv k (s.extract ((Lib.indexB s sep).toNat + sep.size) s.size)
      simp; omega
theorem split_c (l sep : List UInt8) (h1 : 1 ≤ sep.length) (hs : l.length < 4294967281) : DCalls Tryz.prog 17 [tT l, tT sep] fun ts => ts = [tL (splitL l sep)] :=
  DCalls.strs _ fun Pr w vs hp hr => by
    obtain ⟨v0, us, rfl, r0, hr⟩ := hr.inv
    obtain ⟨v1, us, rfl, r1, hr⟩ := hr.inv
    obtain rfl := hr.inv0
    obtain rfl := r0.sc; obtain rfl := r1.sc
    obtain ⟨m, hm⟩ := hp.max
    have hlen := Lib.splitB_all ⟨sep.toArray⟩ (by simpa [ByteArray.size] using h1) 0 (Lib.countB ⟨l.toArray⟩ ⟨sep.toArray⟩) ⟨l.toArray⟩ rfl
    refine ⟨_, _, _, Nat.le_refl _, ?_, (Tryz.strings_Split ⟨l.toArray⟩ ⟨sep.toArray⟩ m w (by simpa [ByteArray.size] using hs) hm (by simpa [ByteArray.size] using h1)).mono fun e w' ⟨he, hw⟩ => ⟨by rw [he, hlen], hw⟩⟩
    intro i x hx
    simp [hx]
/-- A text, cut some times at most. -/
def splitNL (l sep : List UInt8) (n : Nat) : List (List UInt8) := (Lib.splitB ⟨sep.toArray⟩ 0 (min n (l.length + 1) - 1) ⟨l.toArray⟩).map (·.data.toList)
theorem splitN_c (l sep : List UInt8) (n : Nat) (h1 : 1 ≤ sep.length) (hs : l.length < 4294967281) (hn : 1 ≤ n) (hn63 : n ≤ 9223372036854775807) : DCalls Tryz.prog 19 [tT l, tT sep, .one (.d (.sc (.int .i64 n)))] fun ts => ts = [tL (splitNL l sep n)] :=
  DCalls.strs _ fun Pr w vs hp hr => by
    obtain ⟨v0, us, rfl, r0, hr⟩ := hr.inv
    obtain ⟨v1, us, rfl, r1, hr⟩ := hr.inv
    obtain ⟨v2, us, rfl, r2, hr⟩ := hr.inv
    obtain rfl := hr.inv0
    obtain rfl := r0.sc; obtain rfl := r1.sc; obtain rfl := r2.sc
    obtain ⟨m, hm⟩ := hp.max
    have hle : (Lib.splitB ⟨sep.toArray⟩ 0 (min n (l.length + 1) - 1) ⟨l.toArray⟩).length ≤ min n (l.length + 1) := by
      have := splitB_le ⟨sep.toArray⟩ 0 (min n (l.length + 1) - 1) ⟨l.toArray⟩
      omega
    have c := Tryz.strings_SplitN ⟨l.toArray⟩ ⟨sep.toArray⟩ n m w (by simpa [ByteArray.size] using hs) hm (by simpa [ByteArray.size] using h1) hn hn63
    rw [show (⟨l.toArray⟩ : ByteArray).size = l.length by simp [ByteArray.size]] at c
    exact ⟨_, _, _, hle, cellsOf_get hle, c⟩
/-- A text, cut behind each piece. -/
def splitAL (l sep : List UInt8) : List (List UInt8) := (Lib.splitB ⟨sep.toArray⟩ sep.length (Lib.countB ⟨l.toArray⟩ ⟨sep.toArray⟩) ⟨l.toArray⟩).map (·.data.toList)
theorem genSplit_c (l sep : List UInt8) (h1 : 1 ≤ sep.length) (hs : l.length < 4294967281) : DCalls Tryz.prog 37 [tT l, tT sep, .one (.d (.sc (.int .i64 sep.length))), .one (.d (.sc (.int .i64 (-1))))] fun ts => ts = [tL (splitAL l sep)] :=
  DCalls.strs _ fun Pr w vs hp hr => by
    obtain ⟨v0, us, rfl, r0, hr⟩ := hr.inv
    obtain ⟨v1, us, rfl, r1, hr⟩ := hr.inv
    obtain ⟨v2, us, rfl, r2, hr⟩ := hr.inv
    obtain ⟨v3, us, rfl, r3, hr⟩ := hr.inv
    obtain rfl := hr.inv0
    obtain rfl := r0.sc; obtain rfl := r1.sc; obtain rfl := r2.sc; obtain rfl := r3.sc
    obtain ⟨m, hm⟩ := hp.max
    have h1' : 1 ≤ (⟨sep.toArray⟩ : ByteArray).size := by simpa [ByteArray.size] using h1
    have hlen := Lib.splitB_all ⟨sep.toArray⟩ h1' sep.length (Lib.countB ⟨l.toArray⟩ ⟨sep.toArray⟩) ⟨l.toArray⟩ rfl
    have hle := Lib.countB_le ⟨sep.toArray⟩ h1' _ ⟨l.toArray⟩ (Nat.le_refl _)
    have c := Tryz.strings_genSplit ⟨l.toArray⟩ ⟨sep.toArray⟩ sep.length (-1) (Lib.countB ⟨l.toArray⟩ ⟨sep.toArray⟩ + 1) m w (by simpa [ByteArray.size] using hs) hm h1' (by simp [ByteArray.size]) (by decide) (by decide) (by rw [if_pos (by decide)]; omega)
    rw [Nat.add_sub_cancel] at c
    exact ⟨_, _, _, Nat.le_of_eq hlen, cellsOf_get (Nat.le_of_eq hlen), c⟩
theorem cutSuffix_c (l p : List UInt8) (hl : l.length ≤ 9223372036854775807) : DCalls Tryz.prog 16 [tT l, tT p] fun ts => ts = [tT (Lib.trimSuffix l p), .one (.d (.sc (.bool (Lib.hasSuffix l p))))] :=
  DCalls.libP _ (fun Pr w vs hp hr => by
    obtain ⟨v0, us, rfl, r0, hr⟩ := hr.inv
    obtain ⟨v1, us, rfl, r1, hr⟩ := hr.inv
    obtain rfl := hr.inv0
    obtain rfl := r0.sc; obtain rfl := r1.sc
    refine (Tryz.strings_CutSuffix ⟨l.toArray⟩ ⟨p.toArray⟩ w (by simpa [ByteArray.size] using hl)).mono ?_
    rintro e w' ⟨he, rfl⟩
    exact ⟨[_, _], Pr, he, Below.refl _ _, PExt.refl _ _, hp.lt, TsRep.scs [_, _] (by simp [Value.oneCell'])⟩) (by intro t ht; simp at ht; rcases ht with rfl | rfl <;> trivial)
theorem PV.errS {Pr : Prot} {w : World} (h : PV Pr w) : ∃ t p, w.cell? ⟨1, 0, none⟩ = some (.iface t p) := by
  obtain ⟨t, p, hm⟩ := h.glob.2.2.2.1
  exact ⟨t, p, by simpa [glbB] using hm⟩
theorem PV.errR {Pr : Prot} {w : World} (h : PV Pr w) : ∃ t p, w.cell? ⟨2, 0, none⟩ = some (.iface t p) := by
  obtain ⟨t, p, hm⟩ := h.glob.2.2.2.2
  exact ⟨t, p, by simpa [glbB] using hm⟩
/-- An error of the library's. -/
abbrev errV : TV := .one (.d (.ifc 104 (.pp 0 fun _ => .sc .nilIface)))
def parseV (l : List UInt8) : Int := match Lib.parseIntB 64 l with | .ok v => v | Lib.NumEnd.syntax => 0 | .range => Lib.intSat 64 l
theorem parseErr_c (l : List UInt8) (hl : l.length ≤ 4294967296) (hv : ∀ v, Lib.parseIntB 64 l ≠ .ok v) : DCalls Tryz.prog 39 [tT l, .one (.d (.sc (.int .i64 10))), .one (.d (.sc (.int .i64 64)))] fun ts => ts = [.one (.d (.sc (.int .i64 (parseV l)))), errV] := by
  match h : Lib.parseIntB 64 l with
  | .ok v => exact absurd h (hv v)
  | Lib.NumEnd.syntax =>
    rw [show parseV l = 0 by rw [parseV, h]]
    refine DCalls.libP _ (fun Pr w vs hp hr => ?_) (by intro t ht; simp at ht; rcases ht with rfl | rfl <;> trivial)
    obtain ⟨v0, us, rfl, r0, hr⟩ := hr.inv
    obtain ⟨v1, us, rfl, r1, hr⟩ := hr.inv
    obtain ⟨v2, us, rfl, r2, hr⟩ := hr.inv
    obtain rfl := hr.inv0
    obtain rfl := r0.sc; obtain rfl := r1.sc; obtain rfl := r2.sc
    obtain ⟨te, pe, hc⟩ := hp.errS
    refine (Tryz.strconv_ParseInt_10_at64_syntax ⟨l.toArray⟩ (by simp [ByteArray.size]; omega) h _ w hc (.inr ⟨te, pe, rfl⟩)).mono ?_
    rintro e w' ⟨n, he, _, _, hb⟩
    exact ⟨[_, _], Pr, he, hb, PExt.refl _ _, fun b o hx => Nat.lt_of_lt_of_le (hp.lt b o hx) hb.size, TsRep.cons ⟨rfl, rfl⟩ (TsRep.cons ⟨_, rfl, n, 0, rfl, fun j hj => absurd hj (Nat.not_lt_zero j)⟩ TsRep.nil)⟩
  | .range =>
    rw [show parseV l = Lib.intSat 64 l by rw [parseV, h]]
    refine DCalls.libP _ (fun Pr w vs hp hr => ?_) (by intro t ht; simp at ht; rcases ht with rfl | rfl <;> trivial)
    obtain ⟨v0, us, rfl, r0, hr⟩ := hr.inv
    obtain ⟨v1, us, rfl, r1, hr⟩ := hr.inv
    obtain ⟨v2, us, rfl, r2, hr⟩ := hr.inv
    obtain rfl := hr.inv0
    obtain rfl := r0.sc; obtain rfl := r1.sc; obtain rfl := r2.sc
    obtain ⟨te, pe, hc⟩ := hp.errR
    refine (Tryz.strconv_ParseInt_10_at64_range ⟨l.toArray⟩ (by simp [ByteArray.size]; omega) h _ w hc (.inr ⟨te, pe, rfl⟩)).mono ?_
    rintro e w' ⟨n, he, _, _, hb⟩
    exact ⟨[_, _], Pr, he, hb, PExt.refl _ _, fun b o hx => Nat.lt_of_lt_of_le (hp.lt b o hx) hb.size, TsRep.cons ⟨rfl, rfl⟩ (TsRep.cons ⟨_, rfl, n, 0, rfl, fun j hj => absurd hj (Nat.not_lt_zero j)⟩ TsRep.nil)⟩
end Go.Proofs.YtejdeonbibbchaaGreatDoor.DL
