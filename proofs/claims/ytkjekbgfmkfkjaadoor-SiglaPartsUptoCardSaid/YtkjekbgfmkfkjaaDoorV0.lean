/- The library's functions, as calls of data: strings.Join, strings.Cut, strings.Contains, strings.CutPrefix, strings.TrimLeft, strconv.FormatInt, strconv.ParseInt. -/
import Derived.Test.YtkjekbgfmkfkjaaDoorD36
import Derived.Test.YtkjekbgfmkfkjaaDoorSh
import Derived.Test.YtkjekbgfmkfkjaaDoorD15
import Derived.WalkSmall
import Derived.Lib.SplitLaws
namespace Go.Proofs.YtkjekbgfmkfkjaaDoor.DL
open Go.RowKit Go.Sort
set_option linter.unusedVariables false
set_option linter.unusedSimpArgs false
set_option linter.constructorNameAsVariable false

theorem PV.max {Pr : Prot} {w : World} (h : PV Pr w) : ∃ m, w.cell? ⟨2, 0, none⟩ = some (.int .i64 m) := by
  obtain ⟨m, hm⟩ := h.glob.2
  exact ⟨m, by simpa [glbB] using hm⟩
theorem join_c (xs : List (List UInt8)) (sep : List UInt8) (el : Nat → Nat → DV) (hel : ∀ (i : Nat) x, xs[i]? = some x → el i 0 = .sc (.string ⟨x.toArray⟩)) (hN : xs.length ≤ 140737488355328) (hlen : (Lib.join xs sep).length ≤ 140737488355328) :
    DCalls Tryd.prog 51 [.one (.d (.sl xs.length 1 el)), tT sep] fun ts => ts = [tT (Lib.join xs sep)] :=
  DCalls.lib1 rfl fun Pr w vs hp hr => by
    obtain ⟨v0, us, rfl, r0, hr⟩ := hr.inv
    obtain ⟨v1, us, rfl, r1, hr⟩ := hr.inv
    obtain rfl := hr.inv0
    obtain rfl := r1.sc
    obtain ⟨a, c, rfl, hc, hh⟩ := r0
    by_cases h0 : 0 < xs.length
    · obtain ⟨b, o, rfl, hcell⟩ := hh h0
      have hmap : (xs.map fun x => (⟨x.toArray⟩ : ByteArray)).map (·.data.toList) = xs := by
        rw [List.map_map]
        conv => rhs; rw [← List.map_id xs]
        apply List.map_congr_left
        intro x _
        simp
      have := Tryd.strings_Join b o c (xs.map fun x => ⟨x.toArray⟩) ⟨sep.toArray⟩ w (fun j x hx => by
          rw [List.getElem?_map, Option.map_eq_some_iff] at hx
          obtain ⟨y, hy, rfl⟩ := hx
          obtain ⟨hlt, _⟩ := List.getElem?_eq_some_iff.1 hy
          obtain ⟨_, u, hu, hd⟩ := hcell j hlt 0 (by omega)
          rw [hel j y hy] at hd
          obtain rfl := hd.2
          rw [Nat.mul_one, Nat.add_zero] at hu
          exact hu)
        (hp.lt b _ (hcell 0 h0 0 (by omega)).1) (by simpa using hN) (by simpa using hc) (by rw [hmap]; simpa using hlen)
      rw [hmap, List.length_map] at this
      exact this
    · have hx : xs = [] := List.eq_nil_of_length_eq_zero (by omega)
      subst hx
      exact (Tryd.strings_Join_none a c ⟨sep.toArray⟩ w).mono fun e w' ⟨he, hw⟩ => ⟨he, hw ▸ Below.refl _ _⟩
theorem cut_c (l sep : List UInt8) (hs : l.length < 4294967281) : DCalls Tryd.prog 59 [tT l, tT sep] fun ts => ts = [tT (Lib.cut l sep).1, tT (Lib.cut l sep).2.1, .one (.d (.sc (.bool (Lib.cut l sep).2.2)))] :=
  DCalls.libP _ (fun Pr w vs hp hr => by
    obtain ⟨v0, us, rfl, r0, hr⟩ := hr.inv
    obtain ⟨v1, us, rfl, r1, hr⟩ := hr.inv
    obtain rfl := hr.inv0
    obtain rfl := r0.sc; obtain rfl := r1.sc
    obtain ⟨m, hm⟩ := hp.max
    refine (Tryd.strings_Cut ⟨l.toArray⟩ ⟨sep.toArray⟩ m w (by simpa [ByteArray.size] using hs) hm).mono ?_
    rintro e w' ⟨he, k, rfl⟩
    exact ⟨[_, _, _], Pr, he, ⟨rfl, rfl, rfl, Nat.le_refl _, fun _ _ => rfl⟩, PExt.refl _ _, hp.lt, TsRep.scs [_, _, _] (by simp [Value.oneCell'])⟩) (by intro t ht; simp at ht; rcases ht with rfl | rfl | rfl <;> trivial)

theorem contains_c (l sub : List UInt8) (hs : l.length < 4294967281) : DCalls Tryd.prog 85 [tT l, tT sub] fun ts => ts = [.one (.d (.sc (.bool (Lib.contains l sub))))] :=
  DCalls.lib1 rfl fun Pr w vs hp hr => by
    obtain ⟨v0, us, rfl, r0, hr⟩ := hr.inv
    obtain ⟨v1, us, rfl, r1, hr⟩ := hr.inv
    obtain rfl := hr.inv0
    obtain rfl := r0.sc; obtain rfl := r1.sc
    obtain ⟨m, hm⟩ := hp.max
    refine (Tryd.strings_Contains ⟨l.toArray⟩ ⟨sub.toArray⟩ m w (by simpa [ByteArray.size] using hs) hm).mono ?_
    rintro e w' ⟨he, rfl⟩
    exact ⟨he, Below.refl _ _⟩
/-- A text, split. -/
def splitL (l sep : List UInt8) : List (List UInt8) := (Lib.splitB ⟨sep.toArray⟩ 0 (Lib.countB ⟨l.toArray⟩ ⟨sep.toArray⟩) ⟨l.toArray⟩).map (·.data.toList)
theorem splitL_len (l sep : List UInt8) (h1 : 1 ≤ sep.length) : (splitL l sep).length = Lib.countB ⟨l.toArray⟩ ⟨sep.toArray⟩ + 1 := by
  rw [splitL, List.length_map, Lib.splitB_all _ (by simpa [ByteArray.size] using h1) 0 _ _ rfl]
theorem split_c (l sep : List UInt8) (h1 : 1 ≤ sep.length) (hs : l.length < 4294967281) : DCalls Tryd.prog 53 [tT l, tT sep] fun ts => ts = [tL (splitL l sep)] :=
  DCalls.libP _ (fun Pr w vs hp hr => by
    obtain ⟨v0, us, rfl, r0, hr⟩ := hr.inv
    obtain ⟨v1, us, rfl, r1, hr⟩ := hr.inv
    obtain rfl := hr.inv0
    obtain rfl := r0.sc; obtain rfl := r1.sc
    obtain ⟨m, hm⟩ := hp.max
    have hlen := splitL_len l sep h1
    refine (Tryd.strings_Split ⟨l.toArray⟩ ⟨sep.toArray⟩ m w (by simpa [ByteArray.size] using hs) hm (by simpa [ByteArray.size] using h1)).mono ?_
    rintro e w' ⟨he, rfl⟩
    refine ⟨[_], fun g o => Pr g o ∨ g = w.heap.size, he, (Below.refl _ _).alloc (Nat.le_refl _) _, ⟨fun _ _ h => .inl h, fun g o h => h.imp id fun h => Nat.le_of_eq h.symm⟩, fun g o h => ?_, rfl, fun i t ht => ?_⟩
    · rcases h with h | rfl
      · exact Nat.lt_of_lt_of_le (hp.lt g o h) (by show w.heap.size ≤ (w.heap.push _).size; simp)
      · show w.heap.size < (w.heap.push _).size
        simp
    · match i, ht with
      | 0, ht =>
        obtain rfl : tL (splitL l sep) = t := by simpa using ht
        refine ⟨_, rfl, _, _, by rw [hlen], by rw [hlen]; exact Nat.le_refl _, fun _ => ⟨w.heap.size, 0, rfl, fun p hp' q hq => ⟨.inr rfl, ?_⟩⟩⟩
        obtain rfl : q = 0 := by omega
        have hp2 : p < (Lib.splitB ⟨sep.toArray⟩ 0 (Lib.countB ⟨l.toArray⟩ ⟨sep.toArray⟩) ⟨l.toArray⟩).length := by simpa [splitL] using hp'
        refine ⟨.string (Lib.splitB ⟨sep.toArray⟩ 0 (Lib.countB ⟨l.toArray⟩ ⟨sep.toArray⟩) ⟨l.toArray⟩)[p], ?_, rfl, ?_⟩
        · rw [Lib.cell_of_heap (heap_alloc_new w _)]
          simp [hp2]
        · simp [splitL, List.getD_eq_getElem?_getD, hp2]
      | i + 1, ht => simp at ht) (by intro t ht; simp at ht; subst ht; trivial)
end Go.Proofs.YtkjekbgfmkfkjaaDoor.DL
