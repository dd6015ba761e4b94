/- Leaf: the plain law: what a page that is taken holds. No program in sight. -/
import Derived.Test.YtgjamldcglebjaaW
import Derived.Test.YtgjamldcglebjaaU
namespace Go.Proofs.Ytgjamldcglebjaa
open Go Go.RowKit Go.Proofs.Ytgjamldcglebjaa.DL
set_option linter.unusedVariables false

theorem dvd_of_amount {n u : Int} (h : amountB n u = true) : u ∣ n := Int.dvd_of_tmod_eq_zero ((amountB_iff _ _).1 h).2.2
theorem row_dvd {u : Int} {xs : List Int} (h : (rowA u xs).all amountP = true) : ∀ x ∈ xs, u ∣ x := fun x hx =>
  dvd_of_amount (List.all_eq_true.1 h (x, u) (List.mem_map.2 ⟨x, hx, rfl⟩))
theorem get_dvd {u : Int} {xs : List Int} (h : ∀ x ∈ xs, u ∣ x) (k : Nat) : u ∣ xs.getD k 0 := by
  by_cases hk : k < xs.length
  · have := h _ (List.getElem_mem hk)
    simpa [List.getD_eq_getElem?_getD, List.getElem?_eq_getElem hk] using this
  · simp [List.getD_eq_getElem?_getD, List.getElem?_eq_none (Nat.le_of_not_lt hk)]
theorem addE_dvd {u : Int} : ∀ (xs ys : List Int), (∀ x ∈ xs, u ∣ x) → (∀ y ∈ ys, u ∣ y) → ∀ z ∈ addE xs ys, u ∣ z
  | [], _, _, _, z, hz => by simp [addE] at hz
  | _ :: _, [], _, _, z, hz => by simp [addE] at hz
  | x :: xs, y :: ys, hx, hy, z, hz => by
    rcases List.mem_cons.1 (show z ∈ (x + y) :: addE xs ys from hz) with rfl | hz
    · exact Int.dvd_add (hx x (List.mem_cons_self ..)) (hy y (List.mem_cons_self ..))
    · exact addE_dvd xs ys (fun a ha => hx a (List.mem_cons_of_mem _ ha)) (fun a ha => hy a (List.mem_cons_of_mem _ ha)) z hz
theorem sE_dvd {u : Int} : ∀ (s : List Load) (left : List Int), (∀ x ∈ left, u ∣ x) → (∀ y ∈ s, ∀ x ∈ y.notes, u ∣ x) → ∀ x ∈ sE s left, u ∣ x
  | [], _, h, _ => h
  | y :: s, left, h, hs => sE_dvd s _ (addE_dvd left y.notes h (hs y (List.mem_cons_self ..))) fun x hx => hs x (List.mem_cons_of_mem _ hx)

/-- One series, shown tightly. -/
theorem shown_facts {unit r : Int} {left : List Int} (hu : 1 ≤ unit) (hu1 : unit ≤ 1073741823) (k : Nat) (hr : 0 ≤ room2 unit r (left.take k)) (hr1 : room2 unit r (left.take k) ≤ 1000000000000)
    (h0 : 0 ≤ left.getD k 0) (h1 : left.getD k 0 ≤ 1073741823) (hd : unit ∣ left.getD k 0) :
    0 ≤ shownAt unit r left k ∧ shownAt unit r left k ≤ left.getD k 0 ∧ (0 < left.getD k 0 → 0 < shownAt unit r left k) ∧ unit ∣ shownAt unit r left k := by
  have hm := more_eq hu hu1 hr hr1 h0 h1
  have hq := quo_bounds hr hu
  unfold shownAt
  generalize room2 unit r (left.take k) = rk at *
  generalize left.getD k 0 = h at *
  rw [hm]
  have hdq : unit ∣ rk.tdiv unit * unit := Int.dvd_mul_left ..
  generalize rk.tdiv unit * unit = q at *
  have hc := mn_le (h - leastOf unit h) q
  by_cases hp : 0 < h
  · have hle : unit ≤ h := Int.le_of_dvd hp hd
    have hl : leastOf unit h = unit := by rw [leastOf, if_pos hp]
    rw [hl] at hc ⊢
    rw [w64_in (by omega) (by omega)]
    refine ⟨by omega, by omega, by omega, ?_⟩
    rcases hc.2.2 with e | e
    · rw [e, show unit + (h - unit) = h by omega]; exact hd
    · rw [e]; exact Int.dvd_add (Int.dvd_refl _) hdq
  · obtain rfl : h = 0 := by omega
    have hl : leastOf unit 0 = 0 := rfl
    rw [hl] at hc ⊢
    have : mn (0 - 0) q = 0 := by omega
    rw [this]
    exact ⟨Int.le_refl _, Int.le_refl _, fun h => absurd h (Int.lt_irrefl _), Int.dvd_zero _⟩

structure Tight (left sh lf : List Int) (u : Int) : Prop where
  each : ∀ k, k < 10 → sh.getD k 0 + lf.getD k 0 = left.getD k 0 ∧ 0 ≤ sh.getD k 0 ∧ 0 ≤ lf.getD k 0 ∧ (0 < left.getD k 0 → 0 < sh.getD k 0) ∧ u ∣ sh.getD k 0 ∧ u ∣ lf.getD k 0
theorem tight_facts (left : List Int) (room : Int) (a : Area) (h10 : left.length = 10) (hA : (rowA a.unit left).all amountP = true) (hr : 0 ≤ a.rule) (hr1 : a.rule ≤ 1073741823) (hu : 1 ≤ a.unit) (hu1 : a.unit ≤ 1073741823) (h0 : -1073741823 ≤ room) (h1 : room ≤ 1073741823)
    (hok : (tightW left room a).2.2 = true) : Tight left (tightW left room a).1 (tightW left room a).2.1 a.unit ∧ Amt (tightW left room a).1 ∧ highE a.rule (tightW left room a).1 ≤ room := by
  have hL : (leastW a.unit left).length = 10 := by rw [leastW_length, h10]
  have hAm := row_amt hA
  have hLA : Amt (leastW a.unit left) := Amt.of_get fun k hk => by
    rw [leastW_length] at hk
    rw [leastW_get _ _ _ hk]
    unfold leastOf; split <;> omega
  have e := roomW_eq a hr hr1 hu hu1 left room (by omega) (by omega)
  have hb := highE_bounds hr hr1 _ hLA
  unfold tightW at hok ⊢
  by_cases h : roomW a room left < 0
  · rw [if_pos h] at hok; cases hok
  rw [if_neg h]
  have G := go_same a left room (roomW a room left) h10 hAm hr hr1 hu hu1 (by omega) (by omega) e
  obtain ⟨i1, i2, i3, i4, i5⟩ := G 10 (Nat.le_refl _)
  rw [mix_at _ _ 10 (by rw [shownW_length, h10]) hL] at i1
  have hat : ∀ k, k < 10 → 0 ≤ shownAt a.unit (roomW a room left) left k ∧ shownAt a.unit (roomW a room left) left k ≤ left.getD k 0 ∧ (0 < left.getD k 0 → 0 < shownAt a.unit (roomW a room left) left k) ∧ a.unit ∣ shownAt a.unit (roomW a room left) left k := fun k hk => by
    obtain ⟨_, _, _, j4, j5⟩ := G k (by omega)
    exact shown_facts hu hu1 k j4 (by omega) (hAm.get k).1 (hAm.get k).2 (get_dvd (row_dvd hA) k)
  refine ⟨⟨fun k hk => ?_⟩, ?_, ?_⟩
  · obtain ⟨f1, f2, f3, f4⟩ := hat k hk
    have hg := hAm.get k
    show (shownW a.unit (roomW a room left) left).getD k 0 + (restW a.unit (roomW a room left) left).getD k 0 = _ ∧ _
    rw [shownW_get _ _ _ _ (by omega), restW_get _ _ _ _ (by omega), w64_in (by omega) (by omega)]
    exact ⟨by omega, f1, by omega, f3, f4, Int.dvd_sub (get_dvd (row_dvd hA) k) f4⟩
  · show Amt (shownW a.unit (roomW a room left) left)
    rw [← i1]; exact i2
  · show highE a.rule (shownW a.unit (roomW a room left) left) ≤ room
    rw [← i1]; omega

/-- What a page that is taken holds. -/
structure Held (l : List Load) (p : Int) (left : List Int) (a : Area) (x : LeafM) (n : Nat) : Prop where
  fair : Fair l left a
  from0 : 0 ≤ p
  first : x.first = p
  lines : x.lines = n
  end_ : p.toNat + n ≤ l.length
  ten : x.ten
  tight : Tight (sE (segL l p.toNat (p.toNat + n)) left) x.shown x.left a.unit
  shown : Bd 9000000000000 x.shown
  high : mE (segL l p.toNat (p.toNat + n)) + highE a.rule x.shown ≤ a.height
  more : x.left ≠ zs10 ∨ p.toNat + n = l.length ∨ n = 0 ∨ (p.toNat + n < l.length ∧ (a.height < nd a.rule (segL l p.toNat (p.toNat + n + 1)) left ∨ n = 1 ∧ a.height < nd a.rule (segL l p.toNat (p.toNat + n)) left))
theorem tight_self {xs : List Int} {u : Int} (h : ∀ x ∈ xs, 0 ≤ x) (hd : ∀ x ∈ xs, u ∣ x) : Tight xs xs zs10 u := ⟨fun k hk => by
  have hz : zs10.getD k 0 = 0 := by
    match k, hk with
    | 0, _ | 1, _ | 2, _ | 3, _ | 4, _ | 5, _ | 6, _ | 7, _ | 8, _ | 9, _ => rfl
  have h0 : 0 ≤ xs.getD k 0 := by
    by_cases hk : k < xs.length
    · have := h _ (List.getElem_mem hk)
      simpa [List.getD_eq_getElem?_getD, List.getElem?_eq_getElem hk] using this
    · simp [List.getD_eq_getElem?_getD, List.getElem?_eq_none (Nat.le_of_not_lt hk)]
  rw [hz]
  exact ⟨by omega, h0, Int.le_refl _, fun h => h, get_dvd hd k, Int.dvd_zero _⟩⟩
theorem addE_zero (ys : List Int) (h : ys.length = 10) : addE zs10 ys = ys := by
  match ys, h with
  | [a, b, c, d, e, f, g, i, j, k], _ => simp [addE]
theorem take_held (l : List Load) (p : Int) (left : List Int) (a : Area) (ht : Tens l) (h10 : left.length = 10) :
    takeW l p left a = (leaf0, false) ∨ ∃ x n, takeW l p left a = (x, true) ∧ Held l p left a x n := by
  cases hm : mayAt l p left a with
  | false => left; unfold takeW; rw [if_pos hm]
  | true =>
    obtain ⟨h0, h1, h2⟩ := mayAt_true hm
    have F := mayW_fair ht h10 h2
    have FL := F.list ht
    obtain ⟨f1, f2, f3⟩ := fit_holds ht h10 hm
    have hten := takeW_ten l p left a ht h10
    unfold takeW at hten ⊢
    rw [if_neg (by rw [hm]; decide)] at hten ⊢
    by_cases hn : 0 < fitN l p.toNat left a
    · rw [if_pos hn] at hten ⊢
      generalize fitN l p.toNat left a = n at *
      right
      have hseg := segL_length l p.toNat (p.toNat + n) (by omega)
      have hlen := F.len
      obtain ⟨s1, s2⟩ := sums_eq (segL l p.toNat (p.toNat + n)) left 1073741823 (FL.seg _ _) (row_amt F.left) (by omega)
      rw [s1] at hten ⊢
      refine ⟨_, n, rfl, F, h0, rfl, rfl, by omega, hten, ?_, ?_, f2 hn, ?_⟩
      · refine tight_self (fun x hx => (s2 x hx).1) (sE_dvd _ _ (row_dvd F.left) fun y hy x hx => row_dvd (F.load y ?_).2 x hx)
        exact List.mem_of_mem_take (List.mem_of_mem_drop hy)
      · intro x hx
        have := s2 x hx
        omega
      · by_cases he : p.toNat + n = l.length
        · exact .inr (.inl he)
        · exact .inr (.inr (.inr ⟨by omega, .inl (f3 (by omega))⟩))
    · rw [if_neg hn] at hten ⊢
      have hn0 : fitN l p.toNat left a = 0 := by omega
      rw [hn0] at f3
      clear f2 f1 hn
      by_cases hz : left ≠ zs10
      · rw [if_pos hz] at hten ⊢
        cases hok : (tightW left a.height a).2.2 with
        | false => left; rfl
        | true =>
          rw [hok, if_pos rfl] at hten
          right
          have hh := F.height
          obtain ⟨t1, t2, t3⟩ := tight_facts left a.height a h10 F.left F.rule.1 F.rule.2 F.unit.1 F.unit.2 (by omega) (by omega) hok
          have hseg : segL l p.toNat (p.toNat + 0) = [] := by simp [segL]
          refine ⟨_, 0, rfl, F, h0, rfl, rfl, by omega, hten, ?_, fun x hx => ?_, ?_, .inr (.inr (.inl rfl))⟩
          · rw [hseg]; exact t1
          · have := t2 x hx; omega
          · rw [hseg, mE, Int.zero_add]; exact t3
      · rw [if_neg hz] at hten ⊢
        have hz : left = zs10 := Classical.byContradiction hz
        by_cases hp : p < l.length
        · rw [if_pos hp] at hten ⊢
          have hlt : p.toNat < l.length := by omega
          have hg := F.get hlt
          have hh := F.height
          rw [w64_in (by omega) (by omega)] at hten ⊢
          cases hok : (tightW (l.getD p.toNat ⟨0, []⟩).notes (a.height - (l.getD p.toNat ⟨0, []⟩).main) a).2.2 with
          | false => left; rfl
          | true =>
            rw [hok, if_pos rfl] at hten
            right
            have e : l.getD p.toNat ⟨0, []⟩ = l[p.toNat] := by simp [List.getD_eq_getElem?_getD, List.getElem?_eq_getElem hlt]
            have hn10 := ht.get p.toNat hlt
            have hrow := (F.load (l.getD p.toNat ⟨0, []⟩) (by rw [e]; exact List.getElem_mem hlt)).2
            obtain ⟨t1, t2, t3⟩ := tight_facts (l.getD p.toNat ⟨0, []⟩).notes (a.height - (l.getD p.toNat ⟨0, []⟩).main) a hn10 hrow F.rule.1 F.rule.2 F.unit.1 F.unit.2 (by omega) (by omega) hok
            have hseg : segL l p.toNat (p.toNat + 1) = [l.getD p.toNat ⟨0, []⟩] := by
              rw [segL, List.drop_take, show p.toNat + 1 - p.toNat = 1 by omega, List.drop_eq_getElem_cons hlt, e]; rfl
            refine ⟨_, 1, rfl, F, h0, rfl, rfl, by omega, hten, ?_, fun x hx => ?_, ?_, ?_⟩
            · rw [hseg, sE, sE, hz, addE_zero _ hn10]; exact t1
            · have := t2 x hx; omega
            · rw [hseg, mE, mE]
              have t3' : highE a.rule (tightW (l.getD p.toNat ⟨0, []⟩).notes (a.height - (l.getD p.toNat ⟨0, []⟩).main) a).1 ≤ a.height - (l.getD p.toNat ⟨0, []⟩).main := t3
              show (l.getD p.toNat ⟨0, []⟩).main + 0 + highE a.rule (tightW (l.getD p.toNat ⟨0, []⟩).notes (a.height - (l.getD p.toNat ⟨0, []⟩).main) a).1 ≤ a.height
              omega
            · by_cases he : p.toNat + 1 = l.length
              · exact .inr (.inl he)
              · exact .inr (.inr (.inr ⟨by omega, .inr ⟨rfl, f3 (by omega)⟩⟩))
        · rw [if_neg hp] at hten ⊢
          right
          have hh := F.height
          have hseg : segL l p.toNat (p.toNat + 0) = [] := by simp [segL]
          have hz0 : ∀ x ∈ zs10, x = 0 := by decide
          refine ⟨_, 0, rfl, F, h0, rfl, rfl, by omega, hten, ?_, fun x hx => ?_, ?_, .inr (.inr (.inl rfl))⟩
          · rw [hseg, hz]
            exact tight_self (fun x hx => Int.le_of_eq (hz0 x hx).symm) (fun x hx => by rw [hz0 x hx]; exact Int.dvd_zero _)
          · have := hz0 x hx; omega
          · rw [hseg, mE]
            show 0 + 0 ≤ a.height
            omega
theorem Held.high' {l : List Load} {p : Int} {left : List Int} {a : Area} {x : LeafM} {n : Nat} (h : Held l p left a x n) (ht : Tens l) (hlen : l.length ≤ 5000) :
    w64 (mainsW (segL l p.toNat (p.toNat + n)) + highW a.rule x.shown) ≤ a.height := by
  have F := h.fair
  have FL := (F.list ht).seg p.toNat (p.toNat + n)
  have hs := segL_length l p.toNat (p.toNat + n) h.end_
  have hm := mE_bounds _ FL
  obtain ⟨h1, h2, h3⟩ := highW_eqB F.rule.1 F.rule.2 (by omega) (by omega) h.shown h.ten.1
  have := h.high
  have hh := F.height
  have he := h.end_
  rw [mainsW_eq FL (by omega), h1, w64_in (by omega) (by omega)]
  exact this
theorem Held.more' {l : List Load} {p : Int} {left : List Int} {a : Area} {x : LeafM} {n : Nat} (h : Held l p left a x n) (ht : Tens l) (h10 : left.length = 10) :
    x.left ≠ zs10 ∨ p.toNat + n = l.length ∨ n = 0 ∨ (p.toNat + n < l.length ∧ (a.height < w64 (mainsW (segL l p.toNat (p.toNat + n + 1)) + highW a.rule (sumsW (segL l p.toNat (p.toNat + n + 1)) left)) ∨
      n = 1 ∧ a.height < w64 (mainsW (segL l p.toNat (p.toNat + n)) + highW a.rule (sumsW (segL l p.toNat (p.toNat + n)) left)))) := by
  have F := h.fair
  have hl := F.len
  have he := h.end_
  rcases h.more with h1 | h1 | h1 | ⟨h1, h2⟩
  · exact .inl h1
  · exact .inr (.inl h1)
  · exact .inr (.inr (.inl h1))
  · refine .inr (.inr (.inr ⟨h1, ?_⟩))
    have s1 := segL_length l p.toNat (p.toNat + n + 1) (by omega)
    have s2 := segL_length l p.toNat (p.toNat + n) (by omega)
    rw [(need_eq F.rule.1 F.rule.2 ((F.list ht).seg p.toNat (p.toNat + n + 1)) (by omega) (row_amt F.left) h10).1, (need_eq F.rule.1 F.rule.2 ((F.list ht).seg p.toNat (p.toNat + n)) (by omega) (row_amt F.left) h10).1]
    exact h2
/-- Of each series: in the program's numbers. -/
theorem Held.each {l : List Load} {p : Int} {left : List Int} {a : Area} {x : LeafM} {n : Nat} (h : Held l p left a x n) (ht : Tens l) {k : Nat} (hk : k < 10) :
    x.shown.getD k 0 + x.left.getD k 0 = (sumsW (segL l p.toNat (p.toNat + n)) left).getD k 0 ∧ 0 ≤ x.shown.getD k 0 ∧ 0 ≤ x.left.getD k 0 ∧ (0 < (sumsW (segL l p.toNat (p.toNat + n)) left).getD k 0 → 0 < x.shown.getD k 0) ∧
      x.shown.getD k 0 + x.left.getD k 0 ≤ 9000000000000000 ∧ (x.shown.getD k 0).tmod a.unit = 0 ∧ (x.left.getD k 0).tmod a.unit = 0 := by
  have F := h.fair
  have hl := F.len
  have he := h.end_
  have s2 := segL_length l p.toNat (p.toNat + n) (by omega)
  obtain ⟨s1, s3⟩ := sums_eq (segL l p.toNat (p.toNat + n)) left 1073741823 ((F.list ht).seg _ _) (row_amt F.left) (by omega)
  obtain ⟨t1, t2, t3, t4, t5, t6⟩ := h.tight.each k hk
  rw [s1]
  refine ⟨t1, t2, t3, t4, ?_, Int.tmod_eq_zero_of_dvd t5, Int.tmod_eq_zero_of_dvd t6⟩
  rw [t1]
  by_cases hkl : k < (sE (segL l p.toNat (p.toNat + n)) left).length
  · have := s3 _ (List.getElem_mem hkl)
    simp only [List.getD_eq_getElem?_getD, List.getElem?_eq_getElem hkl, Option.getD_some]
    omega
  · simp [List.getD_eq_getElem?_getD, List.getElem?_eq_none (Nat.le_of_not_lt hkl)]
end Go.Proofs.Ytgjamldcglebjaa
