/- Leaf: the plain law: sums and heights, exactly. No program in sight. -/
import Derived.Test.YtgjamldcglebjaaM
namespace Go.Proofs.Ytgjamldcglebjaa
open Go Go.RowKit Go.Proofs.Ytgjamldcglebjaa.DL
set_option linter.unusedVariables false

/-! ### Exact sums -/
def mE : List Load → Int
  | [] => 0
  | y :: s => y.main + mE s
def addE (xs ys : List Int) : List Int := List.zipWith (fun a b => a + b) xs ys
def sE : List Load → List Int → List Int
  | [], left => left
  | y :: s, left => sE s (addE left y.notes)
def Bd (B : Int) (xs : List Int) : Prop := ∀ x ∈ xs, 0 ≤ x ∧ x ≤ B
def FairL (s : List Load) : Prop := ∀ y ∈ s, (0 ≤ y.main ∧ y.main ≤ 1073741823) ∧ Amt y.notes ∧ y.notes.length = 10
theorem FairL.tail {y : Load} {s : List Load} (h : FairL (y :: s)) : FairL s := fun x hx => h x (List.mem_cons_of_mem _ hx)
theorem FairL.sub {s t : List Load} (h : FairL t) (hs : ∀ x ∈ s, x ∈ t) : FairL s := fun x hx => h x (hs x hx)
theorem addE_length (xs ys : List Int) (hx : xs.length = 10) (hy : ys.length = 10) : (addE xs ys).length = 10 := by simp [addE, hx, hy]
theorem sE_length : ∀ (s : List Load) (left : List Int), (∀ y ∈ s, y.notes.length = 10) → left.length = 10 → (sE s left).length = 10
  | [], _, _, h => h
  | y :: s, left, ht, h => sE_length s _ (fun x hx => ht x (List.mem_cons_of_mem _ hx)) (addE_length _ _ h (ht y (List.mem_cons_self ..)))
theorem mE_append : ∀ (s t : List Load), mE (s ++ t) = mE s + mE t
  | [], t => by simp [mE]
  | y :: s, t => by rw [List.cons_append, mE, mE, mE_append s t]; omega
theorem sE_append : ∀ (s t : List Load) (left : List Int), sE (s ++ t) left = sE t (sE s left)
  | [], _, _ => rfl
  | y :: s, t, left => sE_append s t _

theorem mE_bounds : ∀ (s : List Load), FairL s → 0 ≤ mE s ∧ mE s ≤ 1073741823 * s.length
  | [], _ => by simp [mE]
  | y :: s, h => by
    have h1 := mE_bounds s h.tail
    have h2 := (h y (List.mem_cons_self ..)).1
    rw [mE, List.length_cons]
    omega
theorem mains_go : ∀ (s : List Load) (c : Int), FairL s → 0 ≤ c → c + 1073741823 * s.length ≤ 9000000000000000 → s.foldl (fun s y => w64 (s + y.main)) c = c + mE s
  | [], c, _, _, _ => by simp [mE]
  | y :: s, c, h, h0, h1 => by
    have h2 := (h y (List.mem_cons_self ..)).1
    rw [List.length_cons] at h1
    rw [List.foldl_cons, w64_in (by omega) (by omega), mains_go s _ h.tail (by omega) (by omega), mE]
    omega
theorem mainsW_eq {s : List Load} (h : FairL s) (hl : s.length ≤ 5000) : mainsW s = mE s := by
  rw [mainsW, mains_go s 0 h (by omega) (by omega), Int.zero_add]

theorem addW_eq : ∀ (xs ys : List Int) (B : Int), Bd B xs → Amt ys → B ≤ 9000000000000000 → addW xs ys = addE xs ys ∧ Bd (B + 1073741823) (addE xs ys)
  | [], ys, B, _, _, _ => ⟨rfl, fun x hx => by simp [addE] at hx⟩
  | x :: xs, [], B, _, _, _ => ⟨rfl, fun x hx => by simp [addE] at hx⟩
  | x :: xs, y :: ys, B, hx, hy, hB => by
    obtain ⟨i1, i2⟩ := addW_eq xs ys B (fun z hz => hx z (List.mem_cons_of_mem _ hz)) hy.tail hB
    have h1 := hx x (List.mem_cons_self ..)
    have h2 := hy y (List.mem_cons_self ..)
    refine ⟨?_, fun z hz => ?_⟩
    · show w64 (x + y) :: addW xs ys = (x + y) :: addE xs ys
      rw [i1, w64_in (by omega) (by omega)]
    · rcases List.mem_cons.1 (show z ∈ (x + y) :: addE xs ys from hz) with rfl | hz
      · omega
      · exact i2 z hz
theorem sums_eq : ∀ (s : List Load) (left : List Int) (B : Int), FairL s → Bd B left → B + 1073741823 * s.length ≤ 9000000000000000 → sumsW s left = sE s left ∧ Bd (B + 1073741823 * s.length) (sE s left)
  | [], left, B, _, hb, _ => ⟨rfl, by simpa [sE] using hb⟩
  | y :: s, left, B, h, hb, hB => by
    rw [List.length_cons] at hB
    obtain ⟨a1, a2⟩ := addW_eq left y.notes B hb (h y (List.mem_cons_self ..)).2.1 (by omega)
    obtain ⟨i1, i2⟩ := sums_eq s (addE left y.notes) (B + 1073741823) h.tail a2 (by omega)
    refine ⟨?_, ?_⟩
    · show sumsW s (addW left y.notes) = _
      rw [a1, i1]; rfl
    · rw [List.length_cons, show B + 1073741823 * ((s.length + 1 : Nat) : Int) = B + 1073741823 + 1073741823 * s.length by omega]
      exact i2
theorem high_goB {rule B : Int} (hr : 0 ≤ rule) (hr1 : rule ≤ 1073741823) (hB : 0 ≤ B) : ∀ (xs : List Int) (s : Int), Bd B xs → 0 ≤ s → s + (B + 1073741823) * xs.length ≤ 9000000000000000000 → xs.foldl (hiStep rule) s = s + highE rule xs ∧ 0 ≤ highE rule xs ∧ highE rule xs ≤ (B + 1073741823) * xs.length
  | [], s, _, _, _ => by simp [highE]
  | x :: xs, s, h, h0, h1 => by
    have h2 := h x (List.mem_cons_self ..)
    have e2 : (B + 1073741823) * ((x :: xs).length : Int) = (B + 1073741823) * xs.length + (B + 1073741823) := by
      rw [List.length_cons, Int.natCast_succ, Int.mul_add, Int.mul_one]
    have hp : 0 ≤ (B + 1073741823) * (xs.length : Int) := Int.mul_nonneg (by omega) (by omega)
    rw [e2] at h1 ⊢
    rw [List.foldl_cons, highE]
    have e : hiStep rule s x = s + hi1 rule x := by
      unfold hiStep hi1
      split
      · rw [w64_in (n := x + rule) (by omega) (by omega), w64_in (by omega) (by omega)]
      · omega
    have h3 : 0 ≤ hi1 rule x ∧ hi1 rule x ≤ B + 1073741823 := by unfold hi1; split <;> omega
    obtain ⟨i1, i2, i3⟩ := high_goB hr hr1 hB xs (s + hi1 rule x) (fun z hz => h z (List.mem_cons_of_mem _ hz)) (by omega) (by omega)
    rw [e, i1]
    omega
theorem highW_eqB {rule B : Int} (hr : 0 ≤ rule) (hr1 : rule ≤ 1073741823) (hB : 0 ≤ B) (hB1 : B ≤ 9000000000000000) {xs : List Int} (h : Bd B xs) (hx : xs.length = 10) : highW rule xs = highE rule xs ∧ 0 ≤ highE rule xs ∧ highE rule xs ≤ 100000000000000000 := by
  obtain ⟨h1, h2, h3⟩ := high_goB hr hr1 hB xs 0 h (by omega) (by rw [hx]; omega)
  rw [hx] at h3
  exact ⟨by rw [highW, h1, Int.zero_add], h2, by omega⟩

/-- How high lines and their notes are, with what is left. -/
def nd (rule : Int) (s : List Load) (left : List Int) : Int := mE s + highE rule (sE s left)
theorem need_eq {rule : Int} (hr : 0 ≤ rule) (hr1 : rule ≤ 1073741823) {s : List Load} (h : FairL s) (hl : s.length ≤ 5000) {left : List Int} (hb : Amt left) (h10 : left.length = 10) :
    w64 (mainsW s + highW rule (sumsW s left)) = nd rule s left ∧ 0 ≤ nd rule s left := by
  obtain ⟨s1, s2⟩ := sums_eq s left 1073741823 h hb (by omega)
  have hm := mE_bounds s h
  obtain ⟨h1, h2, h3⟩ := highW_eqB hr hr1 (by omega) (by omega) s2 (sE_length s left (fun y hy => (h y hy).2.2) h10)
  rw [mainsW_eq h hl, s1, h1, nd, w64_in (by omega) (by omega)]
  omega

/-! ### What is higher stays higher -/
inductive Up : List Int → List Int → Prop
  | nil : Up [] []
  | cons {x y : Int} {xs ys : List Int} : x ≤ y → Up xs ys → Up (x :: xs) (y :: ys)
theorem Up.refl : ∀ xs, Up xs xs
  | [] => .nil
  | x :: xs => .cons (Int.le_refl _) (Up.refl xs)
theorem Up.trans : ∀ {xs ys zs : List Int}, Up xs ys → Up ys zs → Up xs zs
  | _, _, _, .nil, .nil => .nil
  | _, _, _, .cons h hs, .cons k ks => .cons (Int.le_trans h k) (hs.trans ks)
theorem Up.add : ∀ {xs ys : List Int} (zs : List Int), Up xs ys → Up (addE xs zs) (addE ys zs)
  | _, _, zs, .nil => by simp [addE]; exact .nil
  | _, _, [], .cons _ _ => .nil
  | x :: _, y :: _, z :: zs, .cons h hs => .cons (show x + z ≤ y + z by omega) (Up.add zs hs)
theorem Up.more : ∀ (xs zs : List Int), xs.length = zs.length → (∀ z ∈ zs, 0 ≤ z) → Up xs (addE xs zs)
  | [], [], _, _ => .nil
  | x :: xs, z :: zs, hl, h => (.cons (show x ≤ x + z by have := h z (List.mem_cons_self ..); omega) (Up.more xs zs (by simpa using hl) fun y hy => h y (List.mem_cons_of_mem _ hy)))
  | [], _ :: _, hl, _ => by simp at hl
  | _ :: _, [], hl, _ => by simp at hl
theorem Up.high {rule : Int} (hr : 0 ≤ rule) : ∀ {xs ys : List Int}, Up xs ys → highE rule xs ≤ highE rule ys
  | _, _, .nil => Int.le_refl _
  | _, _, .cons (x := x) (y := y) h hs => by
    have := Up.high hr hs
    rw [highE, highE]
    have : hi1 rule x ≤ hi1 rule y := by unfold hi1; split <;> split <;> omega
    omega
theorem sE_up : ∀ (s : List Load) {xs ys : List Int}, Up xs ys → Up (sE s xs) (sE s ys)
  | [], _, _, h => h
  | y :: s, _, _, h => sE_up s (h.add y.notes)
theorem sE_more : ∀ (s : List Load) (left : List Int), FairL s → left.length = 10 → Up left (sE s left)
  | [], left, _, _ => Up.refl left
  | y :: s, left, h, h10 => by
    have hy := h y (List.mem_cons_self ..)
    exact (Up.more left y.notes (by rw [h10, hy.2.2]) fun z hz => (hy.2.1 z hz).1).trans (sE_more s _ h.tail (addE_length _ _ h10 hy.2.2))
theorem nd_append {rule : Int} (hr : 0 ≤ rule) {s t : List Load} (hs : FairL s) (ht : FairL t) {left : List Int} (h10 : left.length = 10) : nd rule s left ≤ nd rule (s ++ t) left := by
  have h1 := mE_bounds t ht
  have h2 := Up.high hr (sE_more t (sE s left) ht (sE_length s left (fun y hy => (hs y hy).2.2) h10))
  rw [nd, nd, mE_append, sE_append]
  omega
theorem nd_left {rule : Int} (hr : 0 ≤ rule) (s : List Load) {left left' : List Int} (h : Up left left') : nd rule s left ≤ nd rule s left' := by
  have := Up.high hr (sE_up s h)
  rw [nd, nd]; omega
theorem up_zero : ∀ (left : List Int), Amt left → Up (List.replicate left.length 0) left
  | [], _ => .nil
  | x :: xs, h => .cons (h x (List.mem_cons_self ..)).1 (up_zero xs h.tail)

/-! ### How many fit -/
theorem fitGo_spec (f : Nat → Bool) : ∀ n k, k ≤ fitGo f n k ∧ fitGo f n k ≤ n + k ∧ (∀ j, k ≤ j → j < fitGo f n k → f j = false) ∧ (fitGo f n k < n + k → f (fitGo f n k) = true)
  | 0, k => ⟨Nat.le_refl _, by simp [fitGo], fun j h1 h2 => by simp [fitGo] at h2; omega, fun h => by simp [fitGo] at h⟩
  | n + 1, k => by
    rw [fitGo]
    cases hf : f k with
    | true =>
      rw [if_pos rfl]
      exact ⟨Nat.le_refl _, by omega, fun j h1 h2 => by omega, fun _ => hf⟩
    | false =>
      rw [if_neg (by simp)]
      obtain ⟨h1, h2, h3, h4⟩ := fitGo_spec f n (k + 1)
      refine ⟨by omega, by omega, fun j hj hj2 => ?_, fun h => h4 (by omega)⟩
      rcases Nat.lt_or_eq_of_le hj with h | rfl
      · exact h3 j h hj2
      · exact hf
theorem fitGo_mono {f g : Nat → Bool} (n : Nat) (h : ∀ j, j < n → f j = true → g j = true) : fitGo g n 0 ≤ fitGo f n 0 := by
  obtain ⟨_, f2, f3, f4⟩ := fitGo_spec f n 0
  obtain ⟨_, g2, g3, g4⟩ := fitGo_spec g n 0
  rcases Nat.lt_or_ge (fitGo f n 0) (fitGo g n 0) with hlt | hge
  · have h1 := f4 (by omega)
    have h2 := g3 _ (Nat.zero_le _) hlt
    rw [h _ (by omega) h1] at h2
    cases h2
  · exact hge

/-! ### What may be -/
theorem mayW_iff (l : List Load) (left : List Int) (a : Area) : mayW l left a = true ↔ areaB l.length a = true ∧ (amounts l left a).all amountP = true ∧ sumP (amounts l left a) ≤ 1073741823 := by
  unfold mayW
  rw [addsC_ok _ 0 (by omega) (by omega)]
  simp only [Bool.and_eq_true, decide_eq_true_eq, Int.zero_add]
theorem sumP_row (u : Int) : ∀ (xs : List Int), Amt xs → 0 ≤ sumP (rowA u xs)
  | [], _ => by simp [rowA, sumP]
  | x :: xs, h => by
    have h1 := sumP_row u xs h.tail
    have h2 := h x (List.mem_cons_self ..)
    show 0 ≤ x + sumP (rowA u xs)
    omega
theorem mayW_fair {l : List Load} {left : List Int} {a : Area} (ht : Tens l) (h10 : left.length = 10) (h : mayW l left a = true) : Fair l left a := mayR_fair (by rw [may_same l left a ht h10]; exact h)
theorem mayW_zero {l : List Load} {left : List Int} {a : Area} (ht : Tens l) (h10 : left.length = 10) (h : mayW l left a = true) : mayW l zs10 a = true := by
  have F := mayW_fair ht h10 h
  obtain ⟨h1, h2, h3⟩ := (mayW_iff l left a).1 h
  refine (mayW_iff l zs10 a).2 ⟨h1, ?_, ?_⟩
  · rw [amounts, List.all_append, List.all_append, Bool.and_eq_true, Bool.and_eq_true] at h2 ⊢
    refine ⟨⟨h2.1.1, ?_⟩, h2.2⟩
    simp [rowA, amountP, amountB, fitsB]
  · have h4 := sumP_row a.unit left (row_amt F.left)
    have h5 : sumP (rowA a.unit zs10) = 0 := rfl
    rw [amounts, sumP_append, sumP_append] at h3 ⊢
    omega
theorem Fair.list {l : List Load} {left : List Int} {a : Area} (h : Fair l left a) (ht : Tens l) : FairL l := fun y hy =>
  ⟨amount_bounds (h.load y hy).1, row_amt (h.load y hy).2, ht y hy⟩
theorem FairL.seg {l : List Load} (h : FairL l) (lo hi : Nat) : FairL (segL l lo hi) := h.sub fun x hx => List.mem_of_mem_take (List.mem_of_mem_drop hx)
theorem seg_take (l : List Load) (q n : Nat) (h : q + n ≤ l.length) : (segL l q l.length).take n = segL l q (q + n) := by
  simp only [segL, List.take_length]
  rw [List.drop_take, show q + n - q = n by omega]
theorem overW_iff {l : List Load} {left : List Int} {a : Area} (F : Fair l left a) (ht : Tens l) (h10 : left.length = 10) (q k : Nat) (h : q + k < l.length) : overW a left (segL l q l.length) k = true ↔ a.height < nd a.rule (segL l q (q + (k + 1))) left := by
  have hl := segL_length l q (q + (k + 1)) (by omega)
  have hn := F.len
  rw [overW, seg_take l q (k + 1) (by omega), (need_eq F.rule.1 F.rule.2 ((F.list ht).seg _ _) (by omega) (row_amt F.left) h10).1, decide_eq_true_eq]
end Go.Proofs.Ytgjamldcglebjaa
