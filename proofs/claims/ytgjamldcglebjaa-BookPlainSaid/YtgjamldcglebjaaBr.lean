/- Book: the plain law: lines that are all as high as one another. No program in sight. -/
import Derived.Test.YtgjamldcglebjaaBp
import Derived.Test.YtgjamldcglebjaaXp
namespace Go.Proofs.Ytgjamldcglebjaa
open Go Go.RowKit Go.Proofs.Ytgjamldcglebjaa.DL
set_option linter.unusedVariables false

def uniL (n : Nat) (main : Int) : List Load := List.replicate n ⟨main, zs10⟩
theorem uniL_tens (n : Nat) (main : Int) : Tens (uniL n main) := fun x hx => by rw [(List.mem_replicate.1 hx).2]; rfl
theorem uniL_length (n : Nat) (main : Int) : (uniL n main).length = n := by simp [uniL]
theorem uniL_seg (n : Nat) (main : Int) (lo m : Nat) (h : lo + m ≤ n) : segL (uniL n main) lo (lo + m) = uniL m main := by
  simp only [segL, uniL, List.take_replicate, List.drop_replicate]
  congr 1; omega
theorem uniL_plain (n : Nat) (main : Int) : plainL (uniL n main) = uniL n main := by simp [plainL, uniL]
theorem mE_uni (main : Int) : ∀ n : Nat, mE (uniL n main) = n * main
  | 0 => by simp [uniL, mE]
  | n + 1 => by
    show main + mE (uniL n main) = _
    rw [mE_uni main n, Int.natCast_succ, Int.add_mul]; omega
theorem nd_uni (rule main : Int) (n : Nat) : nd rule (uniL n main) zs10 = n * main := by
  rw [← uniL_plain, nd_plain, mE_uni]
theorem uni_fit {n : Nat} {main : Int} {a : Area} (hm : mayW (uniL n main) zs10 a = true) (h1 : 1 ≤ main) (h2 : main ≤ a.height) {p : Nat} (hp : p < n) : (fitN (uniL n main) p zs10 a : Int) = min (a.height / main) (n - p : Int) := by
  have hl := uniL_length n main
  have hma : mayAt (uniL n main) (p : Int) zs10 a = true := mayAt_of (by omega) (by rw [hl]; omega) hm
  obtain ⟨f1, f2, f3⟩ := fit_holds (uniL_tens n main) rfl hma
  rw [Int.toNat_natCast, hl] at f1 f3
  rw [Int.toNat_natCast] at f2
  generalize fitN (uniL n main) p zs10 a = m at *
  have e1 := Int.ediv_mul_le a.height (show main ≠ 0 by omega)
  have e2 := Int.lt_ediv_add_one_mul_self a.height (show 0 < main by omega)
  have g1 : (m : Int) ≤ a.height / main := by
    by_cases h0 : 0 < m
    · have := f2 h0
      rw [uniL_seg n main p m (by omega), nd_uni] at this
      exact Int.le_ediv_of_mul_le (by omega) this
    · have : 0 ≤ a.height / main := Int.ediv_nonneg (by omega) (by omega)
      omega
  by_cases hlt : m < n - p
  · have := f3 hlt
    rw [uniL_seg n main p (m + 1) (by omega), nd_uni] at this
    have g2 : a.height / main < ((m + 1 : Nat) : Int) := Int.ediv_lt_of_lt_mul (by omega) this
    omega
  · omega
theorem uni_sums {n : Nat} {main : Int} {a : Area} (hm : mayW (uniL n main) zs10 a = true) (m : Nat) (hmn : m ≤ n) : sumsW (uniL m main) zs10 = zs10 := by
  have F := mayW_fair (uniL_tens n main) (left := zs10) rfl hm
  have FL := F.list (uniL_tens n main)
  have hk := F.len
  rw [uniL_length] at hk
  have FM : FairL (uniL m main) := fun y hy => FL y (by
    rw [(List.mem_replicate.1 hy).2]
    exact List.mem_replicate.2 ⟨by have := (List.mem_replicate.1 hy).1; omega, rfl⟩)
  rw [(sums_eq (uniL m main) zs10 0 FM (fun x hx => by
    have : x = 0 := by simpa using hx
    omega) (by rw [uniL_length]; omega)).1, ← uniL_plain, sE_plain]
/-- How many lines a page has. -/
def roomU (a : Area) (main : Int) : Nat := (min (a.height / main) 1000).toNat
theorem roomU_pos {a : Area} {main : Int} (h1 : 1 ≤ main) (h2 : main ≤ a.height) : 1 ≤ roomU a main ∧ (roomU a main : Int) = min (a.height / main) 1000 := by
  have : 1 ≤ a.height / main := Int.le_ediv_of_mul_le (by omega) (by omega)
  unfold roomU
  omega
theorem uni_take {n : Nat} {main : Int} {a : Area} (hm : mayW (uniL n main) zs10 a = true) (h1 : 1 ≤ main) (h2 : main ≤ a.height) (hn : n ≤ 300) {p : Nat} (hp : p < n) :
    takeW (uniL n main) (p : Int) zs10 a = (⟨p, (min (roomU a main) (n - p) : Nat), zs10, zs10⟩, true) := by
  have hl := uniL_length n main
  have hma : mayAt (uniL n main) (p : Int) zs10 a = true := mayAt_of (by omega) (by rw [hl]; omega) hm
  have hf := uni_fit hm h1 h2 hp
  obtain ⟨r1, r2⟩ := roomU_pos h1 h2
  have hfn : fitN (uniL n main) p zs10 a = min (roomU a main) (n - p) := by omega
  unfold takeW
  rw [if_neg (by rw [hma]; decide), Int.toNat_natCast, hfn, if_pos (by omega), uniL_seg n main p _ (by omega), uni_sums hm _ (by omega)]
theorem uni_go {n : Nat} {main : Int} {a : Area} (hm : mayW (uniL n main) zs10 a = true) (h1 : 1 ≤ main) (h2 : main ≤ a.height) (hn : n ≤ 300) : ∀ (r i P : Nat) (out : List LeafM), P = min (i * roomU a main) n → n - P ≤ r → i + r ≤ 2000 → out.length = i →
    ∃ ps, pagesGo (uniL n main) a (2001 - i) (P : Int) zs10 out = (out ++ ps, (0, 0)) ∧ ps.length = (n - P + roomU a main - 1) / roomU a main ∧ ∀ j, j < ps.length → ps.getD j leaf0 = ⟨((i + j) * roomU a main : Nat), (min (roomU a main) (n - (i + j) * roomU a main) : Nat), zs10, zs10⟩ := by
  obtain ⟨r1, r2⟩ := roomU_pos h1 h2
  intro r
  induction r with
  | zero =>
    intro i P out hP hr hi ho
    have hPn : P = n := by omega
    have hno : ¬ ((P : Int) < (uniL n main).length ∨ zs10 ≠ zs10) := by
      rw [uniL_length]
      rintro (h | h)
      · omega
      · exact h rfl
    refine ⟨[], ?_, ?_, fun j hj => by simp at hj⟩
    · rw [show 2001 - i = (2000 - i) + 1 by omega, pagesGo, if_neg hno, List.append_nil]
    · rw [hPn, show n - n + roomU a main - 1 = roomU a main - 1 by omega, Nat.div_eq_of_lt (by omega)]; rfl
  | succ r ih =>
    intro i P out hP hr hi ho
    by_cases hlt : P < n
    · have hPi : P = i * roomU a main := by omega
      have hmul : (i + 1) * roomU a main = i * roomU a main + roomU a main := Nat.succ_mul ..
      have hnext : P + min (roomU a main) (n - P) = min ((i + 1) * roomU a main) n := by omega
      obtain ⟨ps, g1, g2, g3⟩ := ih (i + 1) (P + min (roomU a main) (n - P)) (out ++ [⟨(P : Int), (min (roomU a main) (n - P) : Nat), zs10, zs10⟩]) hnext (by omega) (by omega) (by simp [ho])
      refine ⟨⟨(P : Int), (min (roomU a main) (n - P) : Nat), zs10, zs10⟩ :: ps, ?_, ?_, fun j hj => ?_⟩
      · rw [show 2001 - i = (2000 - i) + 1 by omega, pagesGo, if_pos (.inl (by rw [uniL_length]; omega)), uni_take hm h1 h2 hn hlt, if_neg (by simp), if_neg (by omega)]
        show pagesGo (uniL n main) a (2000 - i) (w64 ((P : Int) + ((min (roomU a main) (n - P) : Nat) : Int))) zs10 (out ++ [_]) = _
        rw [w64_in (by omega) (by omega), show (P : Int) + ((min (roomU a main) (n - P) : Nat) : Int) = ((P + min (roomU a main) (n - P) : Nat) : Int) by omega, show 2000 - i = 2001 - (i + 1) by omega, g1]
        simp
      · rw [List.length_cons, g2]
        by_cases hge : roomU a main ≤ n - P
        · rw [show n - (P + min (roomU a main) (n - P)) + roomU a main - 1 = n - P - 1 by omega, show n - P + roomU a main - 1 = (n - P - 1) + roomU a main by omega, Nat.add_div_right _ (by omega)]
        · rw [show n - (P + min (roomU a main) (n - P)) + roomU a main - 1 = roomU a main - 1 by omega, Nat.div_eq_of_lt (show roomU a main - 1 < roomU a main by omega), show n - P + roomU a main - 1 = (n - P - 1) + roomU a main by omega, Nat.add_div_right _ (by omega), Nat.div_eq_of_lt (show n - P - 1 < roomU a main by omega)]
      · cases j with
        | zero =>
          simp only [List.getD_cons_zero, Nat.add_zero, hPi]
        | succ j =>
          rw [List.getD_cons_succ, g3 j (by simpa using hj), show i + 1 + j = i + (j + 1) by omega]
    · have hPn : P = n := by omega
      have hno : ¬ ((P : Int) < (uniL n main).length ∨ zs10 ≠ zs10) := by
        rw [uniL_length]
        rintro (h | h)
        · omega
        · exact h rfl
      refine ⟨[], ?_, ?_, fun j hj => by simp at hj⟩
      · rw [show 2001 - i = (2000 - i) + 1 by omega, pagesGo, if_neg hno, List.append_nil]
      · rw [hPn, show n - n + roomU a main - 1 = roomU a main - 1 by omega, Nat.div_eq_of_lt (by omega)]; rfl
end Go.Proofs.Ytgjamldcglebjaa
