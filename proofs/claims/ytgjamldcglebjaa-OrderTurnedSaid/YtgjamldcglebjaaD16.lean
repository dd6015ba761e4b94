/- A logic of data for Go functions: what is known behind a region's last operation, told once. No program in sight. -/
import Derived.Test.YtgjamldcglebjaaD15
namespace Go.Proofs.Ytgjamldcglebjaa.DL
open Go.RowKit

section
variable {P : Program} {N : Nat} {ops : Array Oper} {Q : DPost} {env : Env} {M M0 : Mem} {γ γ' : Cn} {Pr Pr' : Prot} {x0 : Ctx} {w w' : World} {a : Act} {o : Oper} {rest : List Oper}

theorem wpList_up {Q Q' : Exit → Act → World → Prop} (hq : ∀ e a w, Q e a w → Q' e a w) : ∀ (l : List Oper) (a : Act) (w : World), wpList P ops Q l a w → wpList P ops Q' l a w
  | [], _, _, h => hq _ _ _ h
  | o :: l, a, w, h => by
    unfold wpList at h ⊢
    split
    · rename_i hw
      rw [if_pos hw] at h
      exact h.imp (wp_exits (fun a w h => wpList_up hq l a w h) fun e a w _ h => hq e a w h) fun ⟨h2, a2, w2, h3⟩ => ⟨h2, a2, w2, hq _ _ _ h3⟩
    · rename_i hw
      rw [if_neg hw] at h
      exact wpList_up hq l _ w h

theorem DOps.cut {l : List Oper} (up : Env) (ds : List Nat) (mup : Mem) (hu : okE (mup ++ M) up) (hm : okM (mup ++ M) mup)
    (h1 : DOps P N M0 ops (fun e env' M' => e = .normal ∧ Sub (up ++ junks ds env) env' ∧ MSubX [] (mup ++ M) M') l env M)
    (h2 : ∀ env' M', Wk N M0 env' M' (up ++ junks ds env) (mup ++ M) → Q .normal env' M') : DOps P N M0 ops Q l env M := by
  intro x0 a w hx hat
  obtain ⟨γ, Pr, hrel, hfr⟩ := hat
  have hh := okM_has (M := M) mup hm
  refine wpList_up (fun e a' w' ⟨env', M', hat', he, hs, hms⟩ => ?_) l a w (h1 x0 a w hx ⟨γ, Pr, hrel, hfr⟩)
  subst he
  refine ⟨_, _, hat', ?_⟩
  refine h2 _ _ (Wk.both hs hms.sub (okE_lk _ _ hu fun i => ?_) (okM_get _ hm fun b k hk => Blk.ok_le hh (hrel.memB b k hk)) fun b hb => hh b (hfr.has b (by rw [hx]; exact hb)))
  rw [lk_junks]
  split
  · trivial
  · exact SV.ok_le hh (hrel.slotB i)
end
end Go.Proofs.Ytgjamldcglebjaa.DL
