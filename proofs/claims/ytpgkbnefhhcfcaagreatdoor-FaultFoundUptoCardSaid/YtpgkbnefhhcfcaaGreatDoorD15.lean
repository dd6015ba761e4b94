/- A logic of data for Go functions: what a slot holds is told as data; memory of one's own is a list of blocks. Definitions, and how what is read stays. No program in sight. -/
import Derived.WalkKit
import Derived.WalkSpells
import Derived.WalkLawsBesides
import Derived.Test.YtpgkbnefhhcfcaaGreatDoorG0
import Derived.Deep.MidRow
import Derived.ChangeKeysEq
import Derived.Maps.AppendAt
import Derived.Deep.Slices

set_option linter.unusedVariables false
set_option linter.unusedSimpArgs false
set_option linter.constructorNameAsVariable false
namespace Go.Proofs.YtpgkbnefhhcfcaaGreatDoor.DL
open Go.RowKit

/-- Read-only data. -/
inductive DV where
  | sc (v : Value)
  | sl (n k : Nat) (el : Nat → Nat → DV)
  | pp (n : Nat) (el : Nat → DV)
  | ifc (t : TypeId) (x : DV)
  | fn (f : FuncId) (n : Nat) (cap : Nat → DV)

/-- Which cells are never written again. -/
abbrev Prot := Nat → Nat → Prop

def DRep (Pr : Prot) (w : World) : DV → Value → Prop
  | .sc x, v => x.oneCell' = true ∧ v = x
  | .sl n k el, v => ∃ A c, v = .slice A n c ∧ n ≤ c ∧ (0 < n → ∃ b o, A = some ⟨b, o, none⟩ ∧ ∀ i, i < n → ∀ j, j < k →
      Pr b (o + (i * k + j)) ∧ ∃ u, w.cell? ⟨b, o + (i * k + j), none⟩ = some u ∧ DRep Pr w (el i j) u)
  | .pp n el, v => ∃ b o, v = .pointer (some ⟨b, o, none⟩) ∧ ∀ j, j < n → Pr b (o + j) ∧ ∃ u, w.cell? ⟨b, o + j, none⟩ = some u ∧ DRep Pr w (el j) u
  | .ifc t x, v => ∃ u, v = .iface t u ∧ DRep Pr w x u
  | .fn f n cap, v => ∃ vs : List Value, v = .func (.func f) #[] vs.toArray ∧ vs.length = n ∧ ∀ j, j < n → ∃ u, vs[j]? = some u ∧ DRep Pr w (cap j) u

/-- What is protected stays. -/
structure Kept (Pr : Prot) (w : World) (Pr' : Prot) (w' : World) : Prop where
  sub : ∀ b o, Pr b o → Pr' b o
  cell : ∀ b o, Pr b o → w'.cell? ⟨b, o, none⟩ = w.cell? ⟨b, o, none⟩

/-- What is protected lies in memory, and the package's variables hold what they were laid with. -/
def glbP (Pr : Prot) (w : World) : Prop := (∀ g ∈ glbB, ∀ o, Pr g o) ∧ glbC fun g o => if g ∈ glbB then w.cell? ⟨g, o, none⟩ else none
structure PV (Pr : Prot) (w : World) : Prop where
  lt : ∀ b o, Pr b o → b < w.heap.size
  glob : glbP Pr w
instance (Pr : Prot) (w : World) : CoeFun (PV Pr w) (fun _ => ∀ b o, Pr b o → b < w.heap.size) := ⟨PV.lt⟩
theorem glbP.kept {Pr Pr' : Prot} {w w' : World} (h : glbP Pr w) (k : Kept Pr w Pr' w') : glbP Pr' w' := by
  refine ⟨fun g hg o => k.sub g o (h.1 g hg o), ?_⟩
  have : (fun g o => if g ∈ glbB then w'.cell? ⟨g, o, none⟩ else none) = fun g o => if g ∈ glbB then w.cell? ⟨g, o, none⟩ else none := by
    funext g o
    by_cases hg : g ∈ glbB
    · rw [if_pos hg, if_pos hg]; exact k.cell g o (h.1 g hg o)
    · rw [if_neg hg, if_neg hg]
  rw [this]
  exact h.2
theorem PV.kept {Pr Pr' : Prot} {w w' : World} (h : PV Pr w) (k : Kept Pr w Pr' w') (hl : ∀ b o, Pr' b o → b < w'.heap.size) : PV Pr' w' := ⟨hl, h.glob.kept k⟩

theorem Kept.refl (Pr : Prot) (w : World) : Kept Pr w Pr w := ⟨fun _ _ h => h, fun _ _ _ => rfl⟩
theorem Kept.trans {p p' p'' : Prot} {w w' w'' : World} (h : Kept p w p' w') (k : Kept p' w' p'' w'') : Kept p w p'' w'' :=
  ⟨fun b o x => k.sub b o (h.sub b o x), fun b o x => (k.cell b o (h.sub b o x)).trans (h.cell b o x)⟩

theorem DRep.kept {Pr Pr' : Prot} {w w' : World} (h : Kept Pr w Pr' w') : ∀ (x : DV) (v : Value), DRep Pr w x v → DRep Pr' w' x v
  | .sc _, _, hr => hr
  | .sl n k el, v, hr => by
    obtain ⟨A, c, hv, hn, hh⟩ := hr
    refine ⟨A, c, hv, hn, fun h0 => ?_⟩
    obtain ⟨b, o, hA, hc⟩ := hh h0
    refine ⟨b, o, hA, fun i hi j hj => ?_⟩
    obtain ⟨hp, u, hu, hd⟩ := hc i hi j hj
    exact ⟨h.sub _ _ hp, u, (h.cell _ _ hp).trans hu, DRep.kept h _ _ hd⟩
  | .pp n el, v, hr => by
    obtain ⟨b, o, hv, hc⟩ := hr
    refine ⟨b, o, hv, fun j hj => ?_⟩
    obtain ⟨hp, u, hu, hd⟩ := hc j hj
    exact ⟨h.sub _ _ hp, u, (h.cell _ _ hp).trans hu, DRep.kept h _ _ hd⟩
  | .ifc t x, v, hr => by
    obtain ⟨u, hv, hd⟩ := hr
    exact ⟨u, hv, DRep.kept h _ _ hd⟩
  | .fn f n cap, v, hr => by
    obtain ⟨vs, hv, hl, hc⟩ := hr
    refine ⟨vs, hv, hl, fun j hj => ?_⟩
    obtain ⟨u, hu, hd⟩ := hc j hj
    exact ⟨u, hu, DRep.kept h _ _ hd⟩

theorem DRep.one {Pr : Prot} {w : World} : ∀ {x : DV} {v : Value}, DRep Pr w x v → v.oneCell' = true
  | .sc _, _, hr => by obtain ⟨h, rfl⟩ := hr; exact h
  | .sl .., _, hr => by obtain ⟨A, c, rfl, _⟩ := hr; rfl
  | .pp .., _, hr => by obtain ⟨b, o, rfl, _⟩ := hr; rfl
  | .ifc .., _, hr => by obtain ⟨u, rfl, _⟩ := hr; rfl
  | .fn .., _, hr => by obtain ⟨vs, rfl, _⟩ := hr; rfl

/-- What a cell may hold: data; a pointer to a block of one's own; a slice that is a row of one's own. -/
inductive CV where
  | d (x : DV)
  | ptr (b off : Nat)
  | row (b : Nat) (v : Value)
  | rp (b : Nat) (v : Value) (off : Nat)
  | ifp (t : TypeId) (b : Nat)
  | clo (f : FuncId) (caps : List Nat)

/-- Where one's own blocks lie. -/
structure Cn where
  blk : Nat → Nat

def CRep (γ : Cn) (Pr : Prot) (w : World) : CV → Value → Prop
  | .d x, v => DRep Pr w x v
  | .ptr b o, v => v = .pointer (some ⟨γ.blk b, o, none⟩)
  | .row _ u, v => v = u ∧ v.oneCell' = true
  | .rp _ u o, v => ∃ g, u.ownBlock = some g ∧ v = .pointer (some ⟨g, o, none⟩)
  | .ifp t b, v => v = .iface t (.pointer (some ⟨γ.blk b, 0, none⟩))
  | .clo f caps, v => v = .func (.func f) #[] (caps.map fun b => Value.pointer (some ⟨γ.blk b, 0, none⟩)).toArray

theorem CRep.one {γ : Cn} {Pr : Prot} {w : World} {c : CV} {v : Value} (h : CRep γ Pr w c v) : v.oneCell' = true := by
  cases c with
  | d x => exact DRep.one h
  | ptr b o => obtain rfl := h; rfl
  | row b m => exact h.2
  | rp b m o => obtain ⟨g, _, rfl⟩ := h; rfl
  | ifp t b => obtain rfl := h; rfl
  | clo f caps => obtain rfl := h; rfl

/-- A block of one's own: a variable in memory; a row that a slice leads to (n elements of k cells; fz: its elements are no longer written). -/
inductive Blk where
  | box (t : TypeId) (cs : List CV)
  | row (e : TypeId) (k n : Nat) (v : Value) (cs : List CV) (fz : Bool)

/-- One's own memory: blocks by numbers of one's choice; what was put last stands first; none: forgotten. -/
abbrev Mem := List (Nat × Option Blk)
def mget : Mem → Nat → Option Blk
  | [], _ => none
  | (d, x) :: r, i => bif Nat.beq d i then x else mget r i

def has (M : Mem) (b : Nat) : Prop := mget M b ≠ none

/-- What is led to is there. -/
def CV.ok (M : Mem) : CV → Prop
  | .d _ => True
  | .ptr b _ | .ifp _ b => has M b
  | .row _ _ | .rp _ _ _ => True
  | .clo _ caps => ∀ b ∈ caps, has M b

/-- Two ways to lie that agree on what is there. -/
def Cn.agree (M : Mem) (γ γ' : Cn) : Prop := ∀ b, has M b → γ'.blk b = γ.blk b
theorem Cn.agree_refl (M : Mem) (γ : Cn) : Cn.agree M γ γ := fun _ _ => rfl

theorem CRep.move {γ γ' : Cn} {Pr Pr' : Prot} {w w' : World} {M : Mem} (hg : Cn.agree M γ γ') (hk : Kept Pr w Pr' w') {c : CV} {v : Value} (hb : c.ok M)
    (h : CRep γ Pr w c v) : CRep γ' Pr' w' c v := by
  cases c with
  | d x => exact DRep.kept hk _ _ h
  | ptr b o => simp only [CRep] at *; rw [hg b hb]; exact h
  | row b m => exact h
  | rp b m o => exact h
  | ifp t b => simp only [CRep] at *; rw [hg b hb]; exact h
  | clo f caps =>
    simp only [CRep] at *
    rw [h]
    congr 2
    exact List.map_congr_left fun b hx => by rw [hg b (hb b hx)]

/-- Cells. -/
def LRep (γ : Cn) (Pr : Prot) (w : World) (cs : List CV) (vs : List Value) : Prop :=
  vs.length = cs.length ∧ ∀ (i : Nat) c, cs[i]? = some c → ∃ u, vs[i]? = some u ∧ CRep γ Pr w c u

/-- What a slot of one value holds. -/
inductive TV where
  | one (c : CV)
  | agg (cs : List CV)

def TRep (γ : Cn) (Pr : Prot) (w : World) : TV → Value → Prop
  | .one c, v => CRep γ Pr w c v
  | .agg cs, v => ∃ vs : List Value, v = .agg vs.toArray ∧ LRep γ Pr w cs vs

inductive SV where
  | junk
  | v (x : TV)
  | tup (l : List TV)

def SRep (γ : Cn) (Pr : Prot) (w : World) : SV → Value → Prop
  | .junk, _ => True
  | .v x, u => TRep γ Pr w x u
  | .tup l, u => ∃ vs : List Value, u = .tuple vs.toArray ∧ vs.length = l.length ∧ ∀ (i : Nat) t, l[i]? = some t → ∃ y, vs[i]? = some y ∧ TRep γ Pr w t y

def TV.ok (M : Mem) : TV → Prop
  | .one c => c.ok M
  | .agg cs => ∀ c ∈ cs, c.ok M

def SV.ok (M : Mem) : SV → Prop
  | .junk => True
  | .v x => x.ok M
  | .tup l => ∀ t ∈ l, t.ok M

def Blk.ok (M : Mem) : Blk → Prop
  | .box _ cs => ∀ c ∈ cs, c.ok M
  | .row _ _ _ _ cs _ => ∀ c ∈ cs, c.ok M

theorem CV.ok_le {M M' : Mem} (h : ∀ b, has M b → has M' b) {c : CV} (hb : c.ok M) : c.ok M' := by
  cases c with
  | d x => trivial
  | ptr b o => exact h _ hb
  | row b k => trivial
  | rp b k o => trivial
  | ifp t b => exact h _ hb
  | clo f caps => exact fun b hx => h _ (hb b hx)
theorem TV.ok_le {M M' : Mem} (h : ∀ b, has M b → has M' b) {t : TV} (hb : t.ok M) : t.ok M' := by
  cases t with
  | one c => exact CV.ok_le h hb
  | agg cs => exact fun c hc => CV.ok_le h (hb c hc)
theorem SV.ok_le {M M' : Mem} (h : ∀ b, has M b → has M' b) {t : SV} (hb : t.ok M) : t.ok M' := by
  cases t with
  | junk => trivial
  | v x => exact TV.ok_le h hb
  | tup l => exact fun c hc => TV.ok_le h (hb c hc)
theorem Blk.ok_le {M M' : Mem} (h : ∀ b, has M b → has M' b) {t : Blk} (hb : t.ok M) : t.ok M' := by
  cases t with
  | box t cs => exact fun c hc => CV.ok_le h (hb c hc)
  | row e k n v cs fz => exact fun c hc => CV.ok_le h (hb c hc)

section
variable {γ γ' : Cn} {Pr Pr' : Prot} {w w' : World} {M : Mem}
theorem LRep.move (hg : Cn.agree M γ γ') (hk : Kept Pr w Pr' w') {cs : List CV} {vs : List Value} (hb : ∀ c ∈ cs, c.ok M) (h : LRep γ Pr w cs vs) : LRep γ' Pr' w' cs vs :=
  ⟨h.1, fun i c hc => let ⟨u, hu, hr⟩ := h.2 i c hc; ⟨u, hu, CRep.move hg hk (hb c (List.mem_of_getElem? hc)) hr⟩⟩
theorem TRep.move (hg : Cn.agree M γ γ') (hk : Kept Pr w Pr' w') {t : TV} {v : Value} (hb : t.ok M) (h : TRep γ Pr w t v) : TRep γ' Pr' w' t v := by
  cases t with
  | one c => exact CRep.move hg hk hb h
  | agg cs => obtain ⟨vs, hv, hl⟩ := h; exact ⟨vs, hv, LRep.move hg hk hb hl⟩
theorem SRep.move (hg : Cn.agree M γ γ') (hk : Kept Pr w Pr' w') {t : SV} {v : Value} (hb : t.ok M) (h : SRep γ Pr w t v) : SRep γ' Pr' w' t v := by
  cases t with
  | junk => trivial
  | v x => exact TRep.move hg hk hb h
  | tup l =>
    obtain ⟨vs, hv, hl, hh⟩ := h
    exact ⟨vs, hv, hl, fun i t ht => let ⟨y, hy, hr⟩ := hh i t ht; ⟨y, hy, TRep.move hg hk (hb t (List.mem_of_getElem? ht)) hr⟩⟩
end

def blockOf (γ : Cn) (b : Nat) : Blk → Option Nat
  | .box .. => some (γ.blk b)
  | .row _ _ _ v _ _ => v.ownBlock

/-- How a call began: its world, what was protected, and the memory that it was handed. -/
structure Ctx where
  w0 : World
  Pr0 : Prot
  γ0 : Cn
  M0 : Mem
/-- Blocks that may be written. -/
def Ctx.may (c : Ctx) (k : Nat) : Prop := c.w0.heap.size ≤ k ∨ ∃ b l, mget c.M0 b = some l ∧ blockOf c.γ0 b l = some k

def BRep (γ : Cn) (Pr : Prot) (w : World) (c : Ctx) (b : Nat) : Blk → Prop
  | .box t cs => c.may (γ.blk b) ∧ (∃ vs : List Value, w.heap[γ.blk b]? = some (.cells vs.toArray t (0, 0)) ∧ LRep γ Pr w cs vs) ∧ ∀ o, ¬ Pr (γ.blk b) o
  | .row e k n v cs fz => ∃ vs, w.ownsRow 0 e k v n vs ∧ LRep γ Pr w cs vs ∧
      ∀ g, v.ownBlock = some g → c.may g ∧ (∀ o, n * k ≤ o → ¬ Pr g o) ∧ (fz = false → ∀ o, ¬ Pr g o)

/-- What may not be written is as it was. -/
structure Sim (c : Ctx) (w : World) : Prop where
  os : w.os = c.w0.os
  tape : w.tape = c.w0.tape
  output : w.output = c.w0.output
  size : c.w0.heap.size ≤ w.heap.size
  block : ∀ k, ¬ c.may k → w.heap[k]? = c.w0.heap[k]?

/-- Slots: what was put last stands first. -/
abbrev Env := List (Nat × SV)
def lk : Env → Nat → SV
  | [], _ => .junk
  | (d, x) :: r, i => bif Nat.beq d i then x else lk r i

structure Rel (γ : Cn) (Pr : Prot) (c : Ctx) (N : Nat) (env : Env) (M : Mem) (a : Act) (w : World) : Prop where
  size : a.tmps.size = N
  slot : ∀ i, SRep γ Pr w (lk env i) (a.tmps.getD i undef)
  slotB : ∀ i, (lk env i).ok M
  mem : ∀ b k, mget M b = some k → BRep γ Pr w c b k
  memB : ∀ b k, mget M b = some k → Blk.ok M k
  apart : ∀ b b' k k', mget M b = some k → mget M b' = some k' → b ≠ b' → ∀ g, blockOf γ b k = some g → blockOf γ b' k' ≠ some g
  below : Sim c w
  prot : PV Pr w
  defers : a.defers = []

/-- Protection has grown, and of what may not be written nothing is new. -/
structure PExt (Pr Pr' : Prot) (may : Nat → Prop) : Prop where
  sub : ∀ b o, Pr b o → Pr' b o
  new : ∀ b o, Pr' b o → Pr b o ∨ may b
theorem PExt.refl (Pr : Prot) (may : Nat → Prop) : PExt Pr Pr may := ⟨fun _ _ h => h, fun _ _ h => .inl h⟩
theorem PExt.trans {a b c : Prot} {may : Nat → Prop} (h : PExt a b may) (k : PExt b c may) : PExt a c may :=
  ⟨fun x o p => k.sub x o (h.sub x o p), fun x o p => (k.new x o p).elim (fun q => h.new x o q) .inr⟩
theorem PExt.mono {a b : Prot} {may may' : Nat → Prop} (h : PExt a b may) (k : ∀ x, may x → may' x) : PExt a b may' := ⟨h.sub, fun x o p => (h.new x o p).imp id (k x)⟩

/-- How the state came out of the call's begin. -/
structure From (c : Ctx) (γ : Cn) (Pr : Prot) (M : Mem) (w : World) : Prop where
  ext : PExt c.Pr0 Pr c.may
  cell : ∀ b o, c.Pr0 b o → w.cell? ⟨b, o, none⟩ = c.w0.cell? ⟨b, o, none⟩
  lie : Cn.agree c.M0 c.γ0 γ
  has : ∀ b, DL.has c.M0 b → DL.has M b

theorem From.step {c : Ctx} {γ γ' : Cn} {Pr Pr' : Prot} {M M' : Mem} {w w' : World} (h : From c γ Pr M w) (hg : Cn.agree M γ γ') (hk : Kept Pr w Pr' w') (hp : PExt Pr Pr' c.may) (hh : ∀ b, DL.has M b → DL.has M' b) : From c γ' Pr' M' w' :=
  ⟨h.ext.trans hp, fun b o x => (hk.cell b o (h.ext.sub b o x)).trans (h.cell b o x), fun b hb => (hg b (h.has b hb)).trans (h.lie b hb), fun b hb => hh b (h.has b hb)⟩

/-- The state of a call, told as data. -/
def At (c : Ctx) (N : Nat) (env : Env) (M : Mem) (a : Act) (w : World) : Prop :=
  ∃ γ Pr, Rel γ Pr c N env M a w ∧ From c γ Pr M w

abbrev DPost := Exit → Env → Mem → Prop
def up (c : Ctx) (N : Nat) (Q : DPost) (e : Exit) (a : Act) (w : World) : Prop := ∃ env M, At c N env M a w ∧ Q e env M

/-- M0: the memory that the call was handed. -/
def DCode (P : Program) (N : Nat) (M0 : Mem) (c : Code) (Q : DPost) (env : Env) (M : Mem) : Prop :=
  ∀ x a w, x.M0 = M0 → At x N env M a w → c.wp P (up x N Q) a w

def DOps (P : Program) (N : Nat) (M0 : Mem) (ops : Array Oper) (Q : DPost) (l : List Oper) (env : Env) (M : Mem) : Prop :=
  ∀ x a w, x.M0 = M0 → At x N env M a w → wpList P ops (up x N Q) l a w

def thenQ (K : Env → Mem → Prop) (Q : DPost) : DPost
  | .normal, env, M => K env M
  | e, env, M => Q e env M
def seqQ (P : Program) (N : Nat) (M0 : Mem) (y : Code) (Q : DPost) : DPost := thenQ (DCode P N M0 y Q) Q
def inBlockQ (id : Nat) (Q : DPost) : DPost
  | .exit id', env, M => if id' = id then Q .normal env M else Q (.exit id') env M
  | e, env, M => Q e env M

section
variable {P : Program} {N : Nat} {Q : DPost} {env : Env} {M M0 : Mem}

theorem DCode.mono {c : Code} {Q' : DPost} (h : DCode P N M0 c Q env M) (hq : ∀ e env M, Q e env M → Q' e env M) : DCode P N M0 c Q' env M :=
  fun x a w hx ha => wp_mono (h x a w hx ha) fun _ _ _ ⟨env, M, hr, hQ⟩ => ⟨env, M, hr, hq _ _ _ hQ⟩

theorem DCode.seq {y z : Code} (h : DCode P N M0 y (seqQ P N M0 z Q) env M) : DCode P N M0 (.seq y z) Q env M :=
  fun x a w hx ha => wp_seq (wp_mono (h x a w hx ha) fun e a' w' ⟨env', M', hr, hQ⟩ => by
    cases e with
    | normal => exact hQ x a' w' hx hr
    | _ => exact ⟨env', M', hr, hQ⟩)

theorem DCode.skip (h : Q .normal env M) : DCode P N M0 .skip Q env M := fun _ _ _ _ ha => wp_skip ⟨env, M, ha, h⟩
theorem DCode.exit {id : Nat} (h : Q (.exit id) env M) : DCode P N M0 (.exit id) Q env M := fun _ _ _ _ ha => wp_exit ⟨env, M, ha, h⟩
theorem DCode.ret (h : Q .ret env M) : DCode P N M0 .ret Q env M := fun _ _ _ _ ha => wp_ret ⟨env, M, ha, h⟩
theorem DCode.block {id : Nat} {c : Code} (h : DCode P N M0 c (inBlockQ id Q) env M) : DCode P N M0 (.block id c) Q env M :=
  fun x a w hx ha => wp_block (wp_mono (h x a w hx ha) fun e a' w' ⟨env', M', hr, hQ⟩ => by
    cases e with
    | exit id' =>
      simp only [Exit.inBlock, inBlockQ] at *
      split
      · rename_i h1; simp only [h1, if_true] at hQ; exact ⟨env', M', hr, hQ⟩
      · rename_i h1; simp only [h1, if_false] at hQ; exact ⟨env', M', hr, hQ⟩
    | _ => exact ⟨env', M', hr, hQ⟩)

/-- What an operand holds. -/
def opv (env : Env) : Operand → SV
  | .tmp t => lk env t
  | .const v => if v.oneCell' then .v (.one (.d (.sc v))) else .junk
  | .func f => .v (.one (.d (.sc (.func (.func f) #[] #[]))))
  | .global g => .v (.one (.d (.sc (.pointer (some ⟨g, 0, none⟩)))))

theorem Rel.opv {γ : Cn} {Pr : Prot} {c : Ctx} {a : Act} {w : World} (h : Rel γ Pr c N env M a w) (x : Operand) : SRep γ Pr w (opv env x) (a.eval x) := by
  cases x with
  | tmp t =>
    exact h.slot t
  | const v =>
    simp only [DL.opv, Act.eval]
    split
    · rename_i h1; exact ⟨h1, rfl⟩
    · trivial
  | func f => exact ⟨rfl, rfl⟩
  | global g => exact ⟨rfl, rfl⟩
end
end Go.Proofs.YtpgkbnefhhcfcaaGreatDoor.DL
set_option linter.unusedVariables false
set_option linter.unusedSimpArgs false
set_option linter.constructorNameAsVariable false
namespace Go.Proofs.YtpgkbnefhhcfcaaGreatDoor.DL
open Go.RowKit

/-- What is known of a type. -/
structure TyI where
  desc : TypeDesc
  size : Nat
  bytes : Nat
  zero : Value
def TOk (P : Program) (T : TypeId → Option TyI) : Prop :=
  ∀ t i, T t = some i → P.underlying t = some i.desc ∧ ∃ info, P.info? t = some info ∧ info.size = i.size ∧ info.bytes = i.bytes ∧ info.zero = some i.zero

def putd : Option Tmp → SV → Env → Env
  | some d, x, env => (d, x) :: env
  | none, _, env => env

theorem lk_cons (d i : Nat) (x : SV) (r : Env) : lk ((d, x) :: r) i = if d = i then x else lk r i := by
  simp only [lk]
  by_cases h : d = i
  · subst h; simp
  · rw [if_neg h]; have : Nat.beq d i = false := by
      cases hb : Nat.beq d i
      · rfl
      · exact absurd (Nat.eq_of_beq_eq_true hb) h
    rw [this]; rfl

theorem mget_cons (d i : Nat) (x : Option Blk) (r : Mem) : mget ((d, x) :: r) i = if d = i then x else mget r i := by
  simp only [mget]
  by_cases h : d = i
  · subst h; simp
  · rw [if_neg h]; have : Nat.beq d i = false := by
      cases hb : Nat.beq d i
      · rfl
      · exact absurd (Nat.eq_of_beq_eq_true hb) h
    rw [this]; rfl

section
variable {P : Program} {N : Nat} {ops : Array Oper} {Q : DPost} {env : Env} {M M0 : Mem} {γ : Cn} {Pr : Prot} {x0 : Ctx} {w : World} {a : Act} {o : Oper} {rest : List Oper}

theorem Rel.put (h : Rel γ Pr x0 N env M a w) {dst : Option Tmp} {r : SV} {v : Value} (hd : ∀ d, dst = some d → d < N) (hr : SRep γ Pr w r v) (hok : r.ok M) :
    Rel γ Pr x0 N (putd dst r env) M (a.put dst v) w := by
  cases dst with
  | none => exact h
  | some d =>
    have hdN := hd d rfl
    have hs := h.size
    refine { size := by simpa [Act.put] using hs, slot := fun i => ?_, slotB := fun i => ?_, mem := h.mem, memB := h.memB, apart := h.apart, below := h.below, prot := h.prot, defers := h.defers }
    · simp only [putd, lk_cons, Act.put]
      by_cases hi : d = i
      · subst hi
        rw [if_pos rfl]
        have : (a.tmps.setIfInBounds d v).getD d undef = v := by simp [Array.getD, hs, hdN]
        rw [this]; exact hr
      · rw [if_neg hi]
        have : (a.tmps.setIfInBounds d v).getD i undef = a.tmps.getD i undef := by simp [Array.getElem?_setIfInBounds_ne hi]
        rw [this]; exact h.slot i
    · simp only [putd, lk_cons]
      by_cases hi : d = i
      · rw [if_pos hi]; exact hok
      · rw [if_neg hi]; exact h.slotB i

/-- Is an operation's guard open? -/
def gd (ops : Array Oper) (env : Env) (o : Oper) : Option Bool :=
  match o.guard with
  | none => some true
  | some (j, want) => match (ops[j]?).bind (·.dst) with
    | some d => match lk env d with
      | .v (.one (.d (.sc (.bool b)))) => some (b == want)
      | .tup [] => some false
      | _ => none
    | none => none

theorem gd_wanted (h : Rel γ Pr x0 N env M a w) {b : Bool} (hg : gd ops env o = some b) : Region.wanted o (yielded ops a.tmps) = b := by
  unfold gd at hg
  unfold Region.wanted
  cases hgu : o.guard with
  | none => rw [hgu] at hg; simpa using hg
  | some jw =>
    obtain ⟨j, want⟩ := jw
    rw [hgu] at hg
    simp only at hg ⊢
    cases hd : (ops[j]?).bind (·.dst) with
    | none => rw [hd] at hg; simp at hg
    | some d =>
      rw [hd] at hg
      simp only at hg
      have hs := h.slot d
      cases hl : lk env d with
      | junk => rw [hl] at hg; simp at hg
      | tup l =>
        rw [hl] at hg hs
        cases l with
        | cons _ _ => simp at hg
        | nil =>
          simp at hg
          obtain ⟨vs, hvs, hlen, _⟩ := hs
          have h0 : vs = [] := List.eq_nil_of_length_eq_zero hlen
          subst h0
          have h2 : a.tmps[d]? = none ∨ a.tmps[d]? = some (.tuple #[]) := by
            cases hq : a.tmps[d]? with
            | none => exact .inl rfl
            | some z => simp [hq] at hvs; rw [hvs]; exact .inr rfl
          unfold yielded
          simp only [hd, Option.bind_some]
          rcases h2 with h2 | h2 <;> rw [h2, hg] <;> cases want <;> rfl
      | v t =>
        rw [hl] at hg hs
        cases t with
        | agg cs => simp at hg
        | one c =>
          cases c with
          | d x =>
            cases x with
            | sc u =>
              cases u with
              | bool t =>
                simp at hg
                have h1 : a.tmps.getD d undef = .bool t := hs.2
                have h2 : a.tmps[d]? = some (.bool t) := by
                  cases hq : a.tmps[d]? with
                  | none => simp [hq] at h1; cases h1
                  | some z => simp [hq] at h1; rw [h1]
                unfold yielded
                simp only [hd, Option.bind_some, h2]
                rw [← hg]
                cases t <;> cases want <;> rfl
              | _ => simp at hg
            | _ => simp at hg
          | _ => simp at hg

/-- Is there such a slot? -/
def dstOk (N : Nat) (o : Oper) : Bool := match o.dst with
  | some d => Nat.blt d N
  | none => true
theorem dstOk_spec (h : dstOk N o = true) : ∀ d, o.dst = some d → d < N := fun d hd => by
  unfold dstOk at h
  rw [hd] at h
  simpa using h

theorem dstOk_of {d : Nat} (hd : o.dst = some d) (hN : Nat.blt d N = true) : dstOk N o = true := by unfold dstOk; rw [hd]; exact hN

theorem DOps.nil (h : Q .normal env M) : DOps P N M0 ops Q [] env M := fun _ _ _ _ ha => wpList_nil ⟨env, M, ha, h⟩

theorem DCode.region {id : Nat} {l : List Oper} (h : DOps P N M0 l.toArray Q l env M) : DCode P N M0 (.region id l.toArray false) Q env M :=
  fun x a w hx ha => wp_region_lit (h x a w hx ha)

theorem DOps.off (hg : gd ops env o = some false) {d : Nat} (hd : o.dst = some d) (hN : Nat.blt d N = true) (h : DOps P N M0 ops Q rest ((d, .tup []) :: env) M) : DOps P N M0 ops Q (o :: rest) env M := by
  have he : putd o.dst (.tup []) env = (d, .tup []) :: env := by rw [hd]; rfl
  rw [← he] at h
  have hd := dstOk_of hd hN
  intro x0 a w hx0 ⟨γ, Pr, hr, hp⟩
  have hw := gd_wanted (ops := ops) hr hg
  unfold wpList
  rw [if_neg (by rw [hw]; simp)]
  exact h x0 _ w hx0 ⟨γ, Pr, hr.put (dstOk_spec hd) ⟨[], rfl, rfl, fun i t h => by simp at h⟩ (fun t h => by cases h), hp⟩

/-- An operation that yields a value, and leaves memory. -/
def OpVal (P : Program) (N : Nat) (env : Env) (M : Mem) (o : Oper) (r : SV) : Prop :=
  ∀ γ Pr x0 a w, Rel γ Pr x0 N env M a w → r.ok M ∧ ∃ v, (execOp a.eval o).run P w = .ok (.value v) w ∧ SRep γ Pr w r v

theorem DOps.val {r : SV} {d : Nat} (hg : gd ops env o = some true) (hd : o.dst = some d) (hN : Nat.blt d N = true) (hv : OpVal P N env M o r) (h : DOps P N M0 ops Q rest ((d, r) :: env) M) :
    DOps P N M0 ops Q (o :: rest) env M := by
  have he : putd o.dst r env = (d, r) :: env := by rw [hd]; rfl
  rw [← he] at h
  have hd := dstOk_of hd hN
  intro x0 a w hx0 ⟨γ, Pr, hr, hp⟩
  have hw := gd_wanted (ops := ops) hr hg
  obtain ⟨hok, v, hrun, hrep⟩ := hv γ Pr x0 a w hr
  unfold wpList
  rw [if_pos hw]
  refine .inl ?_
  unfold Oper.wp
  rw [hrun, Oper.upon_value]
  exact h x0 _ w hx0 ⟨γ, Pr, hr.put (dstOk_spec hd) hrep hok, hp⟩

/-- An operation that yields a value, and turns memory. -/
theorem DOps.eff {env' : Env} {M' : Mem} (hg : gd ops env o = some true)
    (hv : ∀ x0 a w, x0.M0 = M0 → At x0 N env M a w → ∃ v w', ((execOp a.eval o).run P w = .ok (.value v) w' ∨ ((execOp a.eval o).run P w = .ok .skip w' ∧ v = undef)) ∧ At x0 N env' M' (a.put o.dst v) w')
    (h : DOps P N M0 ops Q rest env' M') : DOps P N M0 ops Q (o :: rest) env M := by
  intro x0 a w hx0 ha
  have ⟨γ, Pr, hr, _⟩ := ha
  have hw := gd_wanted (ops := ops) hr hg
  obtain ⟨v, w', hrun, hat⟩ := hv x0 a w hx0 ha
  unfold wpList
  rw [if_pos hw]
  refine .inl ?_
  unfold Oper.wp
  rcases hrun with hrun | ⟨hrun, rfl⟩
  · rw [hrun, Oper.upon_value]
    exact h x0 _ w' hx0 hat
  · rw [hrun, Oper.upon_skip]
    exact h x0 _ w' hx0 hat

/-- A test's value, both ways. -/
theorem DOps.split {d : Nat} {b : Bool} {l : List Oper} (h1 : b = true → DOps P N M0 ops Q l ((d, .v (.one (.d (.sc (.bool true))))) :: env) M)
    (h2 : b = false → DOps P N M0 ops Q l ((d, .v (.one (.d (.sc (.bool false))))) :: env) M) : DOps P N M0 ops Q l ((d, .v (.one (.d (.sc (.bool b))))) :: env) M := by
  cases b
  · exact h2 rfl
  · exact h1 rfl

theorem DCode.cond {c : Operand} {x y : Code} {t : Bool} (hc : opv env c = .v (.one (.d (.sc (.bool t))))) (h : DCode P N M0 (if t then x else y) Q env M) : DCode P N M0 (.cond c x y) Q env M := by
  intro x0 a w hx0 ha
  have ⟨γ, Pr, hr, _⟩ := ha
  have h1 := hr.opv c
  rw [hc] at h1
  exact wp_cond h1.2 (h x0 a w hx0 ha)
theorem DCode.condT {c : Operand} {x y : Code} (hc : opv env c = .v (.one (.d (.sc (.bool true))))) (h : DCode P N M0 x Q env M) : DCode P N M0 (.cond c x y) Q env M := DCode.cond hc (by simpa using h)
theorem DCode.condF {c : Operand} {x y : Code} (hc : opv env c = .v (.one (.d (.sc (.bool false))))) (h : DCode P N M0 y Q env M) : DCode P N M0 (.cond c x y) Q env M := DCode.cond hc (by simpa using h)

/-! ### Values -/
theorem opv_ok (hr : ∀ i, (lk env i).ok M) (x : Operand) : (opv env x).ok M := by
  cases x with
  | tmp t => exact hr t
  | const v =>
    simp only [opv]
    split <;> trivial
  | func f => trivial
  | global g => trivial

theorem OpVal.move {x : Operand} {t : TV} (ho : o.op = .move x) (hx : opv env x = .v t) : OpVal P N env M o (.v t) := fun γ Pr x0 a w h => by
  have h1 := h.opv x; have h2 := opv_ok h.slotB x
  rw [hx] at h1 h2
  exact ⟨h2, _, by simp [execOp, ho], h1⟩
theorem OpVal.assign {x : Operand} {t : TV} (ho : o.op = .assign x) (hx : opv env x = .v t) : OpVal P N env M o (.v t) := fun γ Pr x0 a w h => by
  have h1 := h.opv x; have h2 := opv_ok h.slotB x
  rw [hx] at h1 h2
  exact ⟨h2, _, by simp [execOp, ho], h1⟩
theorem OpVal.moveT {x : Operand} {t : List TV} (ho : o.op = .move x) (hx : opv env x = .tup t) : OpVal P N env M o (.tup t) := fun γ Pr x0 a w h => by
  have h1 := h.opv x; have h2 := opv_ok h.slotB x
  rw [hx] at h1 h2
  exact ⟨h2, _, by simp [execOp, ho], h1⟩

abbrev vI (k : IntKind) (n : Int) : SV := .v (.one (.d (.sc (.int k n))))
abbrev vB (b : Bool) : SV := .v (.one (.d (.sc (.bool b))))
abbrev vS (s : ByteArray) : SV := .v (.one (.d (.sc (.string s))))
theorem opI (h : Rel γ Pr x0 N env M a w) {x : Operand} {k : IntKind} {n : Int} (hx : opv env x = vI k n) : a.eval x = .int k n := by
  have h1 := h.opv x; rw [hx] at h1; exact h1.2
theorem opB (h : Rel γ Pr x0 N env M a w) {x : Operand} {n : Bool} (hx : opv env x = vB n) : a.eval x = .bool n := by
  have h1 := h.opv x; rw [hx] at h1; exact h1.2
theorem opS (h : Rel γ Pr x0 N env M a w) {x : Operand} {n : ByteArray} (hx : opv env x = vS n) : a.eval x = .string n := by
  have h1 := h.opv x; rw [hx] at h1; exact h1.2

theorem OpVal.pickT {c x y : Operand} {t : TV} (ho : o.op = .pick c x y) (hc : opv env c = vB true) (hx : opv env x = .v t) : OpVal P N env M o (.v t) := fun γ Pr x0 a w h => by
  have h1 := h.opv x; have h2 := opv_ok h.slotB x; have h3 := opB h hc
  rw [hx] at h1 h2
  exact ⟨h2, _, by simp [execOp, ho, h3, asBool], h1⟩
theorem OpVal.pickF {c x y : Operand} {t : TV} (ho : o.op = .pick c x y) (hc : opv env c = vB false) (hx : opv env y = .v t) : OpVal P N env M o (.v t) := fun γ Pr x0 a w h => by
  have h1 := h.opv y; have h2 := opv_ok h.slotB y; have h3 := opB h hc
  rw [hx] at h1 h2
  exact ⟨h2, _, by simp [execOp, ho, h3, asBool], h1⟩

theorem OpVal.of_run {r : SV} {v : Value} (hok : r.ok M) (h : ∀ γ Pr x0 a w, Rel γ Pr x0 N env M a w → (execOp a.eval o).run P w = .ok (.value v) w ∧ SRep γ Pr w r v) : OpVal P N env M o r :=
  fun γ Pr x0 a w hr => ⟨hok, v, (h γ Pr x0 a w hr).1, (h γ Pr x0 a w hr).2⟩

/-- Sums and their kin. -/
def arith (op : BinOp) (k : IntKind) (x y : Int) : Option Int :=
  match op with
  | .add => some (k.wrap (x + y))
  | .sub => some (k.wrap (x - y))
  | .mul => some (k.wrap (x * y))
  | _ => none
theorem OpVal.arith {op : BinOp} {t t' : TypeId} {x y : Operand} {k : IntKind} {m n r : Int} (ho : o.op = .binOp op t x y t') (hx : opv env x = vI k m) (hy : opv env y = vI k n)
    (hr : DL.arith op k m n = some r) : OpVal P N env M o (vI k r) :=
  OpVal.of_run (v := .int k r) trivial fun γ Pr x0 a w h => ⟨by
    cases op <;> simp [DL.arith] at hr <;> simp [execOp, ho, opI h hx, opI h hy, eqGuard_at_int, binOp, Op.intArith, hr], rfl, rfl⟩
theorem wrap_in64 {n : Int} (h0 : -9223372036854775808 ≤ n) (h1 : n ≤ 9223372036854775807) : IntKind.i64.wrap n = n := IntWalk.i64_in n ⟨h0, h1⟩
theorem OpVal.add {t t' : TypeId} {x y : Operand} {m n : Int} (ho : o.op = .binOp .add t x y t') (hx : opv env x = vI .i64 m) (hy : opv env y = vI .i64 n)
    (h0 : -9223372036854775808 ≤ m + n) (h1 : m + n ≤ 9223372036854775807) : OpVal P N env M o (vI .i64 (m + n)) :=
  OpVal.arith ho hx hy (by simp [DL.arith, wrap_in64 h0 h1])
theorem OpVal.sub {t t' : TypeId} {x y : Operand} {m n : Int} (ho : o.op = .binOp .sub t x y t') (hx : opv env x = vI .i64 m) (hy : opv env y = vI .i64 n)
    (h0 : -9223372036854775808 ≤ m - n) (h1 : m - n ≤ 9223372036854775807) : OpVal P N env M o (vI .i64 (m - n)) :=
  OpVal.arith ho hx hy (by simp [DL.arith, wrap_in64 h0 h1])
theorem OpVal.mul {t t' : TypeId} {x y : Operand} {m n : Int} (ho : o.op = .binOp .mul t x y t') (hx : opv env x = vI .i64 m) (hy : opv env y = vI .i64 n)
    (h0 : -9223372036854775808 ≤ m * n) (h1 : m * n ≤ 9223372036854775807) : OpVal P N env M o (vI .i64 (m * n)) :=
  OpVal.arith ho hx hy (by simp [DL.arith, wrap_in64 h0 h1])
theorem OpVal.lss {t t' : TypeId} {x y : Operand} {k : IntKind} {m n : Int} (ho : o.op = .binOp .lss t x y t') (hx : opv env x = vI k m) (hy : opv env y = vI k n) : OpVal P N env M o (vB (decide (m < n))) :=
  OpVal.of_run (v := .bool (decide (m < n))) trivial fun γ Pr x0 a w h => ⟨by simp [execOp, ho, opI h hx, opI h hy, eqGuard_at_int, binOp, Op.intCmp], rfl, rfl⟩
theorem OpVal.leq {t t' : TypeId} {x y : Operand} {k : IntKind} {m n : Int} (ho : o.op = .binOp .leq t x y t') (hx : opv env x = vI k m) (hy : opv env y = vI k n) : OpVal P N env M o (vB (decide (m ≤ n))) :=
  OpVal.of_run (v := .bool (decide (m ≤ n))) trivial fun γ Pr x0 a w h => ⟨by simp [execOp, ho, opI h hx, opI h hy, eqGuard_at_int, binOp, Op.intCmp], rfl, rfl⟩
theorem OpVal.gtr {t t' : TypeId} {x y : Operand} {k : IntKind} {m n : Int} (ho : o.op = .binOp .gtr t x y t') (hx : opv env x = vI k m) (hy : opv env y = vI k n) : OpVal P N env M o (vB (decide (n < m))) :=
  OpVal.of_run (v := .bool (decide (n < m))) trivial fun γ Pr x0 a w h => ⟨by simp [execOp, ho, opI h hx, opI h hy, eqGuard_at_int, binOp, Op.intCmp], rfl, rfl⟩
theorem OpVal.geq {t t' : TypeId} {x y : Operand} {k : IntKind} {m n : Int} (ho : o.op = .binOp .geq t x y t') (hx : opv env x = vI k m) (hy : opv env y = vI k n) : OpVal P N env M o (vB (decide (n ≤ m))) :=
  OpVal.of_run (v := .bool (decide (n ≤ m))) trivial fun γ Pr x0 a w h => ⟨by simp [execOp, ho, opI h hx, opI h hy, eqGuard_at_int, binOp, Op.intCmp], rfl, rfl⟩
theorem OpVal.eqlI {t t' : TypeId} {x y : Operand} {k : IntKind} {m n : Int} (ho : o.op = .binOp .eql t x y t') (hx : opv env x = vI k m) (hy : opv env y = vI k n) : OpVal P N env M o (vB (decide (m = n))) :=
  OpVal.of_run (v := .bool (decide (m = n))) trivial fun γ Pr x0 a w h => ⟨by
    simp [execOp, ho, opI h hx, opI h hy, eqGuard_at_int, binOp, Op.intCmp]; rfl, rfl, rfl⟩
theorem OpVal.neqI {t t' : TypeId} {x y : Operand} {k : IntKind} {m n : Int} (ho : o.op = .binOp .neq t x y t') (hx : opv env x = vI k m) (hy : opv env y = vI k n) : OpVal P N env M o (vB (!decide (m = n))) :=
  OpVal.of_run (v := .bool (!decide (m = n))) trivial fun γ Pr x0 a w h => ⟨by
    simp [execOp, ho, opI h hx, opI h hy, eqGuard_at_int, binOp, Op.intCmp]; rfl, rfl, rfl⟩
theorem OpVal.neg {t : TypeId} {x : Operand} {k : IntKind} {n : Int} (ho : o.op = .unOp .neg t x) (hx : opv env x = vI k n) : OpVal P N env M o (vI k (k.wrap (0 - n))) :=
  OpVal.of_run (v := .int k (k.wrap (0 - n))) trivial fun γ Pr x0 a w h => ⟨by simp [execOp, ho, opI h hx, Op.unary, Op.intArith], rfl, rfl⟩
theorem OpVal.notB {t : TypeId} {x : Operand} {b : Bool} (ho : o.op = .unOp .not t x) (hx : opv env x = vB b) : OpVal P N env M o (vB (!b)) :=
  OpVal.of_run (v := .bool !b) trivial fun γ Pr x0 a w h => ⟨by simp [execOp, ho, opB h hx, Op.unary], rfl, rfl⟩
theorem OpVal.extract {x : Operand} {i : Nat} {l : List TV} {t : TV} (ho : o.op = .extract x i) (hx : opv env x = .tup l) (hi : l[i]? = some t) : OpVal P N env M o (.v t) := fun γ Pr x0 a w h => by
  have h1 := h.opv x; have h2 := opv_ok h.slotB x
  rw [hx] at h1 h2
  obtain ⟨vs, hv, hl, hh⟩ := h1
  obtain ⟨y, hy, hr⟩ := hh i t hi
  refine ⟨h2 t (List.mem_of_getElem? hi), y, ?_, hr⟩
  simp [execOp, ho, hv, Instr.extract, hy]
end
end Go.Proofs.YtpgkbnefhhcfcaaGreatDoor.DL
set_option linter.unusedVariables false
set_option linter.unusedSimpArgs false
set_option linter.constructorNameAsVariable false
namespace Go.Proofs.YtpgkbnefhhcfcaaGreatDoor.DL
open Go.RowKit

section
variable {P : Program} {N : Nat} {ops : Array Oper} {Q : DPost} {env : Env} {M M0 : Mem} {γ γ' : Cn} {Pr Pr' : Prot} {x0 : Ctx} {w w' : World} {a : Act} {o : Oper} {rest : List Oper}

theorem heap_cell {w w' : World} {g : Nat} (h : w'.heap[g]? = w.heap[g]?) (o : Nat) : w'.cell? ⟨g, o, none⟩ = w.cell? ⟨g, o, none⟩ := by
  simp [World.cell?, h]
theorem blk_set' {w : World} {g : Nat} {t : TypeId} {cs : Array Value} (h : w.heap[g]? = some (.cells cs t (0, 0))) (i : Nat) (u : Value) :
    (w.setCell ⟨g, i, none⟩ u).heap[g]? = some (.cells (cs.setIfInBounds i u) t (0, 0)) := by
  simp [World.setCell, Array.getElem?_modify, h]
theorem blk_lt' {w : World} {g : Nat} {o : Obj} (h : w.heap[g]? = some o) : g < w.heap.size := (Array.getElem?_eq_some_iff.1 h).1
theorem blk_cell' {w : World} {g : Nat} {t : TypeId} {cs : Array Value} (h : w.heap[g]? = some (.cells cs t (0, 0))) (i : Nat) : w.cell? ⟨g, i, none⟩ = cs[i]? := cell_of_row w g i cs t (0, 0) h
theorem blk_frozen' {w : World} {g : Nat} {t : TypeId} {cs : Array Value} (h : w.heap[g]? = some (.cells cs t (0, 0))) (i : Nat) : w.frozen? ⟨g, i, none⟩ = false := by simp [World.frozen?, h]

theorem BRep.move {b : Nat} {k : Blk} (hg : Cn.agree M γ γ') (hh : has M b) (hk : Kept Pr w Pr' w')
    (hheap : ∀ g, blockOf γ b k = some g → w'.heap[g]? = w.heap[g]?) (hpr : ∀ g, blockOf γ b k = some g → ∀ o, Pr' g o → Pr g o) (hok : k.ok M)
    (h : BRep γ Pr w x0 b k) : BRep γ' Pr' w' x0 b k := by
  cases k with
  | box t cs =>
    obtain ⟨h1, ⟨vs, hv, hl⟩, h3⟩ := h
    have e := hg b hh
    refine ⟨by rw [e]; exact h1, ⟨vs, by rw [e, hheap _ rfl]; exact hv, LRep.move hg hk hok hl⟩, fun o ho => ?_⟩
    rw [e] at ho
    exact h3 o (hpr _ rfl o ho)
  | row e k n v cs fz =>
    obtain ⟨vs, hown, hl, h3⟩ := h
    refine ⟨vs, ?_, LRep.move hg hk hok hl, fun g hgg => ?_⟩
    · refine ⟨hown.1, hown.2.imp id fun ⟨g, cap, cur, hv, hb, hc, hr⟩ => ⟨g, cap, cur, hv, hb, ?_, hr⟩⟩
      rw [hheap g (by simp only [blockOf]; rw [hv]; rfl)]
      exact hc
    · obtain ⟨hm, h4, h5⟩ := h3 g hgg
      exact ⟨hm, fun o ho hp => h4 o ho (hpr g hgg o hp), fun hf o hp => h5 hf o (hpr g hgg o hp)⟩

theorem BRep.lt {b : Nat} {k : Blk} (h : BRep γ Pr w x0 b k) : ∀ g, blockOf γ b k = some g → x0.may g ∧ g < w.heap.size := by
  intro g hg
  cases k with
  | box t cs =>
    obtain ⟨h1, ⟨vs, hv, _⟩, _⟩ := h
    simp [blockOf] at hg
    subst hg
    exact ⟨h1, blk_lt' hv⟩
  | row e k n v cs fz =>
    obtain ⟨vs, hown, _, h3⟩ := h
    exact ⟨(h3 g hg).1, (hown.lt g hg).2⟩

theorem Sim.refl (c : Ctx) : Sim c c.w0 := ⟨rfl, rfl, rfl, Nat.le_refl _, fun _ _ => rfl⟩
theorem may_lt {k : Nat} (h : ¬ x0.may k) : k < x0.w0.heap.size := Nat.lt_of_not_le fun hle => h (.inl hle)
theorem Sim.alloc (h : Sim x0 w) (o : Obj) : Sim x0 (w.alloc o) :=
  ⟨h.os, h.tape, h.output, Nat.le_trans h.size (by simp), fun k hk => (Below.heap_alloc w o k (Nat.lt_of_lt_of_le (may_lt hk) h.size)).trans (h.block k hk)⟩
theorem Sim.below (h : Sim x0 w) (hb : Below w.heap.size w w') : Sim x0 w' :=
  ⟨hb.os.trans h.os, hb.tape.trans h.tape, hb.output.trans h.output, Nat.le_trans h.size hb.size, fun k hk => (hb.block k (Nat.lt_of_lt_of_le (may_lt hk) h.size)).trans (h.block k hk)⟩

theorem has_cons {b : Nat} {k : Blk} : ∀ x, has M x → has ((b, some k) :: M) x := by
  intro x hx
  unfold has at *
  rw [mget_cons]
  split
  · simp
  · exact hx

def Cn.setBlk (γ : Cn) (b g : Nat) : Cn := { γ with blk := fun x => if x = b then g else γ.blk x }
theorem Cn.agree_setBlk {b g : Nat} (hb : mget M b = none) : Cn.agree M γ (γ.setBlk b g) := by
  intro x hx
  have : x ≠ b := fun e => hx (by rw [e]; exact hb)
  simp [Cn.setBlk, this]

/-- A new block. -/
theorem Rel.newBox (h : Rel γ Pr x0 N env M a w) {b : Nat} (hb : mget M b = none) {t : TypeId} {cs : List CV} {vs : List Value} (hl : LRep γ Pr w cs vs) (hok : ∀ c ∈ cs, c.ok M) :
    Rel (γ.setBlk b w.heap.size) Pr x0 N env ((b, some (.box t cs)) :: M) a (w.alloc (.cells vs.toArray t)) := by
  have hcell : ∀ g o, Pr g o → (w.alloc (.cells vs.toArray t)).cell? ⟨g, o, none⟩ = w.cell? ⟨g, o, none⟩ := fun g o hp => heap_cell (Below.heap_alloc w _ g (h.prot g o hp)) o
  have K : Kept Pr w Pr (w.alloc (.cells vs.toArray t)) := ⟨fun _ _ x => x, hcell⟩
  have G : Cn.agree M γ (γ.setBlk b w.heap.size) := Cn.agree_setBlk hb
  have hbl : (γ.setBlk b w.heap.size).blk b = w.heap.size := by simp [Cn.setBlk]
  have bo : ∀ x k, mget M x = some k → blockOf (γ.setBlk b w.heap.size) x k = blockOf γ x k := fun x k hx => by
    have := G x (by rw [has, hx]; simp)
    cases k with
    | box t cs => simp [blockOf, this]
    | row e k n v cs fz => rfl
  refine { size := h.size, slot := fun i => SRep.move G K (h.slotB i) (h.slot i), slotB := fun i => SV.ok_le has_cons (h.slotB i), mem := fun x k hm => ?_, memB := fun x k hm => ?_,
           apart := fun x y k l hx hy hne g hg => ?_, below := h.below.alloc _, prot := h.prot.kept K fun b o hp => ?_, defers := h.defers }
  · rw [mget_cons] at hm
    split at hm
    · rename_i e
      subst e
      obtain rfl := Option.some.inj hm
      refine ⟨by rw [hbl]; exact .inl h.below.size, ⟨vs, by rw [hbl]; exact heap_alloc_new w _, LRep.move G K hok hl⟩, fun o ho => ?_⟩
      rw [hbl] at ho
      exact absurd (h.prot _ _ ho) (Nat.lt_irrefl _)
    · have hx : has M x := by rw [has, hm]; simp
      exact BRep.move G hx K (fun g hg => Below.heap_alloc w _ g ((h.mem x k hm).lt g hg).2) (fun _ _ _ p => p) (h.memB x k hm) (h.mem x k hm)
  · rw [mget_cons] at hm
    split at hm
    · obtain rfl := Option.some.inj hm
      exact fun c hc => CV.ok_le has_cons (hok c hc)
    · exact Blk.ok_le has_cons (h.memB x k hm)
  · rw [mget_cons] at hx hy
    have new : ∀ z k, mget M z = some k → blockOf (γ.setBlk b w.heap.size) z k ≠ some w.heap.size := fun z k hz e => by
      rw [bo z k hz] at e
      exact absurd ((h.mem z k hz).lt _ e).2 (Nat.lt_irrefl _)
    split at hx
    · rename_i e1
      subst e1
      obtain rfl := Option.some.inj hx
      rw [if_neg hne] at hy
      simp only [blockOf, hbl, Option.some.injEq] at hg
      rw [← hg]
      exact new y l hy
    · split at hy
      · rename_i e2
        subst e2
        obtain rfl := Option.some.inj hy
        intro e3
        simp only [blockOf, hbl, Option.some.injEq] at e3
        rw [← e3] at hg
        exact new x k hx hg
      · rw [bo x k hx] at hg
        rw [bo y l hy]
        exact h.apart x y k l hx hy hne g hg
  · have := h.prot b o hp
    simp only [World.alloc, Array.size_push]
    omega

theorem run_box (t : TypeId) (v : Value) : (Instr.box t v).run P w = .ok (.pointer (some ⟨w.heap.size, 0, none⟩)) (w.alloc (.cells v.cells t)) := by
  simp [Instr.box, newVar, newRow]

theorem At.put {v : Value} {dst : Option Tmp} {r : SV} (h : Rel γ Pr x0 N env M a w) (hp : From x0 γ Pr M w) (hd : ∀ d, dst = some d → d < N) (hr : SRep γ Pr w r v) (hok : r.ok M) :
    At x0 N (putd dst r env) M (a.put dst v) w := ⟨γ, Pr, h.put hd hr hok, hp⟩
theorem From.newBox (h : From x0 γ Pr M w) (hr : Rel γ Pr x0 N env M a w) {b : Nat} (hb : mget M b = none) (k : Blk) (o : Obj) : From x0 (γ.setBlk b w.heap.size) Pr ((b, some k) :: M) (w.alloc o) :=
  h.step (Cn.agree_setBlk hb) ⟨fun _ _ x => x, fun g j hp => heap_cell (Below.heap_alloc w _ g (hr.prot g j hp)) j⟩ (PExt.refl _ _) has_cons

def TV.cells : TV → List CV
  | .one c => [c]
  | .agg cs => cs

theorem TRep.cells {t : TV} {v : Value} (h : TRep γ Pr w t v) : ∃ vs : List Value, v.cells = vs.toArray ∧ LRep γ Pr w t.cells vs := by
  cases t with
  | one c =>
    refine ⟨[v], ?_, rfl, fun i c' hc => ?_⟩
    · have h1 := CRep.one h
      cases v <;> first | rfl | simp [Value.oneCell'] at h1
    · simp only [TV.cells] at hc
      match i, hc with
      | 0, hc => simp at hc; subst hc; exact ⟨v, rfl, h⟩
      | i + 1, hc => simp at hc
  | agg cs =>
    obtain ⟨vs, rfl, hl⟩ := h
    exact ⟨vs, rfl, hl⟩
theorem TV.cells_ok {t : TV} (h : t.ok M) : ∀ c ∈ t.cells, c.ok M := by
  cases t with
  | one c => intro c' hc; simp [TV.cells] at hc; subst hc; exact h
  | agg cs => exact h

theorem has_new {b : Nat} {k : Blk} : has ((b, some k) :: M) b := by simp [has, mget_cons]

theorem DOps.box (b : Nat) {T : TypeId} {x : Operand} {t : TV} (hg : gd ops env o = some true) {d : Nat} (hd : o.dst = some d) (hN : Nat.blt d N = true) (ho : o.op = .box T x) (hx : opv env x = .v t) (hb : mget M b = none)
    (h : DOps P N M0 ops Q rest ((d, .v (.one (.ptr b 0))) :: env) ((b, some (.box T t.cells)) :: M)) : DOps P N M0 ops Q (o :: rest) env M := by
  have he : putd o.dst (.v (.one (.ptr b 0))) env = (d, .v (.one (.ptr b 0))) :: env := by rw [hd]; rfl
  rw [← he] at h
  have hd := dstOk_of hd hN
  refine DOps.eff hg (fun x0 a w _ ⟨γ, Pr, hr, hp⟩ => ?_) h
  have h1 := hr.opv x; have h2 := opv_ok hr.slotB x
  rw [hx] at h1 h2
  obtain ⟨vs, hc, hl⟩ := TRep.cells h1
  have hn := hr.newBox (t := T) hb hl (TV.cells_ok h2)
  refine ⟨_, w.alloc (.cells vs.toArray T), .inl (by simp only [execOp, ho]; simp [run_box, hc]; rfl), At.put hn (hp.newBox hr hb _ _) (dstOk_spec hd) ?_ has_new⟩
  simp [SRep, TRep, CRep, Cn.setBlk]

theorem run_zeroValue {T : TypeId → Option TyI} (hT : TOk P T) {t : TypeId} {i : TyI} (ht : T t = some i) : (zeroValue t).run P w = .ok i.zero w := by
  obtain ⟨_, info, h1, _, _, h4⟩ := hT t i ht
  simp [zeroValue, typeInfo, h1, h4]
theorem run_sizeOf {T : TypeId → Option TyI} (hT : TOk P T) {t : TypeId} {i : TyI} (ht : T t = some i) : (sizeOf t).run P w = .ok i.size w := by
  obtain ⟨_, info, h1, h2, _⟩ := hT t i ht
  simp [sizeOf, typeInfo, h1, h2]
theorem run_under {T : TypeId → Option TyI} (hT : TOk P T) {t : TypeId} {i : TyI} (ht : T t = some i) : (underlying t).run P w = .ok i.desc w :=
  run_underlying (hT t i ht).1 w

/-- A value without addresses, as data. -/
def dvs (v : Value) : List CV := v.cells.toList.map fun u => .d (.sc u)
theorem dvs_rep {v : Value} (h : v.cells.toList.all (·.oneCell') = true) : LRep γ Pr w (dvs v) v.cells.toList := by
  refine ⟨by simp [dvs], fun i c hc => ?_⟩
  simp only [dvs, List.getElem?_map, Option.map_eq_some_iff] at hc
  obtain ⟨u, hu, rfl⟩ := hc
  exact ⟨u, hu, List.all_eq_true.1 h u (List.mem_of_getElem? hu), rfl⟩
theorem dvs_ok (v : Value) : ∀ c ∈ dvs v, c.ok M := by
  intro c hc
  simp only [dvs, List.mem_map] at hc
  obtain ⟨u, _, rfl⟩ := hc
  trivial

theorem DOps.alloc (b : Nat) {T : TypeId → Option TyI} (hT : TOk P T) {t : TypeId} {i : TyI} {zs : List CV} (hg : gd ops env o = some true) {d : Nat} (hd : o.dst = some d) (hN : Nat.blt d N = true) (ho : o.op = .alloc t) (ht : T t = some i)
    (hz : dvs i.zero = zs) (hz1 : i.zero.cells.toList.all (·.oneCell') = true) (hb : mget M b = none)
    (h : DOps P N M0 ops Q rest ((d, .v (.one (.ptr b 0))) :: env) ((b, some (.box t zs)) :: M)) : DOps P N M0 ops Q (o :: rest) env M := by
  have he : putd o.dst (.v (.one (.ptr b 0))) env = (d, .v (.one (.ptr b 0))) :: env := by rw [hd]; rfl
  rw [← he] at h
  have hd := dstOk_of hd hN
  subst hz
  refine DOps.eff hg (fun x0 a w _ ⟨γ, Pr, hr, hp⟩ => ?_) h
  have hn := hr.newBox (t := t) hb (dvs_rep hz1) (dvs_ok i.zero)
  refine ⟨_, w.alloc (.cells i.zero.cells.toList.toArray t), .inl (by simp only [execOp, ho]; simp [Instr.alloc, run_zeroValue hT ht, newVar, newRow]; rfl), At.put hn (hp.newBox hr hb _ _) (dstOk_spec hd) ?_ has_new⟩
  simp [SRep, TRep, CRep, Cn.setBlk]

/-! ### Loads -/
def aggD : TypeDesc → Bool
  | .struct _ | .array _ _ => true
  | _ => false
theorem run_isAgg {T : TypeId → Option TyI} (hT : TOk P T) {t : TypeId} {i : TyI} (ht : T t = some i) : (isAgg t).run P w = .ok (aggD i.desc) w := by
  unfold isAgg
  rw [Sem.run_bind, run_under hT ht]
  cases i.desc <;> simp [aggD]

theorem run_load1 {T : TypeId → Option TyI} (hT : TOk P T) {t : TypeId} {i : TyI} (ht : T t = some i) (ha : aggD i.desc = false) {g k : Nat} {v : Value} (hc : w.cell? ⟨g, k, none⟩ = some v) :
    (Instr.loadAt t (.pointer (some ⟨g, k, none⟩))).run P w = .ok v w := by
  simp [Instr.loadAt, Instr.sureAddr, loadVar, run_isAgg hT ht, ha, hc]
theorem run_loadN {T : TypeId → Option TyI} (hT : TOk P T) {t : TypeId} {i : TyI} (ht : T t = some i) (ha : aggD i.desc = true) {g k : Nat} {vs : List Value} (hl : vs.length = i.size)
    (hc : ∀ j v, vs[j]? = some v → w.cell? ⟨g, k + j, none⟩ = some v) : (Instr.loadAt t (.pointer (some ⟨g, k, none⟩))).run P w = .ok (.agg vs.toArray) w := by
  have h1 := run_loadCells_list (P := P) w ⟨g, k, none⟩ vs (fun j v hv => by rw [Addr.add_mid]; exact hc j v hv)
  simp [Instr.loadAt, Instr.sureAddr, loadVar, run_isAgg hT ht, ha, run_sizeOf hT ht, ← hl, h1]

theorem LRep.part {cs : List CV} {vs : List Value} (h : LRep γ Pr w cs vs) (k n : Nat) : LRep γ Pr w ((cs.drop k).take n) ((vs.drop k).take n) := by
  refine ⟨by simp [h.1], fun i c hc => ?_⟩
  simp only [List.getElem?_take, List.getElem?_drop] at hc ⊢
  split at hc
  · rename_i hi
    rw [if_pos hi]
    exact h.2 _ c hc
  · cases hc

theorem OpVal.load1 {T : TypeId → Option TyI} (hT : TOk P T) {t : TypeId} {i : TyI} {x : Operand} {b k : Nat} {tb : TypeId} {cs : List CV} {c : CV} (ho : o.op = .load t x) (ht : T t = some i) (ha : aggD i.desc = false)
    (hx : opv env x = .v (.one (.ptr b k))) (hm : mget M b = some (.box tb cs)) (hc : cs[k]? = some c) : OpVal P N env M o (.v (.one c)) := fun γ Pr x0 a w h => by
  have h1 := h.opv x
  rw [hx] at h1
  obtain ⟨_, ⟨vs, hv, hl⟩, _⟩ := h.mem b _ hm
  obtain ⟨u, hu, hr⟩ := hl.2 k c hc
  refine ⟨h.memB b _ hm c (List.mem_of_getElem? hc), u, ?_, hr⟩
  have he : a.eval x = .pointer (some ⟨γ.blk b, k, none⟩) := h1
  simp only [execOp, ho, he]
  have hcell : w.cell? ⟨γ.blk b, k, none⟩ = some u := by rw [blk_cell' hv]; simpa using hu
  rw [Sem.run_bind, run_load1 hT ht ha hcell]
  rfl

theorem OpVal.loadN {T : TypeId → Option TyI} (hT : TOk P T) {t : TypeId} {i : TyI} {x : Operand} {b k : Nat} {tb : TypeId} {cs : List CV} (ho : o.op = .load t x) (ht : T t = some i) (ha : aggD i.desc = true)
    (hx : opv env x = .v (.one (.ptr b k))) (hm : mget M b = some (.box tb cs)) (hc : k + i.size ≤ cs.length) : OpVal P N env M o (.v (.agg ((cs.drop k).take i.size))) := fun γ Pr x0 a w h => by
  have h1 := h.opv x
  rw [hx] at h1
  obtain ⟨_, ⟨vs, hv, hl⟩, _⟩ := h.mem b _ hm
  refine ⟨fun c hcm => h.memB b _ hm c (List.mem_of_mem_drop (List.mem_of_mem_take hcm)), .agg ((vs.drop k).take i.size).toArray, ?_, _, rfl, hl.part k i.size⟩
  have he : a.eval x = .pointer (some ⟨γ.blk b, k, none⟩) := h1
  simp only [execOp, ho, he]
  rw [Sem.run_bind, run_loadN hT ht ha (vs := (vs.drop k).take i.size) (by simp [hl.1]; omega)]
  · rfl
  · intro j v hj
    rw [blk_cell' hv]
    simp only [List.getElem?_take, List.getElem?_drop] at hj
    split at hj
    · simpa using hj
    · cases hj

/-- A whole variable. -/
theorem OpVal.load {T : TypeId → Option TyI} (hT : TOk P T) {t : TypeId} {i : TyI} {x : Operand} {b : Nat} {tb : TypeId} {cs : List CV} (ho : o.op = .load t x) (ht : T t = some i) (ha : aggD i.desc = true)
    (hx : opv env x = .v (.one (.ptr b 0))) (hm : mget M b = some (.box tb cs)) (hc : cs.length = i.size) : OpVal P N env M o (.v (.agg cs)) := by
  have := OpVal.loadN (N := N) (P := P) hT ho ht ha hx hm (by omega)
  rw [List.drop_zero, List.take_of_length_le (by omega)] at this
  exact this

/-- Read-only memory. -/
theorem OpVal.loadD1 {T : TypeId → Option TyI} (hT : TOk P T) {t : TypeId} {i : TyI} {x : Operand} {n : Nat} {el : Nat → DV} (ho : o.op = .load t x) (ht : T t = some i) (ha : aggD i.desc = false)
    (hx : opv env x = .v (.one (.d (.pp n el)))) (hn : 0 < n) : OpVal P N env M o (.v (.one (.d (el 0)))) := fun γ Pr x0 a w h => by
  have h1 := h.opv x
  rw [hx] at h1
  obtain ⟨b, k, he, hc⟩ := h1
  obtain ⟨_, u, hu, hr⟩ := hc 0 hn
  refine ⟨trivial, u, ?_, hr⟩
  rw [Nat.add_zero] at hu
  simp only [execOp, ho, he]
  rw [Sem.run_bind, run_load1 hT ht ha hu]
  rfl
theorem OpVal.loadDN {T : TypeId → Option TyI} (hT : TOk P T) {t : TypeId} {i : TyI} {x : Operand} {n : Nat} {el : Nat → DV} (ds : List DV) (ho : o.op = .load t x) (ht : T t = some i) (ha : aggD i.desc = true)
    (hx : opv env x = .v (.one (.d (.pp n el)))) (hn : i.size ≤ n) (hl : ds.length = i.size) (hd : ∀ j d, ds[j]? = some d → el j = d) : OpVal P N env M o (.v (.agg (ds.map .d))) := fun γ Pr x0 a w h => by
  have h1 := h.opv x
  rw [hx] at h1
  obtain ⟨b, k, he, hc⟩ := h1
  refine ⟨fun c hcm => by simp only [List.mem_map] at hcm; obtain ⟨d, _, rfl⟩ := hcm; trivial, ?_⟩
  have : ∀ m, m ≤ n → ∃ vs : List Value, vs.length = m ∧ ∀ j, j < m → ∃ u, vs[j]? = some u ∧ w.cell? ⟨b, k + j, none⟩ = some u ∧ DRep Pr w (el j) u := by
    intro m
    induction m with
    | zero => exact fun _ => ⟨[], rfl, fun j hj => by omega⟩
    | succ m ih =>
      intro hm
      obtain ⟨vs, hl, hh⟩ := ih (by omega)
      obtain ⟨_, u, hu, hr⟩ := hc m (by omega)
      refine ⟨vs ++ [u], by simp [hl], fun j hj => ?_⟩
      by_cases hjm : j < m
      · obtain ⟨u', h1, h2, h3⟩ := hh j hjm
        exact ⟨u', by rw [List.getElem?_append_left (by omega)]; exact h1, h2, h3⟩
      · obtain rfl : j = m := by omega
        exact ⟨u, by rw [List.getElem?_append_right (by omega), hl]; simp, hu, hr⟩
  obtain ⟨vs, hvl, hh⟩ := this i.size hn
  refine ⟨.agg vs.toArray, ?_, vs, rfl, by simp [hvl, hl], fun j c hcj => ?_⟩
  · simp only [execOp, ho, he]
    rw [Sem.run_bind, run_loadN hT ht ha hvl]
    · rfl
    · intro j v hj
      have hjl : j < i.size := by have := (List.getElem?_eq_some_iff.1 hj).1; omega
      obtain ⟨u, h1, h2, _⟩ := hh j hjl
      rw [hj] at h1
      obtain rfl := Option.some.inj h1
      exact h2
  · simp only [List.getElem?_map, Option.map_eq_some_iff] at hcj
    obtain ⟨d, hd1, rfl⟩ := hcj
    have hjl : j < i.size := by have := (List.getElem?_eq_some_iff.1 hd1).1; omega
    obtain ⟨u, h1, _, h3⟩ := hh j hjl
    exact ⟨u, h1, by rw [← hd j d hd1]; exact h3⟩
end
end Go.Proofs.YtpgkbnefhhcfcaaGreatDoor.DL
set_option linter.unusedVariables false
set_option linter.unusedSimpArgs false
set_option linter.constructorNameAsVariable false
namespace Go.Proofs.YtpgkbnefhhcfcaaGreatDoor.DL
open Go.RowKit

/-- Cells from place k on are written. -/
def splice {α : Type} : List α → Nat → List α → List α
  | cs, _, [] => cs
  | cs, k, v :: r => splice (cs.set k v) (k + 1) r
theorem splice_length {α : Type} : ∀ (ns : List α) (cs : List α) (k : Nat), (splice cs k ns).length = cs.length
  | [], _, _ => rfl
  | v :: r, cs, k => by rw [splice, splice_length r]; simp
theorem splice_get {α : Type} : ∀ (ns : List α) (cs : List α) (k i : Nat), k + ns.length ≤ cs.length → (splice cs k ns)[i]? = if k ≤ i ∧ i < k + ns.length then ns[i - k]? else cs[i]?
  | [], cs, k, i, _ => by rw [splice, if_neg (by simp only [List.length_nil]; omega)]
  | v :: r, cs, k, i, h => by
    rw [splice, splice_get r _ (k + 1) i (by simp at *; omega)]
    simp only [List.length_cons] at *
    by_cases h1 : k + 1 ≤ i ∧ i < k + 1 + r.length
    · rw [if_pos h1, if_pos (by omega), show i - k = (i - (k + 1)) + 1 by omega, List.getElem?_cons_succ]
    · rw [if_neg h1]
      by_cases h2 : i = k
      · subst h2
        rw [if_pos (by omega), Nat.sub_self, List.getElem?_set_self (by omega)]
        rfl
      · rw [if_neg (by omega), List.getElem?_set_ne (by omega)]
section
variable {P : Program} {N : Nat} {ops : Array Oper} {Q : DPost} {env : Env} {M M0 : Mem} {γ γ' : Cn} {Pr Pr' : Prot} {x0 : Ctx} {w w' : World} {a : Act} {o : Oper} {rest : List Oper}

theorem LRep.splice {cs ns : List CV} {vs us : List Value} (h : LRep γ Pr w cs vs) (k : LRep γ Pr w ns us) (n : Nat) (hn : n + ns.length ≤ cs.length) : LRep γ Pr w (DL.splice cs n ns) (DL.splice vs n us) := by
  refine ⟨by rw [splice_length, splice_length, h.1], fun i c hc => ?_⟩
  rw [splice_get _ _ _ _ hn] at hc
  rw [splice_get _ _ _ _ (by rw [h.1, k.1]; exact hn), k.1]
  split at hc
  · rename_i hi
    rw [if_pos hi]
    exact k.2 _ c hc
  · rename_i hi
    rw [if_neg hi]
    exact h.2 _ c hc

theorem heap_setCells (g : Nat) : ∀ (us : List Value) (k : Nat) (w : World) (vs : List Value) (t : TypeId), w.heap[g]? = some (.cells vs.toArray t (0, 0)) →
    (w.setCells g k us).heap[g]? = some (.cells (DL.splice vs k us).toArray t (0, 0))
  | [], _, _, _, _, h => h
  | u :: r, k, w, vs, t, h => by
    rw [World.setCells, DL.splice]
    refine heap_setCells g r (k + 1) _ (vs.set k u) t ?_
    have := blk_set' h k u
    rw [this]
    simp
theorem heap_setCells_far (g g' : Nat) (hne : g' ≠ g) : ∀ (us : List Value) (k : Nat) (w : World), (w.setCells g k us).heap[g']? = w.heap[g']?
  | [], _, _ => rfl
  | u :: r, k, w => by
    rw [World.setCells, heap_setCells_far g g' hne r]
    exact Below.heap_setCell _ _ _ _ hne
theorem size_setCells (g : Nat) : ∀ (us : List Value) (k : Nat) (w : World), (w.setCells g k us).heap.size = w.heap.size
  | [], _, _ => rfl
  | u :: r, k, w => by rw [World.setCells, size_setCells g r]; simp [World.setCell]
theorem meta_setCells (g : Nat) : ∀ (us : List Value) (k : Nat) (w : World), (w.setCells g k us).os = w.os ∧ (w.setCells g k us).tape = w.tape ∧ (w.setCells g k us).output = w.output
  | [], _, _ => ⟨rfl, rfl, rfl⟩
  | u :: r, k, w => by rw [World.setCells]; exact meta_setCells g r (k + 1) (w.setCell ⟨g, k, none⟩ u)
theorem Sim.setCells (h : Sim x0 w) {g : Nat} (hg : x0.may g) (us : List Value) (k : Nat) : Sim x0 (w.setCells g k us) := by
  obtain ⟨h1, h2, h3⟩ := meta_setCells g us k w
  exact ⟨h1.trans h.os, h2.trans h.tape, h3.trans h.output, by rw [size_setCells]; exact h.size, fun q hq => (heap_setCells_far g q (fun e => hq (e ▸ hg)) us k w).trans (h.block q hq)⟩

/-- A variable in memory is written. -/
theorem Rel.setBox (h : Rel γ Pr x0 N env M a w) {b : Nat} {t : TypeId} {cs ns : List CV} {us : List Value} (hm : mget M b = some (.box t cs)) (hl : LRep γ Pr w ns us) (hok : ∀ c ∈ ns, c.ok M) (k : Nat)
    (hk : k + ns.length ≤ cs.length) : Rel γ Pr x0 N env ((b, some (.box t (DL.splice cs k ns))) :: M) a (w.setCells (γ.blk b) k us) := by
  obtain ⟨hB, ⟨vs, hv, hvl⟩, hpr⟩ := h.mem b _ hm
  have hfar : ∀ g, g ≠ γ.blk b → (w.setCells (γ.blk b) k us).heap[g]? = w.heap[g]? := fun g hg => heap_setCells_far _ g hg us k w
  have K : Kept Pr w Pr (w.setCells (γ.blk b) k us) := ⟨fun _ _ x => x, fun g o hp => heap_cell (hfar g (fun e => hpr o (by rw [← e]; exact hp))) o⟩
  have G := Cn.agree_refl M γ
  have hsub : ∀ x, has M x → has ((b, some (.box t (DL.splice cs k ns))) :: M) x := has_cons
  have hcs : ∀ c ∈ DL.splice cs k ns, c.ok M := fun c hc => by
    obtain ⟨i, hi⟩ := List.getElem?_of_mem hc
    rw [splice_get _ _ _ _ hk] at hi
    split at hi
    · exact hok c (List.mem_of_getElem? hi)
    · exact h.memB b _ hm c (List.mem_of_getElem? hi)
  have bs := h.below.setCells hB us k
  have hsz := size_setCells (γ.blk b) us k w
  refine { size := h.size, slot := fun i => SRep.move G K (h.slotB i) (h.slot i), slotB := fun i => SV.ok_le hsub (h.slotB i), mem := fun x l hx => ?_, memB := fun x l hx => ?_, apart := fun x y l l' hx hy hne g hg => ?_,
           below := bs, prot := h.prot.kept K fun b o hp => by rw [hsz]; exact h.prot b o hp, defers := h.defers }
  · rw [mget_cons] at hx
    split at hx
    · rename_i e
      subst e
      obtain rfl := Option.some.inj hx
      exact ⟨hB, ⟨_, heap_setCells _ us k w vs t hv, LRep.move G K hcs (LRep.splice hvl hl k hk)⟩, hpr⟩
    · rename_i e
      refine BRep.move G (by rw [has, hx]; simp) K (fun g hg => hfar g (fun e2 => ?_)) (fun _ _ _ p => p) (h.memB x l hx) (h.mem x l hx)
      exact h.apart x b l _ hx hm (Ne.symm e) g hg (by rw [e2]; rfl)
  · rw [mget_cons] at hx
    split at hx
    · obtain rfl := Option.some.inj hx
      exact fun c hc => CV.ok_le hsub (hcs c hc)
    · exact Blk.ok_le hsub (h.memB x l hx)
  · rw [mget_cons] at hx hy
    split at hx
    · rename_i e1
      subst e1
      obtain rfl := Option.some.inj hx
      rw [if_neg hne] at hy
      exact h.apart _ y _ l' hm hy hne g hg
    · split at hy
      · rename_i e1 e2
        subst e2
        obtain rfl := Option.some.inj hy
        exact h.apart x _ l _ hx hm hne g hg
      · exact h.apart x y l l' hx hy hne g hg

theorem From.setBox (h : From x0 γ Pr M w) (hr : Rel γ Pr x0 N env M a w) {b : Nat} {t : TypeId} {cs : List CV} (hm : mget M b = some (.box t cs)) (k : Nat) (l : Blk) (us : List Value) : From x0 γ Pr ((b, some l) :: M) (w.setCells (γ.blk b) k us) := by
  obtain ⟨_, _, hpr⟩ := hr.mem b _ hm
  exact h.step (Cn.agree_refl M γ) ⟨fun _ _ x => x, fun g o hp => heap_cell (heap_setCells_far _ g (fun e => hpr o (by rw [← e]; exact hp)) us k w) o⟩ (PExt.refl _ _) has_cons

theorem LRep.one {cs : List CV} {vs : List Value} (h : LRep γ Pr w cs vs) : ∀ v ∈ vs, v.oneCell' = true := by
  intro v hv
  obtain ⟨i, hi⟩ := List.getElem?_of_mem hv
  have hlt := (List.getElem?_eq_some_iff.1 hi).1
  have hlt' : i < cs.length := by rw [← h.1]; exact hlt
  obtain ⟨u, hu, hr⟩ := h.2 i cs[i] (List.getElem?_eq_getElem hlt')
  rw [hi] at hu
  obtain rfl := Option.some.inj hu
  exact CRep.one hr

theorem run_storeAt {T : TypeId → Option TyI} (hT : TOk P T) {t : TypeId} {i : TyI} (ht : T t = some i) {g k : Nat} {v : Value} {vs us : List Value} {tb : TypeId} (hv : v.cells = us.toArray) (hs : us.length = i.size)
    (hb : w.heap[g]? = some (.cells vs.toArray tb (0, 0))) (hk : k + us.length ≤ vs.length) (h1 : ∀ u ∈ us, u.oneCell' = true) :
    (Instr.storeAt t (.pointer (some ⟨g, k, none⟩)) v).run P w = .ok () (w.setCells g k us) := by
  have hst := run_storeCells_cells (P := P) g k us 0 w (fun j hj => by rw [blk_cell' hb]; simp; omega) (fun j hj => blk_frozen' hb _) h1
  simp only [Nat.add_zero] at hst
  have hsz : (sizeOf t).run P w = .ok i.size w := run_sizeOf hT ht
  simp only [Instr.storeAt, Instr.sureAddr, Sem.run_bind, Sem.run_pure, Result.andThen_ok, storeVar, hsz, hv, List.size_toArray, hs]
  simp [hst]

theorem DOps.store {T : TypeId → Option TyI} (hT : TOk P T) {t : TypeId} {i : TyI} {x y : Operand} {b k : Nat} {tb : TypeId} {cs cs' : List CV} {tv : TV} (hg : gd ops env o = some true) (hd : o.dst = none) (ho : o.op = .store t x y)
    (ht : T t = some i) (hx : opv env x = .v (.one (.ptr b k))) (hy : opv env y = .v tv) (hm : mget M b = some (.box tb cs)) (hs : tv.cells.length = i.size) (hk : k + tv.cells.length ≤ cs.length)
    (hc : DL.splice cs k tv.cells = cs') (h : DOps P N M0 ops Q rest env ((b, some (.box tb cs')) :: M)) : DOps P N M0 ops Q (o :: rest) env M := by
  subst hc
  refine DOps.eff hg (fun x0 a w _ ⟨γ, Pr, hr, hp⟩ => ?_) h
  have h1 := hr.opv x; have h2 := hr.opv y; have h3 := opv_ok hr.slotB y
  rw [hx] at h1; rw [hy] at h2 h3
  obtain ⟨us, hu, hl⟩ := TRep.cells h2
  obtain ⟨hB, ⟨vs, hv, hvl⟩, hpr⟩ := hr.mem b _ hm
  have he : a.eval x = .pointer (some ⟨γ.blk b, k, none⟩) := h1
  refine ⟨undef, w.setCells (γ.blk b) k us, .inr ⟨?_, rfl⟩, γ, Pr, ?_, hp.setBox hr hm k _ us⟩
  · simp only [execOp, ho, he]
    rw [Sem.run_bind, run_storeAt hT ht hu (by rw [hl.1, hs]) hv (by rw [hl.1, hvl.1]; exact hk) hl.one]
    rfl
  · rw [hd]
    exact hr.setBox hm hl (TV.cells_ok h3) k hk

/-! ### Addresses -/
theorem OpVal.fieldAddr {T : TypeId → Option TyI} (hT : TOk P T) {t : TypeId} {i j : TyI} {x : Operand} {n b k : Nat} {fs : Array Field} {f : Field} (ho : o.op = .fieldAddr t x n) (ht : T t = some i) (hd : i.desc = .struct fs) (hf : fs[n]? = some f)
    (hj : T f.type = some j) (hs : j.size ≠ 0) (hx : opv env x = .v (.one (.ptr b k))) : OpVal P N env M o (.v (.one (.ptr b (k + f.offset)))) := fun γ Pr x0 a w h => by
  have h1 := h.opv x; have h2 := opv_ok h.slotB x
  rw [hx] at h1 h2
  have he : a.eval x = .pointer (some ⟨γ.blk b, k, none⟩) := h1
  refine ⟨h2, .pointer (some ⟨γ.blk b, k + f.offset, none⟩), ?_, rfl⟩
  have hu := run_under (w := w) hT ht
  rw [hd] at hu
  simp only [execOp, ho, he, Instr.fieldAt, Sem.run_bind, hu, Result.andThen_ok, hf]
  simp [Instr.sureAddr, fieldPlace, run_sizeOf hT hj, hs, Addr.add_mid]
theorem OpVal.fieldAddrD {T : TypeId → Option TyI} (hT : TOk P T) {t : TypeId} {i j : TyI} {x : Operand} {n m : Nat} {el : Nat → DV} {fs : Array Field} {f : Field} (ho : o.op = .fieldAddr t x n) (ht : T t = some i) (hd : i.desc = .struct fs) (hf : fs[n]? = some f)
    (hj : T f.type = some j) (hs : j.size ≠ 0) (hx : opv env x = .v (.one (.d (.pp m el)))) : OpVal P N env M o (.v (.one (.d (.pp (m - f.offset) fun q => el (f.offset + q))))) := fun γ Pr x0 a w h => by
  have h1 := h.opv x
  rw [hx] at h1
  obtain ⟨b, k, he, hc⟩ := h1
  refine ⟨trivial, .pointer (some ⟨b, k + f.offset, none⟩), ?_, b, k + f.offset, rfl, fun q hq => ?_⟩
  · have hu := run_under (w := w) hT ht
    rw [hd] at hu
    simp only [execOp, ho, he, Instr.fieldAt, Sem.run_bind, hu, Result.andThen_ok, hf]
    simp [Instr.sureAddr, fieldPlace, run_sizeOf hT hj, hs, Addr.add_mid]
  · have := hc (f.offset + q) (by omega)
    rw [Nat.add_assoc]
    exact this

theorem OpVal.indexAddrA {T : TypeId → Option TyI} (hT : TOk P T) {t e : TypeId} {i j : TyI} {x y : Operand} {b k len : Nat} {kd : IntKind} {n : Int} (ho : o.op = .indexAddr t x y) (ht : T t = some i) (hd : i.desc = .array len e) (hj : T e = some j)
    (hx : opv env x = .v (.one (.ptr b k))) (hy : opv env y = vI kd n) (h0 : 0 ≤ n) (h1 : n < len) : OpVal P N env M o (.v (.one (.ptr b (k + n.toNat * j.size)))) := fun γ Pr x0 a w h => by
  have h2 := h.opv x; have h3 := opv_ok h.slotB x; have h4 := opI h hy
  rw [hx] at h2 h3
  have he : a.eval x = .pointer (some ⟨γ.blk b, k, none⟩) := h2
  refine ⟨h3, .pointer (some ⟨γ.blk b, k + n.toNat * j.size, none⟩), ?_, rfl⟩
  have hu := run_under (w := w) hT ht
  rw [hd] at hu
  simp only [execOp, ho, he, h4, Instr.indexAt, asIntOf, Sem.run_bind, Sem.run_pure, Result.andThen_ok, hu]
  simp [Instr.sureAddr, hu, h0, h1, run_sizeOf hT hj, Addr.add_mid]
theorem OpVal.indexAddrD {T : TypeId → Option TyI} (hT : TOk P T) {t e : TypeId} {i j : TyI} {x y : Operand} {m k : Nat} {el : Nat → Nat → DV} {kd : IntKind} {n : Int} (ho : o.op = .indexAddr t x y) (ht : T t = some i) (hd : i.desc = .slice e) (hj : T e = some j)
    (hk : j.size = k) (hx : opv env x = .v (.one (.d (.sl m k el)))) (hy : opv env y = vI kd n) (h0 : 0 ≤ n) (h1 : n < m) : OpVal P N env M o (.v (.one (.d (.pp k (el n.toNat))))) := fun γ Pr x0 a w h => by
  have h2 := h.opv x; have h4 := opI h hy
  rw [hx] at h2
  obtain ⟨A, c, he, hc, hh⟩ := h2
  obtain ⟨b, q, rfl, hcell⟩ := hh (by omega)
  refine ⟨trivial, .pointer (some ⟨b, q + n.toNat * k, none⟩), ?_, b, q + n.toNat * k, rfl, fun r hr => ?_⟩
  · have hu := run_under (w := w) hT ht
    rw [hd] at hu
    simp only [execOp, ho, he, h4, Instr.indexAt, asIntOf, Sem.run_bind, Sem.run_pure, Result.andThen_ok, hu]
    simp [h0, h1, run_sizeOf hT hj, hk, Addr.add_mid]
  · have := hcell n.toNat (by omega) r hr
    rw [← Nat.add_assoc] at this
    exact this

/-- An element of an array that lies in read-only memory. -/
theorem OpVal.indexAddrDA {T : TypeId → Option TyI} (hT : TOk P T) {t e : TypeId} {i j : TyI} {x y : Operand} {m len : Nat} {el : Nat → DV} {kd : IntKind} {n : Int} (ho : o.op = .indexAddr t x y) (ht : T t = some i) (hd : i.desc = .array len e) (hj : T e = some j)
    (hx : opv env x = .v (.one (.d (.pp m el)))) (hy : opv env y = vI kd n) (h0 : 0 ≤ n) (h1 : n < len) : OpVal P N env M o (.v (.one (.d (.pp (m - n.toNat * j.size) fun q => el (n.toNat * j.size + q))))) := fun γ Pr x0 a w h => by
  have h2 := h.opv x; have h4 := opI h hy
  rw [hx] at h2
  obtain ⟨b, k, he, hc⟩ := h2
  refine ⟨trivial, .pointer (some ⟨b, k + n.toNat * j.size, none⟩), ?_, b, k + n.toNat * j.size, rfl, fun q hq => ?_⟩
  · have hu := run_under (w := w) hT ht
    rw [hd] at hu
    simp only [execOp, ho, he, h4, Instr.indexAt, asIntOf, Sem.run_bind, Sem.run_pure, Result.andThen_ok, hu]
    simp [Instr.sureAddr, hu, h0, h1, run_sizeOf hT hj, Addr.add_mid]
  · have := hc (n.toNat * j.size + q) (by omega)
    rw [Nat.add_assoc]
    exact this

/-! ### Parts of values -/
theorem run_part {T : TypeId → Option TyI} (hT : TOk P T) {t : TypeId} {i : TyI} (ht : T t = some i) {cs : List CV} {vs : List Value} (hl : LRep γ Pr w cs vs) {k : Nat} {tv : TV}
    (h : if aggD i.desc then k + i.size ≤ cs.length ∧ tv = .agg ((cs.drop k).take i.size) else ∃ c, cs[k]? = some c ∧ tv = .one c) :
    ∃ v, (part t vs.toArray k).run P w = .ok v w ∧ TRep γ Pr w tv v := by
  unfold part
  rw [Sem.run_bind, run_isAgg hT ht]
  split at h
  · rename_i ha
    obtain ⟨hk, rfl⟩ := h
    refine ⟨.agg ((vs.drop k).take i.size).toArray, ?_, _, rfl, hl.part k i.size⟩
    simp [ha, run_sizeOf hT ht]
  · rename_i ha
    obtain ⟨c, hc, rfl⟩ := h
    obtain ⟨u, hu, hr⟩ := hl.2 k c hc
    refine ⟨u, ?_, hr⟩
    simp [ha, hu]

theorem OpVal.field {T : TypeId → Option TyI} (hT : TOk P T) {t : TypeId} {i j : TyI} {x : Operand} {n : Nat} {fs : Array Field} {f : Field} {cs : List CV} {tv : TV} (ho : o.op = .field t x n) (ht : T t = some i) (hd : i.desc = .struct fs) (hf : fs[n]? = some f)
    (hj : T f.type = some j) (hx : opv env x = .v (.agg cs))
    (h : if aggD j.desc then f.offset + j.size ≤ cs.length ∧ tv = .agg ((cs.drop f.offset).take j.size) else ∃ c, cs[f.offset]? = some c ∧ tv = .one c) : OpVal P N env M o (.v tv) := fun γ Pr x0 a w hr => by
  have h1 := hr.opv x; have h2 := opv_ok hr.slotB x
  rw [hx] at h1 h2
  obtain ⟨vs, he, hl⟩ := h1
  obtain ⟨v, hv, ht2⟩ := run_part (P := P) hT hj hl h
  refine ⟨?_, v, ?_, ht2⟩
  · split at h
    · obtain ⟨_, rfl⟩ := h
      exact fun c hc => h2 c (List.mem_of_mem_drop (List.mem_of_mem_take hc))
    · obtain ⟨c, hc, rfl⟩ := h
      exact h2 c (List.mem_of_getElem? hc)
  · have hu := run_under (w := w) hT ht
    rw [hd] at hu
    simp only [execOp, ho, he, Instr.field, Sem.run_bind, hu, Result.andThen_ok, hf, asAgg, Sem.run_pure, hv]

theorem OpVal.lenD {T : TypeId → Option TyI} (hT : TOk P T) {t e : TypeId} {i : TyI} {x : Operand} {n k : Nat} {el : Nat → Nat → DV} {cl : Call} (ho : o.op = .call cl) (hcl : cl.callee = .builtin .len) (hargs : cl.args = #[x]) (hty : cl.argTypes = #[t])
    (ht : T t = some i) (hd : i.desc = .slice e) (hx : opv env x = .v (.one (.d (.sl n k el)))) : OpVal P N env M o (vI .i64 n) := fun γ Pr x0 a w h => by
  have h2 := h.opv x
  rw [hx] at h2
  obtain ⟨A, c, he, hc, _⟩ := h2
  have hu := run_under (w := w) hT ht
  rw [hd] at hu
  refine ⟨trivial, .int .i64 n, ?_, rfl, rfl⟩
  simp [execOp, ho, resolve, hcl, hargs, hty, he, invoke, builtin, Builtin.len_, hu, goInt]
theorem OpVal.lenRow {T : TypeId → Option TyI} (hT : TOk P T) {t e e' : TypeId} {i : TyI} {x : Operand} {b n k : Nat} {v : Value} {cs : List CV} {fz : Bool} {cl : Call} (ho : o.op = .call cl) (hcl : cl.callee = .builtin .len) (hargs : cl.args = #[x]) (hty : cl.argTypes = #[t])
    (ht : T t = some i) (hd : i.desc = .slice e) (hx : opv env x = .v (.one (.row b v))) (hm : mget M b = some (.row e' k n v cs fz)) : OpVal P N env M o (vI .i64 n) := fun γ Pr x0 a w h => by
  have h2 := h.opv x
  rw [hx] at h2
  have hu := run_under (w := w) hT ht
  rw [hd] at hu
  obtain ⟨vs, hown, _⟩ := h.mem b _ hm
  have he : a.eval x = v := h2.1
  refine ⟨trivial, .int .i64 n, ?_, rfl, rfl⟩
  rcases hown.2 with ⟨hv, hn⟩ | ⟨g, cap, cur, hv, _⟩
  · rw [hv] at he
    subst hn
    simp [execOp, ho, resolve, hcl, hargs, hty, he, invoke, builtin, Builtin.len_, hu, goInt]
  · rw [hv] at he
    simp [execOp, ho, resolve, hcl, hargs, hty, he, invoke, builtin, Builtin.len_, hu, goInt]
theorem OpVal.lenS {T : TypeId → Option TyI} (hT : TOk P T) {t : TypeId} {i : TyI} {x : Operand} {s : ByteArray} {cl : Call} (ho : o.op = .call cl) (hcl : cl.callee = .builtin .len) (hargs : cl.args = #[x]) (hty : cl.argTypes = #[t])
    (ht : T t = some i) (hd : i.desc = .string) (hx : opv env x = vS s) : OpVal P N env M o (vI .i64 s.size) := fun γ Pr x0 a w h => by
  have he := opS h hx
  have hu := run_under (w := w) hT ht
  rw [hd] at hu
  refine ⟨trivial, .int .i64 s.size, ?_, rfl, rfl⟩
  simp [execOp, ho, resolve, hcl, hargs, hty, he, invoke, builtin, Builtin.len_, hu, goInt]

theorem OpVal.sliceD {T : TypeId → Option TyI} (hT : TOk P T) {t e : TypeId} {i j : TyI} {x : Operand} {lo hi : Option Operand} {n k : Nat} {el : Nat → Nat → DV} {l h : Nat} (ho : o.op = .slice t x lo hi none) (ht : T t = some i) (hd : i.desc = .slice e) (hj : T e = some j)
    (hk : j.size = k) (hx : opv env x = .v (.one (.d (.sl n k el)))) (hlo : match lo with | none => l = 0 | some y => ∃ kd, opv env y = vI kd l) (hhi : match hi with | none => h = n | some y => ∃ kd, opv env y = vI kd h) (h1 : l ≤ h) (h2 : h ≤ n) :
    OpVal P N env M o (.v (.one (.d (.sl (h - l) k fun p q => el (l + p) q)))) := fun γ Pr x0 a w hr => by
  have hx2 := hr.opv x
  rw [hx] at hx2
  obtain ⟨A, c, he, hc, hh⟩ := hx2
  have hu := run_under (w := w) hT ht
  rw [hd] at hu
  have hl2 : (match lo.map a.eval with | some v => Instr.sliceBound v h .sliceB | none => pure 0).run P w = .ok l w := by
    cases lo with
    | none => subst hlo; simp
    | some y =>
      obtain ⟨kd, hy⟩ := hlo
      simp only [Option.map_some, opI hr hy]
      simp [Instr.sliceBound, asIntOf, h1]
  have hh2 : (match hi.map a.eval with | some v => Instr.sliceBound v c .sliceAcap | none => pure n).run P w = .ok h w := by
    cases hi with
    | none => subst hhi; simp
    | some y =>
      obtain ⟨kd, hy⟩ := hhi
      simp only [Option.map_some, opI hr hy]
      have : h ≤ c := by omega
      simp [Instr.sliceBound, asIntOf, this]
  have hb : (Instr.sliceBounds true n c (lo.map a.eval) (hi.map a.eval) none).run P w = .ok (l, h, c) w := by
    unfold Instr.sliceBounds
    simp only [Sem.run_bind, Sem.run_pure, Result.andThen_ok, if_true]
    cases hhi2 : hi.map a.eval with
    | none =>
      rw [hhi2] at hh2
      simp only [Sem.run_pure] at hh2
      obtain rfl : n = h := by injection hh2
      cases hlo2 : lo.map a.eval with
      | none => rw [hlo2] at hl2; simp only [Sem.run_pure] at hl2; injection hl2 with e1; subst e1; simp
      | some v => rw [hlo2] at hl2; simp only at hl2; simp [hl2]
    | some u =>
      rw [hhi2] at hh2
      simp only at hh2
      cases hlo2 : lo.map a.eval with
      | none => rw [hlo2] at hl2; simp only [Sem.run_pure] at hl2; injection hl2 with e1; subst e1; simp [hh2]
      | some v => rw [hlo2] at hl2; simp only at hl2; simp [hh2, hl2]
  refine ⟨trivial, .slice (if c = l then A else A.map (·.add (l * k))) (h - l) (c - l), ?_, _, _, rfl, by omega, fun h0 => ?_⟩
  · simp only [execOp, ho, he]
    simp only [Instr.sliceAt, Sem.run_bind, hu, Result.andThen_ok, Instr.slice, Option.map_none, hb, run_sizeOf hT hj, hk, Sem.run_pure]
  · obtain ⟨b, q, rfl, hcell⟩ := hh (by omega)
    rw [if_neg (by omega)]
    refine ⟨b, q + l * k, by simp [Addr.add_mid], fun p hp r hr2 => ?_⟩
    have := hcell (l + p) (by omega) r hr2
    rw [Nat.add_mul] at this
    rw [show q + l * k + (p * k + r) = q + (l * k + p * k + r) by omega]
    exact this
end
end Go.Proofs.YtpgkbnefhhcfcaaGreatDoor.DL
set_option linter.unusedVariables false
set_option linter.unusedSimpArgs false
set_option linter.constructorNameAsVariable false
namespace Go.Proofs.YtpgkbnefhhcfcaaGreatDoor.DL
open Go.RowKit

def CV.pure : CV → Prop
  | .d _ => True
  | _ => False
def TV.pure : TV → Prop
  | .one c => c.pure
  | .agg cs => ∀ c ∈ cs, c.pure

def γ0 : Cn := ⟨fun _ => 0⟩

section
variable {γ γ' : Cn} {Pr Pr' : Prot} {w w' : World} {M : Mem}
theorem CRep.pure {c : CV} (hp : c.pure) {v : Value} (h : CRep γ Pr w c v) : CRep γ' Pr w c v := by
  cases c <;> first | exact h | exact hp.elim
theorem TRep.pure {t : TV} (hp : t.pure) {v : Value} (h : TRep γ Pr w t v) : TRep γ' Pr w t v := by
  cases t with
  | one c => exact CRep.pure hp h
  | agg cs =>
    obtain ⟨vs, hv, hl, hh⟩ := h
    exact ⟨vs, hv, hl, fun i c hc => let ⟨u, hu, hr⟩ := hh i c hc; ⟨u, hu, CRep.pure (hp c (List.mem_of_getElem? hc)) hr⟩⟩
theorem CV.pure_ok {c : CV} (hp : c.pure) : c.ok M := by
  cases c <;> first | trivial | exact hp.elim
theorem TV.pure_ok {t : TV} (hp : t.pure) : t.ok M := by
  cases t with
  | one c => exact CV.pure_ok hp
  | agg cs => exact fun c hc => CV.pure_ok (hp c hc)
theorem TRep.kept (hk : Kept Pr w Pr' w') {t : TV} (hp : t.pure) {v : Value} (h : TRep γ Pr w t v) : TRep γ Pr' w' t v :=
  TRep.move (M := []) (fun _ hb => absurd rfl hb) hk (TV.pure_ok hp) h
end

/-- Arguments, results. -/
def TsRep (γ : Cn) (Pr : Prot) (w : World) (ts : List TV) (vs : List Value) : Prop :=
  vs.length = ts.length ∧ ∀ (i : Nat) t, ts[i]? = some t → ∃ u, vs[i]? = some u ∧ TRep γ Pr w t u

def joined (vs : List Value) : Value := match vs with | [v] => v | vs => .tuple vs.toArray

/-- A call of data: it returns, writes nothing that was there, and what it returns is data of which Q holds. -/
def DCalls (P : Program) (f : FuncId) (args : List TV) (Q : List TV → Prop) : Prop :=
  ∀ Pr w vs, PV Pr w → TsRep γ0 Pr w args vs →
    Calls P f vs.toArray w fun e w' => ∃ us ts Pr', e = .returned (joined us) ∧ Below w.heap.size w w' ∧ PExt Pr Pr' (fun k => w.heap.size ≤ k) ∧ (∀ b o, Pr' b o → b < w'.heap.size) ∧
      TsRep γ0 Pr' w' ts us ∧ (∀ t ∈ ts, t.pure) ∧ Q ts

theorem DCalls.mono {P : Program} {f : FuncId} {args : List TV} {Q Q' : List TV → Prop} (h : DCalls P f args Q) (hq : ∀ ts, Q ts → Q' ts) : DCalls P f args Q' :=
  fun Pr w vs hp hr => (h Pr w vs hp hr).mono fun _ _ ⟨us, ts, Pr', h1, h2, h3, h4, h5, h6, h7⟩ => ⟨us, ts, Pr', h1, h2, h3, h4, h5, h6, hq _ h7⟩

def ret1 : List TV → SV
  | [t] => .v t
  | ts => .tup ts

section
variable {P : Program} {N : Nat} {ops : Array Oper} {Q : DPost} {env : Env} {M M0 : Mem} {γ γ' : Cn} {Pr Pr' : Prot} {x0 : Ctx} {w w' : World} {a : Act} {o : Oper} {rest : List Oper}

theorem PExt.kept {may : Nat → Prop} (h : PExt Pr Pr' may) (hb : Below w.heap.size w w') (hp : ∀ b o, Pr b o → b < w.heap.size) : Kept Pr w Pr' w' :=
  ⟨h.sub, fun b o hx => heap_cell (hb.block b (hp b o hx)) o⟩

/-- Behind a call that writes nothing that was there. -/
theorem Rel.called (h : Rel γ Pr x0 N env M a w) (hb : Below w.heap.size w w') (he : PExt Pr Pr' (fun k => w.heap.size ≤ k)) (hv : ∀ b o, Pr' b o → b < w'.heap.size) : Rel γ Pr' x0 N env M a w' := by
  have K : Kept Pr w Pr' w' := he.kept hb h.prot
  have G := Cn.agree_refl M γ
  exact { size := h.size, slot := fun i => SRep.move G K (h.slotB i) (h.slot i), slotB := h.slotB,
          mem := fun b k hm => BRep.move G (by rw [has, hm]; simp) K (fun g hg => hb.block g ((h.mem b k hm).lt g hg).2) (fun g hg o hp => (he.new g o hp).elim id fun hle => absurd ((h.mem b k hm).lt g hg).2 (by omega)) (h.memB b k hm) (h.mem b k hm),
          memB := h.memB, apart := h.apart, below := h.below.below hb, prot := h.prot.kept K hv, defers := h.defers }
theorem From.called (h : From x0 γ Pr M w) (hr : Rel γ Pr x0 N env M a w) (hb : Below w.heap.size w w') (he : PExt Pr Pr' (fun k => w.heap.size ≤ k)) : From x0 γ Pr' M w' :=
  h.step (Cn.agree_refl M γ) (he.kept hb hr.prot) (he.mono fun _ hle => .inl (Nat.le_trans hr.below.size hle)) (fun _ h => h)

theorem run_call {cl : Call} {f : FuncId} {fn : Func} {c : Code} (ho : o.op = .call cl) (hcl : cl.callee = .value (.func f)) (hf : P.funcs[f]? = some fn) (hb : fn.body = some c) (hn : (fn.name == "runtime.NumGoroutine") = false) (ρ : Operand → Value) (hρ : ρ (.func f) = .func (.func f) #[] #[]) :
    (execOp ρ o).run P w = .ok (.enter f (cl.args.map ρ)) w := by
  simp only [execOp, ho, resolve, hcl, hρ, Deferred.ofValue, Sem.run_bind, Sem.run_pure, Result.andThen_ok, invoke, callFunc, run_program, hf, hn, hb]
  simp

/-- Operands that hold values, in order. -/
def opvs (env : Env) : List Operand → Option (List TV)
  | [] => some []
  | x :: r => match opv env x, opvs env r with
    | .v t, some ts => some (t :: ts)
    | _, _ => none

theorem opvs_rep (h : Rel γ Pr x0 N env M a w) : ∀ (l : List Operand) (ts : List TV), opvs env l = some ts → TsRep γ Pr w ts (l.map a.eval)
  | [], ts, hl => by simp [opvs] at hl; subst hl; exact ⟨rfl, fun i t ht => by simp at ht⟩
  | x :: r, ts, hl => by
    simp only [opvs] at hl
    have h1 := h.opv x
    split at hl
    · rename_i t us hx hr
      obtain rfl := Option.some.inj hl
      obtain ⟨h2, h3⟩ := opvs_rep h r us hr
      refine ⟨by simp [h2], fun i t' ht => ?_⟩
      cases i with
      | zero => simp at ht; subst ht; rw [hx] at h1; exact ⟨_, rfl, h1⟩
      | succ i => exact h3 i t' ht
    · cases hl

theorem TsRep.pure {ts : List TV} {vs : List Value} (hp : ∀ t ∈ ts, t.pure) (h : TsRep γ Pr w ts vs) : TsRep γ' Pr w ts vs :=
  ⟨h.1, fun i t ht => let ⟨u, hu, hr⟩ := h.2 i t ht; ⟨u, hu, TRep.pure (hp t (List.mem_of_getElem? ht)) hr⟩⟩

theorem SRep.ret1 {ts : List TV} {us : List Value} (h : TsRep γ Pr w ts us) : SRep γ Pr w (DL.ret1 ts) (joined us) := by
  match ts, us, h with
  | [t], [u], h =>
    obtain ⟨y, hy, hr⟩ := h.2 0 t rfl
    simp at hy
    subst hy
    exact hr
  | [], [], h => exact ⟨[], rfl, rfl, h.2⟩
  | t :: t' :: ts, u :: u' :: us, h => exact ⟨u :: u' :: us, rfl, h.1, h.2⟩
  | [], _ :: _, h => simp [TsRep] at h
  | [_], [], h => simp [TsRep] at h
  | [_], _ :: _ :: _, h => simp [TsRep] at h
  | _ :: _ :: _, [], h => simp [TsRep] at h
  | _ :: _ :: _, [_], h => simp [TsRep] at h

theorem ret1_ok {ts : List TV} (hp : ∀ t ∈ ts, t.pure) : (DL.ret1 ts).ok M := by
  match ts, hp with
  | [t], hp => exact TV.pure_ok (hp t (by simp))
  | [], hp => exact fun t ht => TV.pure_ok (hp t ht)
  | t :: t' :: ts, hp => exact fun t ht => TV.pure_ok (hp t ht)

theorem DOps.call {cl : Call} {f : FuncId} {fn : Func} {c : Code} {ts : List TV} {R : List TV → Prop} (hg : gd ops env o = some true) {d : Nat} (hd : o.dst = some d) (hN : Nat.blt d N = true) (ho : o.op = .call cl) (hcl : cl.callee = .value (.func f))
    (hf : P.funcs[f]? = some fn) (hb : fn.body = some c) (hn : (fn.name == "runtime.NumGoroutine") = false) (hx : opvs env cl.args.toList = some ts) (hp : ∀ t ∈ ts, t.pure) (hc : DCalls P f ts R)
    (h : ∀ us, R us → DOps P N M0 ops Q rest ((d, ret1 us) :: env) M) : DOps P N M0 ops Q (o :: rest) env M := by
  have he : ∀ us, putd o.dst (ret1 us) env = (d, ret1 us) :: env := fun us => by rw [hd]; rfl
  have h : ∀ us, R us → DOps P N M0 ops Q rest (putd o.dst (ret1 us) env) M := fun us hu => by rw [he]; exact h us hu
  have hd := dstOk_of hd hN
  intro x0 a w hx0 ⟨γ, Pr, hr, hpe⟩
  have hw := gd_wanted (ops := ops) hr hg
  unfold wpList
  rw [if_pos hw]
  refine .inl ?_
  unfold Oper.wp
  rw [run_call ho hcl hf hb hn a.eval rfl, Oper.upon_enter]
  have hargs : cl.args.map a.eval = (cl.args.toList.map a.eval).toArray := by apply Array.ext'; rw [Array.toList_map]
  rw [hargs]
  refine (hc Pr w _ hr.prot ((opvs_rep hr _ _ hx).pure hp)).mono fun e w' ⟨us, rs, Pr', he, hB, hE, hV, hR, hP, hQ⟩ => ?_
  subst he
  have hr' := hr.called hB hE hV
  exact h rs hQ x0 _ w' hx0 ⟨γ, Pr', hr'.put (dstOk_spec hd) (SRep.ret1 (hR.pure hP)) (ret1_ok hP), hpe.called hr hB hE⟩

/-! ### A function's own results -/
def ResT (T : TypeId → Option TyI) (env : Env) (M : Mem) : ResultVar → TV → Prop
  | .tmp t, x => lk env t = .v x
  | .cell c ty, x => ∃ b tb cs i, lk env c = .v (.one (.ptr b 0)) ∧ mget M b = some (.box tb cs) ∧ T ty = some i ∧ (if aggD i.desc then cs.length = i.size ∧ x = .agg cs else ∃ c, cs[0]? = some c ∧ x = .one c)

def ResTs (T : TypeId → Option TyI) (env : Env) (M : Mem) : List ResultVar → List TV → Prop
  | [], [] => True
  | r :: rs, t :: ts => ResT T env M r t ∧ ResTs T env M rs ts
  | _, _ => False

/-- What must hold where a function ends. -/
def endQ (T : TypeId → Option TyI) (rs : List ResultVar) (R : List TV → Prop) : DPost := fun e env M =>
  match e with
  | .normal | .ret => ∃ ts, ResTs T env M rs ts ∧ (∀ t ∈ ts, t.pure) ∧ R ts
  | _ => False

def resSem (tmps : Array Value) : ResultVar → Sem Value
  | .tmp t => pure (tmps.getD t undef)
  | .cell a t => do loadVar t (← asAddr (tmps.getD a undef))

theorem run_result {T : TypeId → Option TyI} (hT : TOk P T) (h : Rel γ Pr x0 N env M a w) {r : ResultVar} {t : TV} (hr : ResT T env M r t) :
    ∃ v, (resSem a.tmps r).run P w = .ok v w ∧ TRep γ Pr w t v := by
  cases r with
  | tmp s =>
    have := h.slot s
    rw [show lk env s = .v t from hr] at this
    exact ⟨_, rfl, this⟩
  | cell c ty =>
    obtain ⟨b, tb, cs, i, h1, h2, h3, h4⟩ := hr
    have hs := h.slot c
    rw [h1] at hs
    have hs' : a.tmps.getD c undef = .pointer (some ⟨γ.blk b, 0, none⟩) := hs
    obtain ⟨_, ⟨vs, hv, hl⟩, _⟩ := h.mem b _ h2
    simp only [resSem, hs']
    split at h4
    · rename_i ha
      obtain ⟨hc, rfl⟩ := h4
      refine ⟨.agg vs.toArray, ?_, vs, rfl, hl⟩
      have := run_loadN (w := w) hT h3 ha (g := γ.blk b) (k := 0) (vs := vs) (by rw [hl.1, hc]) (fun j v hj => by rw [blk_cell' hv]; simpa using hj)
      simpa [asAddr, Instr.loadAt, Instr.sureAddr] using this
    · rename_i ha
      obtain ⟨c, hc, rfl⟩ := h4
      obtain ⟨u, hu, hr⟩ := hl.2 0 c hc
      refine ⟨u, ?_, hr⟩
      have hcell : w.cell? ⟨γ.blk b, 0, none⟩ = some u := by rw [blk_cell' hv]; simpa using hu
      have := run_load1 (w := w) hT h3 (by simpa using ha) hcell
      simpa [asAddr, Instr.loadAt, Instr.sureAddr] using this

theorem run_results {T : TypeId → Option TyI} (hT : TOk P T) (h : Rel γ Pr x0 N env M a w) {fn : Func} {ts : List TV} (hr : ResTs T env M fn.results.toList ts) :
    ∃ us, (results fn a.tmps).run P w = .ok (joined us) w ∧ TsRep γ Pr w ts us := by
  have key : ∀ (l : List ResultVar) (ts : List TV), ResTs T env M l ts → ∃ us : List Value, (l.mapM (resSem a.tmps)).run P w = .ok us w ∧ TsRep γ Pr w ts us := by
    intro l
    induction l with
    | nil =>
      intro ts hr
      cases ts with
      | nil => exact ⟨[], by simp, rfl, fun i t ht => by simp at ht⟩
      | cons t ts => exact hr.elim
    | cons r l ih =>
      intro ts hr
      cases ts with
      | nil => exact hr.elim
      | cons t ts =>
        obtain ⟨h1, h2⟩ := hr
        obtain ⟨v, hv, ht⟩ := run_result hT h h1
        obtain ⟨us, hu, hts⟩ := ih ts h2
        refine ⟨v :: us, ?_, by simp [hts.1], fun i t' ht' => ?_⟩
        · rw [List.mapM_cons, Sem.run_bind, hv]
          simp [hu]
        · cases i with
          | zero => simp at ht'; subst ht'; exact ⟨v, rfl, ht⟩
          | succ i => exact hts.2 i t' ht'
  obtain ⟨us, hu, hts⟩ := key _ ts hr
  refine ⟨us, ?_, hts⟩
  have hm : (fn.results.mapM (resSem a.tmps)).run P w = .ok us.toArray w := by
    rw [← Array.toArray_toList (xs := fn.results), List.mapM_toArray]
    simp [hu]
  have he : results fn a.tmps = (do let vs ← fn.results.mapM (resSem a.tmps); pure (if h : vs.size = 1 then vs[0] else .tuple vs)) := by
    unfold results
    congr 1
  rw [he, Sem.run_bind, hm]
  match us with
  | [] => rfl
  | [u] => rfl
  | u :: u' :: us => rfl

def envOf (args : List TV) : Env := go 0 args
where go : Nat → List TV → Env
  | _, [] => []
  | i, t :: r => (i, .v t) :: go (i + 1) r

theorem lk_envOf_go : ∀ (args : List TV) (k i : Nat), lk (envOf.go k args) i = if k ≤ i then (match args[i - k]? with | some t => .v t | none => .junk) else .junk
  | [], k, i => by simp [envOf.go, lk]
  | t :: r, k, i => by
    rw [envOf.go, lk_cons, lk_envOf_go r (k + 1) i]
    by_cases h : k = i
    · subst h; simp
    · rw [if_neg h]
      by_cases h2 : k + 1 ≤ i
      · rw [if_pos h2, if_pos (by omega), show i - k = (i - (k + 1)) + 1 by omega, List.getElem?_cons_succ]
      · rw [if_neg h2, if_neg (by omega)]

theorem DCalls.enter {f : FuncId} {fn : Func} {c : Code} {T : TypeId → Option TyI} (hT : TOk P T) {args : List TV} {R : List TV → Prop} (hf : P.funcs[f]? = some fn) (hb : fn.body = some c) (hN : fn.ntmps = N) (hle : args.length ≤ N)
    (hp : ∀ t ∈ args, t.pure) (h : DCode P N [] c (endQ T fn.results.toList R) (envOf args) []) : DCalls P f args R := by
  intro Pr w vs hpr hts
  refine calls_of_wp hf hb ?_
  have hsz : (vs.toArray ++ Array.replicate (fn.ntmps - vs.toArray.size) undef).size = N := by
    have := hts.1
    simp [hN]; omega
  have hrel : Rel γ0 Pr ⟨w, Pr, γ0, []⟩ N (envOf args) [] { tmps := vs.toArray ++ Array.replicate (fn.ntmps - vs.toArray.size) undef, defers := [] } w := by
    refine { size := hsz, slot := fun i => ?_, slotB := fun i => ?_, mem := fun b k hm => by simp [mget] at hm, memB := fun b k hm => by simp [mget] at hm, apart := fun b b' k k' hm => by simp [mget] at hm,
             below := Sim.refl ⟨w, Pr, γ0, []⟩, prot := hpr, defers := rfl }
    · rw [envOf, lk_envOf_go, if_pos (Nat.zero_le _), Nat.sub_zero]
      cases ha : args[i]? with
      | none => trivial
      | some t =>
        obtain ⟨u, hu, hr⟩ := hts.2 i t ha
        have hlt : i < vs.length := (List.getElem?_eq_some_iff.1 hu).1
        have : (vs.toArray ++ Array.replicate (fn.ntmps - vs.toArray.size) undef).getD i undef = u := by
          simp only [Array.getD_eq_getD_getElem?, Array.getElem?_append, List.size_toArray, hlt, if_true, List.getElem?_toArray, hu, Option.getD_some]
        show TRep γ0 Pr w t _
        rw [this]
        exact hr
    · rw [envOf, lk_envOf_go, if_pos (Nat.zero_le _), Nat.sub_zero]
      cases ha : args[i]? with
      | none => trivial
      | some t => exact TV.pure_ok (hp t (List.mem_of_getElem? ha))
  have hfrom : From ⟨w, Pr, γ0, []⟩ γ0 Pr [] w := ⟨PExt.refl _ _, fun _ _ _ => rfl, Cn.agree_refl _ _, fun _ h => h⟩
  refine wp_mono (h ⟨w, Pr, γ0, []⟩ _ w rfl ⟨γ0, Pr, hrel, hfrom⟩) fun e a' w' ⟨env', M', ⟨γ', Pr', hr', hpe⟩, hQ⟩ => ?_
  have hmay : ∀ k, Ctx.may ⟨w, Pr, γ0, []⟩ k → w.heap.size ≤ k := fun k hk => hk.elim id fun ⟨b, l, hb, _⟩ => by simp [mget] at hb
  have hbel : Below w.heap.size w w' := ⟨hr'.below.os, hr'.below.tape, hr'.below.output, hr'.below.size, fun k hk => hr'.below.block k fun hm => absurd (hmay k hm) (by omega)⟩
  have fin : (∃ ts, ResTs T env' M' fn.results.toList ts ∧ (∀ t ∈ ts, t.pure) ∧ R ts) → a'.defers = [] ∧ ∃ v, (results fn a'.tmps).run P w' = .ok v w' ∧ ∃ us ts Pr', Ending.returned v = .returned (joined us) ∧ Below w.heap.size w w' ∧ PExt Pr Pr' (fun k => w.heap.size ≤ k) ∧ (∀ b o, Pr' b o → b < w'.heap.size) ∧
      TsRep γ0 Pr' w' ts us ∧ (∀ t ∈ ts, t.pure) ∧ R ts := fun ⟨ts, h1, h2, h3⟩ => by
    obtain ⟨us, hu, hts⟩ := run_results hT hr' h1
    exact ⟨hr'.defers, _, hu, us, ts, Pr', rfl, hbel, hpe.ext.mono hmay, hr'.prot.lt, hts.pure h2, h2, h3⟩
  cases e with
  | normal => exact fin hQ
  | ret => exact fin hQ
  | _ => exact hQ.elim

/-! ### Calls that are handed memory -/
/-- Memory alone. -/
structure MRel (γ : Cn) (Pr : Prot) (c : Ctx) (M : Mem) (w : World) : Prop where
  mem : ∀ b k, mget M b = some k → BRep γ Pr w c b k
  memB : ∀ b k, mget M b = some k → Blk.ok M k
  apart : ∀ b b' k k', mget M b = some k → mget M b' = some k' → b ≠ b' → ∀ g, blockOf γ b k = some g → blockOf γ b' k' ≠ some g

/-- The blocks that a memory tells of. -/
def blocks (γ : Cn) (M : Mem) (k : Nat) : Prop := ∃ b l, mget M b = some l ∧ blockOf γ b l = some k

/-- A call that is handed a memory: what it returns, and what has become of that memory. -/
def DCallsM (P : Program) (f : FuncId) (args : List TV) (M : Mem) (R : List TV → Mem → Prop) : Prop :=
  ∀ γ Pr w vs, PV Pr w → MRel γ Pr ⟨w, Pr, γ, M⟩ M w → (∀ t ∈ args, t.ok M) → TsRep γ Pr w args vs →
    Calls P f vs.toArray w fun e w' => ∃ us ts γ' Pr' M', e = .returned (joined us) ∧ Sim ⟨w, Pr, γ, M⟩ w' ∧ PExt Pr Pr' (Ctx.may ⟨w, Pr, γ, M⟩) ∧ (∀ b o, Pr b o → w'.cell? ⟨b, o, none⟩ = w.cell? ⟨b, o, none⟩) ∧ (∀ b o, Pr' b o → b < w'.heap.size) ∧
      MRel γ' Pr' ⟨w, Pr, γ, M⟩ M' w' ∧ Cn.agree M γ γ' ∧ (∀ b, has M b ↔ has M' b) ∧ TsRep γ' Pr' w' ts us ∧ (∀ t ∈ ts, t.ok M') ∧ R ts M'

def endQM (T : TypeId → Option TyI) (rs : List ResultVar) (M0 : Mem) (R : List TV → Mem → Prop) : DPost := fun e env M =>
  match e with
  | .normal | .ret => ∃ ts M', ResTs T env M rs ts ∧ (∀ b, mget M' b = none ∨ mget M' b = mget M b) ∧ (∀ b, has M0 b ↔ has M' b) ∧ (∀ b k, mget M' b = some k → k.ok M') ∧ (∀ t ∈ ts, t.ok M') ∧ R ts M'
  | _ => False

theorem DCallsM.enter {f : FuncId} {fn : Func} {c : Code} {T : TypeId → Option TyI} (hT : TOk P T) {args : List TV} {R : List TV → Mem → Prop} (hf : P.funcs[f]? = some fn) (hb : fn.body = some c) (hN : fn.ntmps = N) (hle : args.length ≤ N)
    (h : DCode P N M c (endQM T fn.results.toList M R) (envOf args) M) : DCallsM P f args M R := by
  intro γ Pr w vs hpr hmr hp hts
  refine calls_of_wp hf hb ?_
  have hsz : (vs.toArray ++ Array.replicate (fn.ntmps - vs.toArray.size) undef).size = N := by
    have := hts.1
    simp [hN]; omega
  have hrel : Rel γ Pr ⟨w, Pr, γ, M⟩ N (envOf args) M { tmps := vs.toArray ++ Array.replicate (fn.ntmps - vs.toArray.size) undef, defers := [] } w := by
    refine { size := hsz, slot := fun i => ?_, slotB := fun i => ?_, mem := hmr.mem, memB := hmr.memB, apart := hmr.apart, below := Sim.refl ⟨w, Pr, γ, M⟩, prot := hpr, defers := rfl }
    · rw [envOf, lk_envOf_go, if_pos (Nat.zero_le _), Nat.sub_zero]
      cases ha : args[i]? with
      | none => trivial
      | some t =>
        obtain ⟨u, hu, hr⟩ := hts.2 i t ha
        have hlt : i < vs.length := (List.getElem?_eq_some_iff.1 hu).1
        have : (vs.toArray ++ Array.replicate (fn.ntmps - vs.toArray.size) undef).getD i undef = u := by
          simp only [Array.getD_eq_getD_getElem?, Array.getElem?_append, List.size_toArray, hlt, if_true, List.getElem?_toArray, hu, Option.getD_some]
        show TRep γ Pr w t _
        rw [this]
        exact hr
    · rw [envOf, lk_envOf_go, if_pos (Nat.zero_le _), Nat.sub_zero]
      cases ha : args[i]? with
      | none => trivial
      | some t => exact hp t (List.mem_of_getElem? ha)
  have hfrom : From ⟨w, Pr, γ, M⟩ γ Pr M w := ⟨PExt.refl _ _, fun _ _ _ => rfl, Cn.agree_refl _ _, fun _ h => h⟩
  refine wp_mono (h ⟨w, Pr, γ, M⟩ _ w rfl ⟨γ, Pr, hrel, hfrom⟩) fun e a' w' ⟨env', M', ⟨γ', Pr', hr', hpe⟩, hQ⟩ => ?_
  have fin : (∃ ts M'', ResTs T env' M' fn.results.toList ts ∧ (∀ b, mget M'' b = none ∨ mget M'' b = mget M' b) ∧ (∀ b, has M b ↔ has M'' b) ∧ (∀ b k, mget M'' b = some k → k.ok M'') ∧ (∀ t ∈ ts, t.ok M'') ∧ R ts M'') →
      a'.defers = [] ∧ ∃ v, (results fn a'.tmps).run P w' = .ok v w' ∧ ∃ us ts γ' Pr' M', Ending.returned v = .returned (joined us) ∧ Sim ⟨w, Pr, γ, M⟩ w' ∧ PExt Pr Pr' (Ctx.may ⟨w, Pr, γ, M⟩) ∧ (∀ b o, Pr b o → w'.cell? ⟨b, o, none⟩ = w.cell? ⟨b, o, none⟩) ∧ (∀ b o, Pr' b o → b < w'.heap.size) ∧
      MRel γ' Pr' ⟨w, Pr, γ, M⟩ M' w' ∧ Cn.agree M γ γ' ∧ (∀ b, has M b ↔ has M' b) ∧ TsRep γ' Pr' w' ts us ∧ (∀ t ∈ ts, t.ok M') ∧ R ts M' := fun ⟨ts, M'', h1, h2, h3, h4, h5, h6⟩ => by
    obtain ⟨us, hu, hts⟩ := run_results hT hr' h1
    have get : ∀ b k, mget M'' b = some k → mget M' b = some k := fun b k hk => by
      rcases h2 b with e | e
      · rw [e] at hk; cases hk
      · rw [← e]; exact hk
    exact ⟨hr'.defers, _, hu, us, ts, γ', Pr', M'', rfl, hr'.below, hpe.ext, hpe.cell, hr'.prot.lt, ⟨fun b k hk => hr'.mem b k (get b k hk), h4, fun b b' k k' hk hk' => hr'.apart b b' k k' (get b k hk) (get b' k' hk')⟩, hpe.lie, h3, hts, h5, h6⟩
  cases e with
  | normal => exact fin hQ
  | ret => exact fin hQ
  | _ => exact hQ.elim

theorem ret1_okM {ts : List TV} (hp : ∀ t ∈ ts, t.ok M) : (DL.ret1 ts).ok M := by
  match ts, hp with
  | [t], hp => exact hp t (by simp)
  | [], hp => exact fun t ht => hp t ht
  | t :: t' :: ts, hp => exact fun t ht => hp t ht

theorem blockOf_agree {Ms : Mem} (hg : Cn.agree Ms γ γ') {b : Nat} (hb : has Ms b) (k : Blk) : blockOf γ' b k = blockOf γ b k := by
  cases k with
  | box t cs => simp [blockOf, hg b hb]
  | row e k n v cs fz => rfl
theorem BRep.ctx {c c' : Ctx} {b : Nat} {k : Blk} (h : BRep γ Pr w c b k) (hm : ∀ g, blockOf γ b k = some g → c.may g → c'.may g) : BRep γ Pr w c' b k := by
  cases k with
  | box t cs => exact ⟨hm _ rfl h.1, h.2⟩
  | row e k n v cs fz =>
    obtain ⟨vs, h1, h2, h3⟩ := h
    exact ⟨vs, h1, h2, fun g hg => ⟨hm g hg (h3 g hg).1, (h3 g hg).2⟩⟩

/-- The parts of a memory that are handed to a call are told as the call leaves them. -/
def Cn.join (Ms : Mem) (γ γ' : Cn) : Cn := ⟨fun b => if (mget Ms b).isSome then γ'.blk b else γ.blk b⟩

theorem has_iff {b : Nat} : has M b ↔ (mget M b).isSome = true := by
  unfold has
  cases mget M b <;> simp

end
end Go.Proofs.YtpgkbnefhhcfcaaGreatDoor.DL
set_option linter.unusedVariables false
set_option linter.unusedSimpArgs false
set_option linter.constructorNameAsVariable false
namespace Go.Proofs.YtpgkbnefhhcfcaaGreatDoor.DL
open Go.RowKit

section
variable {P : Program} {N : Nat} {ops : Array Oper} {Q : DPost} {env : Env} {M M0 : Mem} {γ γ' : Cn} {Pr Pr' : Prot} {x0 : Ctx} {w w' : World} {a : Act} {o : Oper} {rest : List Oper}

/-- One state tells less than another. -/
def Wk (N : Nat) (M0 : Mem) (env : Env) (M : Mem) (t : Env) (Mt : Mem) : Prop := ∀ x0 a w, x0.M0 = M0 → At x0 N env M a w → At x0 N t Mt a w

/-- What is forgotten of slots. -/
def Sub (t env : Env) : Prop := ∀ i, lk t i = .junk ∨ lk t i = lk env i
def MSub (Mt M : Mem) : Prop := ∀ b, mget Mt b = none ∨ mget Mt b = mget M b

theorem Wk.refl : Wk N M0 env M env M := fun _ _ _ _ h => h
theorem Wk.trans {e2 e3 : Env} {M2 M3 : Mem} (h : Wk N M0 env M e2 M2) (k : Wk N M0 e2 M2 e3 M3) : Wk N M0 env M e3 M3 := fun _ _ _ hx x => k _ _ _ hx (h _ _ _ hx x)

theorem Rel.weak {t : Env} {Mt : Mem} (h : Rel γ Pr x0 N env M a w) (hs : Sub t env) (hm : MSub Mt M) (ho : ∀ i, (lk t i).ok Mt) (hb : ∀ b k, mget Mt b = some k → k.ok Mt) : Rel γ Pr x0 N t Mt a w := by
  have get : ∀ b k, mget Mt b = some k → mget M b = some k := fun b k hk => by
    rcases hm b with e | e
    · rw [e] at hk; cases hk
    · rw [← e]; exact hk
  exact { size := h.size, slot := fun i => (hs i).elim (fun e => by rw [e]; trivial) (fun e => by rw [e]; exact h.slot i), slotB := ho, mem := fun b k hk => h.mem b k (get b k hk), memB := hb,
          apart := fun b b' k k' hk hk' => h.apart b b' k k' (get b k hk) (get b' k' hk'), below := h.below, prot := h.prot, defers := h.defers }

/-- Slots are forgotten, memory stays. -/
theorem Wk.slots {t : Env} (hs : Sub t env) : Wk N M0 env M t M := fun x0 a w _ ⟨γ, Pr, h, hf⟩ =>
  ⟨γ, Pr, h.weak hs (fun _ => .inr rfl) (fun i => (hs i).elim (fun e => by rw [e]; trivial) (fun e => by rw [e]; exact h.slotB i)) h.memB, hf⟩
/-- Memory is told in another way. -/
theorem Wk.memo {t : Env} {Mt : Mem} (hs : Sub t env) (he : ∀ b, mget Mt b = mget M b) : Wk N M0 env M t Mt := fun x0 a w _ ⟨γ, Pr, h, hf⟩ => by
  have hh : ∀ b, has M b → has Mt b := fun b hb => by unfold has at *; rw [he]; exact hb
  exact ⟨γ, Pr, h.weak hs (fun b => .inr (he b)) (fun i => (hs i).elim (fun e => by rw [e]; trivial) (fun e => by rw [e]; exact SV.ok_le hh (h.slotB i)))
    (fun b k hk => Blk.ok_le hh (h.memB b k (by rw [← he]; exact hk))), ⟨hf.ext, hf.cell, hf.lie, fun b hb => hh b (hf.has b hb)⟩⟩
/-- Memory is forgotten, too: none of what the call was handed. -/
theorem Wk.both {t : Env} {Mt : Mem} (hs : Sub t env) (hm : MSub Mt M) (ho : ∀ i, (lk t i).ok Mt) (hb : ∀ b k, mget Mt b = some k → k.ok Mt) (h0 : ∀ b, has M0 b → has Mt b) : Wk N M0 env M t Mt := fun x0 a w hx ⟨γ, Pr, h, hf⟩ =>
  ⟨γ, Pr, h.weak hs hm ho hb, ⟨hf.ext, hf.cell, hf.lie, fun b hb => h0 b (by rw [← hx]; exact hb)⟩⟩

theorem DCode.weak {c : Code} {t : Env} {Mt : Mem} (hw : Wk N M0 env M t Mt) (h : DCode P N M0 c Q t Mt) : DCode P N M0 c Q env M :=
  fun x0 a w hx ha => h x0 a w hx (hw x0 a w hx ha)
theorem DOps.weak {l : List Oper} {t : Env} {Mt : Mem} (hw : Wk N M0 env M t Mt) (h : DOps P N M0 ops Q l t Mt) : DOps P N M0 ops Q l env M :=
  fun x0 a w hx ha => h x0 a w hx (hw x0 a w hx ha)

theorem DCode.loop {c : Code} {ι : Type} (E : ι → Env) (Mm : ι → Mem) (μ : ι → Nat) (i0 : ι) (h0 : Wk N M0 env M (E i0) (Mm i0))
    (hr : ∀ i, DCode P N M0 c (thenQ (fun env' M' => ∃ i', μ i' < μ i ∧ Wk N M0 env' M' (E i') (Mm i')) Q) (E i) (Mm i)) : DCode P N M0 (.loop c) Q env M := by
  intro x0 a w hx ha0
  refine wp_loop_rounds (μ i0 + 1) ?_
  have key : ∀ n i a w, μ i < n → At x0 N (E i) (Mm i) a w → Code.rounds P c (up x0 N Q) n a w := by
    intro n
    induction n with
    | zero => intro i a w hi; omega
    | succ n ih =>
      intro i a w hi ha
      rw [rounds_succ]
      refine wp_mono (hr i x0 a w hx ha) fun e a' w' ⟨env', M', hat, hQ⟩ => ?_
      cases e with
      | normal =>
        obtain ⟨i', hlt, hw⟩ := hQ
        exact ih i' a' w' (by omega) (hw _ _ _ hx hat)
      | _ => exact ⟨env', M', hat, hQ⟩
  exact key _ i0 a w (by omega) (h0 _ _ _ hx ha0)

/-! ### How 'Sub' is shown -/
def junks (ds : List Nat) (e : Env) : Env := ds.foldr (fun d r => (d, SV.junk) :: r) e
/-- Off the slots ds two are alike. -/
def Off (ds : List Nat) (t env : Env) : Prop := ∀ i, ds.contains i = false → lk t i = lk env i
theorem Off.refl (ds : List Nat) (env : Env) : Off ds env env := fun _ _ => rfl
theorem Off.cons {ds : List Nat} {d : Nat} {x : SV} {t env : Env} (hd : ds.contains d = true) (h : Off ds t env) : Off ds t ((d, x) :: env) := fun i hi => by
  rw [lk_cons, if_neg (fun e => by rw [e, hi] at hd; cases hd)]
  exact h i hi
theorem lk_junks (ds : List Nat) (e : Env) (i : Nat) : lk (junks ds e) i = if ds.contains i then .junk else lk e i := by
  induction ds with
  | nil => rfl
  | cons d ds ih =>
    show lk ((d, SV.junk) :: junks ds e) i = _
    rw [lk_cons, ih, List.contains_cons]
    by_cases h : d = i
    · subst h; simp
    · rw [if_neg h]
      have : (i == d) = false := by simpa using fun e => h e.symm
      rw [this, Bool.false_or]
theorem Off.junks {ds ds' : List Nat} {t env : Env} (hd : ds'.all (ds.contains ·) = true) (h : Off ds t env) : Off ds t (junks ds' env) := fun i hi => by
  rw [lk_junks]
  split
  · rename_i hc
    have := List.all_eq_true.1 hd i (by simpa using hc)
    rw [hi] at this; cases this
  · exact h i hi
theorem Sub.base {ds : List Nat} {t env : Env} (h : Off ds t env) : Sub (junks ds t) env := fun i => by
  rw [lk_junks]
  split
  · exact .inl rfl
  · rename_i hc; exact .inr (h i (by simpa using hc))
theorem Sub.cons {d : Nat} {x : SV} {t env : Env} (hx : lk env d = x) (h : Sub t env) : Sub ((d, x) :: t) env := fun i => by
  rw [lk_cons]
  split
  · rename_i e; subst e; exact .inr hx.symm
  · exact h i
theorem Sub.junk {d : Nat} {t env : Env} (h : Sub t env) : Sub ((d, .junk) :: t) env := fun i => by
  rw [lk_cons]
  split
  · exact .inl rfl
  · exact h i

/-! ### Built values -/
def fillC (place : Nat → Option (Nat × Nat)) (cs : List CV) : List (Nat × TV) → Option (List CV)
  | [] => some cs
  | (i, t) :: r => match place i with
    | none => none
    | some (off, size) => if t.cells.length ≠ size ∨ off + t.cells.length > cs.length then none else fillC place (DL.splice cs off t.cells) r

theorem foldl_zip : ∀ (us : List Value) (vs : List Value) (off k : Nat), (us.zipIdx k).foldl (fun (cs : Array Value) (p : Value × Nat) => cs.setIfInBounds (off + p.2) p.1) vs.toArray = (DL.splice vs (off + k) us).toArray
  | [], _, _, _ => rfl
  | u :: r, vs, off, k => by
    rw [List.zipIdx_cons, List.foldl_cons, DL.splice]
    have := foldl_zip r (vs.set (off + k) u) off (k + 1)
    rw [← Nat.add_assoc] at this
    rw [← this]
    simp

theorem fillC_fill {place : Nat → Option (Nat × Nat)} : ∀ (ps : List (Nat × TV)) (qs : List (Nat × Value)) (cs cs' : List CV) (vs : List Value), LRep γ Pr w cs vs →
    qs.length = ps.length → (∀ (j : Nat) i t, ps[j]? = some (i, t) → ∃ v, qs[j]? = some (i, v) ∧ TRep γ Pr w t v) → fillC place cs ps = some cs' →
    ∃ vs' : List Value, Instr.fill place vs.toArray qs = some vs'.toArray ∧ LRep γ Pr w cs' vs'
  | [], qs, cs, cs', vs, hl, hq, _, hf => by
    obtain rfl := List.eq_nil_of_length_eq_zero hq
    simp only [fillC, Option.some.injEq] at hf
    subst hf
    exact ⟨vs, rfl, hl⟩
  | (i, t) :: r, qs, cs, cs', vs, hl, hq, hh, hf => by
    match qs, hq with
    | (i', v) :: qs, hq =>
      obtain ⟨v', hv', ht⟩ := hh 0 i t rfl
      simp at hv'
      obtain ⟨rfl, rfl⟩ := hv'
      obtain ⟨us, hu, hul⟩ := TRep.cells ht
      simp only [fillC] at hf
      cases hp : place i' with
      | none => rw [hp] at hf; cases hf
      | some os =>
        obtain ⟨off, size⟩ := os
        rw [hp] at hf
        simp only at hf
        split at hf
        · cases hf
        · rename_i hcond
          have hcond' : t.cells.length = size ∧ off + t.cells.length ≤ cs.length := by omega
          obtain ⟨vs', h1, h2⟩ := fillC_fill r qs _ cs' _ (LRep.splice hl hul off hcond'.2) (by simpa using hq) (fun j i t hj => by simpa using hh (j + 1) i t (by simpa using hj)) hf
          refine ⟨vs', ?_, h2⟩
          have hfold : v.cells.zipIdx.foldl (fun (cs : Array Value) (p : Value × Nat) => cs.setIfInBounds (off + p.2) p.1) vs.toArray = (DL.splice vs off us).toArray := by
            have := foldl_zip us vs off 0
            rw [Nat.add_zero] at this
            rw [← this, hu]
            simp
          have hs : v.cells.size = t.cells.length := by rw [hu, List.size_toArray, hul.1]
          simp only [Instr.fill, hp]
          rw [if_neg (by rw [hs, List.size_toArray, hl.1]; simp; omega)]
          rw [← h1]
          congr 1

/-- Parts of a built value. -/
def opParts (env : Env) : List (Nat × Operand) → Option (List (Nat × TV))
  | [] => some []
  | (i, x) :: r => match opv env x, opParts env r with
    | .v t, some ts => some ((i, t) :: ts)
    | _, _ => none
theorem opParts_rep (h : Rel γ Pr x0 N env M a w) : ∀ (l : List (Nat × Operand)) (ps : List (Nat × TV)), opParts env l = some ps →
    ps.length = l.length ∧ (∀ p ∈ ps, p.2.ok M) ∧ ∀ (j : Nat) i t, ps[j]? = some (i, t) → ∃ v, (l.map fun p => (p.1, a.eval p.2))[j]? = some (i, v) ∧ TRep γ Pr w t v
  | [], ps, hl => by simp [opParts] at hl; subst hl; exact ⟨rfl, fun p hp => by simp at hp, fun j i t hj => by simp at hj⟩
  | (i, x) :: r, ps, hl => by
    simp only [opParts] at hl
    have h1 := h.opv x
    have h0 := opv_ok h.slotB x
    split at hl
    · rename_i t us hx hr
      obtain rfl := Option.some.inj hl
      obtain ⟨h2, h3, h4⟩ := opParts_rep h r us hr
      rw [hx] at h1 h0
      refine ⟨by simp [h2], fun p hp => ?_, fun j i' t' hj => ?_⟩
      · rcases List.mem_cons.1 hp with rfl | hp
        · exact h0
        · exact h3 p hp
      · cases j with
        | zero => simp at hj; obtain ⟨rfl, rfl⟩ := hj; exact ⟨_, rfl, h1⟩
        | succ j => exact h4 j i' t' (by simpa using hj)
    · cases hl

theorem fillC_ok {place : Nat → Option (Nat × Nat)} : ∀ (ps : List (Nat × TV)) (cs cs' : List CV), (∀ c ∈ cs, c.ok M) → (∀ p ∈ ps, p.2.ok M) → fillC place cs ps = some cs' → ∀ c ∈ cs', c.ok M
  | [], cs, cs', h, _, hf => by simp only [fillC, Option.some.injEq] at hf; subst hf; exact h
  | (i, t) :: r, cs, cs', h, hp, hf => by
    simp only [fillC] at hf
    cases hpl : place i with
    | none => rw [hpl] at hf; cases hf
    | some os =>
      obtain ⟨off, size⟩ := os
      rw [hpl] at hf
      simp only at hf
      split at hf
      · cases hf
      · rename_i hcond
        refine fillC_ok r _ cs' (fun c hc => ?_) (fun p hq => hp p (List.mem_cons_of_mem _ hq)) hf
        obtain ⟨j, hj⟩ := List.getElem?_of_mem hc
        rw [splice_get _ _ _ _ (by omega)] at hj
        split at hj
        · exact TV.cells_ok (hp _ (List.mem_cons_self ..)) c (List.mem_of_getElem? hj)
        · exact h c (List.mem_of_getElem? hj)

def placesOf (T : TypeId → Option TyI) : List Field → Option (List (Nat × Nat))
  | [] => some []
  | f :: r => match T f.type, placesOf T r with
    | some j, some l => some ((f.offset, j.size) :: l)
    | _, _ => none
theorem placesOf_spec {T : TypeId → Option TyI} (hT : TOk P T) : ∀ (fs : List Field) (l : List (Nat × Nat)), placesOf T fs = some l → fs.mapM (fun f => (P.info? f.type).map fun i => (f.offset, i.size)) = some l
  | [], l, h => by simp [placesOf] at h; subst h; rfl
  | f :: r, l, h => by
    simp only [placesOf] at h
    split at h
    · rename_i j l' hj hl
      obtain rfl := Option.some.inj h
      obtain ⟨_, info, h1, h2, _⟩ := hT _ _ hj
      simp [List.mapM_cons, h1, h2, placesOf_spec hT r l' hl]
    · cases h

theorem OpVal.buildS {T : TypeId → Option TyI} (hT : TOk P T) {t : TypeId} {i : TyI} {parts : Array (Nat × Operand)} {fs : Array Field} {pl : List (Nat × Nat)} {ps : List (Nat × TV)} {zs cs : List CV} (ho : o.op = .build t parts) (ht : T t = some i) (hd : i.desc = .struct fs)
    (hpl : placesOf T fs.toList = some pl) (hps : opParts env parts.toList = some ps) (hz : dvs i.zero = zs) (hz1 : i.zero.cells.toList.all (·.oneCell') = true) (hf : fillC (fun n => pl[n]?) zs ps = some cs) : OpVal P N env M o (.v (.agg cs)) := fun γ Pr x0 a w h => by
  subst hz
  obtain ⟨h1, h2, h3⟩ := opParts_rep h _ _ hps
  obtain ⟨hu, info, hi1, hi2, hi3, hi4⟩ := hT _ _ ht
  rw [hd] at hu
  obtain ⟨vs', hfill, hl⟩ := fillC_fill (γ := γ) (Pr := Pr) (w := w) (place := fun n => pl[n]?) ps (parts.toList.map fun p => (p.1, a.eval p.2)) (dvs i.zero) cs i.zero.cells.toList (dvs_rep hz1) (by simp [h1]) h3 hf
  refine ⟨fillC_ok ps _ cs (dvs_ok i.zero) h2 hf, .agg vs'.toArray, ?_, vs', rfl, hl⟩
  simp only [execOp, ho]
  have hb : P.built t ((parts.map fun p => (p.1, a.eval p.2)).toList) = some vs'.toArray := by
    unfold Program.built
    simp only [hi1, hu, hi4]
    rw [placesOf_spec hT _ _ hpl]
    simp only [Array.toList_map]
    rw [← hfill]
    simp
  rw [Sem.run_bind, run_build w t _ _ hb]
  rfl

theorem OpVal.buildA {T : TypeId → Option TyI} (hT : TOk P T) {t e : TypeId} {i j : TyI} {parts : Array (Nat × Operand)} {n : Nat} {ps : List (Nat × TV)} {zs cs : List CV} (ho : o.op = .build t parts) (ht : T t = some i) (hd : i.desc = .array n e) (hj : T e = some j)
    (hps : opParts env parts.toList = some ps) (hz : dvs i.zero = zs) (hz1 : i.zero.cells.toList.all (·.oneCell') = true) (hf : fillC (fun n => some (n * j.size, j.size)) zs ps = some cs) : OpVal P N env M o (.v (.agg cs)) := fun γ Pr x0 a w h => by
  subst hz
  obtain ⟨h1, h2, h3⟩ := opParts_rep h _ _ hps
  obtain ⟨hu, info, hi1, hi2, hi3, hi4⟩ := hT _ _ ht
  obtain ⟨_, info', hj1, hj2, _⟩ := hT _ _ hj
  rw [hd] at hu
  obtain ⟨vs', hfill, hl⟩ := fillC_fill (γ := γ) (Pr := Pr) (w := w) (place := fun n => some (n * j.size, j.size)) ps (parts.toList.map fun p => (p.1, a.eval p.2)) (dvs i.zero) cs i.zero.cells.toList (dvs_rep hz1) (by simp [h1]) h3 hf
  refine ⟨fillC_ok ps _ cs (dvs_ok i.zero) h2 hf, .agg vs'.toArray, ?_, vs', rfl, hl⟩
  simp only [execOp, ho]
  have hb : P.built t ((parts.map fun p => (p.1, a.eval p.2)).toList) = some vs'.toArray := by
    unfold Program.built
    simp only [hi1, hu, hi4, hj1, hj2]
    simp only [Array.toList_map]
    rw [← hfill]
  rw [Sem.run_bind, run_build w t _ _ hb]
  rfl
end

/-! ### Types by a list -/
def lkT : List (Nat × TyI) → TypeId → Option TyI
  | [], _ => none
  | (d, x) :: r, i => bif Nat.beq d i then some x else lkT r i
def TyOk (P : Program) (t : TypeId) (i : TyI) : Prop := P.underlying t = some i.desc ∧ (P.info? t).map (fun x => (x.size, x.bytes, x.zero)) = some (i.size, i.bytes, some i.zero)
theorem TOk.of {P : Program} : ∀ (l : List (Nat × TyI)), (∀ p ∈ l, TyOk P p.1 p.2) → TOk P (lkT l)
  | [], _ => fun t i h => by simp [lkT] at h
  | (d, x) :: r, hl => fun t i h => by
    simp only [lkT] at h
    cases hb : Nat.beq d t with
    | false => rw [hb] at h; exact TOk.of r (fun p hp => hl p (List.mem_cons_of_mem _ hp)) t i h
    | true =>
      rw [hb] at h
      obtain rfl := Nat.eq_of_beq_eq_true hb
      obtain rfl := Option.some.inj h
      obtain ⟨h1, h2⟩ := hl _ (List.mem_cons_self ..)
      refine ⟨h1, ?_⟩
      simp only [Option.map_eq_some_iff] at h2
      obtain ⟨info, h3, h4⟩ := h2
      injection h4 with h5 h6
      injection h6 with h6 h7
      exact ⟨info, h3, h5, h6, h7⟩
end Go.Proofs.YtpgkbnefhhcfcaaGreatDoor.DL
set_option linter.unusedVariables false
set_option linter.unusedSimpArgs false
set_option linter.constructorNameAsVariable false
namespace Go.Proofs.YtpgkbnefhhcfcaaGreatDoor.DL
open Go.RowKit

section
variable {P : Program} {N : Nat} {ops : Array Oper} {Q : DPost} {env : Env} {M M0 : Mem} {o : Oper} {rest : List Oper}

theorem q_then {K : Env → Mem → Prop} (h : K env M) : thenQ K Q .normal env M := h
theorem q_thenX {K : Env → Mem → Prop} {id : Nat} (h : Q (.exit id) env M) : thenQ K Q (.exit id) env M := h
theorem q_thenR {K : Env → Mem → Prop} (h : Q .ret env M) : thenQ K Q .ret env M := h
theorem q_seq {y : Code} (h : DCode P N M0 y Q env M) : seqQ P N M0 y Q .normal env M := h
theorem q_seqX {y : Code} {id : Nat} (h : Q (.exit id) env M) : seqQ P N M0 y Q (.exit id) env M := h
theorem q_seqR {y : Code} (h : Q .ret env M) : seqQ P N M0 y Q .ret env M := h
theorem q_block {id : Nat} (h : Q .normal env M) : inBlockQ id Q .normal env M := h
theorem q_blockX {id : Nat} (h : Q .normal env M) : inBlockQ id Q (.exit id) env M := by simp only [inBlockQ, if_true]; exact h
theorem q_blockY {id id' : Nat} (hne : Nat.beq id' id = false) (h : Q (.exit id') env M) : inBlockQ id Q (.exit id') env M := by
  have : ¬ id' = id := fun e => by subst e; simp at hne
  simp only [inBlockQ, if_neg this]; exact h
theorem q_blockR {id : Nat} (h : Q .ret env M) : inBlockQ id Q .ret env M := h

theorem DOps.splitAt {p : Prop} [Decidable p] (d : Nat) {l : List Oper} (hd : lk env d = vB (decide p)) (h1 : p → DOps P N M0 ops Q l ((d, vB true) :: env) M) (h2 : ¬ p → DOps P N M0 ops Q l ((d, vB false) :: env) M) : DOps P N M0 ops Q l env M := by
  have weak : ∀ b, decide p = b → DOps P N M0 ops Q l ((d, vB b) :: env) M → DOps P N M0 ops Q l env M := fun b hb h => by
    refine DOps.weak (Wk.slots fun i => ?_) h
    rw [lk_cons]
    split
    · rename_i e; subst e; rw [hd, hb]; exact .inr rfl
    · exact .inr rfl
  by_cases hp : p
  · exact weak true (decide_eq_true hp) (h1 hp)
  · exact weak false (decide_eq_false hp) (h2 hp)
theorem DOps.splitB {b : Bool} (d : Nat) {l : List Oper} (hd : lk env d = vB b) (h1 : b = true → DOps P N M0 ops Q l ((d, vB true) :: env) M) (h2 : b = false → DOps P N M0 ops Q l ((d, vB false) :: env) M) : DOps P N M0 ops Q l env M := by
  have hd' : lk env d = vB (decide (b = true)) := by rw [hd]; cases b <;> rfl
  exact DOps.splitAt d hd' h1 (fun h => h2 (by simpa using h))
theorem DCode.condD {p : Prop} [Decidable p] {c : Operand} {x y : Code} (hc : opv env c = vB (decide p)) (h1 : p → DCode P N M0 x Q env M) (h2 : ¬ p → DCode P N M0 y Q env M) : DCode P N M0 (.cond c x y) Q env M := by
  by_cases hp : p
  · exact DCode.condT (by rw [hc, decide_eq_true hp]) (h1 hp)
  · exact DCode.condF (by rw [hc, decide_eq_false hp]) (h2 hp)
/-- A comparison of whole numbers, as a proposition. -/
def cmpP (op : BinOp) (m n : Int) : Option Prop :=
  match op with
  | .lss => some (m < n)
  | .leq => some (m ≤ n)
  | .gtr => some (n < m)
  | .geq => some (n ≤ m)
  | .eql => some (m = n)
  | .neq => some (m ≠ n)
  | _ => none
theorem OpVal.cmp {op : BinOp} {t t' : TypeId} {x y : Operand} {k : IntKind} {m n : Int} {p : Prop} (ho : o.op = .binOp op t x y t') (hx : opv env x = vI k m) (hy : opv env y = vI k n) (hp : cmpP op m n = some p) :
    (p → OpVal P N env M o (vB true)) ∧ (¬ p → OpVal P N env M o (vB false)) := by
  cases op <;> simp only [cmpP, Option.some.injEq, reduceCtorEq] at hp <;> subst hp
  · have h := OpVal.eqlI (P := P) (N := N) (M := M) ho hx hy
    exact ⟨fun hp => by rw [decide_eq_true hp] at h; exact h, fun hp => by rw [decide_eq_false hp] at h; exact h⟩
  · have h := OpVal.neqI (P := P) (N := N) (M := M) ho hx hy
    exact ⟨fun hp => by rw [decide_eq_false hp] at h; exact h, fun hp => by rw [decide_eq_true (Decidable.not_not.1 hp)] at h; exact h⟩
  · have h := OpVal.lss (P := P) (N := N) (M := M) ho hx hy
    exact ⟨fun hp => by rw [decide_eq_true hp] at h; exact h, fun hp => by rw [decide_eq_false hp] at h; exact h⟩
  · have h := OpVal.leq (P := P) (N := N) (M := M) ho hx hy
    exact ⟨fun hp => by rw [decide_eq_true hp] at h; exact h, fun hp => by rw [decide_eq_false hp] at h; exact h⟩
  · have h := OpVal.gtr (P := P) (N := N) (M := M) ho hx hy
    exact ⟨fun hp => by rw [decide_eq_true hp] at h; exact h, fun hp => by rw [decide_eq_false hp] at h; exact h⟩
  · have h := OpVal.geq (P := P) (N := N) (M := M) ho hx hy
    exact ⟨fun hp => by rw [decide_eq_true hp] at h; exact h, fun hp => by rw [decide_eq_false hp] at h; exact h⟩

theorem DOps.cmpT {op : BinOp} {t t' : TypeId} {x y : Operand} {k : IntKind} {m n : Int} {p : Prop} (hg : gd ops env o = some true) {d : Nat} (hd : o.dst = some d) (hN : Nat.blt d N = true) (ho : o.op = .binOp op t x y t') (hx : opv env x = vI k m) (hy : opv env y = vI k n)
    (hc : cmpP op m n = some p) (hp : p) (h : DOps P N M0 ops Q rest ((d, vB true) :: env) M) : DOps P N M0 ops Q (o :: rest) env M := DOps.val hg hd hN ((OpVal.cmp ho hx hy hc).1 hp) h
theorem DOps.cmpF {op : BinOp} {t t' : TypeId} {x y : Operand} {k : IntKind} {m n : Int} {p : Prop} (hg : gd ops env o = some true) {d : Nat} (hd : o.dst = some d) (hN : Nat.blt d N = true) (ho : o.op = .binOp op t x y t') (hx : opv env x = vI k m) (hy : opv env y = vI k n)
    (hc : cmpP op m n = some p) (hp : ¬ p) (h : DOps P N M0 ops Q rest ((d, vB false) :: env) M) : DOps P N M0 ops Q (o :: rest) env M := DOps.val hg hd hN ((OpVal.cmp ho hx hy hc).2 hp) h
theorem DOps.cmp {op : BinOp} {t t' : TypeId} {x y : Operand} {k : IntKind} {m n : Int} {p : Prop} (hg : gd ops env o = some true) {d : Nat} (hd : o.dst = some d) (hN : Nat.blt d N = true) (ho : o.op = .binOp op t x y t') (hx : opv env x = vI k m) (hy : opv env y = vI k n)
    (hc : cmpP op m n = some p) (h1 : p → DOps P N M0 ops Q rest ((d, vB true) :: env) M) (h2 : ¬ p → DOps P N M0 ops Q rest ((d, vB false) :: env) M) : DOps P N M0 ops Q (o :: rest) env M := by
  by_cases hp : p
  · exact DOps.cmpT hg hd hN ho hx hy hc hp (h1 hp)
  · exact DOps.cmpF hg hd hN ho hx hy hc hp (h2 hp)

/-- A loop: slots up are told by i, slots ds are written besides; memory: mup, ahead of what there was. -/
theorem DCode.loopM {c : Code} {ι : Type} (up : ι → Env) (ds : List Nat) (mup : ι → Mem) (inv : ι → Prop) (μ : ι → Nat) (i0 : ι) (hi : inv i0) (h0 : Wk N M0 env M (up i0 ++ junks ds env) (mup i0 ++ M))
    (hr : ∀ i, inv i → DCode P N M0 c (thenQ (fun env' M' => ∃ i', inv i' ∧ μ i' < μ i ∧ Wk N M0 env' M' (up i' ++ junks ds env) (mup i' ++ M)) Q) (up i ++ junks ds env) (mup i ++ M)) : DCode P N M0 (.loop c) Q env M :=
  DCode.loop (ι := { i : ι // inv i }) (fun i => up i.1 ++ junks ds env) (fun i => mup i.1 ++ M) (fun i => μ i.1) ⟨i0, hi⟩ h0 (fun i => DCode.mono (hr i.1 i.2) fun e env' M' hq => by
    cases e with
    | normal => obtain ⟨i', h1, h2, h3⟩ := hq; exact ⟨⟨i', h1⟩, h2, h3⟩
    | _ => exact hq)
theorem ResTs.nil {T : TypeId → Option TyI} : ResTs T env M [] [] := trivial
theorem ResTs.cons {T : TypeId → Option TyI} {r : ResultVar} {rs : List ResultVar} {t : TV} {ts : List TV} (h : ResT T env M r t) (hs : ResTs T env M rs ts) : ResTs T env M (r :: rs) (t :: ts) := ⟨h, hs⟩
theorem ResT.tmp {T : TypeId → Option TyI} {s : Nat} {t : TV} (h : lk env s = .v t) : ResT T env M (.tmp s) t := h
theorem ResT.cell {T : TypeId → Option TyI} {c b : Nat} {ty tb : TypeId} {i : TyI} {cs : List CV} (h1 : lk env c = .v (.one (.ptr b 0))) (h2 : mget M b = some (.box tb cs)) (h3 : T ty = some i) (ha : aggD i.desc = true) (hl : cs.length = i.size) : ResT T env M (.cell c ty) (.agg cs) :=
  ⟨b, tb, cs, i, h1, h2, h3, by rw [if_pos ha]; exact ⟨hl, rfl⟩⟩
theorem endQ.ret {T : TypeId → Option TyI} {rs rs' : List ResultVar} {R : List TV → Prop} {ts : List TV} (hrs : rs = rs') (h : ResTs T env M rs' ts) (hp : ∀ t ∈ ts, t.pure) (hR : R ts) : endQ T rs R .ret env M := ⟨ts, hrs ▸ h, hp, hR⟩
theorem vI_congr {k : IntKind} {a b : Int} (h : a = b) : vI k a = vI k b := by rw [h]
theorem pure_sc {v : Value} : (TV.one (.d (.sc v))).pure := trivial
theorem pures_nil : ∀ t ∈ ([] : List TV), t.pure := fun _ h => by cases h
theorem pures_cons {t : TV} {ts : List TV} (h : t.pure) (hs : ∀ t ∈ ts, t.pure) : ∀ x ∈ t :: ts, x.pure := fun x hx => by
  rcases List.mem_cons.1 hx with rfl | hx
  · exact h
  · exact hs x hx
/-- Data told in another way. -/
def DEq (x y : DV) : Prop := ∀ Pr w v, DRep Pr w x v → DRep Pr w y v
theorem DEq.sl {n k : Nat} {el el' : Nat → Nat → DV} (h : ∀ i j, i < n → j < k → el i j = el' i j) : DEq (.sl n k el) (.sl n k el') := fun Pr w v ⟨A, c, hv, hn, hh⟩ =>
  ⟨A, c, hv, hn, fun h0 => let ⟨b, o, hA, hc⟩ := hh h0; ⟨b, o, hA, fun i hi j hj => let ⟨hp, u, hu, hd⟩ := hc i hi j hj; ⟨hp, u, hu, by rw [← h i j hi hj]; exact hd⟩⟩⟩
theorem DEq.pp {n : Nat} {el el' : Nat → DV} (h : ∀ j, j < n → el j = el' j) : DEq (.pp n el) (.pp n el') := fun Pr w v ⟨b, o, hv, hc⟩ =>
  ⟨b, o, hv, fun j hj => let ⟨hp, u, hu, hd⟩ := hc j hj; ⟨hp, u, hu, by rw [← h j hj]; exact hd⟩⟩
theorem Wk.re {d : Nat} {x y : DV} (hd : lk env d = .v (.one (.d x))) (h : DEq x y) : Wk N M0 env M ((d, .v (.one (.d y))) :: env) M := fun x0 a w _ ⟨γ, Pr, hr, hf⟩ =>
  ⟨γ, Pr, { size := hr.size, slot := fun i => (by
              rw [lk_cons]
              split
              · rename_i e
                subst e
                have := hr.slot d
                rw [hd] at this
                exact h _ _ _ this
              · exact hr.slot i), slotB := fun i => (by
              rw [lk_cons]
              split
              · trivial
              · exact hr.slotB i), mem := hr.mem, memB := hr.memB, apart := hr.apart, below := hr.below, prot := hr.prot, defers := hr.defers }, hf⟩
theorem DOps.re {l : List Oper} {x y : DV} (d : Nat) (hd : lk env d = .v (.one (.d x))) (h : DEq x y) (hk : DOps P N M0 ops Q l ((d, .v (.one (.d y))) :: env) M) : DOps P N M0 ops Q l env M := DOps.weak (Wk.re hd h) hk
theorem DCode.re {c : Code} {x y : DV} (d : Nat) (hd : lk env d = .v (.one (.d x))) (h : DEq x y) (hk : DCode P N M0 c Q ((d, .v (.one (.d y))) :: env) M) : DCode P N M0 c Q env M := DCode.weak (Wk.re hd h) hk
theorem OpVal.cast {r r' : SV} (h : OpVal P N env M o r) (e : r = r') : OpVal P N env M o r' := e ▸ h

abbrev bt (b : Bool) : TV := .one (.d (.sc (.bool b)))
abbrev it (n : Int) : TV := .one (.d (.sc (.int .i64 n)))
abbrev st (s : ByteArray) : TV := .one (.d (.sc (.string s)))
/-- A call of which it is told what it returns. -/
theorem DOps.call1 {cl : Call} {f : FuncId} {fn : Func} {c : Code} {ts rs : List TV} {d : Nat} (hg : gd ops env o = some true) (hd : o.dst = some d) (hN : Nat.blt d N = true) (ho : o.op = .call cl) (hcl : cl.callee = .value (.func f))
    (hf : P.funcs[f]? = some fn) (hb : fn.body = some c) (hn : (fn.name == "runtime.NumGoroutine") = false) (hx : opvs env cl.args.toList = some ts) (hp : ∀ t ∈ ts, t.pure) (hc : DCalls P f ts (fun us => us = rs))
    (h : DOps P N M0 ops Q rest ((d, ret1 rs) :: env) M) : DOps P N M0 ops Q (o :: rest) env M :=
  DOps.call hg hd hN ho hcl hf hb hn hx hp hc fun us hu => by
    subst hu
    exact h

theorem OpVal.neg64 {t : TypeId} {x : Operand} {n : Int} (ho : o.op = .unOp .neg t x) (hx : opv env x = vI .i64 n) (h0 : -9223372036854775807 ≤ n) (h1 : n ≤ 9223372036854775807) : OpVal P N env M o (vI .i64 (-n)) :=
  OpVal.cast (OpVal.neg ho hx) (vI_congr (by rw [wrap_in64 (by omega) (by omega)]; omega))

theorem pure_sl {x : DV} : (TV.one (.d x)).pure := trivial

/-! ### The same with a type's row taken apart -/
section
variable {T : TypeId → Option TyI} (hT : TOk P T)
include hT
theorem OpVal.fa {t ft off : Nat} {x : Operand} {n b k s0 b0 s1 b1 bo : Nat} {z0 z1 : Value} {d1 : TypeDesc} {fs : Array Field} {nm tag pkg : String} {em : Bool} (ho : o.op = .fieldAddr t x n) (ht : T t = some ⟨.struct fs, s0, b0, z0⟩) (hf : fs.toList[n]? = some ⟨nm, ft, off, em, tag, pkg, bo⟩)
    (hj : T ft = some ⟨d1, s1, b1, z1⟩) (hs : Nat.beq s1 0 = false) (hx : opv env x = .v (.one (.ptr b k))) : OpVal P N env M o (.v (.one (.ptr b (k + off)))) :=
  OpVal.fieldAddr hT ho ht rfl (by rw [← Array.getElem?_toList]; exact hf) hj (fun e => by simp only at e; rw [e] at hs; cases hs) hx
theorem OpVal.faD {t ft off : Nat} {x : Operand} {n m s0 b0 s1 b1 bo : Nat} {z0 z1 : Value} {d1 : TypeDesc} {fs : Array Field} {nm tag pkg : String} {em : Bool} {el : Nat → DV} (ho : o.op = .fieldAddr t x n) (ht : T t = some ⟨.struct fs, s0, b0, z0⟩) (hf : fs.toList[n]? = some ⟨nm, ft, off, em, tag, pkg, bo⟩)
    (hj : T ft = some ⟨d1, s1, b1, z1⟩) (hs : Nat.beq s1 0 = false) (hx : opv env x = .v (.one (.d (.pp m el)))) : OpVal P N env M o (.v (.one (.d (.pp (m - off) fun q => el (off + q))))) :=
  OpVal.fieldAddrD hT ho ht rfl (by rw [← Array.getElem?_toList]; exact hf) hj (fun e => by simp only at e; rw [e] at hs; cases hs) hx
theorem OpVal.iaA {t e : Nat} {x y : Operand} {b k len s0 b0 s1 b1 : Nat} {z0 z1 : Value} {d1 : TypeDesc} {kd : IntKind} {n : Int} (ho : o.op = .indexAddr t x y) (ht : T t = some ⟨.array len e, s0, b0, z0⟩) (hj : T e = some ⟨d1, s1, b1, z1⟩)
    (hx : opv env x = .v (.one (.ptr b k))) (hy : opv env y = vI kd n) (h0 : 0 ≤ n) (h1 : n < len) : OpVal P N env M o (.v (.one (.ptr b (k + n.toNat * s1)))) := OpVal.indexAddrA hT ho ht rfl hj hx hy h0 h1
theorem OpVal.iaD {t e : Nat} {x y : Operand} {m k s0 b0 s1 b1 : Nat} {z0 z1 : Value} {d1 : TypeDesc} {el : Nat → Nat → DV} {kd : IntKind} {n : Int} (ho : o.op = .indexAddr t x y) (ht : T t = some ⟨.slice e, s0, b0, z0⟩) (hj : T e = some ⟨d1, s1, b1, z1⟩)
    (hx : opv env x = .v (.one (.d (.sl m k el)))) (hk : s1 = k) (hy : opv env y = vI kd n) (h0 : 0 ≤ n) (h1 : n < m) : OpVal P N env M o (.v (.one (.d (.pp k (el n.toNat))))) := OpVal.indexAddrD hT ho ht rfl hj hk hx hy h0 h1
theorem OpVal.iaDA {t e : Nat} {x y : Operand} {m len s0 b0 s1 b1 : Nat} {z0 z1 : Value} {d1 : TypeDesc} {el : Nat → DV} {kd : IntKind} {n : Int} (ho : o.op = .indexAddr t x y) (ht : T t = some ⟨.array len e, s0, b0, z0⟩) (hj : T e = some ⟨d1, s1, b1, z1⟩)
    (hx : opv env x = .v (.one (.d (.pp m el)))) (hy : opv env y = vI kd n) (h0 : 0 ≤ n) (h1 : n < len) : OpVal P N env M o (.v (.one (.d (.pp (m - n.toNat * s1) fun q => el (n.toNat * s1 + q))))) := OpVal.indexAddrDA hT ho ht rfl hj hx hy h0 h1
theorem DOps.al (b : Nat) {t s0 b0 d : Nat} {z0 : Value} {d0 : TypeDesc} (hg : gd ops env o = some true) (hd : o.dst = some d) (hN : Nat.blt d N = true) (ho : o.op = .alloc t) (ht : T t = some ⟨d0, s0, b0, z0⟩)
    (hz1 : z0.cells.toList.all (·.oneCell') = true) (hb : mget M b = none) (h : DOps P N M0 ops Q rest ((d, .v (.one (.ptr b 0))) :: env) ((b, some (.box t (dvs z0))) :: M)) : DOps P N M0 ops Q (o :: rest) env M :=
  DOps.alloc b hT hg hd hN ho ht rfl hz1 hb h
/-- One cell of read-only memory. -/
theorem OpVal.ld {t s0 b0 n : Nat} {z0 : Value} {d0 : TypeDesc} {x : Operand} {el : Nat → DV} {y : DV} (ho : o.op = .load t x) (ht : T t = some ⟨d0, s0, b0, z0⟩) (ha : aggD d0 = false) (hx : opv env x = .v (.one (.d (.pp n el)))) (hn : 0 < n) (hy : el 0 = y) : OpVal P N env M o (.v (.one (.d y))) := by
  subst hy
  exact OpVal.loadD1 hT ho ht ha hx hn
end
end
end Go.Proofs.YtpgkbnefhhcfcaaGreatDoor.DL
set_option linter.unusedVariables false
set_option linter.unusedSimpArgs false
set_option linter.constructorNameAsVariable false
namespace Go.Proofs.YtpgkbnefhhcfcaaGreatDoor.DL
open Go.RowKit

/-- What of the slots an operation looks at. -/
def restr (env : Env) (ts : List Tmp) : Env := ts.map fun t => (t, lk env t)
theorem lk_restr (env : Env) : ∀ (ts : List Tmp) (i : Nat), lk (restr env ts) i = .junk ∨ (i ∈ ts ∧ lk (restr env ts) i = lk env i)
  | [], _ => .inl rfl
  | t :: ts, i => by
    show lk ((t, lk env t) :: restr env ts) i = _ ∨ _ ∧ lk ((t, lk env t) :: restr env ts) i = _
    rw [lk_cons]
    by_cases h : t = i
    · subst h; rw [if_pos rfl]; exact .inr ⟨by simp, rfl⟩
    · rw [if_neg h]; exact (lk_restr env ts i).imp id fun ⟨h1, h2⟩ => ⟨List.mem_cons_of_mem _ h1, h2⟩

/-- Operations that bind. -/
def ons (o : Oper) : List Nat := (o.after.toList.filter (Region.binds .any ·)).map (·.on)

/-- The first k operations may come up in any order, the rest comes behind all. -/
def drawOk (l : List Oper) (k : Nat) : Bool :=
  (List.range l.length).all fun i => match l[i]? with
    | none => false
    | some o => (ons o).all (fun j => Nat.blt j i) &&
      (if i < k then
        ((o.looksAt l.toArray).all fun t => (List.range l.length).all fun j => match l[j]? with
          | none => false
          | some p => p.dst != some t || (Nat.blt j i && (ons o).contains j)) &&
        (List.range k).all (fun j => j == i || match l[j]? with
          | none => false
          | some p => p.dst != o.dst)
      else (List.range i).all fun j => (ons o).contains j)

section
variable {P : Program} {N : Nat} {ops : Array Oper} {Q : DPost} {env : Env} {M M0 : Mem} {o : Oper} {rest : List Oper}

/-- An operation yields r, and leaves memory as it is told. -/
def OpQ (P : Program) (N : Nat) (M0 : Mem) (ops : Array Oper) (env : Env) (M : Mem) (o : Oper) (r : SV) : Prop :=
  (gd ops env o = some false ∧ r = .tup []) ∨ (gd ops env o = some true ∧ ∀ γ Pr x0 a w (Q' : Exit → Act → World → Prop), x0.M0 = M0 → Rel γ Pr x0 N env M a w → From x0 γ Pr M w →
    o.wp P a w (fun a' w' => ∃ v Pr', a' = a.put o.dst v ∧ SRep γ Pr' w' r v ∧ r.ok M ∧ ∀ e2, Rel γ Pr x0 N e2 M a w → Rel γ Pr' x0 N e2 M a w' ∧ From x0 γ Pr' M w') Q')

def DDr (P : Program) (N : Nat) (M0 : Mem) (ops : Array Oper) (Q : DPost) : Nat → List Oper → Env → Mem → Prop
  | 0, l, env, M => DOps P N M0 ops Q l env M
  | k + 1, o :: l, env, M => ∃ r d, o.dst = some d ∧ Nat.blt d N = true ∧ OpQ P N M0 ops (restr env (o.looksAt ops)) M o r ∧ DDr P N M0 ops Q k l ((d, r) :: env) M
  | _ + 1, [], _, _ => False

theorem DDr.done {l : List Oper} (h : DOps P N M0 ops Q l env M) : DDr P N M0 ops Q 0 l env M := h
theorem DDr.val {k d : Nat} {r : SV} (hg : gd ops (restr env (o.looksAt ops)) o = some true) (hd : o.dst = some d) (hN : Nat.blt d N = true) (hv : OpVal P N (restr env (o.looksAt ops)) M o r) (h : DDr P N M0 ops Q k rest ((d, r) :: env) M) :
    DDr P N M0 ops Q (k + 1) (o :: rest) env M := by
  refine ⟨r, d, hd, hN, .inr ⟨hg, fun γ Pr x0 a w Q' hx hr hf => ?_⟩, h⟩
  obtain ⟨hok, v, hrun, hrep⟩ := hv γ Pr x0 a w hr
  unfold Oper.wp
  rw [hrun, Oper.upon_value]
  exact ⟨v, Pr, rfl, hrep, hok, fun e2 h2 => ⟨h2, hf⟩⟩
theorem DDr.off {k d : Nat} (hg : gd ops (restr env (o.looksAt ops)) o = some false) (hd : o.dst = some d) (hN : Nat.blt d N = true) (h : DDr P N M0 ops Q k rest ((d, .tup []) :: env) M) : DDr P N M0 ops Q (k + 1) (o :: rest) env M :=
  ⟨.tup [], d, hd, hN, .inl ⟨hg, rfl⟩, h⟩
theorem DDr.call {k d : Nat} {cl : Call} {f : FuncId} {fn : Func} {c : Code} {ts rs : List TV} (hg : gd ops (restr env (o.looksAt ops)) o = some true) (hd : o.dst = some d) (hN : Nat.blt d N = true) (ho : o.op = .call cl) (hcl : cl.callee = .value (.func f))
    (hf : P.funcs[f]? = some fn) (hb : fn.body = some c) (hn : (fn.name == "runtime.NumGoroutine") = false) (hx : opvs (restr env (o.looksAt ops)) cl.args.toList = some ts) (hp : ∀ t ∈ ts, t.pure) (hc : DCalls P f ts (· = rs))
    (h : DDr P N M0 ops Q k rest ((d, ret1 rs) :: env) M) : DDr P N M0 ops Q (k + 1) (o :: rest) env M := by
  refine ⟨ret1 rs, d, hd, hN, .inr ⟨hg, fun γ Pr x0 a w Q' _ hr hfr => ?_⟩, h⟩
  unfold Oper.wp
  rw [run_call ho hcl hf hb hn a.eval rfl, Oper.upon_enter]
  have hargs : cl.args.map a.eval = (cl.args.toList.map a.eval).toArray := by apply Array.ext'; rw [Array.toList_map]
  rw [hargs]
  refine (hc Pr w _ hr.prot ((opvs_rep hr _ _ hx).pure hp)).mono fun e w' ⟨us, rs', Pr', he, hB, hE, hV, hR, hP, hQ⟩ => ?_
  subst he
  subst hQ
  exact ⟨_, Pr', rfl, SRep.ret1 (hR.pure hP), ret1_ok hP, fun e2 h2 => ⟨h2.called hB hE hV, hfr.called hr hB hE⟩⟩

/-- Slots behind some of the first operations. -/
def envS (env : Env) (dr : List (Nat × SV)) (S : Nat → Bool) : Env := go 0 dr
where go : Nat → List (Nat × SV) → Env
  | _, [] => env
  | j, p :: r => if S j then p :: go (j + 1) r else go (j + 1) r

theorem lk_envS_go (env : Env) (S : Nat → Bool) : ∀ (dr : List (Nat × SV)) (j t : Nat),
    (∃ (i : Nat) (d : Nat) (x : SV), dr[i]? = some (d, x) ∧ S (j + i) = true ∧ d = t ∧ lk (envS.go env S j dr) t = x ∧ ∀ (i' d' : Nat) (x' : SV), i' < i → dr[i']? = some (d', x') → S (j + i') = true → d' ≠ t) ∨
    ((∀ (i d : Nat) (x : SV), dr[i]? = some (d, x) → S (j + i) = true → d ≠ t) ∧ lk (envS.go env S j dr) t = lk env t)
  | [], j, t => .inr ⟨fun i d x h => by simp at h, rfl⟩
  | (d0, x0) :: r, j, t => by
    by_cases hS : S j = true
    · by_cases hd : d0 = t
      · refine .inl ⟨0, d0, x0, rfl, by simpa using hS, hd, ?_, fun i' d' x' h => by omega⟩
        simp only [envS.go, hS, if_true, lk_cons, hd]
      · have ih := lk_envS_go env S r (j + 1) t
        have he : lk (envS.go env S j ((d0, x0) :: r)) t = lk (envS.go env S (j + 1) r) t := by simp only [envS.go, hS, if_true, lk_cons, if_neg hd]
        rw [he]
        rcases ih with ⟨i, d, x, h1, h2, h3, h4, h5⟩ | ⟨h1, h2⟩
        · refine .inl ⟨i + 1, d, x, by simpa using h1, by rw [show j + (i + 1) = j + 1 + i by omega]; exact h2, h3, h4, fun i' d' x' hi hx hs => ?_⟩
          cases i' with
          | zero => simp at hx; obtain ⟨rfl, rfl⟩ := hx; exact hd
          | succ i' => exact h5 i' d' x' (by omega) (by simpa using hx) (by rw [show j + 1 + i' = j + (i' + 1) by omega]; exact hs)
        · refine .inr ⟨fun i d x hx hs => ?_, h2⟩
          cases i with
          | zero => simp at hx; obtain ⟨rfl, rfl⟩ := hx; exact hd
          | succ i => exact h1 i d x (by simpa using hx) (by rw [show j + 1 + i = j + (i + 1) by omega]; exact hs)
    · have ih := lk_envS_go env S r (j + 1) t
      have hS' : S j = false := by simpa using hS
      have he : envS.go env S j ((d0, x0) :: r) = envS.go env S (j + 1) r := by simp only [envS.go, hS', Bool.false_eq_true, if_false]
      rw [he]
      rcases ih with ⟨i, d, x, h1, h2, h3, h4, h5⟩ | ⟨h1, h2⟩
      · refine .inl ⟨i + 1, d, x, by simpa using h1, by rw [show j + (i + 1) = j + 1 + i by omega]; exact h2, h3, h4, fun i' d' x' hi hx hs => ?_⟩
        cases i' with
        | zero => exact absurd hs (by simpa using hS)
        | succ i' => exact h5 i' d' x' (by omega) (by simpa using hx) (by rw [show j + 1 + i' = j + (i' + 1) by omega]; exact hs)
      · refine .inr ⟨fun i d x hx hs => ?_, h2⟩
        cases i with
        | zero => exact absurd hs (by simpa using hS)
        | succ i => exact h1 i d x (by simpa using hx) (by rw [show j + 1 + i = j + (i + 1) by omega]; exact hs)

/-- No two of them go into one slot. -/
def Apart (dr : List (Nat × SV)) : Prop := ∀ (i j : Nat) d x d' x', dr[i]? = some (d, x) → dr[j]? = some (d', x') → i ≠ j → d ≠ d'

theorem lk_envS {env : Env} {dr : List (Nat × SV)} (hap : Apart dr) (S : Nat → Bool) (t : Nat) :
    (∀ (i : Nat) d x, dr[i]? = some (d, x) → d = t → lk (envS env dr S) t = if S i then x else lk env t) ∧ ((∀ (i : Nat) d x, dr[i]? = some (d, x) → d ≠ t) → lk (envS env dr S) t = lk env t) := by
  have h := lk_envS_go env S dr 0 t
  constructor
  · intro i d x hi hd
    rcases h with ⟨i', d', x', h1, h2, h3, h4, _⟩ | ⟨h1, h2⟩
    · have : i' = i := Decidable.byContradiction fun hne => hap i' i d' x' d x h1 hi hne (h3.trans hd.symm)
      subst this
      rw [hi] at h1
      injection h1 with h1
      injection h1 with _ h1
      rw [Nat.zero_add] at h2
      rw [h2, if_pos rfl, h1]
      exact h4
    · have hS : S i = false := by
        cases hs : S i with
        | false => rfl
        | true => exact absurd hd (h1 i d x hi (by rw [Nat.zero_add]; exact hs))
      rw [hS]
      exact h2
  · intro hn
    rcases h with ⟨i', d', x', h1, _, h3, _, _⟩ | ⟨_, h2⟩
    · exact absurd h3 (hn i' d' x' h1)
    · exact h2

theorem DDr.split : ∀ (k : Nat) (l : List Oper) (env : Env), DDr P N M0 ops Q k l env M → ∃ dr : List (Nat × SV), dr.length = k ∧ k ≤ l.length ∧
    (∀ (i d : Nat) (r : SV), dr[i]? = some (d, r) → ∃ o, l[i]? = some o ∧ o.dst = some d ∧ d < N ∧ OpQ P N M0 ops (restr ((dr.take i).reverse ++ env) (o.looksAt ops)) M o r) ∧ DOps P N M0 ops Q (l.drop k) (dr.reverse ++ env) M
  | 0, l, env, h => ⟨[], rfl, Nat.zero_le _, fun i d r hi => by simp at hi, by simpa [DDr] using h⟩
  | k + 1, [], env, h => h.elim
  | k + 1, o :: l, env, h => by
    obtain ⟨r, d, h1, h2, h3, h4⟩ := h
    obtain ⟨dr, a1, a2, a3, a4⟩ := DDr.split k l _ h4
    refine ⟨(d, r) :: dr, by simp [a1], by simpa using a2, fun i d' r' hi => ?_, by simpa using a4⟩
    cases i with
    | zero =>
      simp at hi
      obtain ⟨rfl, rfl⟩ := hi
      exact ⟨o, rfl, h1, by simpa using h2, by simpa using h3⟩
    | succ i =>
      obtain ⟨o', b1, b2, b3, b4⟩ := a3 i d' r' (by simpa using hi)
      exact ⟨o', by simpa using b1, b2, b3, by simpa using b4⟩

theorem lk_append_rev {env : Env} {dr : List (Nat × SV)} (hap : Apart dr) (i : Nat) (hi : i ≤ dr.length) (t : Nat) : lk ((dr.take i).reverse ++ env) t = lk (envS env dr (fun j => decide (j < i))) t := by
  induction i with
  | zero =>
    have := (lk_envS_go env (fun j => decide (j < 0)) dr 0 t)
    rcases this with ⟨i, d, x, _, h2, _⟩ | ⟨_, h2⟩
    · simp at h2
    · rw [List.take_zero, List.reverse_nil, List.nil_append]; exact h2.symm
  | succ i ih =>
    have hlt : i < dr.length := by omega
    have ih := ih (by omega)
    obtain ⟨d, x, hdx⟩ : ∃ d x, dr[i]? = some (d, x) := ⟨dr[i].1, dr[i].2, by rw [List.getElem?_eq_getElem hlt]⟩
    have he : (dr.take (i + 1)).reverse ++ env = (d, x) :: ((dr.take i).reverse ++ env) := by
      rw [List.take_succ_eq_append_getElem hlt, List.reverse_append]
      rw [List.getElem?_eq_getElem hlt] at hdx
      injection hdx with hdx
      rw [hdx]
      rfl
    rw [he, lk_cons]
    by_cases hd : d = t
    · rw [if_pos hd, (lk_envS hap _ t).1 i d x hdx hd]
      simp
    · rw [if_neg hd, ih]
      by_cases hex : ∃ (i' d' : Nat) (x' : SV), dr[i']? = some (d', x') ∧ d' = t
      · obtain ⟨i', d', x', h1, h2⟩ := hex
        rw [(lk_envS hap _ t).1 i' d' x' h1 h2, (lk_envS hap _ t).1 i' d' x' h1 h2]
        have hne : i' ≠ i := fun e => by
          subst e
          rw [hdx] at h1
          injection h1 with h1
          injection h1 with h1 _
          exact hd (h1.trans h2)
        have : decide (i' < i) = decide (i' < i + 1) := by
          by_cases h : i' < i
          · simp [h]; omega
          · simp [h]; omega
        simp only [this]
      · have hn : ∀ (i d : Nat) (x : SV), dr[i]? = some (d, x) → d ≠ t := fun i d x h1 h2 => hex ⟨i, d, x, h1, h2⟩
        rw [(lk_envS hap _ t).2 hn, (lk_envS hap _ t).2 hn]

theorem wpOp_of_OpQ {env2 : Env} {r : SV} {d : Nat} {x0 : Ctx} {a : Act} {w : World} {i : Nat} {renv : Env} {K : Act → World → Prop} {Q' : Exit → Act → World → Prop} (hi : ops[i]? = some o) (hd : o.dst = some d) (hN : d < N) (hx : x0.M0 = M0) (hq : OpQ P N M0 ops renv M o r)
    (hs : Sub renv env2) (ha : At x0 N env2 M a w) (hK : ∀ a' w', At x0 N ((d, r) :: env2) M a' w' → K a' w') : wpOp P ops Q' i K a w := by
  obtain ⟨γ, Pr, hr, hf⟩ := ha
  obtain hr' : Rel γ Pr x0 N renv M a w := hr.weak hs (fun _ => .inr rfl) (fun i => (hs i).elim (fun e => by rw [e]; trivial) (fun e => by rw [e]; exact hr.slotB i)) hr.memB
  unfold wpOp
  simp only [hi]
  have hput : ∀ v, a.put o.dst v = a.put (some d) v := fun v => by rw [hd]
  have he : putd (some d) r env2 = (d, r) :: env2 := rfl
  rcases hq with ⟨hg, rfl⟩ | ⟨hg, hq⟩
  · rw [if_neg (by rw [gd_wanted (ops := ops) hr' hg]; simp)]
    refine hK _ _ ⟨γ, Pr, ?_, hf⟩
    rw [hput, ← he]
    exact hr.put (fun d' h => by injection h with h; rw [← h]; exact hN) ⟨[], rfl, rfl, fun i t h => by simp at h⟩ (fun t h => by cases h)
  · rw [if_pos (gd_wanted (ops := ops) hr' hg)]
    refine .inl (Oper.wp_mono (fun a' w' hp => ?_) (hq γ Pr x0 a w Q' hx hr' hf))
    obtain ⟨v, Pr', rfl, hrep, hok, hmv⟩ := hp
    obtain ⟨h1, h2⟩ := hmv env2 hr
    refine hK _ _ ⟨γ, Pr', ?_, h2⟩
    rw [hput, ← he]
    exact h1.put (fun d' h => by injection h with h; rw [← h]; exact hN) hrep hok

theorem mem_ready {md : Region.Mode} {ops : Array Oper} {listed : Array Bool} {i : Nat} (h : i ∈ Region.ready md ops listed) : i < ops.size ∧ listed.getD i true = false ∧ ∃ o, ops[i]? = some o ∧ ∀ e ∈ o.after.toList, Region.binds md e = true → listed.getD e.on false = true := by
  simp only [Region.ready, List.mem_filter, List.mem_range, Bool.and_eq_true, Bool.not_eq_true'] at h
  obtain ⟨h1, h2, h3⟩ := h
  refine ⟨h1, h2, ?_⟩
  cases ho : ops[i]? with
  | none => rw [ho] at h3; simp at h3
  | some o =>
    rw [ho] at h3
    simp only [Option.map_some, Option.getD_some, Array.all_eq_true_iff_forall_mem, Bool.or_eq_true, Bool.not_eq_true'] at h3
    refine ⟨o, rfl, fun e he hb => ?_⟩
    rcases h3 e (by simpa using he) with h | h
    · rw [hb] at h; cases h
    · exact h
theorem ready_of {md : Region.Mode} {ops : Array Oper} {listed : Array Bool} {i : Nat} {o : Oper} (hi : i < ops.size) (hl : listed.getD i true = false) (ho : ops[i]? = some o) (h : ∀ e ∈ o.after.toList, Region.binds md e = true → listed.getD e.on false = true) : i ∈ Region.ready md ops listed := by
  simp only [Region.ready, List.mem_filter, List.mem_range, Bool.and_eq_true, Bool.not_eq_true']
  refine ⟨hi, hl, ?_⟩
  rw [ho]
  simp only [Option.map_some, Option.getD_some, Array.all_eq_true_iff_forall_mem, Bool.or_eq_true, Bool.not_eq_true']
  intro e he
  cases hb : Region.binds md e with
  | false => exact .inl rfl
  | true => exact .inr (h e (by simpa using he) hb)

structure DrawFacts (l : List Oper) (k : Nat) : Prop where
  on : ∀ (i : Nat) o, l[i]? = some o → ∀ e ∈ o.after.toList, Region.binds .any e = true → e.on < i
  look : ∀ (i : Nat) o, l[i]? = some o → i < k → ∀ t ∈ o.looksAt l.toArray, ∀ (j : Nat) p, l[j]? = some p → p.dst = some t → j < i ∧ ∃ e ∈ o.after.toList, Region.binds .any e = true ∧ e.on = j
  ne : ∀ (i j : Nat) o p, l[i]? = some o → l[j]? = some p → i < k → j < k → j ≠ i → p.dst ≠ o.dst
  tail : ∀ (i j : Nat) o, l[i]? = some o → k ≤ i → j < i → ∃ e ∈ o.after.toList, Region.binds .any e = true ∧ e.on = j

theorem mem_ons {o : Oper} {j : Nat} : (ons o).contains j = true ↔ ∃ e ∈ o.after.toList, Region.binds .any e = true ∧ e.on = j := by
  simp only [ons, List.contains_iff_mem, List.mem_map, List.mem_filter]
  exact ⟨fun ⟨e, ⟨h1, h2⟩, h3⟩ => ⟨e, h1, h2, h3⟩, fun ⟨e, h1, h2, h3⟩ => ⟨e, ⟨h1, h2⟩, h3⟩⟩

theorem drawOk_facts {l : List Oper} {k : Nat} (h : drawOk l k = true) : DrawFacts l k := by
  have h0 : ∀ (i : Nat) o, l[i]? = some o → (ons o).all (fun j => Nat.blt j i) = true ∧ (if i < k then
        ((o.looksAt l.toArray).all fun t => (List.range l.length).all fun j => match l[j]? with
          | none => false
          | some p => p.dst != some t || (Nat.blt j i && (ons o).contains j)) &&
        (List.range k).all (fun j => j == i || match l[j]? with
          | none => false
          | some p => p.dst != o.dst)
      else (List.range i).all fun j => (ons o).contains j) = true := fun i o ho => by
    have hlt := (List.getElem?_eq_some_iff.1 ho).1
    have := List.all_eq_true.1 h i (List.mem_range.2 hlt)
    rw [ho] at this
    simp only [Bool.and_eq_true] at this
    exact this
  refine ⟨fun i o ho e he hb => ?_, fun i o ho hi t ht j p hp hd => ?_, fun i j o p ho hp hi hj hne => ?_, fun i j o ho hi hj => ?_⟩
  · have := List.all_eq_true.1 (h0 i o ho).1 e.on (by simp only [ons, List.mem_map, List.mem_filter]; exact ⟨e, ⟨he, hb⟩, rfl⟩)
    simpa using this
  · have h1 := (h0 i o ho).2
    rw [if_pos hi, Bool.and_eq_true] at h1
    have h2 := List.all_eq_true.1 (List.all_eq_true.1 h1.1 t ht) j (List.mem_range.2 (List.getElem?_eq_some_iff.1 hp).1)
    rw [hp] at h2
    simp only [hd, bne_self_eq_false, Bool.false_or, Bool.and_eq_true] at h2
    exact ⟨by simpa using h2.1, mem_ons.1 h2.2⟩
  · have h1 := (h0 i o ho).2
    rw [if_pos hi, Bool.and_eq_true] at h1
    have h2 := List.all_eq_true.1 h1.2 j (List.mem_range.2 hj)
    rw [hp] at h2
    simp only [Bool.or_eq_true, beq_iff_eq, bne_iff_ne] at h2
    exact h2.resolve_left hne
  · have h1 := (h0 i o ho).2
    rw [if_neg (by omega)] at h1
    exact mem_ons.1 (List.all_eq_true.1 h1 j (List.mem_range.2 hj))

/-- The rest, in its one order. -/
theorem wpAny_tail {l : List Oper} {k : Nat} (F : DrawFacts l k) {Q' : Exit → Act → World → Prop} : ∀ (r m fuel : Nat) (listed : Array Bool) (a : Act) (w : World), m + r = l.length → k ≤ m → r ≤ fuel →
    (∀ j, j < l.length → ∀ b, listed.getD j b = decide (j < m)) → wpList P l.toArray Q' (l.drop m) a w → wpAny P .any l.toArray Q' fuel listed a w := by
  intro r
  induction r with
  | zero =>
    intro m fuel listed a w hm hk _ hl hw
    have h0 : Region.ready .any l.toArray listed = [] := by
      rw [List.eq_nil_iff_forall_not_mem]
      intro i hi
      obtain ⟨h1, h2, _⟩ := mem_ready hi
      rw [hl i (by simpa using h1)] at h2
      have h1' : i < l.length := by simpa using h1
      simp at h2
      omega
    rw [List.drop_of_length_le (by omega)] at hw
    cases fuel with
    | zero => exact ⟨h0, hw⟩
    | succ f => exact ⟨fun _ => hw, fun i hi => (by rw [h0] at hi; cases hi)⟩
  | succ r ih =>
    intro m fuel listed a w hm hk hf hl hw
    obtain ⟨f, rfl⟩ : ∃ f, fuel = f + 1 := ⟨fuel - 1, by omega⟩
    have hml : m < l.length := by omega
    have ho : l[m]? = some l[m] := List.getElem?_eq_getElem hml
    have hmem : m ∈ Region.ready .any l.toArray listed := ready_of (o := l[m]) (by simpa using hml) (by rw [hl m hml]; simp) (by simp [hml]) fun e he hb => by
      have := F.on m _ ho e he hb
      rw [hl _ (by omega)]
      simpa using this
    refine ⟨fun h0 => (by rw [h0] at hmem; cases hmem), fun i hi => ?_⟩
    obtain ⟨h1, h2, o, ho', h3⟩ := mem_ready hi
    have h1' : i < l.length := by simpa using h1
    have him : i = m := by
      rw [hl i h1'] at h2
      have h2' : ¬ i < m := by simpa using h2
      refine Decidable.byContradiction fun hne => ?_
      obtain ⟨e, he, hb, hon⟩ := F.tail i m o (by simpa using ho') (by omega) (by omega)
      have := h3 e he hb
      rw [hon, hl m hml] at this
      simp at this
    subst him
    have hd : l.drop i = l[i] :: l.drop (i + 1) := List.drop_eq_getElem_cons hml
    rw [hd] at hw
    unfold wpOp
    have ho2 : l.toArray[i]? = some l[i] := by simp [hml]
    simp only [ho2]
    unfold wpList at hw
    have next : ∀ a w, wpList P l.toArray Q' (l.drop (i + 1)) a w → wpAny P .any l.toArray Q' f (listed.setIfInBounds i true) a w := fun a w h => by
      refine ih (i + 1) f _ a w (by omega) (by omega) (by omega) (fun j hj b => ?_) h
      have hsz : listed.size = listed.size := rfl
      by_cases hji : j = i
      · subst hji
        have hin : j < listed.size := by
          refine Decidable.byContradiction fun hn => ?_
          have h4 := hl j hj true
          have h5 := hl j hj false
          rw [Array.getD_eq_getD_getElem?, Array.getElem?_eq_none (by omega)] at h4 h5
          simp only [Option.getD_none] at h4 h5
          rw [← h4] at h5
          cases h5
        simp [Array.getD_eq_getD_getElem?, hin]
      · have : (listed.setIfInBounds i true).getD j b = listed.getD j b := by simp [Array.getD_eq_getD_getElem?, Array.getElem?_setIfInBounds_ne (Ne.symm hji)]
        rw [this, hl j hj]
        have : (j < i) = (j < i + 1) := by apply propext; omega
        simp only [this]
    split at hw
    · rename_i hwt
      rw [if_pos hwt]
      exact hw.imp (Oper.wp_mono next) id
    · rename_i hwt
      rw [if_neg hwt]
      exact next _ _ hw

theorem unl_lt {l : List Oper} {listed : Array Bool} {i : Nat} (hi : i < l.length) (hl : listed.getD i true = false) :
    ((List.range l.length).countP fun j => !(listed.setIfInBounds i true).getD j true) + 1 ≤ (List.range l.length).countP fun j => !listed.getD j true := by
  have key : ∀ n, i < n → ((List.range n).countP fun j => !(listed.setIfInBounds i true).getD j true) + 1 ≤ (List.range n).countP fun j => !listed.getD j true := by
    intro n
    have hin : i < listed.size := Decidable.byContradiction fun hn => by
      rw [Array.getD_eq_getD_getElem?, Array.getElem?_eq_none (by omega)] at hl
      simp at hl
    have ge : ∀ n, ((List.range n).countP fun j => !(listed.setIfInBounds i true).getD j true) ≤ (List.range n).countP fun j => !listed.getD j true := fun n => by
      refine List.countP_mono_left fun j _ hj => ?_
      by_cases h : i = j
      · subst h
        simp [Array.getD_eq_getD_getElem?, hin] at hj
      · simpa [Array.getD_eq_getD_getElem?, Array.getElem?_setIfInBounds_ne h] using hj
    induction n with
    | zero => intro h; omega
    | succ n ih =>
      intro h
      rw [List.range_succ, List.countP_append, List.countP_append]
      by_cases hn : i = n
      · subst hn
        have h1 : (List.countP (fun j => !(listed.setIfInBounds i true).getD j true) [i]) = 0 := by
          simp [Array.getD_eq_getD_getElem?, Array.getElem?_setIfInBounds, hin]
        have h2 : (List.countP (fun j => !listed.getD j true) [i]) = 1 := by
          rw [List.countP_cons, List.countP_nil, hl]; rfl
        have := ge i
        omega
      · have := ih (by omega)
        have h1 : (List.countP (fun j => !(listed.setIfInBounds i true).getD j true) [n]) = List.countP (fun j => !listed.getD j true) [n] := by
          simp [Array.getD_eq_getD_getElem?, Array.getElem?_setIfInBounds_ne hn]
        omega
  exact key _ hi

theorem wpAny_draw {l : List Oper} {k : Nat} (F : DrawFacts l k) {dr : List (Nat × SV)} (hlen : dr.length = k) (hkl : k ≤ l.length)
    (hdr : ∀ (i d : Nat) (r : SV), dr[i]? = some (d, r) → ∃ o, l[i]? = some o ∧ o.dst = some d ∧ d < N ∧ OpQ P N M0 l.toArray (restr ((dr.take i).reverse ++ env) (o.looksAt l.toArray)) M o r)
    (hend : DOps P N M0 l.toArray Q (l.drop k) (dr.reverse ++ env) M) {x0 : Ctx} (hx : x0.M0 = M0) : ∀ (fuel : Nat) (listed : Array Bool) (a : Act) (w : World),
    ((List.range l.length).countP fun j => !listed.getD j true) ≤ fuel → listed.size = l.length → (∀ j, k ≤ j → j < l.length → listed.getD j true = false) →
    At x0 N (envS env dr fun j => listed.getD j false) M a w → wpAny P .any l.toArray (up x0 N Q) fuel listed a w := by
  have hap : Apart dr := fun i j d x d' x' h1 h2 hne => by
    obtain ⟨o, a1, a2, _⟩ := hdr i d x h1
    obtain ⟨p, b1, b2, _⟩ := hdr j d' x' h2
    have := F.ne i j o p a1 b1 (by rw [← hlen]; exact (List.getElem?_eq_some_iff.1 h1).1) (by rw [← hlen]; exact (List.getElem?_eq_some_iff.1 h2).1) (Ne.symm hne)
    rw [a2, b2] at this
    exact fun e => this (by rw [e])
  intro fuel
  induction fuel with
  | zero =>
    intro listed a w hc hs hrest hat
    have hall : ∀ j, j < l.length → listed.getD j true = true := fun j hj => by
      have := List.countP_eq_zero.1 (Nat.le_zero.1 hc) j (List.mem_range.2 hj)
      simpa using this
    have hk : k = l.length := by
      refine Decidable.byContradiction fun hne => ?_
      have := hall k (by omega)
      rw [hrest k (Nat.le_refl _) (by omega)] at this
      cases this
    have hfin := hend x0 a w hx (Wk.slots (fun t => .inr ?_) x0 a w hx hat)
    · refine wpAny_tail F 0 k 0 listed a w (by omega) (Nat.le_refl _) (Nat.le_refl _) (fun j hj b => ?_) hfin
      have := hall j hj
      rw [Array.getD_eq_getD_getElem?, Array.getElem?_eq_getElem (by omega)] at this ⊢
      simp at this ⊢
      rw [this]
      simp; omega
    · have h1 := lk_append_rev (env := env) hap dr.length (Nat.le_refl _) t
      rw [List.take_length] at h1
      rw [h1]
      by_cases hex : ∃ (i d : Nat) (x : SV), dr[i]? = some (d, x) ∧ d = t
      · obtain ⟨i, d, x, h2, h3⟩ := hex
        have hi := (List.getElem?_eq_some_iff.1 h2).1
        rw [(lk_envS hap _ t).1 i d x h2 h3, (lk_envS hap _ t).1 i d x h2 h3]
        have := hall i (by omega)
        rw [Array.getD_eq_getD_getElem?, Array.getElem?_eq_getElem (by omega)] at this ⊢
        simp at this ⊢
        rw [if_pos hi, if_pos this]
      · have hn : ∀ (i d : Nat) (x : SV), dr[i]? = some (d, x) → d ≠ t := fun i d x h1 h2 => hex ⟨i, d, x, h1, h2⟩
        rw [(lk_envS hap _ t).2 hn, (lk_envS hap _ t).2 hn]
  | succ fuel ih =>
    intro listed a w hc hs hrest hat
    have gd2 : ∀ j, j < l.length → listed.getD j false = listed.getD j true := fun j hj => by
      rw [Array.getD_eq_getD_getElem?, Array.getD_eq_getD_getElem?, Array.getElem?_eq_getElem (by omega)]; rfl
    by_cases hex : ∃ j, j < k ∧ listed.getD j true = false
    · -- the least that is not listed
      have least : ∀ n, (∃ j, j < n ∧ j < k ∧ listed.getD j true = false) → ∃ j, j < k ∧ listed.getD j true = false ∧ ∀ i, i < j → listed.getD i true = true := by
        intro n
        induction n with
        | zero => intro ⟨j, hj, _⟩; omega
        | succ n ihn =>
          intro ⟨j, hj, hjk, hjl⟩
          by_cases hsm : ∃ i, i < j ∧ listed.getD i true = false
          · obtain ⟨i, hi, hil⟩ := hsm
            exact ihn ⟨i, by omega, by omega, hil⟩
          · exact ⟨j, hjk, hjl, fun i hi => by
              cases hb : listed.getD i true with
              | true => rfl
              | false => exact absurd ⟨i, hi, hb⟩ hsm⟩
      obtain ⟨j0, hj0, hj0l, hmin⟩ := least k (let ⟨j, h1, h2⟩ := hex; ⟨j, h1, h1, h2⟩)
      have hj0n : j0 < l.length := by omega
      have hmem : j0 ∈ Region.ready .any l.toArray listed := ready_of (by simpa using hj0n) hj0l (o := l[j0]) (by simp [hj0n]) fun e he hb => by
        have hlt := F.on j0 _ (List.getElem?_eq_getElem hj0n) e he hb
        rw [gd2 _ (by omega)]
        exact hmin _ hlt
      refine ⟨fun h0 => (by rw [h0] at hmem; cases hmem), fun i hi => ?_⟩
      obtain ⟨h1, h2, o, ho', h3⟩ := mem_ready hi
      have h1' : i < l.length := by simpa using h1
      have ho : l[i]? = some o := by simpa using ho'
      have hik : i < k := by
        refine Decidable.byContradiction fun hn => ?_
        obtain ⟨e, he, hb, hon⟩ := F.tail i j0 o ho (by omega) (by omega)
        have := h3 e he hb
        rw [hon, gd2 j0 hj0n, hj0l] at this
        cases this
      obtain ⟨d, r, hdr1⟩ : ∃ d r, dr[i]? = some (d, r) := ⟨dr[i].1, dr[i].2, List.getElem?_eq_getElem (by omega)⟩
      obtain ⟨o2, ho2, hd, hdN, hq⟩ := hdr i d r hdr1
      rw [ho] at ho2
      obtain rfl := Option.some.inj ho2
      refine wpOp_of_OpQ ho' hd hdN hx hq (fun t => ?_) hat (fun a' w' hat' => ?_)
      · rcases lk_restr ((dr.take i).reverse ++ env) (o.looksAt l.toArray) t with hj | ⟨ht, he⟩
        · exact .inl hj
        · refine .inr (he.trans ?_)
          rw [lk_append_rev hap i (by omega) t]
          by_cases hex2 : ∃ (j d : Nat) (x : SV), dr[j]? = some (d, x) ∧ d = t
          · obtain ⟨j, d', x, g1, g2⟩ := hex2
            rw [(lk_envS hap _ t).1 j d' x g1 g2, (lk_envS hap _ t).1 j d' x g1 g2]
            obtain ⟨p, hp1, hp2, _⟩ := hdr j d' x g1
            obtain ⟨hji, e, he1, he2, he3⟩ := F.look i o ho hik t ht j p hp1 (by rw [hp2, g2])
            have := h3 e he1 he2
            rw [he3] at this
            rw [this]
            simp [hji]
          · have hn : ∀ (j d : Nat) (x : SV), dr[j]? = some (d, x) → d ≠ t := fun i d x h1 h2 => hex2 ⟨i, d, x, h1, h2⟩
            rw [(lk_envS hap _ t).2 hn, (lk_envS hap _ t).2 hn]
      · refine ih _ a' w' ?_ (by simpa using hs) (fun j hj hjl => ?_) (Wk.slots (fun t => .inr ?_) x0 a' w' hx hat')
        · have := unl_lt h1' h2
          omega
        · rw [Array.getD_eq_getD_getElem?, Array.getElem?_setIfInBounds_ne (by omega), ← Array.getD_eq_getD_getElem?]
          exact hrest j hj hjl
        · rw [lk_cons]
          by_cases hdt : d = t
          · rw [if_pos hdt, (lk_envS hap _ t).1 i d r hdr1 hdt]
            rw [if_pos]
            simp [Array.getD_eq_getD_getElem?, hs, h1']
          · rw [if_neg hdt]
            by_cases hex2 : ∃ (j d : Nat) (x : SV), dr[j]? = some (d, x) ∧ d = t
            · obtain ⟨j, d', x, g1, g2⟩ := hex2
              rw [(lk_envS hap _ t).1 j d' x g1 g2, (lk_envS hap _ t).1 j d' x g1 g2]
              have hne : i ≠ j := fun e => by
                subst e
                rw [hdr1] at g1
                injection g1 with g1
                injection g1 with g1 _
                exact hdt (g1.trans g2)
              rw [Array.getD_eq_getD_getElem?, Array.getElem?_setIfInBounds_ne hne, ← Array.getD_eq_getD_getElem?]
            · have hn : ∀ (j d : Nat) (x : SV), dr[j]? = some (d, x) → d ≠ t := fun i d x h1 h2 => hex2 ⟨i, d, x, h1, h2⟩
              rw [(lk_envS hap _ t).2 hn, (lk_envS hap _ t).2 hn]
    · have hall : ∀ j, j < k → listed.getD j true = true := fun j hj => by
        cases hb : listed.getD j true with
        | true => rfl
        | false => exact absurd ⟨j, hj, hb⟩ hex
      have hfin := hend x0 a w hx (Wk.slots (fun t => .inr ?_) x0 a w hx hat)
      · refine wpAny_tail F (l.length - k) k (fuel + 1) listed a w (by omega) (Nat.le_refl _) ?_ (fun j hj b => ?_) hfin
        · refine Nat.le_trans ?_ hc
          have : ∀ n, k ≤ n → n ≤ l.length → n - k ≤ (List.range n).countP fun j => !listed.getD j true := by
            intro n
            induction n with
            | zero => intro _ _; omega
            | succ n ihn =>
              intro h1 h2
              rw [List.range_succ, List.countP_append]
              by_cases hkn : k ≤ n
              · have := ihn hkn (by omega)
                have h3 : (List.countP (fun j => !listed.getD j true) [n]) = 1 := by
                  rw [List.countP_cons, List.countP_nil, hrest n hkn (by omega)]; rfl
                omega
              · omega
          exact this _ hkl (Nat.le_refl _)
        · by_cases hjk : j < k
          · have := hall j hjk
            rw [Array.getD_eq_getD_getElem?, Array.getElem?_eq_getElem (by omega)] at this ⊢
            simp at this ⊢
            rw [this]
            simp [hjk]
          · have := hrest j (by omega) hj
            rw [Array.getD_eq_getD_getElem?, Array.getElem?_eq_getElem (by omega)] at this ⊢
            simp at this ⊢
            rw [this]
            simp; omega
      · have h1 := lk_append_rev (env := env) hap dr.length (Nat.le_refl _) t
        rw [List.take_length] at h1
        rw [h1]
        by_cases hex2 : ∃ (i d : Nat) (x : SV), dr[i]? = some (d, x) ∧ d = t
        · obtain ⟨i, d, x, h2, h3⟩ := hex2
          have hi := (List.getElem?_eq_some_iff.1 h2).1
          rw [(lk_envS hap _ t).1 i d x h2 h3, (lk_envS hap _ t).1 i d x h2 h3]
          have := hall i (by omega)
          rw [gd2 i (by omega), this]
          simp [hi]
        · have hn : ∀ (i d : Nat) (x : SV), dr[i]? = some (d, x) → d ≠ t := fun i d x h1 h2 => hex2 ⟨i, d, x, h1, h2⟩
          rw [(lk_envS hap _ t).2 hn, (lk_envS hap _ t).2 hn]

theorem At.drew {x0 : Ctx} {a : Act} {w : World} (h : At x0 N env M a w) : At x0 N env M a { w with drawn := w.drawn + 1 } := by
  obtain ⟨γ, Pr, hr, hf⟩ := h
  have hc : ∀ b o, ({ w with drawn := w.drawn + 1 } : World).cell? ⟨b, o, none⟩ = w.cell? ⟨b, o, none⟩ := fun _ _ => rfl
  refine ⟨γ, Pr, ?_, ⟨hf.ext, hf.cell, hf.lie, hf.has⟩⟩
  have K : Kept Pr w Pr ({ w with drawn := w.drawn + 1 } : World) := ⟨fun _ _ x => x, fun b o _ => hc b o⟩
  have G := Cn.agree_refl M γ
  exact { size := hr.size, slot := fun i => SRep.move G K (hr.slotB i) (hr.slot i), slotB := hr.slotB, mem := fun b k hm => BRep.move G (by rw [has, hm]; simp) K (fun _ _ => rfl) (fun _ _ _ p => p) (hr.memB b k hm) (hr.mem b k hm),
          memB := hr.memB, apart := hr.apart, below := ⟨hr.below.os, hr.below.tape, hr.below.output, hr.below.size, hr.below.block⟩, prot := ⟨hr.prot.lt, hr.prot.glob⟩, defers := hr.defers }

/-- A statement whose order is open: its first k operations are walked once, in the text's order. -/
theorem DCode.draw {id : Nat} {l : List Oper} (k : Nat) (hm : P.follows .mixedOrders = true) (hok : drawOk l k = true) (h : DDr P N M0 l.toArray Q k l env M) : DCode P N M0 (.region id l.toArray true) Q env M := by
  intro x0 a w hx hat
  have F := drawOk_facts hok
  obtain ⟨dr, hlen, hkl, hdr, hend⟩ := DDr.split k l env h
  refine wp_region_any hm ?_
  refine wpAny_draw F hlen hkl hdr hend hx _ _ a _ ?_ (by simp) (fun j _ hj => ?_) ?_
  · refine Nat.le_trans (List.countP_le_length) ?_
    simp
  · simp [Array.getD_eq_getD_getElem?, hj]
  · refine Wk.slots (fun t => .inr ?_) x0 a _ hx hat.drew
    have := lk_envS_go env (fun j => (Array.replicate l.toArray.size false).getD j false) dr 0 t
    rcases this with ⟨i, d, x, _, h2, _⟩ | ⟨_, h2⟩
    · exfalso
      simp [Array.getD_eq_getD_getElem?, Array.getElem?_replicate] at h2
      split at h2 <;> cases h2
    · exact h2
end
end Go.Proofs.YtpgkbnefhhcfcaaGreatDoor.DL
set_option linter.unusedVariables false
set_option linter.unusedSimpArgs false
set_option linter.constructorNameAsVariable false
namespace Go.Proofs.YtpgkbnefhhcfcaaGreatDoor.DL
open Go.RowKit

section
variable {P : Program} {N : Nat} {ops : Array Oper} {Q : DPost} {env : Env} {M M0 : Mem} {γ γ' : Cn} {Pr Pr' : Prot} {x0 : Ctx} {w w' : World} {a : Act} {o : Oper} {rest : List Oper}

/-! ### A method on one block -/
def DCallsB (P : Program) (f : FuncId) (t : TypeId) (cs : List CV) (args rs : List TV) (cs' : List CV) : Prop :=
  ∀ b, DCallsM P f (.one (.ptr b 0) :: args) [(b, some (.box t cs))] (fun ts M' => ts = rs ∧ mget M' b = some (.box t cs'))

theorem mget_one {b : Nat} {x : Option Blk} {y : Nat} {k : Blk} (h : mget [(b, x)] y = some k) : y = b ∧ x = some k := by
  rw [mget_cons] at h
  split at h
  · rename_i e; exact ⟨e.symm, h⟩
  · cases h

theorem endQM.box {T : TypeId → Option TyI} {e : Exit} (he : e = .normal ∨ e = .ret) {b : Nat} {t : TypeId} {cs cs' : List CV} {rs rs' : List ResultVar} {ts : List TV} (hrs : rs = rs') (h : ResTs T env M rs' ts) (hp : ∀ t ∈ ts, t.pure) (hM : mget M b = some (.box t cs')) (hpc : ∀ c ∈ cs', c.pure) :
    endQM T rs [(b, some (.box t cs))] (fun ts' M' => ts' = ts ∧ mget M' b = some (.box t cs')) e env M := by
  subst hrs
  have g : mget [(b, some (Blk.box t cs'))] b = some (.box t cs') := by rw [mget_cons, if_pos rfl]
  have : ∃ us M', ResTs T env M rs us ∧ (∀ y, mget M' y = none ∨ mget M' y = mget M y) ∧ (∀ y, has [(b, some (Blk.box t cs))] y ↔ has M' y) ∧ (∀ y k, mget M' y = some k → k.ok M') ∧ (∀ t ∈ us, t.ok M') ∧ (us = ts ∧ mget M' b = some (.box t cs')) := by
    refine ⟨ts, [(b, some (.box t cs'))], h, fun y => ?_, fun y => ?_, fun y k hk => ?_, fun t ht => TV.pure_ok (hp t ht), rfl, g⟩
    · by_cases e : b = y
      · subst e; rw [g, hM]; exact .inr rfl
      · rw [mget_cons, if_neg e]; exact .inl rfl
    · unfold has
      rw [mget_cons, mget_cons]
      split <;> simp
    · obtain ⟨_, hk'⟩ := mget_one hk
      obtain rfl := Option.some.inj hk'
      exact fun c hc => CV.pure_ok (hpc c hc)
  rcases he with rfl | rfl
  · exact this
  · exact this

/-! ### Values, compared -/
def EqV (P : Program) (h : Nat) (t : TypeId) (x y : TV) (r : Bool) : Prop :=
  ∀ d, h < d → ∀ γ Pr w u v, TRep γ Pr w x u → TRep γ Pr w y v → (Op.equalIn d t u v).run P w = .ok r w

theorem EqV.int {T : TypeId → Option TyI} (hT : TOk P T) {t : TypeId} {s b : Nat} {z : Value} {k k' : IntKind} {m n : Int} (ht : T t = some ⟨.int k', s, b, z⟩) : EqV P 0 t (.one (.d (.sc (.int k m)))) (.one (.d (.sc (.int k n)))) (decide (m = n)) := fun d hd γ Pr w u v ⟨_, hu⟩ ⟨_, hv⟩ => by
  obtain ⟨d, rfl⟩ : ∃ e, d = e + 1 := ⟨d - 1, by omega⟩
  subst hu hv
  rw [run_equalIn_int w d t k k' m n (hT _ _ ht).1]
  rfl
theorem EqV.bool {T : TypeId → Option TyI} (hT : TOk P T) {t : TypeId} {s b : Nat} {z : Value} {m n : Bool} (ht : T t = some ⟨.bool, s, b, z⟩) : EqV P 0 t (.one (.d (.sc (.bool m)))) (.one (.d (.sc (.bool n)))) (decide (m = n)) := fun d hd γ Pr w u v ⟨_, hu⟩ ⟨_, hv⟩ => by
  obtain ⟨d, rfl⟩ : ∃ e, d = e + 1 := ⟨d - 1, by omega⟩
  subst hu hv
  rw [run_equalIn_bool' w d t m n (hT _ _ ht).1]
  cases m <;> cases n <;> rfl

theorem EqV.items {T : TypeId → Option TyI} (hT : TOk P T) {e : TypeId} {j : TyI} {h d : Nat} (hd : h < d) (hj : T e = some j) {xs ys : List CV} {us vs : List Value} (hu : LRep γ Pr w xs us) (hv : LRep γ Pr w ys vs) (r : Nat → Bool) : ∀ (is : List Nat),
    (∀ i ∈ is, ∃ x y, (if aggD j.desc then i * j.size + j.size ≤ xs.length ∧ x = .agg ((xs.drop (i * j.size)).take j.size) else ∃ c, xs[i * j.size]? = some c ∧ x = .one c) ∧
      (if aggD j.desc then i * j.size + j.size ≤ ys.length ∧ y = .agg ((ys.drop (i * j.size)).take j.size) else ∃ c, ys[i * j.size]? = some c ∧ y = .one c) ∧ EqV P h e x y (r i)) →
    (Op.eqItems d e j.size us.toArray vs.toArray is).run P w = .ok (is.all r) w
  | [], _ => by simp [Op.eqItems]
  | i :: is, hall => by
    obtain ⟨x, y, hx, hy, he⟩ := hall i (by simp)
    obtain ⟨u, hu1, hu2⟩ := run_part (P := P) hT hj hu hx
    obtain ⟨v, hv1, hv2⟩ := run_part (P := P) hT hj hv hy
    have h3 := he d hd γ Pr w u v hu2 hv2
    have ih := EqV.items hT hd hj hu hv r is fun i hi => hall i (by simp [hi])
    simp only [Op.eqItems, Sem.run_bind, hu1, hv1, h3, Result.andThen_ok]
    cases hr : r i
    · simp [hr]
    · simpa [hr] using ih

theorem cellsOf_of {T : TypeId → Option TyI} (hT : TOk P T) {e : TypeId} {j : TyI} (hj : T e = some j) : P.cellsOf e = j.size := by
  obtain ⟨_, info, h1, h2, _⟩ := hT _ _ hj
  simp [Program.cellsOf, h1, h2]

theorem EqV.array {T : TypeId → Option TyI} (hT : TOk P T) {t e : TypeId} {s b h n : Nat} {z : Value} {j : TyI} (ht : T t = some ⟨.array n e, s, b, z⟩) (hj : T e = some j) {xs ys : List CV} (r : Nat → Bool)
    (hall : ∀ i, i < n → ∃ x y, (if aggD j.desc then i * j.size + j.size ≤ xs.length ∧ x = .agg ((xs.drop (i * j.size)).take j.size) else ∃ c, xs[i * j.size]? = some c ∧ x = .one c) ∧
      (if aggD j.desc then i * j.size + j.size ≤ ys.length ∧ y = .agg ((ys.drop (i * j.size)).take j.size) else ∃ c, ys[i * j.size]? = some c ∧ y = .one c) ∧ EqV P h e x y (r i)) :
    EqV P (h + 1) t (.agg xs) (.agg ys) ((List.range n).all r) := fun d hd γ Pr w u v ⟨us, hu, hul⟩ ⟨vs, hv, hvl⟩ => by
  obtain ⟨d, rfl⟩ : ∃ e, d = e + 1 := ⟨d - 1, by omega⟩
  subst hu hv
  obtain ⟨_, info, h1, h2, _⟩ := hT _ _ hj
  rw [run_equalIn_array w d us.toArray vs.toArray (hT _ _ ht).1 h1, cellsOf_of hT hj]
  exact EqV.items hT (by omega) hj hul hvl r _ fun i hi => hall i (by simpa using hi)

/-- Fields. -/
def EqFs (P : Program) (T : TypeId → Option TyI) (h : Nat) (xs ys : List CV) : List Field → Bool → Prop
  | [], r => r = true
  | f :: fs, r => ∃ j x y r1 r2, f.name ≠ "_" ∧ T f.type = some j ∧ (if aggD j.desc then f.offset + j.size ≤ xs.length ∧ x = .agg ((xs.drop f.offset).take j.size) else ∃ c, xs[f.offset]? = some c ∧ x = .one c) ∧
      (if aggD j.desc then f.offset + j.size ≤ ys.length ∧ y = .agg ((ys.drop f.offset).take j.size) else ∃ c, ys[f.offset]? = some c ∧ y = .one c) ∧ EqV P h f.type x y r1 ∧ EqFs P T h xs ys fs r2 ∧ r = (r1 && r2)

theorem EqFs.run {T : TypeId → Option TyI} (hT : TOk P T) {h d : Nat} (hd : h < d) {xs ys : List CV} {us vs : List Value} (hu : LRep γ Pr w xs us) (hv : LRep γ Pr w ys vs) : ∀ (fs : List Field) (r : Bool), EqFs P T h xs ys fs r → (Op.eqFields d us.toArray vs.toArray fs).run P w = .ok r w
  | [], r, hr => by
    obtain rfl := hr
    simp [Op.eqFields]
  | f :: fs, r, hr => by
    obtain ⟨j, x, y, r1, r2, hn, hj, hx, hy, he, hs, rfl⟩ := hr
    obtain ⟨u, hu1, hu2⟩ := run_part (P := P) hT hj hu hx
    obtain ⟨v, hv1, hv2⟩ := run_part (P := P) hT hj hv hy
    have h3 := he d hd γ Pr w u v hu2 hv2
    have ih := EqFs.run hT hd hu hv fs r2 hs
    simp only [Op.eqFields, hn, ne_eq, not_false_eq_true, if_true, Sem.run_bind, hu1, hv1, h3, Result.andThen_ok]
    cases r1
    · simp
    · simpa using ih

theorem EqV.struct {T : TypeId → Option TyI} (hT : TOk P T) {t : TypeId} {s b h : Nat} {z : Value} {fs : Array Field} (ht : T t = some ⟨.struct fs, s, b, z⟩) (hp : P.stoodInHeld t = false) {xs ys : List CV} {r : Bool} (hr : EqFs P T h xs ys fs.toList r) : EqV P (h + 1) t (.agg xs) (.agg ys) r := fun d hd γ Pr w u v ⟨us, hu, hul⟩ ⟨vs, hv, hvl⟩ => by
  obtain ⟨d, rfl⟩ : ∃ e, d = e + 1 := ⟨d - 1, by omega⟩
  subst hu hv
  have hu := (hT _ _ ht).1
  have hf : P.fieldsOf t = fs := by simp [Program.fieldsOf, hu]
  rw [run_equalIn_agg w d t us.toArray vs.toArray (by rw [hf]; exact hu) hp, hf]
  exact EqFs.run hT (by omega) hul hvl _ _ hr

theorem EqV.le {h h' : Nat} {t : TypeId} {x y : TV} {r : Bool} (hh : h ≤ h') (k : EqV P h t x y r) : EqV P h' t x y r := fun d hd => k d (by omega)

theorem OpVal.eqlA {t t' : TypeId} {x y : Operand} {xs ys : List CV} {r : Bool} (ho : o.op = .binOp .eql t x y t') (hx : opv env x = .v (.agg xs)) (hy : opv env y = .v (.agg ys)) (hm : P.eqGuardType P.depth t = false) (he : EqV P 9 t (.agg xs) (.agg ys) r) : OpVal P N env M o (vB r) := fun γ Pr x0 a w h => by
  have h1 := h.opv x; have h2 := h.opv y
  rw [hx] at h1; rw [hy] at h2
  have h3 := he 10000 (by omega) γ Pr w _ _ h1 h2
  obtain ⟨us, hu, _⟩ := h1; obtain ⟨vs, hv, _⟩ := h2
  rw [hu, hv] at h3
  refine ⟨trivial, .bool r, ?_, rfl, rfl⟩
  simp only [execOp, ho, hu, hv, Sem.run_bind, run_eqGuard_agg w _ t x y _ _ hm, Result.andThen_ok, run_eql_struct, h3]
  rfl
theorem OpVal.nilCheckP {x : Operand} {b k : Nat} (ho : o.op = .nilCheck x) (hx : opv env x = .v (.one (.ptr b k))) : OpVal P N env M o (.v (.one (.ptr b k))) := fun γ Pr x0 a w h => by
  have h1 := h.opv x; have h2 := opv_ok h.slotB x
  rw [hx] at h1 h2
  have he : a.eval x = .pointer (some ⟨γ.blk b, k, none⟩) := h1
  refine ⟨h2, .pointer (some ⟨γ.blk b, k, none⟩), ?_, rfl⟩
  simp only [execOp, ho, he]
  rfl
theorem OpVal.nilCheckD {x : Operand} {n : Nat} {el : Nat → DV} (ho : o.op = .nilCheck x) (hx : opv env x = .v (.one (.d (.pp n el)))) : OpVal P N env M o (.v (.one (.d (.pp n el)))) := fun γ Pr x0 a w h => by
  have h1 := h.opv x
  rw [hx] at h1
  obtain ⟨b, k, he, hc⟩ := h1
  refine ⟨trivial, .pointer (some ⟨b, k, none⟩), ?_, b, k, rfl, hc⟩
  simp only [execOp, ho, he]
  rfl
end
end Go.Proofs.YtpgkbnefhhcfcaaGreatDoor.DL
set_option linter.unusedVariables false
set_option linter.unusedSimpArgs false
set_option linter.constructorNameAsVariable false
namespace Go.Proofs.YtpgkbnefhhcfcaaGreatDoor.DL
open Go.RowKit

section
variable {P : Program} {N : Nat} {ops : Array Oper} {Q : DPost} {env : Env} {M M0 : Mem} {γ γ' : Cn} {Pr Pr' : Prot} {x0 : Ctx} {w w' : World} {a : Act} {o : Oper} {rest : List Oper}

/-- What is told of Mt, but for the blocks ex, is so in M. -/
def MSubX (ex : List Nat) (Mt M : Mem) : Prop := ∀ b, ex.contains b = false → mget Mt b = none ∨ mget Mt b = mget M b
theorem MSubX.nil {ex : List Nat} : MSubX ex [] M := fun _ _ => .inl rfl
theorem MSubX.skip {ex : List Nat} {d : Nat} {X : Option Blk} {Mt : Mem} (hd : ex.contains d = true) (h : MSubX ex Mt M) : MSubX ex ((d, X) :: Mt) M := fun b hb => by
  rw [mget_cons]
  split
  · rename_i e; subst e; rw [hd] at hb; cases hb
  · exact h b hb
theorem MSubX.cons {ex : List Nat} {d : Nat} {X : Option Blk} {Mt : Mem} (hd : mget M d = X) (h : MSubX (d :: ex) Mt M) : MSubX ex ((d, X) :: Mt) M := fun b hb => by
  rw [mget_cons]
  split
  · rename_i e; subst e; exact .inr hd.symm
  · rename_i e
    refine h b ?_
    simp only [List.contains_cons, Bool.or_eq_false_iff, hb, and_true, beq_eq_false_iff_ne, ne_eq]
    exact fun h => e h.symm
theorem MSubX.sub {Mt : Mem} (h : MSubX [] Mt M) : MSub Mt M := fun b => h b rfl

def okE (M : Mem) : Env → Prop
  | [] => True
  | p :: r => p.2.ok M ∧ okE M r
def okM (M : Mem) : Mem → Prop
  | [] => True
  | p :: r => (∃ k, p.2 = some k ∧ k.ok M) ∧ okM M r
theorem okE_lk {M' : Mem} : ∀ (u e : Env), okE M' u → (∀ i, (lk e i).ok M') → ∀ i, (lk (u ++ e) i).ok M'
  | [], _, _, h => h
  | p :: r, e, ⟨h1, h2⟩, h => fun i => by
    rw [List.cons_append, lk_cons]
    split
    · exact h1
    · exact okE_lk r e h2 h i
theorem okM_get {M' : Mem} : ∀ (u : Mem), okM M' u → (∀ b k, mget M b = some k → k.ok M') → ∀ b k, mget (u ++ M) b = some k → k.ok M'
  | [], _, h => h
  | p :: r, ⟨⟨k1, h1, h2⟩, h3⟩, h => fun b k hk => by
    rw [List.cons_append, mget_cons] at hk
    split at hk
    · rw [h1] at hk; obtain rfl := Option.some.inj hk; exact h2
    · exact okM_get r h3 h b k hk
theorem okM_has {M' : Mem} : ∀ (u : Mem), okM M' u → ∀ b, has M b → has (u ++ M) b
  | [], _, _, hb => hb
  | p :: r, ⟨⟨k1, h1, _⟩, h3⟩, b, hb => by
    unfold has at *
    rw [List.cons_append, mget_cons]
    split
    · rw [h1]; simp
    · exact okM_has r h3 b hb

/-- A loop that forgets: what it made of its own stays behind. -/
theorem DCode.loopF {c : Code} {ι : Type} (up : ι → Env) (ds : List Nat) (mup : ι → Mem) (inv : ι → Prop) (μ : ι → Nat) (i0 : ι) (hi : inv i0) (hu : ∀ i, inv i → okE (mup i ++ M) (up i)) (hm : ∀ i, inv i → okM (mup i ++ M) (mup i)) (h0 : Wk N M0 env M (up i0 ++ junks ds env) (mup i0 ++ M))
    (hr : ∀ i, inv i → DCode P N M0 c (thenQ (fun env' M' => ∃ i', inv i' ∧ μ i' < μ i ∧ Sub (up i' ++ junks ds env) env' ∧ MSubX [] (mup i' ++ M) M') Q) (up i ++ junks ds env) (mup i ++ M)) : DCode P N M0 (.loop c) Q env M := by
  intro x0 a w hx ha
  obtain ⟨γ, Pr, hrel, hfr⟩ := ha
  have wk : ∀ (i' : ι), inv i' → ∀ env' M', Sub (up i' ++ junks ds env) env' → MSubX [] (mup i' ++ M) M' → Wk N M0 env' M' (up i' ++ junks ds env) (mup i' ++ M) := fun i' hi' env' M' h1 h2 => by
    have hh := okM_has (M := M) (mup i') (hm i' hi')
    refine Wk.both h1 h2.sub (okE_lk _ _ (hu i' hi') fun i => ?_) (okM_get _ (hm i' hi') fun b k hk => Blk.ok_le hh (hrel.memB b k hk)) fun b hb => hh b (hfr.has b (by rw [hx]; exact hb))
    rw [lk_junks]
    split
    · trivial
    · exact SV.ok_le hh (hrel.slotB i)
  exact DCode.loopM up ds mup inv μ i0 hi h0 (fun i hi => DCode.mono (hr i hi) fun e env' M' hq => by
    cases e with
    | normal => obtain ⟨i', h1, h2, h3, h4⟩ := hq; exact ⟨i', h1, h2, wk i' h1 _ _ h3 h4⟩
    | _ => exact hq) x0 a w hx ⟨γ, Pr, hrel, hfr⟩

theorem DCode.loopG {c : Code} {ι : Type} (up : ι → Env) (ds : List Nat) (mup : ι → Mem) (inv : ι → Prop) (μ : ι → Nat) (i0 : ι) (hi : inv i0) (hu : ∀ i, inv i → okE (mup i ++ M) (up i)) (hm : ∀ i, inv i → okM (mup i ++ M) (mup i)) (h0 : Sub (up i0 ++ junks ds env) env) (h1 : MSubX [] (mup i0 ++ M) M)
    (hr : ∀ i, inv i → DCode P N M0 c (thenQ (fun env' M' => ∃ i', inv i' ∧ μ i' < μ i ∧ Sub (up i' ++ junks ds env) env' ∧ MSubX [] (mup i' ++ M) M') Q) (up i ++ junks ds env) (mup i ++ M)) : DCode P N M0 (.loop c) Q env M := by
  intro x0 a w hx ha
  obtain ⟨γ, Pr, hrel, hfr⟩ := ha
  refine DCode.loopF up ds mup inv μ i0 hi hu hm ?_ hr x0 a w hx ⟨γ, Pr, hrel, hfr⟩
  exact fun x1 a1 w1 hx1 ⟨γ1, Pr1, hrel1, hfr1⟩ => by
    have hh := okM_has (M := M) (mup i0) (hm i0 hi)
    refine Wk.both (M0 := M0) h0 h1.sub (okE_lk _ _ (hu i0 hi) fun i => ?_) (okM_get _ (hm i0 hi) fun b k hk => Blk.ok_le hh (hrel1.memB b k hk)) (fun b hb => hh b (hfr1.has b (by rw [hx1]; exact hb))) x1 a1 w1 hx1 ⟨γ1, Pr1, hrel1, hfr1⟩
    rw [lk_junks]
    split
    · trivial
    · exact SV.ok_le hh (hrel1.slotB i)

/-- Blocks called as the slots that lead to them. -/
theorem DOps.boxS {d : Nat} {T : TypeId} {x : Operand} {t : TV} (hg : gd ops env o = some true) (hd : o.dst = some d) (hN : Nat.blt d N = true) (ho : o.op = .box T x) (hx : opv env x = .v t) (hb : mget M d = none)
    (h : DOps P N M0 ops Q rest ((d, .v (.one (.ptr d 0))) :: env) ((d, some (.box T t.cells)) :: M)) : DOps P N M0 ops Q (o :: rest) env M := DOps.box d hg hd hN ho hx hb h
theorem DOps.alS {T : TypeId → Option TyI} (hT : TOk P T) {t s0 b0 d : Nat} {z0 : Value} {d0 : TypeDesc} (hg : gd ops env o = some true) (hd : o.dst = some d) (hN : Nat.blt d N = true) (ho : o.op = .alloc t) (ht : T t = some ⟨d0, s0, b0, z0⟩)
    (hz1 : z0.cells.toList.all (·.oneCell') = true) (hb : mget M d = none) (h : DOps P N M0 ops Q rest ((d, .v (.one (.ptr d 0))) :: env) ((d, some (.box t (dvs z0))) :: M)) : DOps P N M0 ops Q (o :: rest) env M := DOps.al hT d hg hd hN ho ht hz1 hb h
theorem dvs_pure (v : Value) : (TV.agg (dvs v)).pure := fun c hc => by
  simp only [dvs, List.mem_map] at hc
  obtain ⟨u, _, rfl⟩ := hc
  trivial
theorem OpVal.slL {T : TypeId → Option TyI} (hT : TOk P T) {t e : TypeId} {x y1 : Operand} {n k s0 b0 s1 b1 : Nat} {z0 z1 : Value} {d1 : TypeDesc} {k1 : IntKind} {el : Nat → Nat → DV} (l : Nat) (ho : o.op = .slice t x (some y1) none none) (ht : T t = some ⟨.slice e, s0, b0, z0⟩) (hj : T e = some ⟨d1, s1, b1, z1⟩)
    (hx : opv env x = .v (.one (.d (.sl n k el)))) (hk : s1 = k) (hlo : opv env y1 = vI k1 l) (h1 : l ≤ n) : OpVal P N env M o (.v (.one (.d (.sl (n - l) k fun p q => el (l + p) q)))) :=
  OpVal.sliceD hT (h := n) ho ht rfl hj hk hx ⟨_, hlo⟩ rfl h1 (Nat.le_refl _)
theorem OpVal.slH {T : TypeId → Option TyI} (hT : TOk P T) {t e : TypeId} {x y2 : Operand} {n k s0 b0 s1 b1 : Nat} {z0 z1 : Value} {d1 : TypeDesc} {k2 : IntKind} {el : Nat → Nat → DV} (h : Nat) (ho : o.op = .slice t x none (some y2) none) (ht : T t = some ⟨.slice e, s0, b0, z0⟩) (hj : T e = some ⟨d1, s1, b1, z1⟩)
    (hx : opv env x = .v (.one (.d (.sl n k el)))) (hk : s1 = k) (hhi : opv env y2 = vI k2 h) (h2 : h ≤ n) : OpVal P N env M o (.v (.one (.d (.sl (h - 0) k fun p q => el (0 + p) q)))) :=
  OpVal.sliceD hT (l := 0) ho ht rfl hj hk hx rfl ⟨_, hhi⟩ (Nat.zero_le _) h2
end
end Go.Proofs.YtpgkbnefhhcfcaaGreatDoor.DL
set_option linter.unusedVariables false
set_option linter.unusedSimpArgs false
set_option linter.constructorNameAsVariable false
namespace Go.Proofs.YtpgkbnefhhcfcaaGreatDoor.DL
open Go.RowKit

section
variable {P : Program} {N : Nat} {ops : Array Oper} {Q : DPost} {env : Env} {M M0 : Mem} {o : Oper} {rest : List Oper}

theorem wp_exits {Q0 Q1 : Exit → Act → World → Prop} {a : Act} {w : World} {K K' : Act → World → Prop} (hK : ∀ a w, K a w → K' a w) (hQ : ∀ e a w, e ≠ .normal → Q0 e a w → Q1 e a w)
    (hh : o.wp P a w K Q0) : o.wp P a w K' Q1 := by
  unfold Oper.wp at *
  generalize (execOp a.eval o).run P w = r at *
  have out : LetsOut Q0 → LetsOut Q1 := fun ⟨a, w, h⟩ => ⟨a, w, hQ _ _ _ (by simp) h⟩
  cases r with
  | ok n w' =>
    cases n <;> simp only [Oper.upon] at hh ⊢ <;>
      first
        | exact hK _ _ hh
        | exact Calls.mono hh (fun e w'' he => by cases e <;> first | exact hK _ _ he | exact hQ _ _ _ (by simp) he | exact out he)
        | exact Rows.mono hh (fun _ _ he => hK _ _ he)
  | halt x w' => cases x <;> simp only [Oper.upon] at hh ⊢ <;> first | exact hh | exact hQ _ _ _ (by simp) hh

def DAny (P : Program) (N : Nat) (M0 : Mem) (ops : Array Oper) (Q : DPost) : Nat → Array Bool → Env → Mem → Prop
  | 0, listed, env, M => Region.ready .any ops listed = [] ∧ Q .normal env M
  | f + 1, listed, env, M => (Region.ready .any ops listed = [] → Q .normal env M) ∧
      ∀ i ∈ Region.ready .any ops listed, ∀ o, ops[i]? = some o → DOps P N M0 ops (thenQ (DAny P N M0 ops Q f (listed.setIfInBounds i true)) Q) [o] env M

theorem DAny.wp : ∀ (f : Nat) (listed : Array Bool) (env : Env) (M : Mem), DAny P N M0 ops Q f listed env M → ∀ x0 a w, x0.M0 = M0 → At x0 N env M a w → wpAny P .any ops (up x0 N Q) f listed a w
  | 0, listed, env, M, h, x0, a, w, _, hat => ⟨h.1, env, M, hat, h.2⟩
  | f + 1, listed, env, M, h, x0, a, w, hx, hat => ⟨fun e => ⟨env, M, hat, h.1 e⟩, fun i hi => by
      have K : ∀ a' w', wpList P ops (up x0 N (thenQ (DAny P N M0 ops Q f (listed.setIfInBounds i true)) Q)) [] a' w' → wpAny P .any ops (up x0 N Q) f (listed.setIfInBounds i true) a' w' := fun a' w' ⟨env', M', hat', hq⟩ => DAny.wp f _ env' M' hq x0 a' w' hx hat'
      have hQ : ∀ e a w, e ≠ .normal → up x0 N (thenQ (DAny P N M0 ops Q f (listed.setIfInBounds i true)) Q) e a w → up x0 N Q e a w := fun e a w hne ⟨env', M', hat', hq⟩ => ⟨env', M', hat', by cases e <;> first | exact absurd rfl hne | exact hq⟩
      unfold wpOp
      cases ho : ops[i]? with
      | none =>
        simp only [Region.ready, List.mem_filter, ho] at hi
        simp at hi
      | some o =>
        have h1 := h.2 i hi o ho x0 a w hx hat
        unfold wpList at h1
        simp only
        split
        · rename_i hw
          rw [if_pos hw] at h1
          exact h1.imp (wp_exits K hQ) fun ⟨h2, a2, _, h3⟩ => ⟨h2, a2, _, hQ _ _ _ (by simp) h3⟩
        · rename_i hw
          rw [if_neg hw] at h1
          exact K _ _ h1⟩

def readyL (l : List Oper) (L : List Bool) : List Nat :=
  (List.range l.length).filter fun i => !L.getD i true && match l[i]? with | none => false | some o => (ons o).all fun j => L.getD j false
theorem readyL_eq (l : List Oper) (L : List Bool) : Region.ready .any l.toArray L.toArray = readyL l L := by
  unfold Region.ready readyL
  simp only [List.size_toArray, List.getElem?_toArray]
  apply List.filter_congr
  intro i _
  have e1 : L.toArray.getD i true = L.getD i true := by simp [Array.getD_eq_getD_getElem?, List.getD_eq_getElem?_getD]
  rw [e1]
  cases l[i]? with
  | none => rfl
  | some o =>
    simp only [Option.map_some, Option.getD_some, ons]
    congr 1
    rw [Bool.eq_iff_iff, Array.all_eq_true', List.all_eq_true]
    simp only [List.mem_map, List.mem_filter, Array.mem_toList_iff]
    constructor
    · rintro h j ⟨e, ⟨he, hb⟩, rfl⟩
      have := h e he
      simpa [hb, Array.getD_eq_getD_getElem?, List.getD_eq_getElem?_getD] using this
    · intro h e he
      cases hb : Region.binds .any e with
      | false => rfl
      | true =>
        have := h e.on ⟨e, ⟨he, hb⟩, rfl⟩
        simpa [Array.getD_eq_getD_getElem?, List.getD_eq_getElem?_getD] using this

theorem DCode.any {id : Nat} {l : List Oper} (n : Nat) (hn : l.length = n) (hm : P.follows .mixedOrders = true) (h : DAny P N M0 l.toArray Q n (List.replicate n false).toArray env M) : DCode P N M0 (.region id l.toArray true) Q env M := fun x0 a w hx hat => by
  subst hn
  refine wp_region_any hm (DAny.wp _ _ _ _ ?_ x0 a _ hx hat.drew)
  simpa using h

def DAlts (P : Program) (N : Nat) (M0 : Mem) (l : List Oper) (Q : DPost) (f : Nat) (L : List Bool) (env : Env) (M : Mem) : List Nat → Prop
  | [] => True
  | i :: r => (∃ o, l[i]? = some o ∧ DOps P N M0 l.toArray (thenQ (DAny P N M0 l.toArray Q f (L.set i true).toArray) Q) [o] env M) ∧ DAlts P N M0 l Q f L env M r

section
variable {l : List Oper} {f : Nat} {L : List Bool}
theorem DAlts.all : ∀ {is : List Nat}, DAlts P N M0 l Q f L env M is → ∀ i ∈ is, ∀ o, l.toArray[i]? = some o → DOps P N M0 l.toArray (thenQ (DAny P N M0 l.toArray Q f (L.toArray.setIfInBounds i true)) Q) [o] env M
  | [], _, i, hi, _, _ => by cases hi
  | j :: r, ⟨⟨o', h1, h2⟩, h3⟩, i, hi, o, ho => by
    rcases List.mem_cons.1 hi with rfl | hi
    · rw [List.getElem?_toArray, h1] at ho
      obtain rfl := Option.some.inj ho
      rw [List.setIfInBounds_toArray]
      exact h2
    · exact h3.all i hi o ho

theorem DAny.intro (i : Nat) (is : List Nat) (hr : readyL l L = i :: is) (h : DAlts P N M0 l Q f L env M (i :: is)) : DAny P N M0 l.toArray Q (f + 1) L.toArray env M := by
  have e : Region.ready .any l.toArray L.toArray = i :: is := by rw [readyL_eq, hr]
  exact ⟨fun e' => (by rw [e] at e'; cases e'), by rw [e]; exact h.all⟩
theorem DAny.fin (hr : readyL l L = []) (h : Q .normal env M) : DAny P N M0 l.toArray Q f L.toArray env M := by
  have e : Region.ready .any l.toArray L.toArray = [] := by rw [readyL_eq, hr]
  cases f with
  | zero => exact ⟨e, h⟩
  | succ f => exact ⟨fun _ => h, by rw [e]; intro i hi; cases hi⟩
theorem DAlts.cons {i : Nat} {r : List Nat} (ho : l[i]? = some o) (h : DOps P N M0 l.toArray (thenQ (DAny P N M0 l.toArray Q f (L.set i true).toArray) Q) [o] env M) (hr : DAlts P N M0 l Q f L env M r) : DAlts P N M0 l Q f L env M (i :: r) := ⟨⟨o, ho, h⟩, hr⟩
theorem DAlts.nil : DAlts P N M0 l Q f L env M [] := trivial
end
end
end Go.Proofs.YtpgkbnefhhcfcaaGreatDoor.DL
set_option linter.unusedVariables false
set_option linter.unusedSimpArgs false
set_option linter.constructorNameAsVariable false
namespace Go.Proofs.YtpgkbnefhhcfcaaGreatDoor.DL
open Go.RowKit

section
variable {P : Program} {N : Nat} {ops : Array Oper} {Q : DPost} {env : Env} {M M0 : Mem} {o : Oper} {rest : List Oper}

/-- What an operation waits for, and what that waits for .. -/
inductive Reach (l : List Oper) : Nat → Nat → Prop
  | one {i j : Nat} {o : Oper} (ho : l[i]? = some o) (h : j ∈ ons o) : Reach l i j
  | more {i m j : Nat} {o : Oper} (ho : l[i]? = some o) (h : m ∈ ons o) (r : Reach l m j) : Reach l i j

def maskOf (ms : List Nat) (o : Oper) : Nat := (ons o).foldl (fun s j => s ||| (2 ^ j ||| ms.getD j 0)) 0
def masks (l : List Oper) : List Nat := l.foldl (fun ms o => ms ++ [maskOf ms o]) []

theorem maskOf_bit (ms : List Nat) (o : Oper) (j : Nat) (h : (maskOf ms o).testBit j = true) : ∃ m ∈ ons o, m = j ∨ (ms.getD m 0).testBit j = true := by
  have key : ∀ (js : List Nat) (s : Nat), (js.foldl (fun s j => s ||| (2 ^ j ||| ms.getD j 0)) s).testBit j = true → s.testBit j = true ∨ ∃ m ∈ js, m = j ∨ (ms.getD m 0).testBit j = true := by
    intro js
    induction js with
    | nil => intro s h; exact .inl h
    | cons a js ih =>
      intro s h
      rcases ih _ h with h | ⟨m, hm, hh⟩
      · rw [Nat.testBit_or, Nat.testBit_or, Bool.or_eq_true, Bool.or_eq_true, Nat.testBit_two_pow] at h
        rcases h with h | h | h
        · exact .inl h
        · exact .inr ⟨a, by simp, .inl (by simpa using h)⟩
        · exact .inr ⟨a, by simp, .inr h⟩
      · exact .inr ⟨m, by simp [hm], hh⟩
  rcases key _ 0 h with h | h
  · simp at h
  · exact h

theorem masks_reach (l : List Oper) : ∀ (i j : Nat), ((masks l).getD i 0).testBit j = true → Reach l i j := by
  have key : ∀ (r p : List Oper) (ms : List Nat), p ++ r = l → ms.length = p.length → (∀ i j, (ms.getD i 0).testBit j = true → Reach l i j) →
      ∀ i j, ((r.foldl (fun ms o => ms ++ [maskOf ms o]) ms).getD i 0).testBit j = true → Reach l i j := by
    intro r
    induction r with
    | nil => intro p ms _ _ h; exact h
    | cons o r ih =>
      intro p ms hp hl h
      refine ih (p ++ [o]) _ (by simp [← hp]) (by simp [hl]) fun i j hb => ?_
      by_cases hi : i < ms.length
      · refine h i j ?_
        rw [List.getD_eq_getElem?_getD, List.getElem?_append_left hi, ← List.getD_eq_getElem?_getD] at hb
        exact hb
      · by_cases he : i = ms.length
        · subst he
          rw [List.getD_eq_getElem?_getD, List.getElem?_append_right (Nat.le_refl _)] at hb
          simp only [Nat.sub_self, List.getElem?_cons_zero, Option.getD_some] at hb
          obtain ⟨m, hm, hh⟩ := maskOf_bit ms o j hb
          have ho : l[ms.length]? = some o := by rw [← hp, hl, List.getElem?_append_right (Nat.le_refl _)]; simp
          rcases hh with rfl | hh
          · exact .one ho hm
          · exact .more ho hm (h m j hh)
        · rw [List.getD_eq_getElem?_getD, List.getElem?_append_right (by omega), List.getElem?_eq_none (by simp; omega)] at hb
          simp at hb
  exact key l [] [] rfl rfl fun i j h => by simp at h

theorem reach_listed {l : List Oper} {S : Nat → Bool} (hcl : ∀ (i : Nat) o, l[i]? = some o → S i = true → ∀ j ∈ ons o, S j = true) {i j : Nat} (h : Reach l i j) : (∀ o, l[i]? = some o → ∀ j ∈ ons o, S j = true) → S j = true := by
  induction h with
  | one ho h => exact fun k => k _ ho _ h
  | more ho h r ih => exact fun k => ih fun o ho' j hj => hcl _ o ho' (k _ ho _ h) j hj

theorem DAny.more : ∀ (f g : Nat) (L : Array Bool) (env : Env) (M : Mem), f ≤ g → DAny P N M0 ops Q f L env M → DAny P N M0 ops Q g L env M
  | 0, 0, _, _, _, _, h => h
  | 0, g + 1, L, env, M, _, h => ⟨fun _ => h.2, fun i hi => (by rw [h.1] at hi; cases hi)⟩
  | f + 1, g + 1, L, env, M, hle, h => ⟨h.1, fun i hi o ho => by
      intro x0 a w hx hat
      have h1 := h.2 i hi o ho x0 a w hx hat
      have hup : ∀ e a w, up x0 N (thenQ (DAny P N M0 ops Q f (L.setIfInBounds i true)) Q) e a w → up x0 N (thenQ (DAny P N M0 ops Q g (L.setIfInBounds i true)) Q) e a w := fun e a w ⟨env', M', hat', hq⟩ => ⟨env', M', hat', by
        cases e with
        | normal => exact DAny.more f g _ _ _ (by omega) hq
        | _ => exact hq⟩
      unfold wpList at h1 ⊢
      split
      · rename_i hw
        rw [if_pos hw] at h1
        exact h1.imp (wp_exits (fun a w h => hup _ _ _ h) fun e a w _ h => hup e a w h) fun ⟨h2, a2, w2, h3⟩ => ⟨h2, a2, w2, hup _ _ _ h3⟩
      · rename_i hw
        rw [if_neg hw] at h1
        exact hup _ _ _ h1⟩

/-- The same, step by step. -/
def DDr2 (P : Program) (N : Nat) (M0 : Mem) (l0 : List Oper) (Q : DPost) (k0 : Nat) : Nat → List Oper → Env → Mem → Prop
  | 0, _, env, M => DAny P N M0 l0.toArray Q (l0.length - k0) (List.replicate k0 true ++ List.replicate (l0.length - k0) false).toArray env M
  | k + 1, o :: l, env, M => ∃ r d, o.dst = some d ∧ Nat.blt d N = true ∧ OpQ P N M0 l0.toArray (restr env (o.looksAt l0.toArray)) M o r ∧ DDr2 P N M0 l0 Q k0 k l ((d, r) :: env) M
  | _ + 1, [], _, _ => False

theorem DDr2.split {l0 : List Oper} {k0 : Nat} : ∀ (k : Nat) (l : List Oper) (env : Env), DDr2 P N M0 l0 Q k0 k l env M → ∃ dr : List (Nat × SV), dr.length = k ∧ k ≤ l.length ∧
    (∀ (i d : Nat) (r : SV), dr[i]? = some (d, r) → ∃ o, l[i]? = some o ∧ o.dst = some d ∧ d < N ∧ OpQ P N M0 l0.toArray (restr ((dr.take i).reverse ++ env) (o.looksAt l0.toArray)) M o r) ∧ DDr2 P N M0 l0 Q k0 0 [] (dr.reverse ++ env) M
  | 0, l, env, h => ⟨[], rfl, Nat.zero_le _, fun i d r hi => by simp at hi, h⟩
  | k + 1, [], env, h => h.elim
  | k + 1, o :: l, env, h => by
    obtain ⟨r, d, h1, h2, h3, h4⟩ := h
    obtain ⟨dr, a1, a2, a3, a4⟩ := DDr2.split k l _ h4
    refine ⟨(d, r) :: dr, by simp [a1], by simpa using a2, fun i d' r' hi => ?_, by simpa using a4⟩
    cases i with
    | zero =>
      simp at hi
      obtain ⟨rfl, rfl⟩ := hi
      exact ⟨o, rfl, h1, by simpa using h2, by simpa using h3⟩
    | succ i =>
      obtain ⟨o', b1, b2, b3, b4⟩ := a3 i d' r' (by simpa using hi)
      exact ⟨o', by simpa using b1, b2, b3, by simpa using b4⟩

theorem DDr2.val {l0 l : List Oper} {k0 k d : Nat} {r : SV} (hg : gd l0.toArray (restr env (o.looksAt l0.toArray)) o = some true) (hd : o.dst = some d) (hN : Nat.blt d N = true) (hv : OpVal P N (restr env (o.looksAt l0.toArray)) M o r) (h : DDr2 P N M0 l0 Q k0 k l ((d, r) :: env) M) :
    DDr2 P N M0 l0 Q k0 (k + 1) (o :: l) env M := by
  refine ⟨r, d, hd, hN, .inr ⟨hg, fun γ Pr x0 a w Q' hx hr hf => ?_⟩, h⟩
  obtain ⟨hok, v, hrun, hrep⟩ := hv γ Pr x0 a w hr
  unfold Oper.wp
  rw [hrun, Oper.upon_value]
  exact ⟨v, Pr, rfl, hrep, hok, fun e2 h2 => ⟨h2, hf⟩⟩
theorem DDr2.off {l0 l : List Oper} {k0 k d : Nat} (hg : gd l0.toArray (restr env (o.looksAt l0.toArray)) o = some false) (hd : o.dst = some d) (hN : Nat.blt d N = true) (h : DDr2 P N M0 l0 Q k0 k l ((d, .tup []) :: env) M) : DDr2 P N M0 l0 Q k0 (k + 1) (o :: l) env M :=
  ⟨.tup [], d, hd, hN, .inl ⟨hg, rfl⟩, h⟩
theorem DDr2.call {l0 l : List Oper} {k0 k d : Nat} {cl : Call} {f : FuncId} {fn : Func} {c : Code} {ts rs : List TV} (hg : gd l0.toArray (restr env (o.looksAt l0.toArray)) o = some true) (hd : o.dst = some d) (hN : Nat.blt d N = true) (ho : o.op = .call cl) (hcl : cl.callee = .value (.func f))
    (hf : P.funcs[f]? = some fn) (hb : fn.body = some c) (hn : (fn.name == "runtime.NumGoroutine") = false) (hx : opvs (restr env (o.looksAt l0.toArray)) cl.args.toList = some ts) (hp : ∀ t ∈ ts, t.pure) (hc : DCalls P f ts (· = rs))
    (h : DDr2 P N M0 l0 Q k0 k l ((d, ret1 rs) :: env) M) : DDr2 P N M0 l0 Q k0 (k + 1) (o :: l) env M := by
  refine ⟨ret1 rs, d, hd, hN, .inr ⟨hg, fun γ Pr x0 a w Q' _ hr hfr => ?_⟩, h⟩
  unfold Oper.wp
  rw [run_call ho hcl hf hb hn a.eval rfl, Oper.upon_enter]
  have hargs : cl.args.map a.eval = (cl.args.toList.map a.eval).toArray := by apply Array.ext'; rw [Array.toList_map]
  rw [hargs]
  refine (hc Pr w _ hr.prot ((opvs_rep hr _ _ hx).pure hp)).mono fun e w' ⟨us, rs', Pr', he, hB, hE, hV, hR, hP, hQ⟩ => ?_
  subst he
  subst hQ
  exact ⟨_, Pr', rfl, SRep.ret1 (hR.pure hP), ret1_ok hP, fun e2 h2 => ⟨h2.called hB hE hV, hfr.called hr hB hE⟩⟩
/-- The first ones are through: the rest, in each of its orders. -/
theorem DDr2.done {l0 l : List Oper} {k0 : Nat} {L : List Bool} (n : Nat) (hn : l0.length - k0 = n) (hL : List.replicate k0 true ++ List.replicate (l0.length - k0) false = L) (h : DAny P N M0 l0.toArray Q n L.toArray env M) : DDr2 P N M0 l0 Q k0 0 l env M := by
  subst hn hL
  exact h

/-- What is known behind a statement, told once: up's slots, ds are forgotten; mup's blocks. -/
theorem DCode.cut {c : Code} (up : Env) (ds : List Nat) (mup : Mem) (hu : okE (mup ++ M) up) (hm : okM (mup ++ M) mup)
    (h1 : DCode P N M0 c (fun e env' M' => e = .normal ∧ Sub (up ++ junks ds env) env' ∧ MSubX [] (mup ++ M) M') env M)
    (h2 : ∀ env' M', Wk N M0 env' M' (up ++ junks ds env) (mup ++ M) → Q .normal env' M') : DCode P N M0 c Q env M := by
  intro x0 a w hx hat
  obtain ⟨γ, Pr, hrel, hfr⟩ := hat
  have hh := okM_has (M := M) mup hm
  refine wp_mono (h1 x0 a w hx ⟨γ, Pr, hrel, hfr⟩) fun e a' w' ⟨env', M', hat', he, hs, hms⟩ => ?_
  subst he
  refine ⟨_, _, hat', ?_⟩
  refine h2 _ _ (Wk.both hs hms.sub (okE_lk _ _ hu fun i => ?_) (okM_get _ hm fun b k hk => Blk.ok_le hh (hrel.memB b k hk)) fun b hb => hh b (hfr.has b (by rw [hx]; exact hb)))
  rw [lk_junks]
  split
  · trivial
  · exact SV.ok_le hh (hrel.slotB i)
/-- Data told in another way. -/
theorem OpVal.re {x y : DV} (h : OpVal P N env M o (.v (.one (.d x)))) (e : DEq x y) : OpVal P N env M o (.v (.one (.d y))) := fun γ Pr x0 a w hr => by
  obtain ⟨_, v, h1, h2⟩ := h γ Pr x0 a w hr
  exact ⟨trivial, v, h1, e _ _ _ h2⟩
end
end Go.Proofs.YtpgkbnefhhcfcaaGreatDoor.DL
set_option linter.unusedVariables false
set_option linter.unusedSimpArgs false
set_option linter.constructorNameAsVariable false
namespace Go.Proofs.YtpgkbnefhhcfcaaGreatDoor.DL
open Go.RowKit

section
variable {P : Program} {N : Nat} {ops : Array Oper} {Q : DPost} {env : Env} {M M0 : Mem} {γ γ' : Cn} {Pr Pr' : Prot} {x0 : Ctx} {w w' : World} {a : Act} {o : Oper} {rest : List Oper}

/-- An operation yields data that may lie in new memory; nothing that was there is written. -/
def OpNew (P : Program) (N : Nat) (env : Env) (M : Mem) (o : Oper) (r : SV) : Prop :=
  ∀ γ Pr x0 a w, Rel γ Pr x0 N env M a w → r.ok M ∧ ∃ v w' Pr', (execOp a.eval o).run P w = .ok (.value v) w' ∧ Below w.heap.size w w' ∧ PExt Pr Pr' (fun k => w.heap.size ≤ k) ∧ (∀ b o, Pr' b o → b < w'.heap.size) ∧ SRep γ Pr' w' r v

theorem DOps.new {d : Nat} {r : SV} (hg : gd ops env o = some true) (hd : o.dst = some d) (hN : Nat.blt d N = true) (hv : OpNew P N env M o r) (h : DOps P N M0 ops Q rest ((d, r) :: env) M) : DOps P N M0 ops Q (o :: rest) env M := by
  have he : putd o.dst r env = (d, r) :: env := by rw [hd]; rfl
  rw [← he] at h
  have hd := dstOk_of hd hN
  refine DOps.eff hg (fun x0 a w _ ⟨γ, Pr, hr, hp⟩ => ?_) h
  obtain ⟨hok, v, w', Pr', hrun, hB, hE, hV, hrep⟩ := hv γ Pr x0 a w hr
  exact ⟨v, w', .inl hrun, γ, Pr', (hr.called hB hE hV).put (dstOk_spec hd) hrep hok, hp.called hr hB hE⟩
theorem DDr.new {k d : Nat} {r : SV} (hg : gd ops (restr env (o.looksAt ops)) o = some true) (hd : o.dst = some d) (hN : Nat.blt d N = true) (hv : OpNew P N (restr env (o.looksAt ops)) M o r) (h : DDr P N M0 ops Q k rest ((d, r) :: env) M) :
    DDr P N M0 ops Q (k + 1) (o :: rest) env M := by
  refine ⟨r, d, hd, hN, .inr ⟨hg, fun γ Pr x0 a w Q' hx hr hf => ?_⟩, h⟩
  obtain ⟨hok, v, w', Pr', hrun, hB, hE, hV, hrep⟩ := hv γ Pr x0 a w hr
  unfold Oper.wp
  rw [hrun, Oper.upon_value]
  exact ⟨v, Pr', rfl, hrep, hok, fun e2 h2 => ⟨h2.called hB hE hV, hf.called hr hB hE⟩⟩
theorem DDr2.new {l0 l : List Oper} {k0 k d : Nat} {r : SV} (hg : gd l0.toArray (restr env (o.looksAt l0.toArray)) o = some true) (hd : o.dst = some d) (hN : Nat.blt d N = true) (hv : OpNew P N (restr env (o.looksAt l0.toArray)) M o r) (h : DDr2 P N M0 l0 Q k0 k l ((d, r) :: env) M) :
    DDr2 P N M0 l0 Q k0 (k + 1) (o :: l) env M := by
  refine ⟨r, d, hd, hN, .inr ⟨hg, fun γ Pr x0 a w Q' hx hr hf => ?_⟩, h⟩
  obtain ⟨hok, v, w', Pr', hrun, hB, hE, hV, hrep⟩ := hv γ Pr x0 a w hr
  unfold Oper.wp
  rw [hrun, Oper.upon_value]
  exact ⟨v, Pr', rfl, hrep, hok, fun e2 h2 => ⟨h2.called hB hE hV, hf.called hr hB hE⟩⟩

/-- A row of m cells of zeros. -/
def zrow (z : Value) (m : Nat) : List CV := (List.range m).map fun i => .d (.sc (z.cells[i % z.cells.size]!))
theorem zrow_rep {z : Value} {m : Nat} (h1 : z.cells.toList.all (·.oneCell') = true) (h0 : 0 < m → 0 < z.cells.size) :
    LRep γ Pr w (zrow z m) ((List.range m).map fun i => z.cells[i % z.cells.size]!) := by
  refine ⟨by simp [zrow], fun i c hc => ?_⟩
  simp only [zrow, List.getElem?_map, Option.map_eq_some_iff] at hc
  obtain ⟨j, hj, rfl⟩ := hc
  have hjm : j < m := by
    have := List.mem_of_getElem? hj
    simpa using this
  refine ⟨_, by rw [List.getElem?_map, hj]; rfl, ?_, rfl⟩
  have hlt : j % z.cells.size < z.cells.size := Nat.mod_lt _ (h0 (by omega))
  rw [getElem!_pos z.cells _ hlt]
  exact List.all_eq_true.1 h1 _ (by rw [← Array.getElem_toList]; exact List.getElem_mem _)

theorem LRep.drep {ds : List DV} {vs : List Value} (h : LRep γ Pr w (ds.map .d) vs) {i : Nat} {d : DV} (hd : ds[i]? = some d) : ∃ u, vs[i]? = some u ∧ DRep Pr w d u :=
  h.2 i (.d d) (by rw [List.getElem?_map, hd]; rfl)

/-- A slice that is written out: its elements are never written again. -/
theorem OpNew.bsl {T : TypeId → Option TyI} (hT : TOk P T) {t e : TypeId} {i j : TyI} {parts : Array (Nat × Operand)} {n k : Nat} {ps : List (Nat × TV)} (ds : List DV) (el : Nat → Nat → DV) (ho : o.op = .buildSlice t n parts) (ht : T t = some i) (hd : i.desc = .slice e) (hj : T e = some j)
    (hk : j.size = k) (hps : opParts env parts.toList = some ps) (hmax : Nat.ble (n * k) 16777216 = true) (hz1 : j.zero.cells.toList.all (·.oneCell') = true) (hz0 : Nat.blt 0 j.zero.cells.size = true)
    (hf : fillC (fun m => some (m * k, k)) (zrow j.zero (n * k)) ps = some (ds.map .d)) (hel : ∀ p, p < n → ∀ q, q < k → ds[p * k + q]? = some (el p q)) : OpNew P N env M o (.v (.one (.d (.sl n k el)))) := fun γ Pr x0 a w h => by
  obtain ⟨h1, h2, h3⟩ := opParts_rep h _ _ hps
  have hu := run_under (w := w) hT ht
  rw [hd] at hu
  have hsz := run_sizeOf (w := w) hT hj
  have hzv := run_zeroValue (w := w) hT hj
  rw [hk] at hsz
  have hmax := Nat.le_of_ble_eq_true hmax
  have hz0 : 0 < j.zero.cells.size := by simpa using hz0
  obtain ⟨vs', hfill, hl⟩ := fillC_fill (γ := γ) (Pr := Pr) (w := w) (place := fun m => some (m * k, k)) ps (parts.toList.map fun p => (p.1, a.eval p.2)) (zrow j.zero (n * k)) (ds.map .d) _ (zrow_rep hz1 fun _ => hz0) (by simp [h1]) h3 hf
  have hfill' : Instr.fill (fun m => some (m * k, k)) ((Array.range (n * k)).map fun m => (if n * k = 0 then #[] else j.zero.cells)[m % (if n * k = 0 then #[] else j.zero.cells).size]!) (parts.toList.map fun p => (p.1, a.eval p.2)) = some vs'.toArray := by
    rw [← hfill]
    congr 1
    by_cases h0 : n * k = 0
    · rw [h0]; apply Array.ext'; simp
    · simp only [if_neg h0]
      apply Array.ext'
      simp
  have hnew : (w.alloc (.cells vs'.toArray e)).heap[w.heap.size]? = some (.cells vs'.toArray e (0, 0)) := heap_alloc_new w _
  have hB : Below w.heap.size w (w.alloc (.cells vs'.toArray e)) := (Below.refl _ _).alloc (Nat.le_refl _) _
  have hE : PExt Pr (fun b o => Pr b o ∨ b = w.heap.size) (fun m => w.heap.size ≤ m) := ⟨fun b o hp => .inl hp, fun b o hp => hp.elim .inl fun e => .inr (by omega)⟩
  have hsize : (w.alloc (.cells vs'.toArray e)).heap.size = w.heap.size + 1 := by simp
  refine ⟨trivial, .slice (some ⟨w.heap.size, 0, none⟩) n n, w.alloc (.cells vs'.toArray e), fun b o => Pr b o ∨ b = w.heap.size, ?_, hB, hE, fun b o hp => ?_, ?_⟩
  · simp only [execOp, ho]
    have : (Instr.buildSlice t n (parts.map fun p => (p.1, a.eval p.2))).run P w = .ok (.slice (some ⟨w.heap.size, 0, none⟩) n n) (w.alloc (.cells vs'.toArray e)) := by
      unfold Instr.buildSlice
      have hge : ¬ n * k > 2 ^ 24 := by omega
      rw [Sem.run_bind, hu]
      show Sem.run P (sizeOf e >>= _) w = _
      rw [Sem.run_bind, hsz]
      simp only [Result.andThen_ok, if_neg hge]
      by_cases h0 : n * k = 0
      · simp only [h0, if_true] at hfill' ⊢
        rw [Sem.run_bind]
        simp only [Sem.run_pure, Result.andThen_ok, Array.toList_map, hfill']
        simp [newRow]
      · simp only [if_neg h0] at hfill' ⊢
        rw [Sem.run_bind, hzv]
        simp only [Result.andThen_ok]
        rw [Sem.run_bind]
        simp only [Sem.run_pure, Result.andThen_ok, Array.toList_map, hfill']
        simp [newRow]
    rw [Sem.run_bind, this]
    rfl
  · rcases hp with hp | rfl
    · have := h.prot b o hp; omega
    · omega
  · refine ⟨_, n, rfl, Nat.le_refl _, fun _ => ⟨w.heap.size, 0, rfl, fun p hp q hq => ⟨.inr rfl, ?_⟩⟩⟩
    obtain ⟨u, hu1, hu2⟩ := LRep.drep (LRep.move (M := M) (Cn.agree_refl M γ) (hE.kept hB h.prot) (fun c hc => by
      obtain ⟨d, _, rfl⟩ := List.mem_map.1 hc
      trivial) hl) (hel p hp q hq)
    refine ⟨u, ?_, hu2⟩
    rw [Nat.zero_add, cell_of_row _ _ _ _ _ _ hnew]
    simpa using hu1
theorem OpVal.eqlBB {T : TypeId → Option TyI} (hT : TOk P T) {t t' : TypeId} {x y : Operand} {s b : Nat} {z : Value} {m n : Bool} (ho : o.op = .binOp .eql t x y t') (ht : T t = some ⟨.bool, s, b, z⟩) (hx : opv env x = vB m) (hy : opv env y = vB n) : OpVal P N env M o (vB (decide (m = n))) :=
  OpVal.of_run (v := .bool (decide (m = n))) trivial fun γ Pr x0 a w h => ⟨by
    have h3 := EqV.bool (m := m) (n := n) hT ht 10000 (by omega) γ Pr w (.bool m) (.bool n) ⟨rfl, rfl⟩ ⟨rfl, rfl⟩
    have h4 : (Op.equal t (.bool m) (.bool n)).run P w = .ok (decide (m = n)) w := h3
    simp only [execOp, ho, opB h hx, opB h hy, eqGuard, binOp]
    simp [h4], rfl, rfl⟩
end
end Go.Proofs.YtpgkbnefhhcfcaaGreatDoor.DL
set_option linter.unusedVariables false
set_option linter.unusedSimpArgs false
set_option linter.constructorNameAsVariable false
namespace Go.Proofs.YtpgkbnefhhcfcaaGreatDoor.DL
open Go.RowKit

section
variable {P : Program} {N : Nat} {ops : Array Oper} {Q : DPost} {env : Env} {M M0 : Mem} {γ γ' : Cn} {Pr Pr' : Prot} {x0 : Ctx} {w w' : World} {a : Act} {o : Oper} {rest : List Oper}

/-- A block is told anew, in a new world. -/
theorem Rel.setB (h : Rel γ Pr x0 N env M a w) {b : Nat} {k' : Blk} (hsim : Sim x0 w') (hsz : w.heap.size ≤ w'.heap.size) (K : Kept Pr w Pr w') (hb : BRep γ Pr w' x0 b k') (hok : k'.ok M)
    (hfar : ∀ x l g, x ≠ b → mget M x = some l → blockOf γ x l = some g → w'.heap[g]? = w.heap[g]? ∧ blockOf γ b k' ≠ some g) : Rel γ Pr x0 N env ((b, some k') :: M) a w' := by
  have G := Cn.agree_refl M γ
  have hsub : ∀ x, has M x → has ((b, some k') :: M) x := has_cons
  refine { size := h.size, slot := fun i => SRep.move G K (h.slotB i) (h.slot i), slotB := fun i => SV.ok_le hsub (h.slotB i), mem := fun x l hx => ?_, memB := fun x l hx => ?_, apart := fun x y l l' hx hy hne g hg => ?_,
           below := hsim, prot := h.prot.kept K fun b o hp => Nat.lt_of_lt_of_le (h.prot b o hp) hsz, defers := h.defers }
  · rw [mget_cons] at hx
    split at hx
    · rename_i e
      subst e
      obtain rfl := Option.some.inj hx
      exact hb
    · rename_i e
      exact BRep.move G (by rw [has, hx]; simp) K (fun g hg => (hfar x l g (Ne.symm e) hx hg).1) (fun _ _ _ p => p) (h.memB x l hx) (h.mem x l hx)
  · rw [mget_cons] at hx
    split at hx
    · obtain rfl := Option.some.inj hx
      exact Blk.ok_le hsub hok
    · exact Blk.ok_le hsub (h.memB x l hx)
  · rw [mget_cons] at hx hy
    split at hx
    · rename_i e1
      subst e1
      obtain rfl := Option.some.inj hx
      rw [if_neg hne] at hy
      intro e2
      exact (hfar y l' g (Ne.symm hne) hy e2).2 hg
    · split at hy
      · rename_i e1 e2
        subst e2
        obtain rfl := Option.some.inj hy
        exact (hfar x l g hne hx hg).2
      · exact h.apart x y l l' hx hy hne g hg
theorem From.setB (h : From x0 γ Pr M w) (K : Kept Pr w Pr w') (b : Nat) (l : Blk) : From x0 γ Pr ((b, some l) :: M) w' := h.step (Cn.agree_refl M γ) K (PExt.refl _ _) has_cons

/-- A nil slice as a row of one's own: an empty one. -/
theorem nilRow_rep (e : TypeId) (k : Nat) (b : Nat) : BRep γ Pr w x0 b (.row e k 0 (.slice none 0 0) [] false) :=
  ⟨[], World.ownsRow_nil w 0 e k, ⟨rfl, fun i c hc => by simp at hc⟩, fun g hg => by simp [Value.ownBlock] at hg⟩
theorem DOps.nilRow (b : Nat) (e : TypeId) (k : Nat) (h : DOps P N M0 ops Q rest env ((b, some (.row e k 0 (.slice none 0 0) [] false)) :: M)) : DOps P N M0 ops Q rest env M :=
  fun x0 a w hx ⟨γ, Pr, hr, hf⟩ => h x0 a w hx ⟨γ, Pr, hr.setB hr.below (Nat.le_refl _) (Kept.refl _ _) (nilRow_rep e k b) (fun c hc => by cases hc) (fun x l g _ _ _ => ⟨rfl, by simp [blockOf, Value.ownBlock]⟩), hf.setB (Kept.refl _ _) b _⟩
theorem DCode.nilRow {c : Code} (b : Nat) (e : TypeId) (k : Nat) (h : DCode P N M0 c Q env ((b, some (.row e k 0 (.slice none 0 0) [] false)) :: M)) : DCode P N M0 c Q env M :=
  fun x0 a w hx ⟨γ, Pr, hr, hf⟩ => h x0 a w hx ⟨γ, Pr, hr.setB hr.below (Nat.le_refl _) (Kept.refl _ _) (nilRow_rep e k b) (fun c hc => by cases hc) (fun x l g _ _ _ => ⟨rfl, by simp [blockOf, Value.ownBlock]⟩), hf.setB (Kept.refl _ _) b _⟩
/-- The nil constant, as that row. -/
theorem OpVal.nilRow {x : Operand} {b : Nat} {v : Value} (ho : o.op = .assign x ∨ o.op = .move x) (hx : opv env x = .v (.one (.d (.sc v)))) : OpVal P N env M o (.v (.one (.row b v))) := fun γ Pr x0 a w h => by
  have h1 := h.opv x
  rw [hx] at h1
  obtain ⟨h2, h3⟩ := h1
  refine ⟨trivial, v, ?_, rfl, h2⟩
  rcases ho with ho | ho <;> simp [execOp, ho, h3]

theorem sl_cells {el : Nat → Nat → DV} {m k : Nat} {v : Value} (h : DRep Pr w (.sl m k el) v) (hm : 0 < m) {ds : List DV} (hl : ds.length = m * k) (hel : ∀ p, p < m → ∀ q, q < k → ds[p * k + q]? = some (el p q)) :
    ∃ b o c news, v = .slice (some ⟨b, o, none⟩) m c ∧ news.length = m * k ∧ LRep γ Pr w (ds.map .d) news ∧ ∀ j u, news[j]? = some u → w.cell? ((⟨b, o, none⟩ : Addr).add j) = some u := by
  obtain ⟨A, c, hv, hc, hh⟩ := h
  obtain ⟨b, o, rfl, hcell⟩ := hh hm
  have each : ∀ j, j < m * k → ∃ u d, ds[j]? = some d ∧ w.cell? ⟨b, o + j, none⟩ = some u ∧ DRep Pr w d u := fun j hj => by
    have hk : 0 < k := by
      rcases Nat.eq_zero_or_pos k with h | h
      · rw [h, Nat.mul_zero] at hj; exact absurd hj (Nat.not_lt_zero _)
      · exact h
    have hp : j / k < m := Nat.div_lt_of_lt_mul (by rw [Nat.mul_comm]; exact hj)
    have hq : j % k < k := Nat.mod_lt _ hk
    have hj2 : j / k * k + j % k = j := by rw [Nat.mul_comm]; exact Nat.div_add_mod j k
    obtain ⟨_, u, hu, hd⟩ := hcell (j / k) hp (j % k) hq
    rw [hj2] at hu
    have := hel (j / k) hp (j % k) hq
    rw [hj2] at this
    exact ⟨u, _, this, hu, hd⟩
  obtain ⟨F, hF⟩ := Go.Deep.choose_lt (α := Value) (n := m * k) (p := fun j u => ∃ d, ds[j]? = some d ∧ w.cell? ⟨b, o + j, none⟩ = some u ∧ DRep Pr w d u) each
  refine ⟨b, o, c, (List.range (m * k)).map F, hv, by simp, ⟨by simp [hl], fun i c' hc' => ?_⟩, fun j u hj => ?_⟩
  · rw [List.getElem?_map, Option.map_eq_some_iff] at hc'
    obtain ⟨d, hd, rfl⟩ := hc'
    have hi : i < m * k := by rw [← hl]; exact (List.getElem?_eq_some_iff.1 hd).1
    obtain ⟨d', hd', hu, hr⟩ := hF i hi
    rw [hd] at hd'
    obtain rfl := Option.some.inj hd'
    exact ⟨F i, by simp [hi], hr⟩
  · rw [List.getElem?_map, Option.map_eq_some_iff] at hj
    obtain ⟨i, hi, rfl⟩ := hj
    obtain ⟨hlt, rfl⟩ := List.getElem?_eq_some_iff.1 hi
    simp only [List.length_range] at hlt
    rw [Go.WideShapes.add_plain]
    simp only [List.getElem_range]
    obtain ⟨_, _, hu, _⟩ := hF j hlt
    exact hu

/-- append, onto a row of one's own. -/
theorem DOps.append {T : TypeId → Option TyI} (hT : TOk P T) {t e : TypeId} {i j : TyI} {s x : Operand} {b k n m n' d : Nat} {v : Value} {cs cs' : List CV} (ds : List DV) {el : Nat → Nat → DV} (hg : gd ops env o = some true) (hd : o.dst = some d) (hN : Nat.blt d N = true)
    (ho : o.op = .call { callee := .builtin .append, args := #[s, x], argTypes := #[t, t] }) (ht : T t = some i) (hde : i.desc = .slice e) (hj : T e = some j) (hk : j.size = k) (hk0 : Nat.blt 0 k = true) (hzs : j.zero.cells.size = k)
    (hs : opv env s = .v (.one (.row b v))) (hm : mget M b = some (.row e k n v cs false)) (hx : opv env x = .v (.one (.d (.sl m k el)))) (hm0 : 0 < m) (hmax : (n + m) * j.bytes ≤ 140737488355328) (h63 : n + m ≤ maxLen)
    (hl : ds.length = m * k) (hel : ∀ p, p < m → ∀ q, q < k → ds[p * k + q]? = some (el p q))
    (hn' : n + m = n') (hcs' : cs ++ ds.map .d = cs') (h : ∀ v', DOps P N M0 ops Q rest ((d, .v (.one (.row b v'))) :: env) ((b, some (.row e k n' v' cs' false)) :: M)) : DOps P N M0 ops Q (o :: rest) env M := by
  subst hn' hcs'
  intro x0 a w hx0 ⟨γ, Pr, hr, hf⟩
  have hw := gd_wanted (ops := ops) hr hg
  unfold wpList
  rw [if_pos hw]
  refine .inl ?_
  have h1 := hr.opv s; have h2 := hr.opv x
  rw [hs] at h1; rw [hx] at h2
  obtain ⟨vs, hown, hl1, hg1⟩ := hr.mem b _ hm
  obtain ⟨bb, oo, c, news, hv2, hnl, hnr, hnc⟩ := sl_cells (γ := γ) h2 hm0 hl hel
  obtain ⟨hu, info, hi1, hi2, hi3, hi4⟩ := hT _ _ ht
  obtain ⟨_, info', hj1, hj2, hj3, hj4⟩ := hT _ _ hj
  rw [hde] at hu
  have h1e : a.eval s = v := h1.1
  have hk0 : 0 < k := by simpa using hk0
  obtain ⟨v', w', hrun, hown', hgrow, _, hat⟩ := run_append_own_at (P := P) w 0 t o.type e info' j.zero k j.bytes hu hj1 hj4 (by rw [hj2, hk]) hj3 hzs hk0 v n vs hown ⟨bb, oo, none⟩ m c news hnl hnc hnr.one h63 hmax (Nat.zero_le _)
  have hpg : ∀ g o, Pr g o → some g ≠ v.ownBlock := fun g o hp e => (hg1 g e.symm).2.2 rfl o hp
  have K : Kept Pr w Pr w' := ⟨fun _ _ x => x, fun g o hp => heap_cell (hgrow.block g (hr.prot g o hp) (hpg g o hp)) o⟩
  have hsim : Sim x0 w' := ⟨hgrow.os.trans hr.below.os, hgrow.tape.trans hr.below.tape, hgrow.output.trans hr.below.output, Nat.le_trans hr.below.size hgrow.size, fun q hq =>
    (hgrow.block q (Nat.lt_of_lt_of_le (may_lt hq) hr.below.size) (fun e => hq (hg1 q e.symm).1)).trans (hr.below.block q hq)⟩
  have G := Cn.agree_refl M γ
  have hrow : BRep γ Pr w' x0 b (.row e k (n + m) v' (cs ++ ds.map .d) false) := by
    refine ⟨vs ++ news, hown', ?_, fun g hgg => ?_⟩
    · have l1 := LRep.move (M := M) G K (hr.memB b _ hm) hl1
      have l2 := LRep.move (M := M) G K (fun c hc => by obtain ⟨d, _, rfl⟩ := List.mem_map.1 hc; trivial) hnr
      refine ⟨by simp [l1.1, l2.1], fun q c hc => ?_⟩
      by_cases hq : q < cs.length
      · rw [List.getElem?_append_left hq] at hc
        obtain ⟨u, hu, hr⟩ := l1.2 q c hc
        exact ⟨u, by rw [List.getElem?_append_left (by rw [l1.1]; exact hq)]; exact hu, hr⟩
      · rw [List.getElem?_append_right (by omega)] at hc
        obtain ⟨u, hu, hr⟩ := l2.2 _ c hc
        exact ⟨u, by rw [List.getElem?_append_right (by rw [l1.1]; omega), l1.1]; exact hu, hr⟩
    · rcases hat with e | e
      · rw [e] at hgg
        obtain ⟨a1, a2, a3⟩ := hg1 g hgg
        exact ⟨a1, fun o ho => a3 rfl o, fun _ => a3 rfl⟩
      · rw [e] at hgg
        obtain rfl := Option.some.inj hgg
        have np : ∀ o, ¬ Pr w.heap.size o := fun o hp => absurd (hr.prot _ o hp) (Nat.lt_irrefl _)
        exact ⟨.inl hr.below.size, fun o _ => np o, fun _ => np⟩
  have hok : (Blk.row e k (n + m) v' (cs ++ ds.map .d) false).ok M := fun c hc => by
    rcases List.mem_append.1 hc with hc | hc
    · exact hr.memB b _ hm c hc
    · obtain ⟨d, _, rfl⟩ := List.mem_map.1 hc
      trivial
  have hrel := hr.setB hsim hgrow.size K hrow hok fun x l g hxb hmx hbx => by
    have hne : some g ≠ v.ownBlock := fun e => hr.apart b x _ l hm hmx (Ne.symm hxb) g e.symm hbx
    have hlt := ((hr.mem x l hmx).lt g hbx).2
    refine ⟨hgrow.block g hlt hne, ?_⟩
    show v'.ownBlock ≠ some g
    rcases hat with e | e
    · rw [e]; exact Ne.symm hne
    · rw [e]; intro e2; exact absurd hlt (by have := Option.some.inj e2; omega)
  have hst : ({ callee := .builtin .append, args := #[s, x], argTypes := #[t, t] } : Call).args = #[s, x] := rfl
  unfold Oper.wp execOp
  simp only [ho, resolve, invoke, builtin, Sem.run_bind, Sem.run_pure, Result.andThen_ok, List.map_toArray, List.map_cons, List.map_nil, h1e, hv2, hrun, Oper.upon_value]
  have hone : v'.oneCell' = true := by
    rcases hown'.2 with ⟨e, _⟩ | ⟨g, cap, cur, e, _⟩ <;> rw [e] <;> rfl
  have hdd := dstOk_of hd hN
  have he : putd o.dst (.v (.one (.row b v'))) env = (d, .v (.one (.row b v'))) :: env := by rw [hd]; rfl
  refine h v' x0 _ w' hx0 ⟨γ, Pr, ?_, hf.setB K b _⟩
  rw [← he]
  exact hrel.put (dstOk_spec hdd) ⟨rfl, hone⟩ trivial

/-- From now on the row is only read. -/
theorem At.freeze (h : At x0 N env M a w) {b d e k n : Nat} {v : Value} {ds : List DV} {fz : Bool} {el : Nat → Nat → DV} (hm : mget M b = some (.row e k n v (ds.map .d) fz)) (hs : lk env d = .v (.one (.row b v)))
    (hel : ∀ p, p < n → ∀ q, q < k → ds[p * k + q]? = some (el p q)) : At x0 N ((d, .v (.one (.d (.sl n k el)))) :: env) ((b, some (.row e k n v (ds.map .d) true)) :: M) a w := by
  obtain ⟨γ, Pr, hr, hf⟩ := h
  obtain ⟨vs, hown, hl, hg⟩ := hr.mem b _ hm
  have h1 := hr.slot d
  rw [hs] at h1
  have hv : a.tmps.getD d undef = v := h1.1
  let Pr' : Prot := fun g o => Pr g o ∨ (v.ownBlock = some g ∧ o < n * k)
  have K : Kept Pr w Pr' w := ⟨fun _ _ x => .inl x, fun _ _ _ => rfl⟩
  have G := Cn.agree_refl M γ
  have hlt := (hr.mem b _ hm).lt
  have hsub : ∀ x, has M x → has ((b, some (Blk.row e k n v (ds.map .d) true)) :: M) x := has_cons
  have hE : PExt Pr Pr' x0.may := ⟨fun _ _ x => .inl x, fun g o hp => hp.imp id fun ⟨e, _⟩ => (hg g e).1⟩
  have hsl : DRep Pr' w (.sl n k el) v := by
    rcases hown.2 with ⟨rfl, rfl⟩ | ⟨g, cap, cur, rfl, _, hheap, hnc, _, hcs, htake⟩
    · exact ⟨none, 0, rfl, Nat.le_refl _, fun h => absurd h (Nat.lt_irrefl _)⟩
    · refine ⟨_, cap, rfl, hnc, fun _ => ⟨g, 0, rfl, fun p hp q hq => ?_⟩⟩
      have hpq : p * k + q < n * k := by
        have h1 : p * k + k ≤ n * k := by rw [← Nat.succ_mul]; exact Nat.mul_le_mul_right _ hp
        omega
      rw [Nat.zero_add]
      refine ⟨.inr ⟨rfl, hpq⟩, ?_⟩
      obtain ⟨u, hu, hd⟩ := LRep.drep hl (hel p hp q hq)
      refine ⟨u, ?_, DRep.kept K _ _ hd⟩
      rw [cell_of_row _ _ _ _ _ _ hheap, ← htake] at *
      rw [List.getElem?_take, if_pos hpq] at hu
      simpa using hu
  refine ⟨γ, Pr', ⟨hr.size, fun i => ?_, fun i => ?_, fun x l hx => ?_, fun x l hx => ?_, fun x y l l' hx hy hne g hg => ?_, hr.below, hr.prot.kept K fun g o hp => ?_, hr.defers⟩, ⟨hf.ext.trans hE, hf.cell, hf.lie, fun x hx => hsub x (hf.has x hx)⟩⟩
  · rw [lk]
    cases e : Nat.beq d i with
    | true =>
      obtain rfl := Nat.eq_of_beq_eq_true e
      show DRep Pr' w (.sl n k el) (a.tmps.getD d undef)
      rw [hv]; exact hsl
    | false => exact SRep.move (M := M) G K (hr.slotB i) (hr.slot i)
  · rw [lk]
    cases e : Nat.beq d i with
    | true => trivial
    | false => exact SV.ok_le hsub (hr.slotB i)
  · rw [mget_cons] at hx
    split at hx
    · rename_i e1
      subst e1
      obtain rfl := Option.some.inj hx
      refine ⟨vs, hown, LRep.move (M := M) G K (hr.memB _ _ hm) hl, fun g hgg => ?_⟩
      obtain ⟨a1, a2, a3⟩ := hg g hgg
      exact ⟨a1, fun o ho hp => hp.elim (a2 o ho) fun h => by omega, fun h => by cases h⟩
    · rename_i e1
      refine BRep.move G (by rw [has, hx]; simp) K (fun _ _ => rfl) (fun g hgx o hp => hp.elim id fun h => absurd hgx (hr.apart b x _ l hm hx e1 g h.1)) (hr.memB x l hx) (hr.mem x l hx)
  · rw [mget_cons] at hx
    split at hx
    · obtain rfl := Option.some.inj hx
      exact fun c hc => CV.ok_le hsub (hr.memB b _ hm c hc)
    · exact Blk.ok_le hsub (hr.memB x l hx)
  · rw [mget_cons] at hx hy
    split at hx
    · rename_i e1
      subst e1
      obtain rfl := Option.some.inj hx
      rw [if_neg hne] at hy
      exact hr.apart _ y _ l' hm hy hne g hg
    · split at hy
      · rename_i e1 e2
        subst e2
        obtain rfl := Option.some.inj hy
        exact hr.apart x _ l _ hx hm hne g hg
      · exact hr.apart x y l l' hx hy hne g hg
  · rcases hp with hp | ⟨e, _⟩
    · exact hr.prot g o hp
    · exact (hlt g e).2
theorem DOps.freeze {b d e k n : Nat} {v : Value} {fz : Bool} (ds : List DV) (el : Nat → Nat → DV) (hm : mget M b = some (.row e k n v (ds.map .d) fz)) (hs : lk env d = .v (.one (.row b v)))
    (hel : ∀ p, p < n → ∀ q, q < k → ds[p * k + q]? = some (el p q)) (h : DOps P N M0 ops Q rest ((d, .v (.one (.d (.sl n k el)))) :: env) ((b, some (.row e k n v (ds.map .d) true)) :: M)) : DOps P N M0 ops Q rest env M :=
  fun x0 a w hx hat => h x0 a w hx (hat.freeze hm hs hel)
theorem DCode.freeze {c : Code} {b d e k n : Nat} {v : Value} {fz : Bool} (ds : List DV) (el : Nat → Nat → DV) (hm : mget M b = some (.row e k n v (ds.map .d) fz)) (hs : lk env d = .v (.one (.row b v)))
    (hel : ∀ p, p < n → ∀ q, q < k → ds[p * k + q]? = some (el p q)) (h : DCode P N M0 c Q ((d, .v (.one (.d (.sl n k el)))) :: env) ((b, some (.row e k n v (ds.map .d) true)) :: M)) : DCode P N M0 c Q env M :=
  fun x0 a w hx hat => h x0 a w hx (hat.freeze hm hs hel)
/-- A slice that is written out, and grows. -/
theorem DOps.bslR {T : TypeId → Option TyI} (hT : TOk P T) {t e : TypeId} {i j : TyI} {parts : Array (Nat × Operand)} {n k d : Nat} {ps : List (Nat × TV)} (b : Nat) (cs : List CV) (hg : gd ops env o = some true) (hd : o.dst = some d) (hN : Nat.blt d N = true)
    (ho : o.op = .buildSlice t n parts) (ht : T t = some i) (hde : i.desc = .slice e) (hj : T e = some j) (hk : j.size = k) (hps : opParts env parts.toList = some ps) (hmax : Nat.ble (n * k) 16777216 = true) (hnmax : n ≤ maxLen)
    (hz1 : j.zero.cells.toList.all (·.oneCell') = true) (hz0 : Nat.blt 0 j.zero.cells.size = true) (hf : fillC (fun m => some (m * k, k)) (zrow j.zero (n * k)) ps = some cs) (hcl : cs.length = n * k)
    (h : ∀ v, DOps P N M0 ops Q rest ((d, .v (.one (.row b v))) :: env) ((b, some (.row e k n v cs false)) :: M)) : DOps P N M0 ops Q (o :: rest) env M := by
  intro x0 a w hx0 ⟨γ, Pr, hr, hfr⟩
  have hw := gd_wanted (ops := ops) hr hg
  unfold wpList
  rw [if_pos hw]
  refine .inl ?_
  obtain ⟨h1, h2, h3⟩ := opParts_rep hr _ _ hps
  have hu := run_under (w := w) hT ht
  rw [hde] at hu
  have hsz := run_sizeOf (w := w) hT hj
  have hzv := run_zeroValue (w := w) hT hj
  rw [hk] at hsz
  have hmax := Nat.le_of_ble_eq_true hmax
  have hz0 : 0 < j.zero.cells.size := by simpa using hz0
  obtain ⟨vs', hfill, hl⟩ := fillC_fill (γ := γ) (Pr := Pr) (w := w) (place := fun m => some (m * k, k)) ps (parts.toList.map fun p => (p.1, a.eval p.2)) (zrow j.zero (n * k)) cs _ (zrow_rep hz1 fun _ => hz0) (by simp [h1]) h3 hf
  have hok : ∀ c ∈ cs, c.ok M := fillC_ok ps _ cs (fun c hc => by
    simp only [zrow, List.mem_map] at hc
    obtain ⟨_, _, rfl⟩ := hc
    trivial) h2 hf
  have hfill' : Instr.fill (fun m => some (m * k, k)) ((Array.range (n * k)).map fun m => (if n * k = 0 then #[] else j.zero.cells)[m % (if n * k = 0 then #[] else j.zero.cells).size]!) (parts.toList.map fun p => (p.1, a.eval p.2)) = some vs'.toArray := by
    rw [← hfill]
    congr 1
    by_cases h0 : n * k = 0
    · rw [h0]; apply Array.ext'; simp
    · simp only [if_neg h0]
      apply Array.ext'
      simp
  have hrun : (Instr.buildSlice t n (parts.map fun p => (p.1, a.eval p.2))).run P w = .ok (.slice (some ⟨w.heap.size, 0, none⟩) n n) (w.alloc (.cells vs'.toArray e)) := by
    unfold Instr.buildSlice
    have hge : ¬ n * k > 2 ^ 24 := by omega
    rw [Sem.run_bind, hu]
    show Sem.run P (sizeOf e >>= _) w = _
    rw [Sem.run_bind, hsz]
    simp only [Result.andThen_ok, if_neg hge]
    by_cases h0 : n * k = 0
    · simp only [h0, if_true] at hfill' ⊢
      rw [Sem.run_bind]
      simp only [Sem.run_pure, Result.andThen_ok, Array.toList_map, hfill']
      simp [newRow]
    · simp only [if_neg h0] at hfill' ⊢
      rw [Sem.run_bind, hzv]
      simp only [Result.andThen_ok]
      rw [Sem.run_bind]
      simp only [Sem.run_pure, Result.andThen_ok, Array.toList_map, hfill']
      simp [newRow]
  have hnew : (w.alloc (.cells vs'.toArray e)).heap[w.heap.size]? = some (.cells vs'.toArray e (0, 0)) := heap_alloc_new w _
  have hB : Below w.heap.size w (w.alloc (.cells vs'.toArray e)) := (Below.refl _ _).alloc (Nat.le_refl _) _
  have K : Kept Pr w Pr (w.alloc (.cells vs'.toArray e)) := ⟨fun _ _ x => x, fun g o hp => heap_cell (hB.block g (hr.prot g o hp)) o⟩
  have np : ∀ o, ¬ Pr w.heap.size o := fun o hp => absurd (hr.prot _ o hp) (Nat.lt_irrefl _)
  have hrow : BRep γ Pr (w.alloc (.cells vs'.toArray e)) x0 b (.row e k n (.slice (some ⟨w.heap.size, 0, none⟩) n n) cs false) := by
    refine ⟨vs', ⟨by rw [hl.1, hcl], .inr ⟨w.heap.size, n, vs'.toArray, rfl, Nat.zero_le _, hnew, Nat.le_refl _, hnmax, by simp [hl.1, hcl], ?_⟩⟩, LRep.move (M := M) (Cn.agree_refl M γ) K hok hl, fun g hgg => ?_⟩
    · rw [List.take_of_length_le (by simp [hl.1, hcl])]
    · simp only [Value.ownBlock, Option.some.injEq] at hgg
      subst hgg
      exact ⟨.inl hr.below.size, fun o _ => np o, fun _ => np⟩
  have hrel := hr.setB (b := b) (hr.below.below hB) hB.size K hrow hok fun x l g hxb hmx hbx => by
    have hlt := ((hr.mem x l hmx).lt g hbx).2
    refine ⟨hB.block g hlt, ?_⟩
    simp only [blockOf, Value.ownBlock, ne_eq, Option.some.injEq]
    omega
  unfold Oper.wp
  simp only [execOp, ho, Sem.run_bind, hrun, Result.andThen_ok, Sem.run_pure, Oper.upon_value]
  have hdd := dstOk_of hd hN
  have he : putd o.dst (.v (.one (.row b (.slice (some ⟨w.heap.size, 0, none⟩) n n)))) env = (d, .v (.one (.row b (.slice (some ⟨w.heap.size, 0, none⟩) n n)))) :: env := by rw [hd]; rfl
  refine h (.slice (some ⟨w.heap.size, 0, none⟩) n n) x0 _ _ hx0 ⟨γ, Pr, ?_, hfr.setB K b _⟩
  rw [← he]
  exact hrel.put (dstOk_spec hdd) ⟨rfl, rfl⟩ trivial
end
end Go.Proofs.YtpgkbnefhhcfcaaGreatDoor.DL
set_option linter.unusedVariables false
set_option linter.unusedSimpArgs false
set_option linter.constructorNameAsVariable false
namespace Go.Proofs.YtpgkbnefhhcfcaaGreatDoor.DL
open Go.RowKit

section
variable {P : Program} {N : Nat} {ops : Array Oper} {Q : DPost} {env : Env} {M M0 : Mem} {γ γ' : Cn} {Pr Pr' : Prot} {x0 : Ctx} {w w' : World} {a : Act} {o : Oper} {rest : List Oper}

/-- From now on the variable is only read: its address is data. -/
theorem At.freezeBox (h : At x0 N env M a w) {b d n : Nat} {tb : TypeId} {ds : List DV} {el : Nat → DV} (hm : mget M b = some (.box tb (ds.map .d))) (hs : lk env d = .v (.one (.ptr b 0))) 
    (hel : ∀ p, p < n → ds[p]? = some (el p)) : At x0 N ((d, .v (.one (.d (.pp n el)))) :: env) ((b, some (.row 0 0 0 (.slice none 0 0) [] true)) :: M) a w := by
  obtain ⟨γ, Pr, hr, hf⟩ := h
  obtain ⟨hmay, ⟨vs, hheap, hl⟩, hnp⟩ := hr.mem b _ hm
  have h1 := hr.slot d
  rw [hs] at h1
  have hv : a.tmps.getD d undef = .pointer (some ⟨γ.blk b, 0, none⟩) := h1
  let Pr' : Prot := fun g o => Pr g o ∨ g = γ.blk b
  have K : Kept Pr w Pr' w := ⟨fun _ _ x => .inl x, fun _ _ _ => rfl⟩
  have G := Cn.agree_refl M γ
  have hlt := blk_lt' hheap
  have hsub : ∀ x, has M x → has ((b, some (Blk.row 0 0 0 (.slice none 0 0) [] true)) :: M) x := has_cons
  have hE : PExt Pr Pr' x0.may := ⟨fun _ _ x => .inl x, fun g o hp => hp.imp id fun e => by rw [e]; exact hmay⟩
  have hpp : DRep Pr' w (.pp n el) (.pointer (some ⟨γ.blk b, 0, none⟩)) := by
    refine ⟨γ.blk b, 0, rfl, fun j hj => ⟨.inr rfl, ?_⟩⟩
    obtain ⟨u, hu, hd⟩ := LRep.drep hl (hel j hj)
    refine ⟨u, ?_, DRep.kept K _ _ hd⟩
    rw [Nat.zero_add, blk_cell' hheap]
    simpa using hu
  refine ⟨γ, Pr', ⟨hr.size, fun i => ?_, fun i => ?_, fun x l hx => ?_, fun x l hx => ?_, fun x y l l' hx hy hne g hg => ?_, hr.below, hr.prot.kept K fun g o hp => ?_, hr.defers⟩, ⟨hf.ext.trans hE, hf.cell, hf.lie, fun x hx => hsub x (hf.has x hx)⟩⟩
  · rw [lk]
    cases e : Nat.beq d i with
    | true =>
      obtain rfl := Nat.eq_of_beq_eq_true e
      show DRep Pr' w (.pp n el) (a.tmps.getD d undef)
      rw [hv]; exact hpp
    | false => exact SRep.move (M := M) G K (hr.slotB i) (hr.slot i)
  · rw [lk]
    cases e : Nat.beq d i with
    | true => trivial
    | false => exact SV.ok_le hsub (hr.slotB i)
  · rw [mget_cons] at hx
    split at hx
    · rename_i e1
      obtain rfl := Option.some.inj hx
      exact ⟨[], World.ownsRow_nil w 0 _ _, ⟨rfl, fun i c hc => by simp at hc⟩, fun g hg => by simp [Value.ownBlock] at hg⟩
    · rename_i e1
      refine BRep.move G (by rw [has, hx]; simp) K (fun _ _ => rfl) (fun g hgx o hp => hp.elim id fun h => absurd hgx (hr.apart b x _ l hm hx e1 g (by rw [h]; rfl))) (hr.memB x l hx) (hr.mem x l hx)
  · rw [mget_cons] at hx
    split at hx
    · obtain rfl := Option.some.inj hx
      intro c hc; cases hc
    · exact Blk.ok_le hsub (hr.memB x l hx)
  · rw [mget_cons] at hx hy
    split at hx
    · obtain rfl := Option.some.inj hx
      simp [blockOf, Value.ownBlock] at hg
    · split at hy
      · obtain rfl := Option.some.inj hy
        simp [blockOf, Value.ownBlock]
      · exact hr.apart x y l l' hx hy hne g hg
  · rcases hp with hp | e
    · exact hr.prot g o hp
    · rw [e]; exact hlt
theorem DOps.freezeBox {b d n : Nat} {tb : TypeId} (ds : List DV) (el : Nat → DV) (hm : mget M b = some (.box tb (ds.map .d))) (hs : lk env d = .v (.one (.ptr b 0))) 
    (hel : ∀ p, p < n → ds[p]? = some (el p)) (h : DOps P N M0 ops Q rest ((d, .v (.one (.d (.pp n el)))) :: env) ((b, some (.row 0 0 0 (.slice none 0 0) [] true)) :: M)) : DOps P N M0 ops Q rest env M :=
  fun x0 a w hx hat => h x0 a w hx (hat.freezeBox hm hs hel)

/-- Captured values. -/
def capsOf (env : Env) : List Operand → Option (List DV)
  | [] => some []
  | x :: r => match opv env x, capsOf env r with
    | .v (.one (.d c)), some cs => some (c :: cs)
    | _, _ => none
theorem capsOf_rep (h : Rel γ Pr x0 N env M a w) : ∀ (l : List Operand) (ds : List DV), capsOf env l = some ds → ds.length = l.length ∧ ∀ (j : Nat) d, ds[j]? = some d → ∃ u, (l.map a.eval)[j]? = some u ∧ DRep Pr w d u
  | [], ds, hl => by simp [capsOf] at hl; subst hl; exact ⟨rfl, fun j d h => by simp at h⟩
  | x :: r, ds, hl => by
    simp only [capsOf] at hl
    have h1 := h.opv x
    split at hl
    · rename_i c cs hx hr
      obtain rfl := Option.some.inj hl
      obtain ⟨h2, h3⟩ := capsOf_rep h r cs hr
      rw [hx] at h1
      refine ⟨by simp [h2], fun j d hd => ?_⟩
      cases j with
      | zero => simp at hd; subst hd; exact ⟨_, rfl, h1⟩
      | succ j => exact h3 j d (by simpa using hd)
    · cases hl
/-- A function value, of data alone. -/
theorem OpVal.fn {f : FuncId} {caps : Array Operand} {ds : List DV} (z : DV) (ho : o.op = .makeFunc (.func f) #[] caps) (hc : capsOf env caps.toList = some ds) : OpVal P N env M o (.v (.one (.d (.fn f ds.length fun j => ds.getD j z)))) := fun γ Pr x0 a w h => by
  obtain ⟨h1, h2⟩ := capsOf_rep h _ _ hc
  refine ⟨trivial, .func (.func f) #[] (caps.map a.eval), ?_, caps.toList.map a.eval, ?_, by simp [h1], fun j hj => ?_⟩
  · simp [execOp, ho, Instr.makeFunc]
  · congr 1
    apply Array.ext'
    simp
  · have hd : ds[j]? = some ds[j] := List.getElem?_eq_getElem hj
    obtain ⟨u, hu, hr⟩ := h2 j _ hd
    refine ⟨u, hu, ?_⟩
    show DRep Pr w (ds.getD j z) u
    rw [List.getD_eq_getElem?_getD, hd]; exact hr

theorem DEq.fn {f : FuncId} {n : Nat} {c c' : Nat → DV} (h : ∀ j, j < n → c j = c' j) : DEq (.fn f n c) (.fn f n c') := fun Pr w v ⟨vs, hv, hl, hc⟩ =>
  ⟨vs, hv, hl, fun j hj => let ⟨u, hu, hd⟩ := hc j hj; ⟨u, hu, by rw [← h j hj]; exact hd⟩⟩
/-- A nil slice, as data of no element. -/
theorem DEq.nil (k : Nat) (el : Nat → Nat → DV) : DEq (.sc (.slice none 0 0)) (.sl 0 k el) := fun Pr w v ⟨_, hv⟩ =>
  ⟨none, 0, hv, Nat.le_refl _, fun h => absurd h (Nat.lt_irrefl _)⟩
/-- An argument told in another way. -/
theorem DCalls.arg {f : FuncId} {t t' : TV} {ts : List TV} {R : List TV → Prop} (h : DCalls P f (t' :: ts) R) (e : ∀ γ Pr w v, TRep γ Pr w t v → TRep γ Pr w t' v) : DCalls P f (t :: ts) R := fun Pr w vs hp hr => by
  refine h Pr w vs hp ⟨hr.1, fun i x hx => ?_⟩
  cases i with
  | zero =>
    simp at hx; subst hx
    obtain ⟨u, hu, hr⟩ := hr.2 0 t rfl
    exact ⟨u, hu, e _ _ _ _ hr⟩
  | succ i => exact hr.2 (i + 1) x (by simpa using hx)
end
end Go.Proofs.YtpgkbnefhhcfcaaGreatDoor.DL
