/- A logic of data for Go functions: what a slot holds is told as data; memory of one's own is a list of blocks. Definitions, and how what is read stays. No program in sight. -/
import Derived.WalkKit
import Derived.WalkSpells
import Derived.WalkLawsBesides
import Derived.Test.YtgjamldcglebjaaG0
namespace Go.Proofs.Ytgjamldcglebjaa.DL
open Go.RowKit

/-- Read-only data. -/
inductive DV where
  | sc (v : Value)
  | sl (n k : Nat) (el : Nat → Nat → DV)
  | pp (n : Nat) (el : Nat → DV)
  | ifc (t : TypeId) (x : DV)
  | fn (f : FuncId) (n : Nat) (cap : Nat → DV)

/-- Which cells are never written again. -/
abbrev Prot := Nat → Nat → Prop

def DRep (Pr : Prot) (w : World) : DV → Value → Prop
  | .sc x, v => x.oneCell' = true ∧ v = x
  | .sl n k el, v => ∃ A c, v = .slice A n c ∧ n ≤ c ∧ (0 < n → ∃ b o, A = some ⟨b, o, none⟩ ∧ ∀ i, i < n → ∀ j, j < k →
      Pr b (o + (i * k + j)) ∧ ∃ u, w.cell? ⟨b, o + (i * k + j), none⟩ = some u ∧ DRep Pr w (el i j) u)
  | .pp n el, v => ∃ b o, v = .pointer (some ⟨b, o, none⟩) ∧ ∀ j, j < n → Pr b (o + j) ∧ ∃ u, w.cell? ⟨b, o + j, none⟩ = some u ∧ DRep Pr w (el j) u
  | .ifc t x, v => ∃ u, v = .iface t u ∧ DRep Pr w x u
  | .fn f n cap, v => ∃ vs : List Value, v = .func (.func f) #[] vs.toArray ∧ vs.length = n ∧ ∀ j, j < n → ∃ u, vs[j]? = some u ∧ DRep Pr w (cap j) u

/-- What is protected stays. -/
structure Kept (Pr : Prot) (w : World) (Pr' : Prot) (w' : World) : Prop where
  sub : ∀ b o, Pr b o → Pr' b o
  cell : ∀ b o, Pr b o → w'.cell? ⟨b, o, none⟩ = w.cell? ⟨b, o, none⟩

/-- What is protected lies in memory, and the package's variables hold what they were laid with. -/
def glbP (Pr : Prot) (w : World) : Prop := (∀ g ∈ glbB, ∀ o, Pr g o) ∧ glbC fun g o => if g ∈ glbB then w.cell? ⟨g, o, none⟩ else none
structure PV (Pr : Prot) (w : World) : Prop where
  lt : ∀ b o, Pr b o → b < w.heap.size
  glob : glbP Pr w
instance (Pr : Prot) (w : World) : CoeFun (PV Pr w) (fun _ => ∀ b o, Pr b o → b < w.heap.size) := ⟨PV.lt⟩
theorem glbP.kept {Pr Pr' : Prot} {w w' : World} (h : glbP Pr w) (k : Kept Pr w Pr' w') : glbP Pr' w' := by
  refine ⟨fun g hg o => k.sub g o (h.1 g hg o), ?_⟩
  have : (fun g o => if g ∈ glbB then w'.cell? ⟨g, o, none⟩ else none) = fun g o => if g ∈ glbB then w.cell? ⟨g, o, none⟩ else none := by
    funext g o
    by_cases hg : g ∈ glbB
    · rw [if_pos hg, if_pos hg]; exact k.cell g o (h.1 g hg o)
    · rw [if_neg hg, if_neg hg]
  rw [this]
  exact h.2
theorem PV.kept {Pr Pr' : Prot} {w w' : World} (h : PV Pr w) (k : Kept Pr w Pr' w') (hl : ∀ b o, Pr' b o → b < w'.heap.size) : PV Pr' w' := ⟨hl, h.glob.kept k⟩

theorem Kept.refl (Pr : Prot) (w : World) : Kept Pr w Pr w := ⟨fun _ _ h => h, fun _ _ _ => rfl⟩
theorem Kept.trans {p p' p'' : Prot} {w w' w'' : World} (h : Kept p w p' w') (k : Kept p' w' p'' w'') : Kept p w p'' w'' :=
  ⟨fun b o x => k.sub b o (h.sub b o x), fun b o x => (k.cell b o (h.sub b o x)).trans (h.cell b o x)⟩

theorem DRep.kept {Pr Pr' : Prot} {w w' : World} (h : Kept Pr w Pr' w') : ∀ (x : DV) (v : Value), DRep Pr w x v → DRep Pr' w' x v
  | .sc _, _, hr => hr
  | .sl n k el, v, hr => by
    obtain ⟨A, c, hv, hn, hh⟩ := hr
    refine ⟨A, c, hv, hn, fun h0 => ?_⟩
    obtain ⟨b, o, hA, hc⟩ := hh h0
    refine ⟨b, o, hA, fun i hi j hj => ?_⟩
    obtain ⟨hp, u, hu, hd⟩ := hc i hi j hj
    exact ⟨h.sub _ _ hp, u, (h.cell _ _ hp).trans hu, DRep.kept h _ _ hd⟩
  | .pp n el, v, hr => by
    obtain ⟨b, o, hv, hc⟩ := hr
    refine ⟨b, o, hv, fun j hj => ?_⟩
    obtain ⟨hp, u, hu, hd⟩ := hc j hj
    exact ⟨h.sub _ _ hp, u, (h.cell _ _ hp).trans hu, DRep.kept h _ _ hd⟩
  | .ifc t x, v, hr => by
    obtain ⟨u, hv, hd⟩ := hr
    exact ⟨u, hv, DRep.kept h _ _ hd⟩
  | .fn f n cap, v, hr => by
    obtain ⟨vs, hv, hl, hc⟩ := hr
    refine ⟨vs, hv, hl, fun j hj => ?_⟩
    obtain ⟨u, hu, hd⟩ := hc j hj
    exact ⟨u, hu, DRep.kept h _ _ hd⟩

theorem DRep.one {Pr : Prot} {w : World} : ∀ {x : DV} {v : Value}, DRep Pr w x v → v.oneCell' = true
  | .sc _, _, hr => by obtain ⟨h, rfl⟩ := hr; exact h
  | .sl .., _, hr => by obtain ⟨A, c, rfl, _⟩ := hr; rfl
  | .pp .., _, hr => by obtain ⟨b, o, rfl, _⟩ := hr; rfl
  | .ifc .., _, hr => by obtain ⟨u, rfl, _⟩ := hr; rfl
  | .fn .., _, hr => by obtain ⟨vs, rfl, _⟩ := hr; rfl

/-- What a cell may hold: data; a pointer to a block of one's own; a slice that is a row of one's own. -/
inductive CV where
  | d (x : DV)
  | ptr (b off : Nat)
  | row (b : Nat) (v : Value)
  | rp (b : Nat) (v : Value) (off : Nat)
  | ifp (t : TypeId) (b : Nat)
  | clo (f : FuncId) (caps : List Nat)

/-- Where one's own blocks lie. -/
structure Cn where
  blk : Nat → Nat

def CRep (γ : Cn) (Pr : Prot) (w : World) : CV → Value → Prop
  | .d x, v => DRep Pr w x v
  | .ptr b o, v => v = .pointer (some ⟨γ.blk b, o, none⟩)
  | .row _ u, v => v = u ∧ v.oneCell' = true
  | .rp _ u o, v => ∃ g, u.ownBlock = some g ∧ v = .pointer (some ⟨g, o, none⟩)
  | .ifp t b, v => v = .iface t (.pointer (some ⟨γ.blk b, 0, none⟩))
  | .clo f caps, v => v = .func (.func f) #[] (caps.map fun b => Value.pointer (some ⟨γ.blk b, 0, none⟩)).toArray

theorem CRep.one {γ : Cn} {Pr : Prot} {w : World} {c : CV} {v : Value} (h : CRep γ Pr w c v) : v.oneCell' = true := by
  cases c with
  | d x => exact DRep.one h
  | ptr b o => obtain rfl := h; rfl
  | row b m => exact h.2
  | rp b m o => obtain ⟨g, _, rfl⟩ := h; rfl
  | ifp t b => obtain rfl := h; rfl
  | clo f caps => obtain rfl := h; rfl

/-- A block of one's own: a variable in memory; a row that a slice leads to (n elements of k cells; fz: its elements are no longer written). -/
inductive Blk where
  | box (t : TypeId) (cs : List CV)
  | row (e : TypeId) (k n : Nat) (v : Value) (cs : List CV) (fz : Bool)

/-- One's own memory: blocks by numbers of one's choice; what was put last stands first; none: forgotten. -/
abbrev Mem := List (Nat × Option Blk)
def mget : Mem → Nat → Option Blk
  | [], _ => none
  | (d, x) :: r, i => bif Nat.beq d i then x else mget r i

def has (M : Mem) (b : Nat) : Prop := mget M b ≠ none

/-- What is led to is there. -/
def CV.ok (M : Mem) : CV → Prop
  | .d _ => True
  | .ptr b _ | .ifp _ b => has M b
  | .row _ _ | .rp _ _ _ => True
  | .clo _ caps => ∀ b ∈ caps, has M b

/-- Two ways to lie that agree on what is there. -/
def Cn.agree (M : Mem) (γ γ' : Cn) : Prop := ∀ b, has M b → γ'.blk b = γ.blk b
theorem Cn.agree_refl (M : Mem) (γ : Cn) : Cn.agree M γ γ := fun _ _ => rfl

theorem CRep.move {γ γ' : Cn} {Pr Pr' : Prot} {w w' : World} {M : Mem} (hg : Cn.agree M γ γ') (hk : Kept Pr w Pr' w') {c : CV} {v : Value} (hb : c.ok M)
    (h : CRep γ Pr w c v) : CRep γ' Pr' w' c v := by
  cases c with
  | d x => exact DRep.kept hk _ _ h
  | ptr b o => simp only [CRep] at *; rw [hg b hb]; exact h
  | row b m => exact h
  | rp b m o => exact h
  | ifp t b => simp only [CRep] at *; rw [hg b hb]; exact h
  | clo f caps =>
    simp only [CRep] at *
    rw [h]
    congr 2
    exact List.map_congr_left fun b hx => by rw [hg b (hb b hx)]

/-- Cells. -/
def LRep (γ : Cn) (Pr : Prot) (w : World) (cs : List CV) (vs : List Value) : Prop :=
  vs.length = cs.length ∧ ∀ (i : Nat) c, cs[i]? = some c → ∃ u, vs[i]? = some u ∧ CRep γ Pr w c u

/-- What a slot of one value holds. -/
inductive TV where
  | one (c : CV)
  | agg (cs : List CV)

def TRep (γ : Cn) (Pr : Prot) (w : World) : TV → Value → Prop
  | .one c, v => CRep γ Pr w c v
  | .agg cs, v => ∃ vs : List Value, v = .agg vs.toArray ∧ LRep γ Pr w cs vs

inductive SV where
  | junk
  | v (x : TV)
  | tup (l : List TV)

def SRep (γ : Cn) (Pr : Prot) (w : World) : SV → Value → Prop
  | .junk, _ => True
  | .v x, u => TRep γ Pr w x u
  | .tup l, u => ∃ vs : List Value, u = .tuple vs.toArray ∧ vs.length = l.length ∧ ∀ (i : Nat) t, l[i]? = some t → ∃ y, vs[i]? = some y ∧ TRep γ Pr w t y

def TV.ok (M : Mem) : TV → Prop
  | .one c => c.ok M
  | .agg cs => ∀ c ∈ cs, c.ok M

def SV.ok (M : Mem) : SV → Prop
  | .junk => True
  | .v x => x.ok M
  | .tup l => ∀ t ∈ l, t.ok M

def Blk.ok (M : Mem) : Blk → Prop
  | .box _ cs => ∀ c ∈ cs, c.ok M
  | .row _ _ _ _ cs _ => ∀ c ∈ cs, c.ok M

theorem CV.ok_le {M M' : Mem} (h : ∀ b, has M b → has M' b) {c : CV} (hb : c.ok M) : c.ok M' := by
  cases c with
  | d x => trivial
  | ptr b o => exact h _ hb
  | row b k => trivial
  | rp b k o => trivial
  | ifp t b => exact h _ hb
  | clo f caps => exact fun b hx => h _ (hb b hx)
theorem TV.ok_le {M M' : Mem} (h : ∀ b, has M b → has M' b) {t : TV} (hb : t.ok M) : t.ok M' := by
  cases t with
  | one c => exact CV.ok_le h hb
  | agg cs => exact fun c hc => CV.ok_le h (hb c hc)
theorem SV.ok_le {M M' : Mem} (h : ∀ b, has M b → has M' b) {t : SV} (hb : t.ok M) : t.ok M' := by
  cases t with
  | junk => trivial
  | v x => exact TV.ok_le h hb
  | tup l => exact fun c hc => TV.ok_le h (hb c hc)
theorem Blk.ok_le {M M' : Mem} (h : ∀ b, has M b → has M' b) {t : Blk} (hb : t.ok M) : t.ok M' := by
  cases t with
  | box t cs => exact fun c hc => CV.ok_le h (hb c hc)
  | row e k n v cs fz => exact fun c hc => CV.ok_le h (hb c hc)

section
variable {γ γ' : Cn} {Pr Pr' : Prot} {w w' : World} {M : Mem}
theorem LRep.move (hg : Cn.agree M γ γ') (hk : Kept Pr w Pr' w') {cs : List CV} {vs : List Value} (hb : ∀ c ∈ cs, c.ok M) (h : LRep γ Pr w cs vs) : LRep γ' Pr' w' cs vs :=
  ⟨h.1, fun i c hc => let ⟨u, hu, hr⟩ := h.2 i c hc; ⟨u, hu, CRep.move hg hk (hb c (List.mem_of_getElem? hc)) hr⟩⟩
theorem TRep.move (hg : Cn.agree M γ γ') (hk : Kept Pr w Pr' w') {t : TV} {v : Value} (hb : t.ok M) (h : TRep γ Pr w t v) : TRep γ' Pr' w' t v := by
  cases t with
  | one c => exact CRep.move hg hk hb h
  | agg cs => obtain ⟨vs, hv, hl⟩ := h; exact ⟨vs, hv, LRep.move hg hk hb hl⟩
theorem SRep.move (hg : Cn.agree M γ γ') (hk : Kept Pr w Pr' w') {t : SV} {v : Value} (hb : t.ok M) (h : SRep γ Pr w t v) : SRep γ' Pr' w' t v := by
  cases t with
  | junk => trivial
  | v x => exact TRep.move hg hk hb h
  | tup l =>
    obtain ⟨vs, hv, hl, hh⟩ := h
    exact ⟨vs, hv, hl, fun i t ht => let ⟨y, hy, hr⟩ := hh i t ht; ⟨y, hy, TRep.move hg hk (hb t (List.mem_of_getElem? ht)) hr⟩⟩
end

def blockOf (γ : Cn) (b : Nat) : Blk → Option Nat
  | .box .. => some (γ.blk b)
  | .row _ _ _ v _ _ => v.ownBlock

/-- How a call began: its world, what was protected, and the memory that it was handed. -/
structure Ctx where
  w0 : World
  Pr0 : Prot
  γ0 : Cn
  M0 : Mem
/-- Blocks that may be written. -/
def Ctx.may (c : Ctx) (k : Nat) : Prop := c.w0.heap.size ≤ k ∨ ∃ b l, mget c.M0 b = some l ∧ blockOf c.γ0 b l = some k

def BRep (γ : Cn) (Pr : Prot) (w : World) (c : Ctx) (b : Nat) : Blk → Prop
  | .box t cs => c.may (γ.blk b) ∧ (∃ vs : List Value, w.heap[γ.blk b]? = some (.cells vs.toArray t (0, 0)) ∧ LRep γ Pr w cs vs) ∧ ∀ o, ¬ Pr (γ.blk b) o
  | .row e k n v cs fz => ∃ vs, w.ownsRow 0 e k v n vs ∧ LRep γ Pr w cs vs ∧
      ∀ g, v.ownBlock = some g → c.may g ∧ (∀ o, n * k ≤ o → ¬ Pr g o) ∧ (fz = false → ∀ o, ¬ Pr g o)

/-- What may not be written is as it was. -/
structure Sim (c : Ctx) (w : World) : Prop where
  os : w.os = c.w0.os
  tape : w.tape = c.w0.tape
  output : w.output = c.w0.output
  size : c.w0.heap.size ≤ w.heap.size
  block : ∀ k, ¬ c.may k → w.heap[k]? = c.w0.heap[k]?

/-- Slots: what was put last stands first. -/
abbrev Env := List (Nat × SV)
def lk : Env → Nat → SV
  | [], _ => .junk
  | (d, x) :: r, i => bif Nat.beq d i then x else lk r i

structure Rel (γ : Cn) (Pr : Prot) (c : Ctx) (N : Nat) (env : Env) (M : Mem) (a : Act) (w : World) : Prop where
  size : a.tmps.size = N
  slot : ∀ i, SRep γ Pr w (lk env i) (a.tmps.getD i undef)
  slotB : ∀ i, (lk env i).ok M
  mem : ∀ b k, mget M b = some k → BRep γ Pr w c b k
  memB : ∀ b k, mget M b = some k → Blk.ok M k
  apart : ∀ b b' k k', mget M b = some k → mget M b' = some k' → b ≠ b' → ∀ g, blockOf γ b k = some g → blockOf γ b' k' ≠ some g
  below : Sim c w
  prot : PV Pr w
  defers : a.defers = []

/-- Protection has grown, and of what may not be written nothing is new. -/
structure PExt (Pr Pr' : Prot) (may : Nat → Prop) : Prop where
  sub : ∀ b o, Pr b o → Pr' b o
  new : ∀ b o, Pr' b o → Pr b o ∨ may b
theorem PExt.refl (Pr : Prot) (may : Nat → Prop) : PExt Pr Pr may := ⟨fun _ _ h => h, fun _ _ h => .inl h⟩
theorem PExt.trans {a b c : Prot} {may : Nat → Prop} (h : PExt a b may) (k : PExt b c may) : PExt a c may :=
  ⟨fun x o p => k.sub x o (h.sub x o p), fun x o p => (k.new x o p).elim (fun q => h.new x o q) .inr⟩
theorem PExt.mono {a b : Prot} {may may' : Nat → Prop} (h : PExt a b may) (k : ∀ x, may x → may' x) : PExt a b may' := ⟨h.sub, fun x o p => (h.new x o p).imp id (k x)⟩

/-- How the state came out of the call's begin. -/
structure From (c : Ctx) (γ : Cn) (Pr : Prot) (M : Mem) (w : World) : Prop where
  ext : PExt c.Pr0 Pr c.may
  cell : ∀ b o, c.Pr0 b o → w.cell? ⟨b, o, none⟩ = c.w0.cell? ⟨b, o, none⟩
  lie : Cn.agree c.M0 c.γ0 γ
  has : ∀ b, DL.has c.M0 b → DL.has M b

theorem From.step {c : Ctx} {γ γ' : Cn} {Pr Pr' : Prot} {M M' : Mem} {w w' : World} (h : From c γ Pr M w) (hg : Cn.agree M γ γ') (hk : Kept Pr w Pr' w') (hp : PExt Pr Pr' c.may) (hh : ∀ b, DL.has M b → DL.has M' b) : From c γ' Pr' M' w' :=
  ⟨h.ext.trans hp, fun b o x => (hk.cell b o (h.ext.sub b o x)).trans (h.cell b o x), fun b hb => (hg b (h.has b hb)).trans (h.lie b hb), fun b hb => hh b (h.has b hb)⟩

/-- The state of a call, told as data. -/
def At (c : Ctx) (N : Nat) (env : Env) (M : Mem) (a : Act) (w : World) : Prop :=
  ∃ γ Pr, Rel γ Pr c N env M a w ∧ From c γ Pr M w

abbrev DPost := Exit → Env → Mem → Prop
def up (c : Ctx) (N : Nat) (Q : DPost) (e : Exit) (a : Act) (w : World) : Prop := ∃ env M, At c N env M a w ∧ Q e env M

/-- M0: the memory that the call was handed. -/
def DCode (P : Program) (N : Nat) (M0 : Mem) (c : Code) (Q : DPost) (env : Env) (M : Mem) : Prop :=
  ∀ x a w, x.M0 = M0 → At x N env M a w → c.wp P (up x N Q) a w

def DOps (P : Program) (N : Nat) (M0 : Mem) (ops : Array Oper) (Q : DPost) (l : List Oper) (env : Env) (M : Mem) : Prop :=
  ∀ x a w, x.M0 = M0 → At x N env M a w → wpList P ops (up x N Q) l a w

def thenQ (K : Env → Mem → Prop) (Q : DPost) : DPost
  | .normal, env, M => K env M
  | e, env, M => Q e env M
def seqQ (P : Program) (N : Nat) (M0 : Mem) (y : Code) (Q : DPost) : DPost := thenQ (DCode P N M0 y Q) Q
def inBlockQ (id : Nat) (Q : DPost) : DPost
  | .exit id', env, M => if id' = id then Q .normal env M else Q (.exit id') env M
  | e, env, M => Q e env M

section
variable {P : Program} {N : Nat} {Q : DPost} {env : Env} {M M0 : Mem}

theorem DCode.mono {c : Code} {Q' : DPost} (h : DCode P N M0 c Q env M) (hq : ∀ e env M, Q e env M → Q' e env M) : DCode P N M0 c Q' env M :=
  fun x a w hx ha => wp_mono (h x a w hx ha) fun _ _ _ ⟨env, M, hr, hQ⟩ => ⟨env, M, hr, hq _ _ _ hQ⟩

theorem DCode.seq {y z : Code} (h : DCode P N M0 y (seqQ P N M0 z Q) env M) : DCode P N M0 (.seq y z) Q env M :=
  fun x a w hx ha => wp_seq (wp_mono (h x a w hx ha) fun e a' w' ⟨env', M', hr, hQ⟩ => by
    cases e with
    | normal => exact hQ x a' w' hx hr
    | _ => exact ⟨env', M', hr, hQ⟩)

theorem DCode.skip (h : Q .normal env M) : DCode P N M0 .skip Q env M := fun _ _ _ _ ha => wp_skip ⟨env, M, ha, h⟩
theorem DCode.exit {id : Nat} (h : Q (.exit id) env M) : DCode P N M0 (.exit id) Q env M := fun _ _ _ _ ha => wp_exit ⟨env, M, ha, h⟩
theorem DCode.ret (h : Q .ret env M) : DCode P N M0 .ret Q env M := fun _ _ _ _ ha => wp_ret ⟨env, M, ha, h⟩
theorem DCode.label {l : Nat} (h : Q .normal env M) : DCode P N M0 (.label l) Q env M := fun _ _ _ _ ha => wp_label ⟨env, M, ha, h⟩

theorem DCode.block {id : Nat} {c : Code} (h : DCode P N M0 c (inBlockQ id Q) env M) : DCode P N M0 (.block id c) Q env M :=
  fun x a w hx ha => wp_block (wp_mono (h x a w hx ha) fun e a' w' ⟨env', M', hr, hQ⟩ => by
    cases e with
    | exit id' =>
      simp only [Exit.inBlock, inBlockQ] at *
      split
      · rename_i h1; simp only [h1, if_true] at hQ; exact ⟨env', M', hr, hQ⟩
      · rename_i h1; simp only [h1, if_false] at hQ; exact ⟨env', M', hr, hQ⟩
    | _ => exact ⟨env', M', hr, hQ⟩)

def CV.ofConst (v : Value) : CV := .d (.sc v)
/-- What an operand holds. -/
def opv (env : Env) : Operand → SV
  | .tmp t => lk env t
  | .const v => if v.oneCell' then .v (.one (.d (.sc v))) else .junk
  | .func f => .v (.one (.d (.sc (.func (.func f) #[] #[]))))
  | .global g => .v (.one (.d (.sc (.pointer (some ⟨g, 0, none⟩)))))

theorem Rel.opv {γ : Cn} {Pr : Prot} {c : Ctx} {a : Act} {w : World} (h : Rel γ Pr c N env M a w) (x : Operand) : SRep γ Pr w (opv env x) (a.eval x) := by
  cases x with
  | tmp t =>
    exact h.slot t
  | const v =>
    simp only [DL.opv, Act.eval]
    split
    · rename_i h1; exact ⟨h1, rfl⟩
    · trivial
  | func f => exact ⟨rfl, rfl⟩
  | global g => exact ⟨rfl, rfl⟩
end
end Go.Proofs.Ytgjamldcglebjaa.DL
