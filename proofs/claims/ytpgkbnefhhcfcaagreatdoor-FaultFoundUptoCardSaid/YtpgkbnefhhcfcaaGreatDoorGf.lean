/- law01: closed facts on the model's entries for internal/reflectlite, at this program's types. -/
import Derived.Test.YtpgkbnefhhcfcaaGreatDoorFu
import Derived.Test.YtpgkbnefhhcfcaaGreatDoorD45
set_option linter.unusedVariables false
set_option linter.unusedSimpArgs false
set_option linter.constructorNameAsVariable false
namespace Go.Proofs.YtpgkbnefhhcfcaaGreatDoor.DL
open Go.RowKit
section
variable {P : Program} {N : Nat} {env : Env} {M : Mem} {o : Oper}
/-- A package's variable, read. -/
theorem OpVal.ldG {T : TypeId → Option TyI} (hT : TOk P T) {t g : Nat} {i : TyI} {v : Value} (ho : o.op = .load t (.global g)) (ht : T t = some i) (ha : aggD i.desc = false) (h1 : v.oneCell' = true) (hc : ∀ Pr w, PV Pr w → w.cell? ⟨g, 0, none⟩ = some v) : OpVal P N env M o (.v (.one (.d (.sc v)))) :=
  fun γ Pr x0 a w h => ⟨trivial, v, by
    simp only [execOp, ho, show a.eval (.global g) = .pointer (some ⟨g, 0, none⟩) from rfl]
    rw [Sem.run_bind, run_load1 hT ht ha (hc Pr w h.prot)]
    rfl, h1, rfl⟩
theorem PV.errT {Pr : Prot} {w : World} (h : PV Pr w) : w.cell? ⟨0, 0, none⟩ = some (.iface 108 (.agg #[.pointer (some ⟨14, 42, none⟩)])) := by
  have hm := h.glob.2.2.2.2.2
  simpa [glbB] using hm
end
end Go.Proofs.YtpgkbnefhhcfcaaGreatDoor.DL
namespace Go.Proofs.YtpgkbnefhhcfcaaGreatDoor
open Go Go.RowKit Go.Extern Go.Proofs.YtpgkbnefhhcfcaaGreatDoor.DL
set_option linter.unusedVariables false

abbrev rKind : Array Value → Sem Value := ReflectliteType.abiMethod fun t => do pure (.int .u8 (← Rtype.kind t))
abbrev rElem : Array Value → Sem Value := ReflectliteType.method ReflectliteType.elem
abbrev rImpl : Array Value → Sem Value := ReflectliteType.relation "Implements" ReflectliteType.implements_
abbrev rAsg : Array Value → Sem Value := ReflectliteType.relation "AssignableTo" ReflectliteType.assignableTo
abbrev vType : Array Value → Sem Value := ReflectliteValue.methodAny (ReflectliteValue.valueError "reflectlite.Value.Type" 0) (fun t _ _ _ => ReflectliteType.toType t)
abbrev vOf : Array Value → Sem Value := fun args => ReflectliteValue.unpack (args.getD 0 (.tuple #[]))
abbrev vNil : Array Value → Sem Value := ReflectliteValue.method (ReflectliteValue.valueError "reflectlite.Value.IsNil" 0) ReflectliteValue.isNil
abbrev vElem : Array Value → Sem Value := ReflectliteValue.method (ReflectliteValue.valueError "reflectlite.Value.Elem" 0) ReflectliteValue.elem
/-! FACTS -/
theorem vOfT_E : ∀ p w, (vOf #[.iface 55 (.pointer (some p))]).run Tryz.prog w = .ok (.agg #[rty 55, .pointer (some ⟨w.heap.size, 0, none⟩), .int .u64 150]) (w.alloc (.cells #[.pointer (some p)] 55)) := by intro p w; kernel_rfl
theorem vOf_E : ∀ p w, (vOf #[.iface 53 (.pointer (some p))]).run Tryz.prog w = .ok (.agg #[rty 53, .pointer (some ⟨w.heap.size, 0, none⟩), .int .u64 150]) (w.alloc (.cells #[.pointer (some p)] 53)) := by intro p w; kernel_rfl
theorem vTy_E : ∀ p w, (vType #[.agg #[rty 55, .pointer (some p), .int .u64 150]]).run Tryz.prog w = .ok (rtI 55) w := by intro p w; kernel_rfl
theorem meKT_E : ∀ w, (Go.method (Tryz.prog.types.size + Made.depth) 108 (.agg #[rty 55]) "Kind").run Tryz.prog w = .ok (110, rty 55) w := by intro w; kernel_rfl
theorem meK_E : ∀ w, (Go.method (Tryz.prog.types.size + Made.depth) 108 (.agg #[rty 53]) "Kind").run Tryz.prog w = .ok (110, rty 53) w := by intro w; kernel_rfl
theorem kindT_E : ∀ w, (rKind #[rty 55]).run Tryz.prog w = .ok (.int .u8 22) w := by intro w; kernel_rfl
theorem kind_E : ∀ w, (rKind #[rty 53]).run Tryz.prog w = .ok (.int .u8 22) w := by intro w; kernel_rfl
theorem meE_E : ∀ w, (Go.method (Tryz.prog.types.size + Made.depth) 108 (.agg #[rty 55]) "Elem").run Tryz.prog w = .ok (138, .agg #[rty 55]) w := by intro w; kernel_rfl
theorem elem_E : ∀ w, (rElem #[.agg #[rty 55]]).run Tryz.prog w = .ok (rtI 53) w := by intro w; kernel_rfl
theorem meI_E : ∀ w, (Go.method (Tryz.prog.types.size + Made.depth) 108 (.agg #[rty 53]) "Implements").run Tryz.prog w = .ok (139, .agg #[rty 53]) w := by intro w; kernel_rfl
theorem impl_E : ∀ w, (rImpl #[.agg #[rty 53], rtI 42]).run Tryz.prog w = .ok (.bool true) w := by intro w; kernel_rfl
theorem meA_E : ∀ w, (Go.method (Tryz.prog.types.size + Made.depth) 108 (.agg #[rty 53]) "AssignableTo").run Tryz.prog w = .ok (136, .agg #[rty 53]) w := by intro w; kernel_rfl
theorem asg_EE : ∀ w, (rAsg #[.agg #[rty 53], rtI 53]).run Tryz.prog w = .ok (.bool true) w := by intro w; kernel_rfl
theorem partsT_E : ∀ a w, (ReflectliteValue.parts (.agg #[rty 55, .pointer (some a), .int .u64 150])).run Tryz.prog w = .ok (some (55, a, 150)) w := by intro a w; kernel_rfl
theorem parts_E : ∀ a w, (ReflectliteValue.parts (.agg #[rty 53, .pointer (some a), .int .u64 150])).run Tryz.prog w = .ok (some (53, a, 150)) w := by intro a w; kernel_rfl
theorem partsA_E : ∀ a w, (ReflectliteValue.parts (.agg #[rty 53, .pointer (some a), .int .u64 406])).run Tryz.prog w = .ok (some (53, a, 406)) w := by intro a w; kernel_rfl
theorem elemOf_E : ∀ w, (Rtype.elem? 55).run Tryz.prog w = .ok (some 53) w := by intro w; kernel_rfl
theorem mk_E : ∀ p w, (ReflectliteValue.mk 53 p ReflectliteValue.flagAddr).run Tryz.prog w = .ok (.agg #[rty 53, .pointer (some p), .int .u64 406]) w := by intro p w; kernel_rfl
theorem direct_E : ∀ w, (Rtype.directlyAssignable 53 53).run Tryz.prog w = .ok true w := by intro w; kernel_rfl
theorem vOfT_S : ∀ p w, (vOf #[.iface 57 (.pointer (some p))]).run Tryz.prog w = .ok (.agg #[rty 57, .pointer (some ⟨w.heap.size, 0, none⟩), .int .u64 150]) (w.alloc (.cells #[.pointer (some p)] 57)) := by intro p w; kernel_rfl
theorem vOf_S : ∀ p w, (vOf #[.iface 56 (.pointer (some p))]).run Tryz.prog w = .ok (.agg #[rty 56, .pointer (some ⟨w.heap.size, 0, none⟩), .int .u64 150]) (w.alloc (.cells #[.pointer (some p)] 56)) := by intro p w; kernel_rfl
theorem vTy_S : ∀ p w, (vType #[.agg #[rty 57, .pointer (some p), .int .u64 150]]).run Tryz.prog w = .ok (rtI 57) w := by intro p w; kernel_rfl
theorem meKT_S : ∀ w, (Go.method (Tryz.prog.types.size + Made.depth) 108 (.agg #[rty 57]) "Kind").run Tryz.prog w = .ok (110, rty 57) w := by intro w; kernel_rfl
theorem meK_S : ∀ w, (Go.method (Tryz.prog.types.size + Made.depth) 108 (.agg #[rty 56]) "Kind").run Tryz.prog w = .ok (110, rty 56) w := by intro w; kernel_rfl
theorem kindT_S : ∀ w, (rKind #[rty 57]).run Tryz.prog w = .ok (.int .u8 22) w := by intro w; kernel_rfl
theorem kind_S : ∀ w, (rKind #[rty 56]).run Tryz.prog w = .ok (.int .u8 22) w := by intro w; kernel_rfl
theorem meE_S : ∀ w, (Go.method (Tryz.prog.types.size + Made.depth) 108 (.agg #[rty 57]) "Elem").run Tryz.prog w = .ok (138, .agg #[rty 57]) w := by intro w; kernel_rfl
theorem elem_S : ∀ w, (rElem #[.agg #[rty 57]]).run Tryz.prog w = .ok (rtI 56) w := by intro w; kernel_rfl
theorem meI_S : ∀ w, (Go.method (Tryz.prog.types.size + Made.depth) 108 (.agg #[rty 56]) "Implements").run Tryz.prog w = .ok (139, .agg #[rty 56]) w := by intro w; kernel_rfl
theorem impl_S : ∀ w, (rImpl #[.agg #[rty 56], rtI 42]).run Tryz.prog w = .ok (.bool true) w := by intro w; kernel_rfl
theorem meA_S : ∀ w, (Go.method (Tryz.prog.types.size + Made.depth) 108 (.agg #[rty 56]) "AssignableTo").run Tryz.prog w = .ok (136, .agg #[rty 56]) w := by intro w; kernel_rfl
theorem asg_SS : ∀ w, (rAsg #[.agg #[rty 56], rtI 56]).run Tryz.prog w = .ok (.bool true) w := by intro w; kernel_rfl
theorem partsT_S : ∀ a w, (ReflectliteValue.parts (.agg #[rty 57, .pointer (some a), .int .u64 150])).run Tryz.prog w = .ok (some (57, a, 150)) w := by intro a w; kernel_rfl
theorem parts_S : ∀ a w, (ReflectliteValue.parts (.agg #[rty 56, .pointer (some a), .int .u64 150])).run Tryz.prog w = .ok (some (56, a, 150)) w := by intro a w; kernel_rfl
theorem partsA_S : ∀ a w, (ReflectliteValue.parts (.agg #[rty 56, .pointer (some a), .int .u64 406])).run Tryz.prog w = .ok (some (56, a, 406)) w := by intro a w; kernel_rfl
theorem elemOf_S : ∀ w, (Rtype.elem? 57).run Tryz.prog w = .ok (some 56) w := by intro w; kernel_rfl
theorem mk_S : ∀ p w, (ReflectliteValue.mk 56 p ReflectliteValue.flagAddr).run Tryz.prog w = .ok (.agg #[rty 56, .pointer (some p), .int .u64 406]) w := by intro p w; kernel_rfl
theorem direct_S : ∀ w, (Rtype.directlyAssignable 56 56).run Tryz.prog w = .ok true w := by intro w; kernel_rfl
theorem tyOf_S : ∀ u w, (ReflectliteType.typeOf #[.iface 56 u]).run Tryz.prog w = .ok (rtI 56) w := by intro u w; kernel_rfl
theorem asg_SE : ∀ w, (rAsg #[.agg #[rty 56], rtI 53]).run Tryz.prog w = .ok (.bool false) w := by intro w; kernel_rfl
theorem asg_ES : ∀ w, (rAsg #[.agg #[rty 53], rtI 56]).run Tryz.prog w = .ok (.bool false) w := by intro w; kernel_rfl
theorem as_E_As : ∀ u w, (Instr.typeAssert (.iface 53 u) 42 112 true).run Tryz.prog w = .ok (.tuple #[.nilIface, .bool false]) w := fun u w => run_typeAssert_lacksB Tryz.underlying112 (by kernel_rfl) (by kernel_rfl) u _ w
theorem as_S_As : ∀ u w, (Instr.typeAssert (.iface 56 u) 42 112 true).run Tryz.prog w = .ok (.tuple #[.nilIface, .bool false]) w := fun u w => run_typeAssert_lacksB Tryz.underlying112 (by kernel_rfl) (by kernel_rfl) u _ w
end Go.Proofs.YtpgkbnefhhcfcaaGreatDoor
