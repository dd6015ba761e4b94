/- law01: the entries that read or write memory, and their calls as data. -/
import Derived.Test.YtpgkbnefhhcfcaaGreatDoorGf
set_option linter.unusedVariables false
set_option linter.unusedSimpArgs false
set_option linter.constructorNameAsVariable false
namespace Go.Proofs.YtpgkbnefhhcfcaaGreatDoor
open Go Go.RowKit Go.Extern Go.Proofs.YtpgkbnefhhcfcaaGreatDoor.DL
set_option linter.unusedVariables false
theorem rlm (z : Sem Value) (f : TypeId → Addr → Nat → Nat → Sem Value) (v : Value) :
    ReflectliteValue.method z f #[v] = (do match ← ReflectliteValue.parts v with | none => z | some (t, a, fl) => f t a fl (fl % 32)) := rfl
theorem rls (v x : Value) : ReflectliteValue.set #[v, x] = (do
    let (some (dst, a, fl), some (src, b, _)) := (← ReflectliteValue.parts v, ← ReflectliteValue.parts x)
      | unsupported (.noEntry "extern/(internal/reflectlite.Value).Set.zeroValue")
    if fl / ReflectliteValue.flagAddr % 2 == 0 then unsupported (.noEntry "extern/(internal/reflectlite.Value).Set.unaddressable")
    let val ← loadVar src b
    if ← Rtype.directlyAssignable dst src then storeVar dst a val
    else if ← Rtype.implements dst src then
      if (← Rtype.kind src) == 20 then
        match val with
        | .nilIface => unsupported (.noEntry "extern/reflectlite: a nil value of one interface type handed on as a value of another")
        | _ => storeVar dst a val
      else storeVar dst a (.iface src val)
    else panicString ("reflectlite.Set: value of type " ++ (← Rtype.spelt src) ++ " is not assignable to type " ++ (← Rtype.spelt dst))
    pure (.tuple #[])) := rfl
section
variable {w : World}
/-! BOTH -/
theorem isNil_E (a p : Addr) (ha : w.cell? a = some (.pointer (some p))) : (vNil #[.agg #[rty 55, .pointer (some a), .int .u64 150]]).run Tryz.prog w = .ok (.bool false) w := by
  show (ReflectliteValue.method _ _ #[_]).run _ _ = _
  rw [rlm]
  simp only [Sem.run_bind, partsT_E, Result.andThen]
  simp [ReflectliteValue.isNil, loadVar, isAgg, underlying, Tryz.underlying55, ha, Result.andThen]
theorem elemV_E (a p : Addr) (ha : w.cell? a = some (.pointer (some p))) : (vElem #[.agg #[rty 55, .pointer (some a), .int .u64 150]]).run Tryz.prog w = .ok (.agg #[rty 53, .pointer (some p), .int .u64 406]) w := by
  show (ReflectliteValue.method _ _ #[_]).run _ _ = _
  rw [rlm]
  simp only [Sem.run_bind, partsT_E, Result.andThen]
  simp [ReflectliteValue.elem, loadVar, isAgg, underlying, Tryz.underlying55, ha, Result.andThen, elemOf_E, mk_E]
theorem set_E (ta b e : Addr) (old : Value) (hb : w.cell? b = some (.pointer (some e))) (ht : w.cell? ta = some old) (hf : w.frozen? ta = false) :
    (ReflectliteValue.set #[.agg #[rty 53, .pointer (some ta), .int .u64 406], .agg #[rty 53, .pointer (some b), .int .u64 150]]).run Tryz.prog w = .ok (.tuple #[]) (w.setCell ta (.pointer (some e))) := by
  rw [rls]
  simp only [Sem.run_bind, partsA_E, parts_E, Result.andThen]
  simp [ReflectliteValue.flagAddr, loadVar, isAgg, underlying, Tryz.underlying53, hb, Result.andThen, direct_E, storeVar, Value.cells, storeCells, Addr.add]
  rw [run_store Tryz.prog w ta _ _ (by rfl)]
  simp [ht, hf]
theorem isNil_S (a p : Addr) (ha : w.cell? a = some (.pointer (some p))) : (vNil #[.agg #[rty 57, .pointer (some a), .int .u64 150]]).run Tryz.prog w = .ok (.bool false) w := by
  show (ReflectliteValue.method _ _ #[_]).run _ _ = _
  rw [rlm]
  simp only [Sem.run_bind, partsT_S, Result.andThen]
  simp [ReflectliteValue.isNil, loadVar, isAgg, underlying, Tryz.underlying57, ha, Result.andThen]
theorem elemV_S (a p : Addr) (ha : w.cell? a = some (.pointer (some p))) : (vElem #[.agg #[rty 57, .pointer (some a), .int .u64 150]]).run Tryz.prog w = .ok (.agg #[rty 56, .pointer (some p), .int .u64 406]) w := by
  show (ReflectliteValue.method _ _ #[_]).run _ _ = _
  rw [rlm]
  simp only [Sem.run_bind, partsT_S, Result.andThen]
  simp [ReflectliteValue.elem, loadVar, isAgg, underlying, Tryz.underlying57, ha, Result.andThen, elemOf_S, mk_S]
theorem set_S (ta b e : Addr) (old : Value) (hb : w.cell? b = some (.pointer (some e))) (ht : w.cell? ta = some old) (hf : w.frozen? ta = false) :
    (ReflectliteValue.set #[.agg #[rty 56, .pointer (some ta), .int .u64 406], .agg #[rty 56, .pointer (some b), .int .u64 150]]).run Tryz.prog w = .ok (.tuple #[]) (w.setCell ta (.pointer (some e))) := by
  rw [rls]
  simp only [Sem.run_bind, partsA_S, parts_S, Result.andThen]
  simp [ReflectliteValue.flagAddr, loadVar, isAgg, underlying, Tryz.underlying56, hb, Result.andThen, direct_S, storeVar, Value.cells, storeCells, Addr.add]
  rw [run_store Tryz.prog w ta _ _ (by rfl)]
  simp [ht, hf]
end
end Go.Proofs.YtpgkbnefhhcfcaaGreatDoor
