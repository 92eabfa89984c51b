/-
  Package errors over package cause's errors: reflectlite's entries that read or write memory.
-/
import Derived.Test.YtoknokbbggnmjaaDoorCaA
import Derived.Lib.ReflectliteSlice
import Derived.Great.BuildSlice
namespace Go.Proofs.YtoknokbbggnmjaaDoor.Ca
set_option linter.unusedSimpArgs false
open Go Go.RowKit Go.Sl Go.Extern.Stop Go.Stop Go.Extern
set_option linter.unusedVariables false

theorem parts_ptr (a : Addr) (w : World) : (ReflectliteValue.parts (.agg #[H 69, .pointer (some a), .int .u64 150])).run Tryd.prog w = .ok (some (69, a, 150)) w := by kernel_rfl
theorem parts_to (a : Addr) (w : World) : (ReflectliteValue.parts (.agg #[H 29, .pointer (some a), .int .u64 386])).run Tryd.prog w = .ok (some (29, a, 386)) w := by kernel_rfl
theorem parts_from (a : Addr) (w : World) : (ReflectliteValue.parts (.agg #[H 29, .pointer (some a), .int .u64 130])).run Tryd.prog w = .ok (some (29, a, 130)) w := by kernel_rfl
theorem type_ptr (a : Addr) (w : World) : (ReflectliteValue.methodAny (ReflectliteValue.valueError "reflectlite.Value.Type" 0) (fun t _ _ _ => ReflectliteType.toType t) #[.agg #[H 69, .pointer (some a), .int .u64 150]]).run Tryd.prog w = .ok (.iface 96 (.agg #[H 69])) w := by kernel_rfl
theorem elemq_ptr (w : World) : (Rtype.elem? 69).run Tryd.prog w = .ok (some 29) w := by kernel_rfl
theorem mk_to (p : Addr) (w : World) : (ReflectliteValue.mk 29 p ReflectliteValue.flagAddr).run Tryd.prog w = .ok (.agg #[H 29, .pointer (some p), .int .u64 386]) w := by kernel_rfl
theorem direct_code (w : World) : (Rtype.directlyAssignable 29 29).run Tryd.prog w = .ok true w := by kernel_rfl

theorem isNil_ptr (a p : Addr) (w : World) (h : w.cell? a = some (.pointer (some p))) :
    (ReflectliteValue.method (ReflectliteValue.valueError "reflectlite.Value.IsNil" 0) ReflectliteValue.isNil #[.agg #[H 69, .pointer (some a), .int .u64 150]]).run Tryd.prog w = .ok (.bool false) w := by
  rw [Go.Lib.rl_method]
  simp only [Sem.run_bind, parts_ptr, Result.andThen]
  simp [ReflectliteValue.isNil, loadVar, Tryd.isAgg69, h, Result.andThen]

theorem valueElem_ptr (a p : Addr) (w : World) (h : w.cell? a = some (.pointer (some p))) :
    (ReflectliteValue.method (ReflectliteValue.valueError "reflectlite.Value.Elem" 0) ReflectliteValue.elem #[.agg #[H 69, .pointer (some a), .int .u64 150]]).run Tryd.prog w = .ok (.agg #[H 29, .pointer (some p), .int .u64 386]) w := by
  rw [Go.Lib.rl_method]
  simp only [Sem.run_bind, parts_ptr, Result.andThen]
  simp [ReflectliteValue.elem, loadVar, Tryd.isAgg69, h, elemq_ptr, mk_to, Result.andThen]

theorem rl_set (v x : Value) : ReflectliteValue.set #[v, x] = (do
    let (some (dst, a, fl), some (src, b, _)) := (← ReflectliteValue.parts v, ← ReflectliteValue.parts x)
      | unsupported (.noEntry "extern/(internal/reflectlite.Value).Set.zeroValue")
    if fl / ReflectliteValue.flagAddr % 2 == 0 then unsupported (.noEntry "extern/(internal/reflectlite.Value).Set.unaddressable")
    let val ← loadVar src b
    if ← Rtype.directlyAssignable dst src then storeVar dst a val
    else if ← Rtype.implements dst src then
      if (← Rtype.kind src) == 20 then
        match val with
        | .nilIface => unsupported (.noEntry "extern/reflectlite: a nil value of one interface type handed on as a value of another")
        | _ => storeVar dst a val
      else storeVar dst a (.iface src val)
    else panicString ("reflectlite.Set: value of type " ++ (← Rtype.spelt src) ++ " is not assignable to type " ++ (← Rtype.spelt dst))
    pure (.tuple #[])) := rfl

theorem set_code (z : Nat) (q : Addr) (T : TypeId) (old : Value) (k : IntKind) (n : Int) (w : World) (hz : w.heap[z]? = some (.cells #[old] T (0, 0))) (hq : w.cell? q = some (.int k n)) :
    (ReflectliteValue.set #[.agg #[H 29, .pointer (some ⟨z, 0, none⟩), .int .u64 386], .agg #[H 29, .pointer (some q), .int .u64 130]]).run Tryd.prog w = .ok (.tuple #[]) (w.setRow z #[.int k n]) := by
  have hs := run_storeVar_one (P := Tryd.prog) w z T 29 old (.int k n) hz (by kernel_rfl) rfl
  rw [rl_set]
  simp only [Sem.run_bind, parts_to, parts_from, Result.andThen]
  simp [ReflectliteValue.flagAddr, loadVar, Tryd.isAgg29, hq, direct_code, hs, Result.andThen]
end Go.Proofs.YtoknokbbggnmjaaDoor.Ca
