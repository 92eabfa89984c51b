/-
  Package errors over package cause's errors: closed facts on the types.
-/
import Derived.Test.YtoknokbbggnmjaaDoorChecked
import Derived.Test.YtoknokbbggnmjaaDoorSlRegion
import Derived.WalkKit
import Derived.ProofKit
import Derived.LaidEql
import Derived.Stop.Asserts
import Derived.RowKitTokens
namespace Go.Proofs.YtoknokbbggnmjaaDoor.Ca
set_option linter.unusedSimpArgs false
open Go Go.RowKit Go.Sl Go.Extern.Stop Go.Stop Go.Extern
set_option linter.unusedVariables false

/-- A type's handle. -/
noncomputable def gsz : Nat := Tryd.prog.globals.size
noncomputable abbrev H (t : TypeId) : Value := .pointer (some ⟨gsz, t, none⟩)

theorem typeOf_code (v : Value) (w : World) : (ReflectliteType.typeOf #[.iface 29 v]).run Tryd.prog w = .ok (.iface 96 (.agg #[H 29])) w := by kernel_rfl
theorem typeOf_on (v : Value) (w : World) : (ReflectliteType.typeOf #[.iface 46 v]).run Tryd.prog w = .ok (.iface 96 (.agg #[H 46])) w := by kernel_rfl
theorem typeOf_of (v : Value) (w : World) : (ReflectliteType.typeOf #[.iface 47 v]).run Tryd.prog w = .ok (.iface 96 (.agg #[H 47])) w := by kernel_rfl
theorem typeOf_all (v : Value) (w : World) : (ReflectliteType.typeOf #[.iface 58 v]).run Tryd.prog w = .ok (.iface 96 (.agg #[H 58])) w := by kernel_rfl

theorem typeOf_other (v : Value) (w : World) : (ReflectliteType.typeOf #[.iface 89 v]).run Tryd.prog w = .ok (.iface 96 (.agg #[H 89])) w := by kernel_rfl
theorem valueOf_ptr (v : Value) (w : World) : (ReflectliteValue.unpack (.iface 69 v)).run Tryd.prog w = .ok (.agg #[H 69, .pointer (some ⟨w.heap.size, 0, none⟩), .int .u64 150]) (w.alloc (.cells v.cells 69)) := by kernel_rfl
theorem valueOf_code (v : Value) (w : World) : (ReflectliteValue.unpack (.iface 29 v)).run Tryd.prog w = .ok (.agg #[H 29, .pointer (some ⟨w.heap.size, 0, none⟩), .int .u64 130]) (w.alloc (.cells v.cells 29)) := by kernel_rfl

theorem assert_code_as (v : Value) (w : World) (xT : TypeId) : (Instr.typeAssert (.iface 29 v) xT 104 true).run Tryd.prog w = .ok (.tuple #[.nilIface, .bool false]) w := run_typeAssert_lacksB Tryd.underlying104 (by kernel_rfl) (by kernel_rfl) v xT w
theorem assert_other_as (v : Value) (w : World) (xT : TypeId) : (Instr.typeAssert (.iface 89 v) xT 104 true).run Tryd.prog w = .ok (.tuple #[.nilIface, .bool false]) w := run_typeAssert_lacksB Tryd.underlying104 (by kernel_rfl) (by kernel_rfl) v xT w
theorem assert_on_as (v : Value) (w : World) (xT : TypeId) : (Instr.typeAssert (.iface 46 v) xT 104 true).run Tryd.prog w = .ok (.tuple #[.nilIface, .bool false]) w := run_typeAssert_lacksB Tryd.underlying104 (by kernel_rfl) (by kernel_rfl) v xT w
theorem assert_on_unwrap (v : Value) (w : World) (xT : TypeId) : (Instr.typeAssert (.iface 46 v) xT 65 true).run Tryd.prog w = .ok (.tuple #[.iface 46 v, .bool true]) w := run_typeAssert_hasB Tryd.underlying65 (by kernel_rfl) v xT w
theorem method_on_unwrap (v : Value) (w : World) : (Go.method 262 46 v "Unwrap").run Tryd.prog w = .ok (61, v) w := by kernel_rfl
theorem method_assignable (v : Value) (w : World) : (Go.method 262 96 v "AssignableTo").run Tryd.prog w = .ok (85, v) w := by kernel_rfl
theorem method_implements (v : Value) (w : World) : (Go.method 262 96 v "Implements").run Tryd.prog w = .ok (88, v) w := by kernel_rfl
theorem method_elem (v : Value) (w : World) : (Go.method 262 96 v "Elem").run Tryd.prog w = .ok (87, v) w := by kernel_rfl
theorem method_comparable (v : Value) (w : World) : (Go.method 262 96 v "Comparable").run Tryd.prog w = .ok (86, v) w := by kernel_rfl
theorem method_kind (v : Value) (w : World) : (Go.method 262 96 (.agg #[v]) "Kind").run Tryd.prog w = .ok (56, v) w := by kernel_rfl

theorem assignable_code (w : World) : (ReflectliteType.relation "AssignableTo" ReflectliteType.assignableTo #[.agg #[H 29], .iface 96 (.agg #[H 29])]).run Tryd.prog w = .ok (.bool true) w := by kernel_rfl
theorem assignable_other (w : World) : (ReflectliteType.relation "AssignableTo" ReflectliteType.assignableTo #[.agg #[H 89], .iface 96 (.agg #[H 29])]).run Tryd.prog w = .ok (.bool false) w := by kernel_rfl
theorem assert_other_unwrap (v : Value) (w : World) (xT : TypeId) : (Instr.typeAssert (.iface 89 v) xT 65 true).run Tryd.prog w = .ok (.tuple #[.nilIface, .bool false]) w := run_typeAssert_lacksB Tryd.underlying65 (by kernel_rfl) (by kernel_rfl) v xT w
theorem assert_other_unwraps (v : Value) (w : World) (xT : TypeId) : (Instr.typeAssert (.iface 89 v) xT 67 true).run Tryd.prog w = .ok (.tuple #[.nilIface, .bool false]) w := run_typeAssert_lacksB Tryd.underlying67 (by kernel_rfl) (by kernel_rfl) v xT w
theorem assert_code_unwrap (v : Value) (w : World) (xT : TypeId) : (Instr.typeAssert (.iface 29 v) xT 65 true).run Tryd.prog w = .ok (.tuple #[.nilIface, .bool false]) w := run_typeAssert_lacksB Tryd.underlying65 (by kernel_rfl) (by kernel_rfl) v xT w
theorem assert_code_unwraps (v : Value) (w : World) (xT : TypeId) : (Instr.typeAssert (.iface 29 v) xT 67 true).run Tryd.prog w = .ok (.tuple #[.nilIface, .bool false]) w := run_typeAssert_lacksB Tryd.underlying67 (by kernel_rfl) (by kernel_rfl) v xT w
theorem assignable_on (w : World) : (ReflectliteType.relation "AssignableTo" ReflectliteType.assignableTo #[.agg #[H 46], .iface 96 (.agg #[H 29])]).run Tryd.prog w = .ok (.bool false) w := by kernel_rfl
theorem elem_ptr (w : World) : (ReflectliteType.method ReflectliteType.elem #[.agg #[H 69]]).run Tryd.prog w = .ok (.iface 96 (.agg #[H 29])) w := by kernel_rfl
theorem kind_ptr (w : World) : (ReflectliteType.abiMethod (fun t => do pure (.int .u8 (← Rtype.kind t))) #[H 69]).run Tryd.prog w = .ok (.int .u8 22) w := by kernel_rfl
theorem kind_code (w : World) : (ReflectliteType.abiMethod (fun t => do pure (.int .u8 (← Rtype.kind t))) #[H 29]).run Tryd.prog w = .ok (.int .u8 2) w := by kernel_rfl
theorem implements_code (w : World) : (ReflectliteType.relation "Implements" ReflectliteType.implements_ #[.agg #[H 29], .iface 96 (.agg #[H 27])]).run Tryd.prog w = .ok (.bool true) w := by kernel_rfl
end Go.Proofs.YtoknokbbggnmjaaDoor.Ca
