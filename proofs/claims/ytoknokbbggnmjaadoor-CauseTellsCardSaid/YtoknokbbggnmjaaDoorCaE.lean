/-
  errors.As at a *Errno; cause.Code.
-/
import Derived.Test.YtoknokbbggnmjaaDoorCaD
namespace Go.Proofs.YtoknokbbggnmjaaDoor.Ca
set_option linter.unusedSimpArgs false
open Go Go.RowKit Go.Sl Go.Extern.Stop Go.Stop Go.Extern
set_option linter.unusedVariables false

/-- What stands in errors.errorType. -/
def ErrT (w : World) : Prop := w.cell? ⟨0, 0, none⟩ = some (.iface 96 (.agg #[H 27]))

theorem kind2_ptr (w : World) : (ReflectliteType.abiMethod (fun t => (fun a : Nat => Value.int .u8 (a : Int)) <$> Rtype.kind t) #[H 69]).run Tryd.prog w = .ok (.int .u8 22) w := by kernel_rfl
theorem kind2_code (w : World) : (ReflectliteType.abiMethod (fun t => (fun a : Nat => Value.int .u8 (a : Int)) <$> Rtype.kind t) #[H 29]).run Tryd.prog w = .ok (.int .u8 2) w := by kernel_rfl

theorem cell?_alloc_some' {w : World} {a : Addr} {v : Value} (o : Obj) (h : w.cell? a = some v) : (w.alloc o).cell? a = some v := by
  rw [(Below.alloc (Below.refl _ w) (Nat.le_refl _) o).cell (World.block_lt_of_cell? _ _ h), h]

set_option maxRecDepth 100000 in
set_option maxHeartbeats 4000000 in
theorem As_code (e : ET) (W w : World) (T F : List Atom) (z : Nat) (k0 : Value) (hin : In T e) (hG : ErrT w) (hs : Sat W w (cellsA z #[k0] 29 :: (T ++ F))) :
    Calls Tryd.prog 20 #[val e, .iface 69 (.pointer (some ⟨z, 0, none⟩))] w
      fun r w' => r = .returned (.bool (code1 e).isSome) ∧ Sat W w' (cellsA z #[got k0 (code1 e)] 29 :: (T ++ F)) := by
  have x1 := @run_callFunc_extern Tryd.prog 27 _ (fun args => ReflectliteValue.unpack (args.getD 0 (.tuple #[]))) Tryd.func27 (by kernel_rfl) (by kernel_rfl) (by kernel_rfl) (by kernel_rfl)
  have x2 := @run_callFunc_extern Tryd.prog 28 _ (ReflectliteValue.methodAny (ReflectliteValue.valueError "reflectlite.Value.Type" 0) fun t _ _ _ => ReflectliteType.toType t) Tryd.func28 (by kernel_rfl) (by kernel_rfl) (by kernel_rfl) (by kernel_rfl)
  have x3 := @run_callFunc_extern Tryd.prog 56 _ (ReflectliteType.abiMethod fun t => do pure (.int .u8 (← Rtype.kind t))) Tryd.func56 (by kernel_rfl) (by kernel_rfl) (by kernel_rfl) (by kernel_rfl)
  have x4 := @run_callFunc_extern Tryd.prog 29 _ (ReflectliteValue.method (ReflectliteValue.valueError "reflectlite.Value.IsNil" 0) ReflectliteValue.isNil) Tryd.func29 (by kernel_rfl) (by kernel_rfl) (by kernel_rfl) (by kernel_rfl)
  have x5 := @run_callFunc_extern Tryd.prog 87 _ (ReflectliteType.method ReflectliteType.elem) Tryd.func87 (by kernel_rfl) (by kernel_rfl) (by kernel_rfl) (by kernel_rfl)
  have x6 := @run_callFunc_extern Tryd.prog 88 _ (ReflectliteType.relation "Implements" ReflectliteType.implements_) Tryd.func88 (by kernel_rfl) (by kernel_rfl) (by kernel_rfl) (by kernel_rfl)
  have m1 := method_kind
  have m2 := method_elem
  have m3 := method_implements
  have f1 := valueOf_ptr (.pointer (some ⟨z, 0, none⟩))
  have f2 := type_ptr
  have f3 := kind2_ptr
  have f4 := elem_ptr
  have f5 := kind2_code
  have f6 := implements_code
  have u4 := val_nil e
  have u5 := guard_nil e
  have hG0 : w.cell? ⟨0, 0, none⟩ = some (.iface 96 (.agg #[H 27])) := hG
  have g0 : 0 < w.heap.size := World.block_lt_of_cell? _ _ hG0
  simp only [Value.cells] at f1
  have f7 := isNil_ptr ⟨w.heap.size, 0, none⟩ ⟨z, 0, none⟩ ((w.alloc (.cells #[.pointer (some ⟨z, 0, none⟩)] 69)).alloc (.cells #[H 69, .pointer (some ⟨w.heap.size, 0, none⟩), .int .u64 150] 81)) (by go_simp)
  have hs1 := (hs.newCells #[.pointer (some ⟨z, 0, none⟩)] 69).newCells #[H 69, .pointer (some ⟨w.heap.size, 0, none⟩), .int .u64 150] 81
  rw [show (w.alloc (.cells #[.pointer (some ⟨z, 0, none⟩)] 69)).heap.size = w.heap.size + 1 by simp] at hs1
  have hs2 : Sat W _ (cellsA z #[k0] 29 :: cellsA w.heap.size #[.pointer (some ⟨z, 0, none⟩)] 69 :: (T ++ (cellsA (w.heap.size + 1) #[H 69, .pointer (some ⟨w.heap.size, 0, none⟩), .int .u64 150] 81 :: F))) := hs1.use (by intro x; simp only [cnt_append, cnt_cons, cnt_nil]; omega)
  clear hG hs hs1
  go_enter Tryd.func20, Tryd.ntmps20
  go_wp2_with fail
  refine (as_code e.size e (Nat.le_refl _) W _ T _ z w.heap.size k0 hin hs2).mono ?_; rintro r w2 ⟨rfl, hs3⟩
  go_wp2_with fail
  go_ret
  exact ⟨rfl, hs3.use (by intro x; simp only [cnt_append, cnt_cons, cnt_nil]; omega)⟩

/-- A code, or that there is none. -/
def codeOf : Option ET → Int
  | none => 0
  | some e => match code1 e with
    | some n => n
    | none => 8

set_option maxRecDepth 100000 in
theorem code_any (e : ET) (W w : World) (T F : List Atom) (hin : In T e) (hG : ErrT w) (hs : Sat W w (T ++ F)) :
    Calls Tryd.prog 16 #[val e] w fun r w' => r = .returned (.int .i64 (codeOf (some e))) ∧ Sat W w' (T ++ F) := by
  have u4 := val_nil e
  have u5 := guard_nil e
  have hs1 := hs.newCells #[.int .i64 0] 29
  have hG1 : ErrT (w.alloc (.cells #[.int .i64 0] 29)) := by
    unfold ErrT at hG ⊢
    exact cell?_alloc_some' _ hG
  have hG0 : w.cell? ⟨0, 0, none⟩ = some (.iface 96 (.agg #[H 27])) := hG
  clear hG hG0 hs
  go_enter Tryd.func16, Tryd.ntmps16
  go_wp2_with fail
  refine (As_code e W _ T F w.heap.size (.int .i64 0) hin hG1 hs1).mono ?_; rintro r w2 ⟨rfl, hs2⟩
  cases hc : code1 e with
  | none =>
    have HC := Lib.hid hc
    clear hc
    go_wp2_with fail
    go_ret
    exact ⟨by simp [codeOf, HC.out], hs2.tail⟩
  | some n =>
    rw [hc] at hs2
    have c0 : w2.cell? ⟨w.heap.size, 0, none⟩ = some (.int .i64 n) := hs2.cell m0 0
    have HC := Lib.hid hc
    clear hc
    go_wp2_with fail
    go_ret
    exact ⟨by simp [codeOf, HC.out], hs2.tail⟩
end Go.Proofs.YtoknokbbggnmjaaDoor.Ca
