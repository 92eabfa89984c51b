/-
  errors.As at a **cause.All.
-/
import Derived.Test.YtoknokbbggnmjaaDoorCaH
namespace Go.Proofs.YtoknokbbggnmjaaDoor.Ca
set_option linter.unusedSimpArgs false
open Go Go.RowKit Go.Sl Go.Extern.Stop Go.Stop Go.Extern
set_option linter.unusedVariables false

theorem l_parts_ptr (a : Addr) (w : World) : (ReflectliteValue.parts (.agg #[H 62, .pointer (some a), .int .u64 150])).run Tryd.prog w = .ok (some (62, a, 150)) w := by kernel_rfl
theorem l_parts_to (a : Addr) (w : World) : (ReflectliteValue.parts (.agg #[H 58, .pointer (some a), .int .u64 406])).run Tryd.prog w = .ok (some (58, a, 406)) w := by kernel_rfl
theorem l_parts_from (a : Addr) (w : World) : (ReflectliteValue.parts (.agg #[H 58, .pointer (some a), .int .u64 150])).run Tryd.prog w = .ok (some (58, a, 150)) w := by kernel_rfl
theorem l_type_ptr (a : Addr) (w : World) : (ReflectliteValue.methodAny (ReflectliteValue.valueError "reflectlite.Value.Type" 0) (fun t _ _ _ => ReflectliteType.toType t) #[.agg #[H 62, .pointer (some a), .int .u64 150]]).run Tryd.prog w = .ok (.iface 96 (.agg #[H 62])) w := by kernel_rfl
theorem l_elemq_ptr (w : World) : (Rtype.elem? 62).run Tryd.prog w = .ok (some 58) w := by kernel_rfl
theorem l_mk_to (p : Addr) (w : World) : (ReflectliteValue.mk 58 p ReflectliteValue.flagAddr).run Tryd.prog w = .ok (.agg #[H 58, .pointer (some p), .int .u64 406]) w := by kernel_rfl
theorem l_direct_code (w : World) : (Rtype.directlyAssignable 58 58).run Tryd.prog w = .ok true w := by kernel_rfl

theorem l_isNil_ptr (a p : Addr) (w : World) (h : w.cell? a = some (.pointer (some p))) :
    (ReflectliteValue.method (ReflectliteValue.valueError "reflectlite.Value.IsNil" 0) ReflectliteValue.isNil #[.agg #[H 62, .pointer (some a), .int .u64 150]]).run Tryd.prog w = .ok (.bool false) w := by
  rw [Go.Lib.rl_method]
  simp only [Sem.run_bind, l_parts_ptr, Result.andThen]
  simp [ReflectliteValue.isNil, loadVar, Tryd.isAgg62, h, Result.andThen]

theorem l_valueElem_ptr (a p : Addr) (w : World) (h : w.cell? a = some (.pointer (some p))) :
    (ReflectliteValue.method (ReflectliteValue.valueError "reflectlite.Value.Elem" 0) ReflectliteValue.elem #[.agg #[H 62, .pointer (some a), .int .u64 150]]).run Tryd.prog w = .ok (.agg #[H 58, .pointer (some p), .int .u64 406]) w := by
  rw [Go.Lib.rl_method]
  simp only [Sem.run_bind, l_parts_ptr, Result.andThen]
  simp [ReflectliteValue.elem, loadVar, Tryd.isAgg62, h, l_elemq_ptr, l_mk_to, Result.andThen]

theorem l_set_code (z : Nat) (q : Addr) (T : TypeId) (old : Value) (p : Addr) (w : World) (hz : w.heap[z]? = some (.cells #[old] T (0, 0))) (hq : w.cell? q = some (.pointer (some p))) :
    (ReflectliteValue.set #[.agg #[H 58, .pointer (some ⟨z, 0, none⟩), .int .u64 406], .agg #[H 58, .pointer (some q), .int .u64 150]]).run Tryd.prog w = .ok (.tuple #[]) (w.setRow z #[.pointer (some p)]) := by
  have hs := run_storeVar_one (P := Tryd.prog) w z T 58 old (.pointer (some p)) hz (by kernel_rfl) rfl
  rw [rl_set]
  simp only [Sem.run_bind, l_parts_to, l_parts_from, Result.andThen]
  simp [ReflectliteValue.flagAddr, loadVar, Tryd.isAgg58, hq, l_direct_code, hs, Result.andThen]
theorem l_valueOf_ptr (v : Value) (w : World) : (ReflectliteValue.unpack (.iface 62 v)).run Tryd.prog w = .ok (.agg #[H 62, .pointer (some ⟨w.heap.size, 0, none⟩), .int .u64 150]) (w.alloc (.cells v.cells 62)) := by kernel_rfl
theorem l_valueOf_of (p : Addr) (w : World) : (ReflectliteValue.unpack (.iface 58 (.pointer (some p)))).run Tryd.prog w = .ok (.agg #[H 58, .pointer (some ⟨w.heap.size, 0, none⟩), .int .u64 150]) (w.alloc (.cells #[.pointer (some p)] 58)) := by kernel_rfl
theorem l_elem_ptr (w : World) : (ReflectliteType.method ReflectliteType.elem #[.agg #[H 62]]).run Tryd.prog w = .ok (.iface 96 (.agg #[H 58])) w := by kernel_rfl
theorem l_implements_code (w : World) : (ReflectliteType.relation "Implements" ReflectliteType.implements_ #[.agg #[H 58], .iface 96 (.agg #[H 27])]).run Tryd.prog w = .ok (.bool true) w := by kernel_rfl
theorem l_kind2_ptr (w : World) : (ReflectliteType.abiMethod (fun t => (fun a : Nat => Value.int .u8 (a : Int)) <$> Rtype.kind t) #[H 62]).run Tryd.prog w = .ok (.int .u8 22) w := by kernel_rfl
theorem l_kind2_code (w : World) : (ReflectliteType.abiMethod (fun t => (fun a : Nat => Value.int .u8 (a : Int)) <$> Rtype.kind t) #[H 58]).run Tryd.prog w = .ok (.int .u8 22) w := by kernel_rfl
theorem l_assignable_code (w : World) : (ReflectliteType.relation "AssignableTo" ReflectliteType.assignableTo #[.agg #[H 29], .iface 96 (.agg #[H 58])]).run Tryd.prog w = .ok (.bool false) w := by kernel_rfl
theorem l_assignable_other (w : World) : (ReflectliteType.relation "AssignableTo" ReflectliteType.assignableTo #[.agg #[H 89], .iface 96 (.agg #[H 58])]).run Tryd.prog w = .ok (.bool false) w := by kernel_rfl
theorem l_assignable_on (w : World) : (ReflectliteType.relation "AssignableTo" ReflectliteType.assignableTo #[.agg #[H 46], .iface 96 (.agg #[H 58])]).run Tryd.prog w = .ok (.bool false) w := by kernel_rfl
theorem l_assignable_of (w : World) : (ReflectliteType.relation "AssignableTo" ReflectliteType.assignableTo #[.agg #[H 47], .iface 96 (.agg #[H 58])]).run Tryd.prog w = .ok (.bool false) w := by kernel_rfl
theorem l_assignable_all (w : World) : (ReflectliteType.relation "AssignableTo" ReflectliteType.assignableTo #[.agg #[H 58], .iface 96 (.agg #[H 58])]).run Tryd.prog w = .ok (.bool true) w := by kernel_rfl
mutual
/-- The first one of that kind. -/
def al1 : ET → Option (Nat × Value)
  | .code _ => none
  | .other _ _ => none
  | .on b s e => al1 e
  | .of b s e => al1 e
  | .all b v es => some (b, v)
def alL : List ET → Option (Nat × Value)
  | [] => none
  | e :: es => match al1 e with
    | some n => some n
    | none => alL es
end
theorem alL_step {es : List ET} {k : Nat} {e : ET} (h : es[k]? = some e) : alL (es.drop k) = match al1 e with | some n => some n | none => alL (es.drop (k + 1)) := by
  obtain ⟨hk, he⟩ := List.getElem?_eq_some_iff.1 h
  rw [List.drop_eq_getElem_cons hk, he]
  rfl
/-- What stands in the target. -/
def gotAll (k0 : Value) : Option (Nat × Value) → Value
  | none => k0
  | some p => .pointer (some ⟨p.1, 0, none⟩)

set_option maxRecDepth 100000 in
set_option maxHeartbeats 4000000 in
theorem as_all (N : Nat) : ∀ (e : ET), e.size ≤ N → ∀ (W w : World) (T F : List Atom) (z nv : Nat) (k0 : Value), In T e →
    Sat W w (cellsA z #[k0] 58 :: cellsA nv #[.pointer (some ⟨z, 0, none⟩)] 62 :: (T ++ F)) →
    Calls Tryd.prog 30 #[val e, .iface 62 (.pointer (some ⟨z, 0, none⟩)), .agg #[H 62, .pointer (some ⟨nv, 0, none⟩), .int .u64 150], .iface 96 (.agg #[H 58])] w
      fun r w' => r = .returned (.bool (al1 e).isSome) ∧ Sat W w' (cellsA z #[gotAll k0 (al1 e)] 58 :: cellsA nv #[.pointer (some ⟨z, 0, none⟩)] 62 :: (T ++ F)) := by
  induction N with
  | zero => intro e he; have := size_pos e; omega
  | succ N ih =>
    intro e he W w T F z nv k0 hin hs
    generalize hc : al1 e = c
    have x1 := @run_callFunc_extern Tryd.prog 24 _ ReflectliteType.typeOf Tryd.func24 (by kernel_rfl) (by kernel_rfl) (by kernel_rfl) (by kernel_rfl)
    have x2 := @run_callFunc_extern Tryd.prog 85 _ (ReflectliteType.relation "AssignableTo" ReflectliteType.assignableTo) Tryd.func85 (by kernel_rfl) (by kernel_rfl) (by kernel_rfl) (by kernel_rfl)
    have x3 := @run_callFunc_extern Tryd.prog 27 _ (fun args => ReflectliteValue.unpack (args.getD 0 (.tuple #[]))) Tryd.func27 (by kernel_rfl) (by kernel_rfl) (by kernel_rfl) (by kernel_rfl)
    have x4 := @run_callFunc_extern Tryd.prog 33 _ (ReflectliteValue.method (ReflectliteValue.valueError "reflectlite.Value.Elem" 0) ReflectliteValue.elem) Tryd.func33 (by kernel_rfl) (by kernel_rfl) (by kernel_rfl) (by kernel_rfl)
    have x5 := @run_callFunc_extern Tryd.prog 34 _ ReflectliteValue.set Tryd.func34 (by kernel_rfl) (by kernel_rfl) (by kernel_rfl) (by kernel_rfl)
    have t1 := typeOf_code
    have t2 := typeOf_on
    have t3 := typeOf_of
    have t4 := typeOf_all
    have t5 := typeOf_other
    have ma := method_assignable
    have a1 := l_assignable_code
    have a2 := l_assignable_on
    have a3 := l_assignable_of
    have a4 := l_assignable_all
    have a5 := l_assignable_other
    have hs1 : Sat W (w.alloc (.cells #[H 62, .pointer (some ⟨nv, 0, none⟩), .int .u64 150] 81)) (cellsA w.heap.size #[H 62, .pointer (some ⟨nv, 0, none⟩), .int .u64 150] 81 :: cellsA z #[k0] 58 :: cellsA nv #[.pointer (some ⟨z, 0, none⟩)] 62 :: (T ++ F)) := hs.newCells _ _
    have HC := Lib.hid hc
    clear hc
    go_enter Tryd.func30, Tryd.ntmps30
    go_wp2_with fail
    generalize w.heap.size = y at *
    go_loopg [0] e.size (fun g tv wr => ∃ e' : ET, g = e'.size ∧ tv = val e' ∧ In T e' ∧ e'.size ≤ N + 1 ∧ al1 e' = c ∧ Sat W wr (cellsA y #[H 62, .pointer (some ⟨nv, 0, none⟩), .int .u64 150] 81 :: cellsA z #[k0] 58 :: cellsA nv #[.pointer (some ⟨z, 0, none⟩)] 62 :: (T ++ F)))
    case atStart => exact ⟨e, rfl, rfl, hin, he, HC.out, hs1⟩
    case round =>
      clear hs hs1 hin he HC
      obtain ⟨e', rfl, rfl, hin, he, hce, hs⟩ := hrel
      have HCE := Lib.hid hce
      clear hce
      have y0 : wr.cell? ⟨y, 0, none⟩ = some (H 62) := hs.cell m0 0
      have y1 : wr.cell? ⟨y, 1, none⟩ = some (.pointer (some ⟨nv, 0, none⟩)) := hs.cell m0 1
      have y2 : wr.cell? ⟨y, 2, none⟩ = some (.int .u64 150) := hs.cell m0 2
      have n0 : wr.cell? ⟨nv, 0, none⟩ = some (.pointer (some ⟨z, 0, none⟩)) := hs.cell m2 0
      cases e' with
      | code n =>
        have u1 := assert_code_as
        have u2 := assert_code_unwrap
        have u3 := assert_code_unwraps
        unfold val
        go_wp2_with fail
        go_ret
        have hc : al1 (.code n) = c := HCE.out
        subst hc
        exact ⟨rfl, hs.tail⟩
      | other b s =>
        have u1 := assert_other_as
        have u2 := assert_other_unwrap
        have u3 := assert_other_unwraps
        unfold val
        go_wp2_with fail
        go_ret
        have hc : al1 (.other b s) = c := HCE.out
        subst hc
        exact ⟨rfl, hs.tail⟩
      | on b n e2 =>
        unfold In at hin
        obtain ⟨hb, hin2⟩ := hin
        have u1 := assert_on_as
        have u2 := assert_on_unwrap
        have u3 := method_on_unwrap
        have u4 := val_nil e2
        have u6 := guard_nil e2
        unfold val
        have b1 : wr.cell? ⟨b, 1, none⟩ = some (val e2) := hs.cell (List.mem_cons_of_mem _ (List.mem_cons_of_mem _ (List.mem_cons_of_mem _ (List.mem_append_left _ hb)))) 1
        go_wp2_with fail
        refine (on_unwrap b (val e2) _ b1).mono ?_; rintro r w2 ⟨rfl, rfl⟩
        go_wp2_with fail
        go_roundg e2.size
        case measure => rw [size_on]; omega
        case rel =>
          have hc : al1 e2 = c := by have := HCE.out; unfold al1 at this; exact this
          rw [size_on] at he
          exact ⟨e2, rfl, rfl, hin2, by omega, hc, hs⟩
      | of b n e2 =>
        unfold In at hin
        obtain ⟨hb, hin2⟩ := hin
        have u1 := assert_of_as
        have u2 := assert_of_unwrap
        have u3 := method_of_unwrap
        have u4 := val_nil e2
        have u6 := guard_nil e2
        unfold val
        have b1 : wr.cell? ⟨b, 1, none⟩ = some (val e2) := hs.cell (List.mem_cons_of_mem _ (List.mem_cons_of_mem _ (List.mem_cons_of_mem _ (List.mem_append_left _ hb)))) 1
        go_wp2_with fail
        refine (of_unwrap b (val e2) _ b1).mono ?_; rintro r w2 ⟨rfl, rfl⟩
        go_wp2_with fail
        go_roundg e2.size
        case measure => rw [size_of]; omega
        case rel =>
          have hc : al1 e2 = c := by have := HCE.out; unfold al1 at this; exact this
          rw [size_of] at he
          exact ⟨e2, rfl, rfl, hin2, by omega, hc, hs⟩
      | all b v es =>
        unfold In at hin
        unfold val
        have v1 := l_valueElem_ptr ⟨nv, 0, none⟩ ⟨z, 0, none⟩ wr n0
        have v2 := l_valueOf_of ⟨b, 0, none⟩ wr
        have hs2 : Sat W _ (cellsA z #[k0] 58 :: cellsA nv #[.pointer (some ⟨z, 0, none⟩)] 62 :: (T ++ F)) := (hs.alloc (.cells #[.pointer (some ⟨b, 0, none⟩)] 58)).tail
        have v3 := l_set_code z ⟨wr.heap.size, 0, none⟩ 58 k0 ⟨b, 0, none⟩ _ (hs2.row m0) (by simp)
        go_wp2_with fail
        go_ret
        have hc : al1 (.all b v es) = c := HCE.out
        subst hc
        exact ⟨by unfold al1; rfl, Sat.setRow hs2⟩
set_option maxRecDepth 100000 in
set_option maxHeartbeats 4000000 in
theorem As_all (e : ET) (W w : World) (T F : List Atom) (z : Nat) (k0 : Value) (hin : In T e) (hG : ErrT w) (hs : Sat W w (cellsA z #[k0] 58 :: (T ++ F))) :
    Calls Tryd.prog 20 #[val e, .iface 62 (.pointer (some ⟨z, 0, none⟩))] w
      fun r w' => r = .returned (.bool (al1 e).isSome) ∧ Sat W w' (cellsA z #[gotAll k0 (al1 e)] 58 :: (T ++ F)) := by
  have x1 := @run_callFunc_extern Tryd.prog 27 _ (fun args => ReflectliteValue.unpack (args.getD 0 (.tuple #[]))) Tryd.func27 (by kernel_rfl) (by kernel_rfl) (by kernel_rfl) (by kernel_rfl)
  have x2 := @run_callFunc_extern Tryd.prog 28 _ (ReflectliteValue.methodAny (ReflectliteValue.valueError "reflectlite.Value.Type" 0) fun t _ _ _ => ReflectliteType.toType t) Tryd.func28 (by kernel_rfl) (by kernel_rfl) (by kernel_rfl) (by kernel_rfl)
  have x3 := @run_callFunc_extern Tryd.prog 56 _ (ReflectliteType.abiMethod fun t => do pure (.int .u8 (← Rtype.kind t))) Tryd.func56 (by kernel_rfl) (by kernel_rfl) (by kernel_rfl) (by kernel_rfl)
  have x4 := @run_callFunc_extern Tryd.prog 29 _ (ReflectliteValue.method (ReflectliteValue.valueError "reflectlite.Value.IsNil" 0) ReflectliteValue.isNil) Tryd.func29 (by kernel_rfl) (by kernel_rfl) (by kernel_rfl) (by kernel_rfl)
  have x5 := @run_callFunc_extern Tryd.prog 87 _ (ReflectliteType.method ReflectliteType.elem) Tryd.func87 (by kernel_rfl) (by kernel_rfl) (by kernel_rfl) (by kernel_rfl)
  have x6 := @run_callFunc_extern Tryd.prog 88 _ (ReflectliteType.relation "Implements" ReflectliteType.implements_) Tryd.func88 (by kernel_rfl) (by kernel_rfl) (by kernel_rfl) (by kernel_rfl)
  have m1 := method_kind
  have m2 := method_elem
  have m3 := method_implements
  have f1 := l_valueOf_ptr (.pointer (some ⟨z, 0, none⟩))
  have f2 := l_type_ptr
  have f3 := l_kind2_ptr
  have f4 := l_elem_ptr
  have f5 := l_kind2_code
  have f6 := l_implements_code
  have u4 := val_nil e
  have u5 := guard_nil e
  have hG0 : w.cell? ⟨0, 0, none⟩ = some (.iface 96 (.agg #[H 27])) := hG
  have g0 : 0 < w.heap.size := World.block_lt_of_cell? _ _ hG0
  simp only [Value.cells] at f1
  have f7 := l_isNil_ptr ⟨w.heap.size, 0, none⟩ ⟨z, 0, none⟩ ((w.alloc (.cells #[.pointer (some ⟨z, 0, none⟩)] 62)).alloc (.cells #[H 62, .pointer (some ⟨w.heap.size, 0, none⟩), .int .u64 150] 81)) (by go_simp)
  have hs1 := (hs.newCells #[.pointer (some ⟨z, 0, none⟩)] 62).newCells #[H 62, .pointer (some ⟨w.heap.size, 0, none⟩), .int .u64 150] 81
  rw [show (w.alloc (.cells #[.pointer (some ⟨z, 0, none⟩)] 62)).heap.size = w.heap.size + 1 by simp] at hs1
  have hs2 : Sat W _ (cellsA z #[k0] 58 :: cellsA w.heap.size #[.pointer (some ⟨z, 0, none⟩)] 62 :: (T ++ (cellsA (w.heap.size + 1) #[H 62, .pointer (some ⟨w.heap.size, 0, none⟩), .int .u64 150] 81 :: F))) := hs1.use (by intro x; simp only [cnt_append, cnt_cons, cnt_nil]; omega)
  clear hG hs hs1
  go_enter Tryd.func20, Tryd.ntmps20
  go_wp2_with fail
  refine (as_all e.size e (Nat.le_refl _) W _ T _ z w.heap.size k0 hin hs2).mono ?_; rintro r w2 ⟨rfl, hs3⟩
  go_wp2_with fail
  go_ret
  exact ⟨rfl, hs3.use (by intro x; simp only [cnt_append, cnt_cons, cnt_nil]; omega)⟩

end Go.Proofs.YtoknokbbggnmjaaDoor.Ca
