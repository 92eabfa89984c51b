
/-
  Package errors over package cause's errors: closed facts on the types.
  Package errors over package cause's errors: reflectlite's entries that read or write memory.
  An error of a node: errors.as, errors.As at a *Errno, cause.Code, AtNode, Nodes, where nothing but codes and nodes stand in an error.
-/
import Derived.Test.YtekbbpfnkbanjaaGreatDoorChecked
import Derived.Test.YtekbbpfnkbanjaaGreatDoorMS
import Derived.WalkKit
import Derived.ProofKit
import Derived.LaidEql
import Derived.Stop.Asserts
import Derived.RowKitTokens
import Derived.Lib.ReflectliteSlice
import Derived.Great.BuildSlice
import Derived.Lib.SliceRun
import Derived.Deep.LoopGhost
import Derived.Lib.Hide
namespace Go.Proofs.YtekbbpfnkbanjaaGreatDoor.Ca
set_option linter.unusedSimpArgs false
open Go Go.RowKit Go.Sl Go.Extern.Stop Go.Stop Go.Extern
set_option linter.unusedVariables false

/-- A type's handle. -/
noncomputable def gsz : Nat := Tryz.prog.globals.size
noncomputable abbrev H (t : TypeId) : Value := .pointer (some ⟨gsz, t, none⟩)

theorem typeOf_code (v : Value) (w : World) : (ReflectliteType.typeOf #[.iface 34 v]).run Tryz.prog w = .ok (.iface 125 (.agg #[H 34])) w := by kernel_rfl
theorem typeOf_on (v : Value) (w : World) : (ReflectliteType.typeOf #[.iface 85 v]).run Tryz.prog w = .ok (.iface 125 (.agg #[H 85])) w := by kernel_rfl

theorem valueOf_ptr (v : Value) (w : World) : (ReflectliteValue.unpack (.iface 84 v)).run Tryz.prog w = .ok (.agg #[H 84, .pointer (some ⟨w.heap.size, 0, none⟩), .int .u64 150]) (w.alloc (.cells v.cells 84)) := by kernel_rfl
theorem valueOf_code (v : Value) (w : World) : (ReflectliteValue.unpack (.iface 34 v)).run Tryz.prog w = .ok (.agg #[H 34, .pointer (some ⟨w.heap.size, 0, none⟩), .int .u64 130]) (w.alloc (.cells v.cells 34)) := by kernel_rfl

theorem assert_code_as (v : Value) (w : World) (xT : TypeId) : (Instr.typeAssert (.iface 34 v) xT 130 true).run Tryz.prog w = .ok (.tuple #[.nilIface, .bool false]) w := run_typeAssert_lacksB Tryz.underlying130 (by kernel_rfl) (by kernel_rfl) v xT w
theorem assert_on_as (v : Value) (w : World) (xT : TypeId) : (Instr.typeAssert (.iface 85 v) xT 130 true).run Tryz.prog w = .ok (.tuple #[.nilIface, .bool false]) w := run_typeAssert_lacksB Tryz.underlying130 (by kernel_rfl) (by kernel_rfl) v xT w
theorem assert_on_unwrap (v : Value) (w : World) (xT : TypeId) : (Instr.typeAssert (.iface 85 v) xT 89 true).run Tryz.prog w = .ok (.tuple #[.iface 85 v, .bool true]) w := run_typeAssert_hasB Tryz.underlying89 (by kernel_rfl) v xT w
theorem method_on_unwrap (v : Value) (w : World) : (Go.method 314 85 v "Unwrap").run Tryz.prog w = .ok (139, v) w := by kernel_rfl
theorem method_assignable (v : Value) (w : World) : (Go.method 314 125 v "AssignableTo").run Tryz.prog w = .ok (144, v) w := by kernel_rfl
theorem method_implements (v : Value) (w : World) : (Go.method 314 125 v "Implements").run Tryz.prog w = .ok (147, v) w := by kernel_rfl
theorem method_elem (v : Value) (w : World) : (Go.method 314 125 v "Elem").run Tryz.prog w = .ok (146, v) w := by kernel_rfl
theorem method_kind (v : Value) (w : World) : (Go.method 314 125 (.agg #[v]) "Kind").run Tryz.prog w = .ok (132, v) w := by kernel_rfl

theorem assignable_code (w : World) : (ReflectliteType.relation "AssignableTo" ReflectliteType.assignableTo #[.agg #[H 34], .iface 125 (.agg #[H 34])]).run Tryz.prog w = .ok (.bool true) w := by kernel_rfl
theorem assignable_on (w : World) : (ReflectliteType.relation "AssignableTo" ReflectliteType.assignableTo #[.agg #[H 85], .iface 125 (.agg #[H 34])]).run Tryz.prog w = .ok (.bool false) w := by kernel_rfl
theorem elem_ptr (w : World) : (ReflectliteType.method ReflectliteType.elem #[.agg #[H 84]]).run Tryz.prog w = .ok (.iface 125 (.agg #[H 34])) w := by kernel_rfl
theorem kind_ptr (w : World) : (ReflectliteType.abiMethod (fun t => do pure (.int .u8 (← Rtype.kind t))) #[H 84]).run Tryz.prog w = .ok (.int .u8 22) w := by kernel_rfl
theorem kind_code (w : World) : (ReflectliteType.abiMethod (fun t => do pure (.int .u8 (← Rtype.kind t))) #[H 34]).run Tryz.prog w = .ok (.int .u8 2) w := by kernel_rfl
theorem implements_code (w : World) : (ReflectliteType.relation "Implements" ReflectliteType.implements_ #[.agg #[H 34], .iface 125 (.agg #[H 40])]).run Tryz.prog w = .ok (.bool true) w := by kernel_rfl
end Go.Proofs.YtekbbpfnkbanjaaGreatDoor.Ca

namespace Go.Proofs.YtekbbpfnkbanjaaGreatDoor.Ca
set_option linter.unusedSimpArgs false
open Go Go.RowKit Go.Sl Go.Extern.Stop Go.Stop Go.Extern
set_option linter.unusedVariables false

theorem parts_ptr (a : Addr) (w : World) : (ReflectliteValue.parts (.agg #[H 84, .pointer (some a), .int .u64 150])).run Tryz.prog w = .ok (some (84, a, 150)) w := by kernel_rfl
theorem parts_to (a : Addr) (w : World) : (ReflectliteValue.parts (.agg #[H 34, .pointer (some a), .int .u64 386])).run Tryz.prog w = .ok (some (34, a, 386)) w := by kernel_rfl
theorem parts_from (a : Addr) (w : World) : (ReflectliteValue.parts (.agg #[H 34, .pointer (some a), .int .u64 130])).run Tryz.prog w = .ok (some (34, a, 130)) w := by kernel_rfl
theorem type_ptr (a : Addr) (w : World) : (ReflectliteValue.methodAny (ReflectliteValue.valueError "reflectlite.Value.Type" 0) (fun t _ _ _ => ReflectliteType.toType t) #[.agg #[H 84, .pointer (some a), .int .u64 150]]).run Tryz.prog w = .ok (.iface 125 (.agg #[H 84])) w := by kernel_rfl
theorem elemq_ptr (w : World) : (Rtype.elem? 84).run Tryz.prog w = .ok (some 34) w := by kernel_rfl
theorem mk_to (p : Addr) (w : World) : (ReflectliteValue.mk 34 p ReflectliteValue.flagAddr).run Tryz.prog w = .ok (.agg #[H 34, .pointer (some p), .int .u64 386]) w := by kernel_rfl
theorem direct_code (w : World) : (Rtype.directlyAssignable 34 34).run Tryz.prog w = .ok true w := by kernel_rfl

theorem isNil_ptr (a p : Addr) (w : World) (h : w.cell? a = some (.pointer (some p))) :
    (ReflectliteValue.method (ReflectliteValue.valueError "reflectlite.Value.IsNil" 0) ReflectliteValue.isNil #[.agg #[H 84, .pointer (some a), .int .u64 150]]).run Tryz.prog w = .ok (.bool false) w := by
  rw [Go.Lib.rl_method]
  simp only [Sem.run_bind, parts_ptr, Result.andThen]
  simp [ReflectliteValue.isNil, loadVar, Tryz.isAgg84, h, Result.andThen]

theorem valueElem_ptr (a p : Addr) (w : World) (h : w.cell? a = some (.pointer (some p))) :
    (ReflectliteValue.method (ReflectliteValue.valueError "reflectlite.Value.Elem" 0) ReflectliteValue.elem #[.agg #[H 84, .pointer (some a), .int .u64 150]]).run Tryz.prog w = .ok (.agg #[H 34, .pointer (some p), .int .u64 386]) w := by
  rw [Go.Lib.rl_method]
  simp only [Sem.run_bind, parts_ptr, Result.andThen]
  simp [ReflectliteValue.elem, loadVar, Tryz.isAgg84, h, elemq_ptr, mk_to, Result.andThen]

theorem rl_set (v x : Value) : ReflectliteValue.set #[v, x] = (do
    let (some (dst, a, fl), some (src, b, _)) := (← ReflectliteValue.parts v, ← ReflectliteValue.parts x)
      | unsupported (.noEntry "extern/(internal/reflectlite.Value).Set.zeroValue")
    if fl / ReflectliteValue.flagAddr % 2 == 0 then unsupported (.noEntry "extern/(internal/reflectlite.Value).Set.unaddressable")
    let val ← loadVar src b
    if ← Rtype.directlyAssignable dst src then storeVar dst a val
    else if ← Rtype.implements dst src then
      if (← Rtype.kind src) == 20 then
        match val with
        | .nilIface => unsupported (.noEntry "extern/reflectlite: a nil value of one interface type handed on as a value of another")
        | _ => storeVar dst a val
      else storeVar dst a (.iface src val)
    else panicString ("reflectlite.Set: value of type " ++ (← Rtype.spelt src) ++ " is not assignable to type " ++ (← Rtype.spelt dst))
    pure (.tuple #[])) := rfl

theorem set_code (z : Nat) (q : Addr) (T : TypeId) (old : Value) (k : IntKind) (n : Int) (w : World) (hz : w.heap[z]? = some (.cells #[old] T (0, 0))) (hq : w.cell? q = some (.int k n)) :
    (ReflectliteValue.set #[.agg #[H 34, .pointer (some ⟨z, 0, none⟩), .int .u64 386], .agg #[H 34, .pointer (some q), .int .u64 130]]).run Tryz.prog w = .ok (.tuple #[]) (w.setRow z #[.int k n]) := by
  have hs := run_storeVar_one (P := Tryz.prog) w z T 34 old (.int k n) hz (by kernel_rfl) rfl
  rw [rl_set]
  simp only [Sem.run_bind, parts_to, parts_from, Result.andThen]
  simp [ReflectliteValue.flagAddr, loadVar, Tryz.isAgg34, hq, direct_code, hs, Result.andThen]
end Go.Proofs.YtekbbpfnkbanjaaGreatDoor.Ca

namespace Go.Proofs.YtekbbpfnkbanjaaGreatDoor.Ca
set_option linter.unusedSimpArgs false
open Go Go.RowKit Go.Sl Go.Extern.Stop Go.Stop Go.Extern
set_option linter.unusedVariables false

/-- An error: a code, or one of a node. -/
inductive ET where
  | code (n : Int)
  | on (b : Nat) (n : Int) (e : ET)
def val : ET → Value
  | .code n => .iface 34 (.int .i64 n)
  | .on b _ _ => .iface 85 (.pointer (some ⟨b, 0, none⟩))
def ET.size : ET → Nat
  | .code _ => 1
  | .on _ _ e => e.size + 1
def code1 : ET → Option Int
  | .code n => some n
  | .on _ _ e => code1 e
def nodesE : ET → List Int
  | .code _ => []
  | .on _ n e => n :: nodesE e
def In (T : List Atom) : ET → Prop
  | .code n => True
  | .on b n e => cellsA b #[.int .i64 n, val e] 88 ∈ T ∧ In T e
theorem In.mono {T U : List Atom} (hTU : ∀ x ∈ T, x ∈ U) : ∀ {e : ET}, In T e → In U e
  | .code n, h => by unfold In; trivial
  | .on b n e, h => by
    unfold In at h ⊢
    exact ⟨hTU _ h.1, In.mono hTU h.2⟩
theorem size_pos (e : ET) : 0 < e.size := by cases e <;> unfold ET.size <;> omega
theorem on_unwrap (b : Nat) (v : Value) (w : World) (h : w.cell? ⟨b, 1, none⟩ = some v) : Calls Tryz.prog 139 #[.pointer (some ⟨b, 0, none⟩)] w fun e w' => e = .returned v ∧ w = w' := by
  go_enter Tryz.func139, Tryz.ntmps139
  go_wp2
  go_ret
  exact ⟨rfl, rfl⟩
theorem valueOf_int (n : Int) (w : World) : (ReflectliteValue.unpack (.iface 34 (.int .i64 n))).run Tryz.prog w = .ok (.agg #[H 34, .pointer (some ⟨w.heap.size, 0, none⟩), .int .u64 130]) (w.alloc (.cells #[.int .i64 n] 34)) := by kernel_rfl
theorem Sat.setRow {W w : World} {L : List Atom} {b : Nat} {cs cs' : Array Value} {T : TypeId} (h : Sat W w (cellsA b cs T :: L)) : Sat W (w.setRow b cs') (cellsA b cs' T :: L) := by
  have hrow := h.row m0
  refine Sat.turn h ⟨rfl, rfl, rfl, by simp [World.setRow]⟩ (fun k _ hk => ?_) ⟨_, ?_, rfl⟩
  · simp [World.setRow, Array.getElem?_modify, Ne.symm hk]
  · simp only [World.setRow, Array.getElem?_modify, if_true, hrow, Option.map_some]

theorem val_nil (e : ET) (w : World) : (binOp .eql 40 (val e) .nilIface).run Tryz.prog w = .ok (.bool false) w := by
  cases e <;> exact run_eql_held_nil _ _ _ _ (by kernel_rfl)
theorem guard_nil (e : ET) (x y : Operand) (w : World) : (eqGuard .eql 40 x y (val e) .nilIface).run Tryz.prog w = .ok () w := by
  cases e <;> rfl
theorem RowA.slice {e : TypeId} {size n : Nat} {v : Value} {xs : List Value} {R : List Atom} (h : RowA e size v n xs R) : ∃ a c, v = .slice a n c := by
  rcases h.2 with ⟨h1, h2, _⟩ | ⟨g, off, cap, h1, _⟩
  · exact ⟨_, _, by rw [h1, h2]⟩
  · exact ⟨_, _, h1⟩
theorem size_on (b : Nat) (n : Int) (e : ET) : (ET.on b n e).size = e.size + 1 := by rw [ET.size]
/-- What stands in the target. -/
def got (k0 : Value) : Option Int → Value
  | none => k0
  | some n => .int .i64 n

set_option maxRecDepth 100000 in
set_option maxHeartbeats 4000000 in
theorem as_code (N : Nat) : ∀ (e : ET), e.size ≤ N → ∀ (W w : World) (T F : List Atom) (z nv : Nat) (k0 : Value), In T e →
    Sat W w (cellsA z #[k0] 34 :: cellsA nv #[.pointer (some ⟨z, 0, none⟩)] 84 :: (T ++ F)) →
    Calls Tryz.prog 52 #[val e, .iface 84 (.pointer (some ⟨z, 0, none⟩)), .agg #[H 84, .pointer (some ⟨nv, 0, none⟩), .int .u64 150], .iface 125 (.agg #[H 34])] w
      fun r w' => r = .returned (.bool (code1 e).isSome) ∧ Sat W w' (cellsA z #[got k0 (code1 e)] 34 :: cellsA nv #[.pointer (some ⟨z, 0, none⟩)] 84 :: (T ++ F)) := by
  induction N with
  | zero => intro e he; have := size_pos e; omega
  | succ N ih =>
    intro e he W w T F z nv k0 hin hs
    generalize hc : code1 e = c
    have x1 := @run_callFunc_extern Tryz.prog 61 _ ReflectliteType.typeOf Tryz.func61 (by kernel_rfl) (by kernel_rfl) (by kernel_rfl) (by kernel_rfl)
    have x2 := @run_callFunc_extern Tryz.prog 144 _ (ReflectliteType.relation "AssignableTo" ReflectliteType.assignableTo) Tryz.func144 (by kernel_rfl) (by kernel_rfl) (by kernel_rfl) (by kernel_rfl)
    have x3 := @run_callFunc_extern Tryz.prog 49 _ (fun args => ReflectliteValue.unpack (args.getD 0 (.tuple #[]))) Tryz.func49 (by kernel_rfl) (by kernel_rfl) (by kernel_rfl) (by kernel_rfl)
    have x4 := @run_callFunc_extern Tryz.prog 62 _ (ReflectliteValue.method (ReflectliteValue.valueError "reflectlite.Value.Elem" 0) ReflectliteValue.elem) Tryz.func62 (by kernel_rfl) (by kernel_rfl) (by kernel_rfl) (by kernel_rfl)
    have x5 := @run_callFunc_extern Tryz.prog 63 _ ReflectliteValue.set Tryz.func63 (by kernel_rfl) (by kernel_rfl) (by kernel_rfl) (by kernel_rfl)
    have t1 := typeOf_code
    have t2 := typeOf_on
    have ma := method_assignable
    have a1 := assignable_code
    have a2 := assignable_on
    have hs1 : Sat W (w.alloc (.cells #[H 84, .pointer (some ⟨nv, 0, none⟩), .int .u64 150] 104)) (cellsA w.heap.size #[H 84, .pointer (some ⟨nv, 0, none⟩), .int .u64 150] 104 :: cellsA z #[k0] 34 :: cellsA nv #[.pointer (some ⟨z, 0, none⟩)] 84 :: (T ++ F)) := hs.newCells _ _
    have HC := Lib.hid hc
    clear hc
    go_enter Tryz.func52, Tryz.ntmps52
    go_wp2_with fail
    generalize w.heap.size = y at *
    go_loopg [0] e.size (fun g tv wr => ∃ e' : ET, g = e'.size ∧ tv = val e' ∧ In T e' ∧ e'.size ≤ N + 1 ∧ code1 e' = c ∧ Sat W wr (cellsA y #[H 84, .pointer (some ⟨nv, 0, none⟩), .int .u64 150] 104 :: cellsA z #[k0] 34 :: cellsA nv #[.pointer (some ⟨z, 0, none⟩)] 84 :: (T ++ F)))
    case atStart => exact ⟨e, rfl, rfl, hin, he, HC.out, hs1⟩
    case round =>
      clear hs hs1 hin he HC
      obtain ⟨e', rfl, rfl, hin, he, hce, hs⟩ := hrel
      have HCE := Lib.hid hce
      clear hce
      have y0 : wr.cell? ⟨y, 0, none⟩ = some (H 84) := hs.cell m0 0
      have y1 : wr.cell? ⟨y, 1, none⟩ = some (.pointer (some ⟨nv, 0, none⟩)) := hs.cell m0 1
      have y2 : wr.cell? ⟨y, 2, none⟩ = some (.int .u64 150) := hs.cell m0 2
      have n0 : wr.cell? ⟨nv, 0, none⟩ = some (.pointer (some ⟨z, 0, none⟩)) := hs.cell m2 0
      cases e' with
      | code n =>
        unfold val
        have v1 := valueElem_ptr ⟨nv, 0, none⟩ ⟨z, 0, none⟩ wr n0
        have v2 := valueOf_int n wr
        have hs2 : Sat W _ (cellsA z #[k0] 34 :: cellsA nv #[.pointer (some ⟨z, 0, none⟩)] 84 :: (T ++ F)) := (hs.alloc (.cells #[.int .i64 n] 34)).tail
        have v3 := set_code z ⟨wr.heap.size, 0, none⟩ 34 k0 .i64 n _ (hs2.row m0) (by simp)
        go_wp2_with fail
        go_ret
        have hc : code1 (.code n) = c := HCE.out
        subst hc
        exact ⟨rfl, Sat.setRow hs2⟩
      | on b n e2 =>
        unfold In at hin
        obtain ⟨hb, hin2⟩ := hin
        have u1 := assert_on_as
        have u2 := assert_on_unwrap
        have u3 := method_on_unwrap
        have u4 := val_nil e2
        have u6 := guard_nil e2
        unfold val
        have b1 : wr.cell? ⟨b, 1, none⟩ = some (val e2) := hs.cell (List.mem_cons_of_mem _ (List.mem_cons_of_mem _ (List.mem_cons_of_mem _ (List.mem_append_left _ hb)))) 1
        go_wp2_with fail
        refine (on_unwrap b (val e2) _ b1).mono ?_; rintro r w2 ⟨rfl, rfl⟩
        go_wp2_with fail
        go_roundg e2.size
        case measure => rw [size_on]; omega
        case rel =>
          have hc : code1 e2 = c := by have := HCE.out; unfold code1 at this; exact this
          rw [size_on] at he
          exact ⟨e2, rfl, rfl, hin2, by omega, hc, hs⟩
/-- What stands in errors.errorType. -/
def ErrT (w : World) : Prop := w.cell? ⟨0, 0, none⟩ = some (.iface 125 (.agg #[H 40]))

theorem kind2_ptr (w : World) : (ReflectliteType.abiMethod (fun t => (fun a : Nat => Value.int .u8 (a : Int)) <$> Rtype.kind t) #[H 84]).run Tryz.prog w = .ok (.int .u8 22) w := by kernel_rfl
theorem kind2_code (w : World) : (ReflectliteType.abiMethod (fun t => (fun a : Nat => Value.int .u8 (a : Int)) <$> Rtype.kind t) #[H 34]).run Tryz.prog w = .ok (.int .u8 2) w := by kernel_rfl

theorem cell?_alloc_some' {w : World} {a : Addr} {v : Value} (o : Obj) (h : w.cell? a = some v) : (w.alloc o).cell? a = some v := by
  rw [(Below.alloc (Below.refl _ w) (Nat.le_refl _) o).cell (World.block_lt_of_cell? _ _ h), h]

set_option maxRecDepth 100000 in
set_option maxHeartbeats 4000000 in
theorem As_code (e : ET) (W w : World) (T F : List Atom) (z : Nat) (k0 : Value) (hin : In T e) (hG : ErrT w) (hs : Sat W w (cellsA z #[k0] 34 :: (T ++ F))) :
    Calls Tryz.prog 39 #[val e, .iface 84 (.pointer (some ⟨z, 0, none⟩))] w
      fun r w' => r = .returned (.bool (code1 e).isSome) ∧ Sat W w' (cellsA z #[got k0 (code1 e)] 34 :: (T ++ F)) := by
  have x1 := @run_callFunc_extern Tryz.prog 49 _ (fun args => ReflectliteValue.unpack (args.getD 0 (.tuple #[]))) Tryz.func49 (by kernel_rfl) (by kernel_rfl) (by kernel_rfl) (by kernel_rfl)
  have x2 := @run_callFunc_extern Tryz.prog 50 _ (ReflectliteValue.methodAny (ReflectliteValue.valueError "reflectlite.Value.Type" 0) fun t _ _ _ => ReflectliteType.toType t) Tryz.func50 (by kernel_rfl) (by kernel_rfl) (by kernel_rfl) (by kernel_rfl)
  have x3 := @run_callFunc_extern Tryz.prog 132 _ (ReflectliteType.abiMethod fun t => do pure (.int .u8 (← Rtype.kind t))) Tryz.func132 (by kernel_rfl) (by kernel_rfl) (by kernel_rfl) (by kernel_rfl)
  have x4 := @run_callFunc_extern Tryz.prog 51 _ (ReflectliteValue.method (ReflectliteValue.valueError "reflectlite.Value.IsNil" 0) ReflectliteValue.isNil) Tryz.func51 (by kernel_rfl) (by kernel_rfl) (by kernel_rfl) (by kernel_rfl)
  have x5 := @run_callFunc_extern Tryz.prog 146 _ (ReflectliteType.method ReflectliteType.elem) Tryz.func146 (by kernel_rfl) (by kernel_rfl) (by kernel_rfl) (by kernel_rfl)
  have x6 := @run_callFunc_extern Tryz.prog 147 _ (ReflectliteType.relation "Implements" ReflectliteType.implements_) Tryz.func147 (by kernel_rfl) (by kernel_rfl) (by kernel_rfl) (by kernel_rfl)
  have m1 := method_kind
  have m2 := method_elem
  have m3 := method_implements
  have f1 := valueOf_ptr (.pointer (some ⟨z, 0, none⟩))
  have f2 := type_ptr
  have f3 := kind2_ptr
  have f4 := elem_ptr
  have f5 := kind2_code
  have f6 := implements_code
  have u4 := val_nil e
  have u5 := guard_nil e
  have hG0 : w.cell? ⟨0, 0, none⟩ = some (.iface 125 (.agg #[H 40])) := hG
  have g0 : 0 < w.heap.size := World.block_lt_of_cell? _ _ hG0
  simp only [Value.cells] at f1
  have f7 := isNil_ptr ⟨w.heap.size, 0, none⟩ ⟨z, 0, none⟩ ((w.alloc (.cells #[.pointer (some ⟨z, 0, none⟩)] 84)).alloc (.cells #[H 84, .pointer (some ⟨w.heap.size, 0, none⟩), .int .u64 150] 104)) (by go_simp)
  have hs1 := (hs.newCells #[.pointer (some ⟨z, 0, none⟩)] 84).newCells #[H 84, .pointer (some ⟨w.heap.size, 0, none⟩), .int .u64 150] 104
  rw [show (w.alloc (.cells #[.pointer (some ⟨z, 0, none⟩)] 84)).heap.size = w.heap.size + 1 by simp] at hs1
  have hs2 : Sat W _ (cellsA z #[k0] 34 :: cellsA w.heap.size #[.pointer (some ⟨z, 0, none⟩)] 84 :: (T ++ (cellsA (w.heap.size + 1) #[H 84, .pointer (some ⟨w.heap.size, 0, none⟩), .int .u64 150] 104 :: F))) := hs1.use (by intro x; simp only [cnt_append, cnt_cons, cnt_nil]; omega)
  clear hG hs hs1
  go_enter Tryz.func39, Tryz.ntmps39
  go_wp2_with fail
  refine (as_code e.size e (Nat.le_refl _) W _ T _ z w.heap.size k0 hin hs2).mono ?_; rintro r w2 ⟨rfl, hs3⟩
  go_wp2_with fail
  go_ret
  exact ⟨rfl, hs3.use (by intro x; simp only [cnt_append, cnt_cons, cnt_nil]; omega)⟩

/-- A code, or that there is none. -/
def codeOf : Option ET → Int
  | none => 0
  | some e => match code1 e with
    | some n => n
    | none => 8

set_option maxRecDepth 100000 in
theorem code_any (e : ET) (W w : World) (T F : List Atom) (hin : In T e) (hG : ErrT w) (hs : Sat W w (T ++ F)) :
    Calls Tryz.prog 18 #[val e] w fun r w' => r = .returned (.int .i64 (codeOf (some e))) ∧ Sat W w' (T ++ F) := by
  have u4 := val_nil e
  have u5 := guard_nil e
  have hs1 := hs.newCells #[.int .i64 0] 34
  have hG1 : ErrT (w.alloc (.cells #[.int .i64 0] 34)) := by
    unfold ErrT at hG ⊢
    exact cell?_alloc_some' _ hG
  have hG0 : w.cell? ⟨0, 0, none⟩ = some (.iface 125 (.agg #[H 40])) := hG
  clear hG hG0 hs
  go_enter Tryz.func18, Tryz.ntmps18
  go_wp2_with fail
  refine (As_code e W _ T F w.heap.size (.int .i64 0) hin hG1 hs1).mono ?_; rintro r w2 ⟨rfl, hs2⟩
  cases hc : code1 e with
  | none =>
    have HC := Lib.hid hc
    clear hc
    go_wp2_with fail
    go_ret
    exact ⟨by simp [codeOf, HC.out], hs2.tail⟩
  | some n =>
    rw [hc] at hs2
    have c0 : w2.cell? ⟨w.heap.size, 0, none⟩ = some (.int .i64 n) := hs2.cell m0 0
    have HC := Lib.hid hc
    clear hc
    go_wp2_with fail
    go_ret
    exact ⟨by simp [codeOf, HC.out], hs2.tail⟩
theorem val_iface (e : ET) : ∃ t x, val e = .iface t x := by cases e <;> exact ⟨_, _, rfl⟩
theorem at_node (n : Int) (e : ET) (W w : World) (L : List Atom) (hs : Sat W w L) :
    Calls Tryz.prog 33 #[.int .i64 n, val e] w fun r w' => ∃ b, r = .returned (val (.on b n e)) ∧ Sat W w' (cellsA b #[.int .i64 n, val e] 88 :: L) := by
  obtain ⟨t, x, hv⟩ := val_iface e
  rw [hv]
  have hs1 := hs.newCells #[.int .i64 n, .iface t x] 88
  go_enter Tryz.func33, Tryz.ntmps33
  go_wp2_with fail
  go_ret
  exact ⟨_, rfl, hs1⟩
theorem infoInt : (Tryz.prog.info? 3).map (fun i => (i.zero, i.size, i.bytes)) = some (some (.int .i64 0), 1, 8) := by kernel_rfl
def ints (l : List Int) : List Value := l.map (.int .i64)
theorem ints_one (l : List Int) : ∀ u ∈ ints l, u.oneCell' = true := fun u hu => by obtain ⟨x, _, rfl⟩ := List.mem_map.1 hu; rfl

section
variable {W w : World} {F L A : List Atom} {v sv : Value} {o : Oper} {a : Act} {K : Act → World → Prop} {Q : Exit → Act → World → Prop}
theorem wp_append_int {x y : Operand} (ho : o.op = .call { callee := .builtin .append, args := #[x, y], argTypes := #[22, 22] }) (l m : List Int) (hv : a.eval x = v) (hsv : a.eval y = sv)
    (hr : RowA 3 1 v l.length (ints l) A) (hs : Sat W w (A ++ F)) (hsrc : Reads w sv m.length (ints m)) (hb : l.length + m.length < 1000000)
    (h : ∀ v' w' A', RowA 3 1 v' (l ++ m).length (ints (l ++ m)) A' → Sat W w' (A' ++ F) → K (a.put o.dst v') w') : o.wp Tryz.prog a w K Q := by
  obtain ⟨i0, hi, hz0, hz1, hz2⟩ := info_parts infoInt
  obtain ⟨v2, w2, R2, hra, hrow, hs2⟩ := append_sl (P := Tryz.prog) o.type Tryz.underlying22 hi hz0 hz1 hz2 rfl (by decide) hr hs hsrc (by simp [ints]) (ints_one m) (by unfold maxLen; omega) (by omega)
  refine wp_append ho (by rw [hv, hsv]; exact hra) (h _ _ _ ?_ hs2)
  rw [List.length_append, ints, List.map_append]
  exact hrow
end

theorem is_on (v : Value) (xT : TypeId) (w : World) : (Instr.typeAssert (.iface 85 v) xT 85 true).run Tryz.prog w = .ok (.tuple #[v, .bool true]) w := by kernel_rfl
theorem on_code (v : Value) (xT : TypeId) (w : World) : (Instr.typeAssert (.iface 34 v) xT 85 true).run Tryz.prog w = .ok (.tuple #[.pointer none, .bool false]) w := by kernel_rfl
theorem assert_code_unwrap (v : Value) (w : World) (xT : TypeId) : (Instr.typeAssert (.iface 34 v) xT 89 true).run Tryz.prog w = .ok (.tuple #[.nilIface, .bool false]) w := run_typeAssert_lacksB Tryz.underlying89 (by kernel_rfl) (by kernel_rfl) v xT w
theorem assert_code_unwraps (v : Value) (w : World) (xT : TypeId) : (Instr.typeAssert (.iface 34 v) xT 91 true).run Tryz.prog w = .ok (.tuple #[.nilIface, .bool false]) w := run_typeAssert_lacksB Tryz.underlying91 (by kernel_rfl) (by kernel_rfl) v xT w
theorem neq_val (e : ET) (w : World) : (binOp .neq 40 (val e) .nilIface).run Tryz.prog w = .ok (.bool true) w := by
  cases e <;> exact run_neq_held_nil _ _ _ _ (by kernel_rfl)
theorem guardn_nil (e : ET) (x y : Operand) (w : World) : (eqGuard .neq 40 x y (val e) .nilIface).run Tryz.prog w = .ok () w := by
  cases e <;> rfl

set_option maxRecDepth 100000 in
set_option maxHeartbeats 4000000 in
theorem nodes_any (N : Nat) : ∀ (e : ET), e.size ≤ N → (nodesE e).length < 100000 → ∀ (W w : World) (T F : List Atom), In T e → Sat W w (T ++ F) →
    Calls Tryz.prog 23 #[val e] w fun r w' => ∃ v R, r = .returned v ∧ RowA 3 1 v (nodesE e).length (ints (nodesE e)) R ∧ Sat W w' (R ++ (T ++ F)) := by
  induction N with
  | zero => intro e he; have := size_pos e; omega
  | succ N ih =>
    intro e he hl W w T F hin hs
    cases e with
    | code n =>
      have u1 := assert_code_unwrap
      have u2 := assert_code_unwraps
      have u3 := on_code
      unfold val
      go_enter Tryz.func23, Tryz.ntmps23
      go_wp2_with fail
      go_ret
      exact ⟨_, [], rfl, RowA.nil _ _, hs⟩
    | on b n e2 =>
      unfold In at hin
      obtain ⟨hb, hin2⟩ := hin
      rw [size_on] at he
      have u1 := assert_on_unwrap
      have u2 := method_on_unwrap
      have u3 := is_on
      have u4 := neq_val e2
      have u5 := guardn_nil e2
      have b0 : w.cell? ⟨b, 0, none⟩ = some (.int .i64 n) := hs.cell (List.mem_append_left _ hb) 0
      have hs1 : Sat W (w.alloc (.cells #[.int .i64 n] 3)) ([] ++ (cellsA w.heap.size #[.int .i64 n] 3 :: (T ++ F))) := hs.newCells _ _
      have hsrc : Reads (w.alloc (.cells #[.int .i64 n] 3)) (.slice (some ⟨w.heap.size, 0, none⟩) 1 1) [n].length (ints [n]) := by
        refine .inr ⟨_, _, rfl, fun j u hu => ?_⟩
        rw [add_row, hs1.cell m0 (0 + j), ← hu]
        simp [ints]
      have hnd : nodesE (.on b n e2) = [] ++ [n] ++ nodesE e2 := by rw [nodesE]; rfl
      rw [hnd] at hl ⊢
      have hl2 : (nodesE e2).length < 100000 := by simp at hl; omega
      have HN := Lib.hid hnd
      clear hnd hs
      unfold val
      go_enter Tryz.func23, Tryz.ntmps23
      go_wp2_with (at_builtin; refine wpList_plain rfl (fun K hK => ?_); refine wp_append_int rfl [] [n] rfl rfl (RowA.nil _ _) hs1 hsrc (by simp) (fun v1 w1 R1 hr1 hs2 => ?_); refine hK _ _ ?_; simp only [Act.put, List.setIfInBounds_toArray, List.set_cons_zero, List.set_cons_succ]; clear hK)
      have b1 : w1.cell? ⟨b, 1, none⟩ = some (val e2) := hs2.cell (List.mem_append_right _ (List.mem_cons_of_mem _ (List.mem_append_left _ hb))) 1
      refine (on_unwrap b (val e2) _ b1).mono ?_; rintro r w2 ⟨rfl, rfl⟩
      clear hs1 hsrc b0
      go_wp2_with fail
      have hs3 : Sat W w1 (T ++ (R1 ++ (cellsA w.heap.size #[.int .i64 n] 3 :: F))) := hs2.use (by intro x; simp only [cnt_append, cnt_cons, cnt_nil]; omega)
      refine (ih e2 (by omega) hl2 W w1 T _ hin2 hs3).mono ?_; rintro r w3 ⟨v3, R3, rfl, hr3, hs4⟩
      have hs5 : Sat W w3 (R1 ++ (R3 ++ (cellsA w.heap.size #[.int .i64 n] 3 :: (T ++ F)))) := hs4.use (by intro x; simp only [cnt_append, cnt_cons, cnt_nil]; omega)
      have hrd := hr3.reads hs4
      clear hs2 hs3 hs4 b1
      go_wp2_with (at_builtin; refine wpList_plain rfl (fun K hK => ?_); refine wp_append_int rfl ([] ++ [n]) (nodesE e2) rfl rfl hr1 hs5 hrd (by simp; omega) (fun v4 w4 R4 hr4 hs6 => ?_); refine hK _ _ ?_; simp only [Act.put, List.setIfInBounds_toArray, List.set_cons_zero, List.set_cons_succ]; clear hK)
      go_ret
      exact ⟨v4, R4, rfl, hr4, hs6.use (by intro x; simp only [cnt_append, cnt_cons, cnt_nil]; omega)⟩
end Go.Proofs.YtekbbpfnkbanjaaGreatDoor.Ca
