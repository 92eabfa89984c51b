/-
  errors.As at a **cause.Of.
-/
import Derived.Test.YtoknokbbggnmjaaDoorCaE
import Derived.Test.YtoknokbbggnmjaaDoorCaF
namespace Go.Proofs.YtoknokbbggnmjaaDoor.Ca
set_option linter.unusedSimpArgs false
open Go Go.RowKit Go.Sl Go.Extern.Stop Go.Stop Go.Extern
set_option linter.unusedVariables false

theorem o_parts_ptr (a : Addr) (w : World) : (ReflectliteValue.parts (.agg #[H 50, .pointer (some a), .int .u64 150])).run Tryd.prog w = .ok (some (50, a, 150)) w := by kernel_rfl
theorem o_parts_to (a : Addr) (w : World) : (ReflectliteValue.parts (.agg #[H 47, .pointer (some a), .int .u64 406])).run Tryd.prog w = .ok (some (47, a, 406)) w := by kernel_rfl
theorem o_parts_from (a : Addr) (w : World) : (ReflectliteValue.parts (.agg #[H 47, .pointer (some a), .int .u64 150])).run Tryd.prog w = .ok (some (47, a, 150)) w := by kernel_rfl
theorem o_type_ptr (a : Addr) (w : World) : (ReflectliteValue.methodAny (ReflectliteValue.valueError "reflectlite.Value.Type" 0) (fun t _ _ _ => ReflectliteType.toType t) #[.agg #[H 50, .pointer (some a), .int .u64 150]]).run Tryd.prog w = .ok (.iface 96 (.agg #[H 50])) w := by kernel_rfl
theorem o_elemq_ptr (w : World) : (Rtype.elem? 50).run Tryd.prog w = .ok (some 47) w := by kernel_rfl
theorem o_mk_to (p : Addr) (w : World) : (ReflectliteValue.mk 47 p ReflectliteValue.flagAddr).run Tryd.prog w = .ok (.agg #[H 47, .pointer (some p), .int .u64 406]) w := by kernel_rfl
theorem o_direct_code (w : World) : (Rtype.directlyAssignable 47 47).run Tryd.prog w = .ok true w := by kernel_rfl

theorem o_isNil_ptr (a p : Addr) (w : World) (h : w.cell? a = some (.pointer (some p))) :
    (ReflectliteValue.method (ReflectliteValue.valueError "reflectlite.Value.IsNil" 0) ReflectliteValue.isNil #[.agg #[H 50, .pointer (some a), .int .u64 150]]).run Tryd.prog w = .ok (.bool false) w := by
  rw [Go.Lib.rl_method]
  simp only [Sem.run_bind, o_parts_ptr, Result.andThen]
  simp [ReflectliteValue.isNil, loadVar, Tryd.isAgg50, h, Result.andThen]

theorem o_valueElem_ptr (a p : Addr) (w : World) (h : w.cell? a = some (.pointer (some p))) :
    (ReflectliteValue.method (ReflectliteValue.valueError "reflectlite.Value.Elem" 0) ReflectliteValue.elem #[.agg #[H 50, .pointer (some a), .int .u64 150]]).run Tryd.prog w = .ok (.agg #[H 47, .pointer (some p), .int .u64 406]) w := by
  rw [Go.Lib.rl_method]
  simp only [Sem.run_bind, o_parts_ptr, Result.andThen]
  simp [ReflectliteValue.elem, loadVar, Tryd.isAgg50, h, o_elemq_ptr, o_mk_to, Result.andThen]

theorem o_set_code (z : Nat) (q : Addr) (T : TypeId) (old : Value) (p : Addr) (w : World) (hz : w.heap[z]? = some (.cells #[old] T (0, 0))) (hq : w.cell? q = some (.pointer (some p))) :
    (ReflectliteValue.set #[.agg #[H 47, .pointer (some ⟨z, 0, none⟩), .int .u64 406], .agg #[H 47, .pointer (some q), .int .u64 150]]).run Tryd.prog w = .ok (.tuple #[]) (w.setRow z #[.pointer (some p)]) := by
  have hs := run_storeVar_one (P := Tryd.prog) w z T 47 old (.pointer (some p)) hz (by kernel_rfl) rfl
  rw [rl_set]
  simp only [Sem.run_bind, o_parts_to, o_parts_from, Result.andThen]
  simp [ReflectliteValue.flagAddr, loadVar, Tryd.isAgg47, hq, o_direct_code, hs, Result.andThen]
theorem o_valueOf_ptr (v : Value) (w : World) : (ReflectliteValue.unpack (.iface 50 v)).run Tryd.prog w = .ok (.agg #[H 50, .pointer (some ⟨w.heap.size, 0, none⟩), .int .u64 150]) (w.alloc (.cells v.cells 50)) := by kernel_rfl
theorem o_valueOf_of (p : Addr) (w : World) : (ReflectliteValue.unpack (.iface 47 (.pointer (some p)))).run Tryd.prog w = .ok (.agg #[H 47, .pointer (some ⟨w.heap.size, 0, none⟩), .int .u64 150]) (w.alloc (.cells #[.pointer (some p)] 47)) := by kernel_rfl
theorem o_elem_ptr (w : World) : (ReflectliteType.method ReflectliteType.elem #[.agg #[H 50]]).run Tryd.prog w = .ok (.iface 96 (.agg #[H 47])) w := by kernel_rfl
theorem o_implements_code (w : World) : (ReflectliteType.relation "Implements" ReflectliteType.implements_ #[.agg #[H 47], .iface 96 (.agg #[H 27])]).run Tryd.prog w = .ok (.bool true) w := by kernel_rfl
theorem o_kind2_ptr (w : World) : (ReflectliteType.abiMethod (fun t => (fun a : Nat => Value.int .u8 (a : Int)) <$> Rtype.kind t) #[H 50]).run Tryd.prog w = .ok (.int .u8 22) w := by kernel_rfl
theorem o_kind2_code (w : World) : (ReflectliteType.abiMethod (fun t => (fun a : Nat => Value.int .u8 (a : Int)) <$> Rtype.kind t) #[H 47]).run Tryd.prog w = .ok (.int .u8 22) w := by kernel_rfl
theorem o_assignable_code (w : World) : (ReflectliteType.relation "AssignableTo" ReflectliteType.assignableTo #[.agg #[H 29], .iface 96 (.agg #[H 47])]).run Tryd.prog w = .ok (.bool false) w := by kernel_rfl
theorem o_assignable_other (w : World) : (ReflectliteType.relation "AssignableTo" ReflectliteType.assignableTo #[.agg #[H 89], .iface 96 (.agg #[H 47])]).run Tryd.prog w = .ok (.bool false) w := by kernel_rfl
theorem o_assignable_on (w : World) : (ReflectliteType.relation "AssignableTo" ReflectliteType.assignableTo #[.agg #[H 46], .iface 96 (.agg #[H 47])]).run Tryd.prog w = .ok (.bool false) w := by kernel_rfl
theorem o_assignable_of (w : World) : (ReflectliteType.relation "AssignableTo" ReflectliteType.assignableTo #[.agg #[H 47], .iface 96 (.agg #[H 47])]).run Tryd.prog w = .ok (.bool true) w := by kernel_rfl
theorem o_assignable_all (w : World) : (ReflectliteType.relation "AssignableTo" ReflectliteType.assignableTo #[.agg #[H 58], .iface 96 (.agg #[H 47])]).run Tryd.prog w = .ok (.bool false) w := by kernel_rfl
mutual
/-- The first one of that kind. -/
def of1 : ET → Option (Nat × Int)
  | .code _ => none
  | .other _ _ => none
  | .on b s e => of1 e
  | .of b s e => some (b, s)
  | .all b v es => ofL es
def ofL : List ET → Option (Nat × Int)
  | [] => none
  | e :: es => match of1 e with
    | some n => some n
    | none => ofL es
end
theorem ofL_step {es : List ET} {k : Nat} {e : ET} (h : es[k]? = some e) : ofL (es.drop k) = match of1 e with | some n => some n | none => ofL (es.drop (k + 1)) := by
  obtain ⟨hk, he⟩ := List.getElem?_eq_some_iff.1 h
  rw [List.drop_eq_getElem_cons hk, he]
  rfl
mutual
theorem of1_in {T : List Atom} : ∀ {e : ET} {b : Nat} {s : Int}, In T e → of1 e = some (b, s) → ∃ v, cellsA b #[.int .i64 s, v] 54 ∈ T
  | .code n, b, s, h, ho => by unfold of1 at ho; cases ho
  | .other b' s', b, s, h, ho => by unfold of1 at ho; cases ho
  | .on b' n e, b, s, h, ho => by
    unfold In at h
    unfold of1 at ho
    exact of1_in h.2 ho
  | .of b' s' e, b, s, h, ho => by
    unfold In at h
    unfold of1 at ho
    cases ho
    exact ⟨_, h.1⟩
  | .all b' v es, b, s, h, ho => by
    unfold In at h
    unfold of1 at ho
    exact ofL_in h.2.2 ho
theorem ofL_in {T : List Atom} : ∀ {es : List ET} {b : Nat} {s : Int}, InL T es → ofL es = some (b, s) → ∃ v, cellsA b #[.int .i64 s, v] 54 ∈ T
  | [], b, s, h, ho => by unfold ofL at ho; cases ho
  | e :: es, b, s, h, ho => by
    unfold InL at h
    unfold ofL at ho
    cases hc : of1 e with
    | none => rw [hc] at ho; exact ofL_in h.2 ho
    | some p => rw [hc] at ho; cases ho; exact of1_in h.1 hc
end
/-- What stands in the target. -/
def gotOf (k0 : Value) : Option (Nat × Int) → Value
  | none => k0
  | some p => .pointer (some ⟨p.1, 0, none⟩)

set_option maxRecDepth 100000 in
set_option maxHeartbeats 4000000 in
theorem as_of (N : Nat) : ∀ (e : ET), e.size ≤ N → ∀ (W w : World) (T F : List Atom) (z nv : Nat) (k0 : Value), In T e →
    Sat W w (cellsA z #[k0] 47 :: cellsA nv #[.pointer (some ⟨z, 0, none⟩)] 50 :: (T ++ F)) →
    Calls Tryd.prog 30 #[val e, .iface 50 (.pointer (some ⟨z, 0, none⟩)), .agg #[H 50, .pointer (some ⟨nv, 0, none⟩), .int .u64 150], .iface 96 (.agg #[H 47])] w
      fun r w' => r = .returned (.bool (of1 e).isSome) ∧ Sat W w' (cellsA z #[gotOf k0 (of1 e)] 47 :: cellsA nv #[.pointer (some ⟨z, 0, none⟩)] 50 :: (T ++ F)) := by
  induction N with
  | zero => intro e he; have := size_pos e; omega
  | succ N ih =>
    intro e he W w T F z nv k0 hin hs
    generalize hc : of1 e = c
    have x1 := @run_callFunc_extern Tryd.prog 24 _ ReflectliteType.typeOf Tryd.func24 (by kernel_rfl) (by kernel_rfl) (by kernel_rfl) (by kernel_rfl)
    have x2 := @run_callFunc_extern Tryd.prog 85 _ (ReflectliteType.relation "AssignableTo" ReflectliteType.assignableTo) Tryd.func85 (by kernel_rfl) (by kernel_rfl) (by kernel_rfl) (by kernel_rfl)
    have x3 := @run_callFunc_extern Tryd.prog 27 _ (fun args => ReflectliteValue.unpack (args.getD 0 (.tuple #[]))) Tryd.func27 (by kernel_rfl) (by kernel_rfl) (by kernel_rfl) (by kernel_rfl)
    have x4 := @run_callFunc_extern Tryd.prog 33 _ (ReflectliteValue.method (ReflectliteValue.valueError "reflectlite.Value.Elem" 0) ReflectliteValue.elem) Tryd.func33 (by kernel_rfl) (by kernel_rfl) (by kernel_rfl) (by kernel_rfl)
    have x5 := @run_callFunc_extern Tryd.prog 34 _ ReflectliteValue.set Tryd.func34 (by kernel_rfl) (by kernel_rfl) (by kernel_rfl) (by kernel_rfl)
    have t1 := typeOf_code
    have t2 := typeOf_on
    have t3 := typeOf_of
    have t4 := typeOf_all
    have t5 := typeOf_other
    have ma := method_assignable
    have a1 := o_assignable_code
    have a2 := o_assignable_on
    have a3 := o_assignable_of
    have a4 := o_assignable_all
    have a5 := o_assignable_other
    have hs1 : Sat W (w.alloc (.cells #[H 50, .pointer (some ⟨nv, 0, none⟩), .int .u64 150] 81)) (cellsA w.heap.size #[H 50, .pointer (some ⟨nv, 0, none⟩), .int .u64 150] 81 :: cellsA z #[k0] 47 :: cellsA nv #[.pointer (some ⟨z, 0, none⟩)] 50 :: (T ++ F)) := hs.newCells _ _
    have HC := Lib.hid hc
    clear hc
    go_enter Tryd.func30, Tryd.ntmps30
    go_wp2_with fail
    generalize w.heap.size = y at *
    go_loopg [0] e.size (fun g tv wr => ∃ e' : ET, g = e'.size ∧ tv = val e' ∧ In T e' ∧ e'.size ≤ N + 1 ∧ of1 e' = c ∧ Sat W wr (cellsA y #[H 50, .pointer (some ⟨nv, 0, none⟩), .int .u64 150] 81 :: cellsA z #[k0] 47 :: cellsA nv #[.pointer (some ⟨z, 0, none⟩)] 50 :: (T ++ F)))
    case atStart => exact ⟨e, rfl, rfl, hin, he, HC.out, hs1⟩
    case round =>
      clear hs hs1 hin he HC
      obtain ⟨e', rfl, rfl, hin, he, hce, hs⟩ := hrel
      have HCE := Lib.hid hce
      clear hce
      have y0 : wr.cell? ⟨y, 0, none⟩ = some (H 50) := hs.cell m0 0
      have y1 : wr.cell? ⟨y, 1, none⟩ = some (.pointer (some ⟨nv, 0, none⟩)) := hs.cell m0 1
      have y2 : wr.cell? ⟨y, 2, none⟩ = some (.int .u64 150) := hs.cell m0 2
      have n0 : wr.cell? ⟨nv, 0, none⟩ = some (.pointer (some ⟨z, 0, none⟩)) := hs.cell m2 0
      cases e' with
      | code n =>
        have u1 := assert_code_as
        have u2 := assert_code_unwrap
        have u3 := assert_code_unwraps
        unfold val
        go_wp2_with fail
        go_ret
        have hc : of1 (.code n) = c := HCE.out
        subst hc
        exact ⟨rfl, hs.tail⟩
      | other b s =>
        have u1 := assert_other_as
        have u2 := assert_other_unwrap
        have u3 := assert_other_unwraps
        unfold val
        go_wp2_with fail
        go_ret
        have hc : of1 (.other b s) = c := HCE.out
        subst hc
        exact ⟨rfl, hs.tail⟩
      | on b n e2 =>
        unfold In at hin
        obtain ⟨hb, hin2⟩ := hin
        have u1 := assert_on_as
        have u2 := assert_on_unwrap
        have u3 := method_on_unwrap
        have u4 := val_nil e2
        have u6 := guard_nil e2
        unfold val
        have b1 : wr.cell? ⟨b, 1, none⟩ = some (val e2) := hs.cell (List.mem_cons_of_mem _ (List.mem_cons_of_mem _ (List.mem_cons_of_mem _ (List.mem_append_left _ hb)))) 1
        go_wp2_with fail
        refine (on_unwrap b (val e2) _ b1).mono ?_; rintro r w2 ⟨rfl, rfl⟩
        go_wp2_with fail
        go_roundg e2.size
        case measure => rw [size_on]; omega
        case rel =>
          have hc : of1 e2 = c := by have := HCE.out; unfold of1 at this; exact this
          rw [size_on] at he
          exact ⟨e2, rfl, rfl, hin2, by omega, hc, hs⟩
      | of b n e2 =>
        unfold In at hin
        unfold val
        have v1 := o_valueElem_ptr ⟨nv, 0, none⟩ ⟨z, 0, none⟩ wr n0
        have v2 := o_valueOf_of ⟨b, 0, none⟩ wr
        have hs2 : Sat W _ (cellsA z #[k0] 47 :: cellsA nv #[.pointer (some ⟨z, 0, none⟩)] 50 :: (T ++ F)) := (hs.alloc (.cells #[.pointer (some ⟨b, 0, none⟩)] 47)).tail
        have v3 := o_set_code z ⟨wr.heap.size, 0, none⟩ 47 k0 ⟨b, 0, none⟩ _ (hs2.row m0) (by simp)
        go_wp2_with fail
        go_ret
        have hc : of1 (.of b n e2) = c := HCE.out
        subst hc
        exact ⟨by unfold of1; rfl, Sat.setRow hs2⟩
      | all b v es =>
        unfold In at hin
        obtain ⟨hb, hrow, hin2⟩ := hin
        rw [size_all] at he
        have u1 := assert_all_as
        have u2 := assert_all_unwrap
        have u3 := assert_all_unwraps
        have u5 := method_all_unwrap
        have hT : ∀ x ∈ T, x ∈ (cellsA y #[H 50, .pointer (some ⟨nv, 0, none⟩), .int .u64 150] 81 :: cellsA z #[k0] 47 :: cellsA nv #[.pointer (some ⟨z, 0, none⟩)] 50 :: (T ++ F)) := fun x hx => List.mem_cons_of_mem _ (List.mem_cons_of_mem _ (List.mem_cons_of_mem _ (List.mem_append_left _ hx)))
        have hlen := hrow.1
        rw [List.length_map] at hlen
        unfold val
        go_wp2_with fail
        refine (all_unwrap b W wr _ v (es.map val) hs (hT _ hb) (hrow.mono hT) (fun u hu => by obtain ⟨x, _, rfl⟩ := List.mem_map.1 hu; exact val_one x)).mono ?_; rintro r w2 ⟨v1, R1, rfl, hr1, hs1⟩
        rw [List.length_map] at hr1
        obtain ⟨a1', c1', rfl⟩ := Ca.RowA.slice hr1
        clear hs y0 y1 y2 n0 hb hrow
        go_wp2_with fail
        have hcl : ofL es = c := by have := HCE.out; unfold of1 at this; exact this
        go_loopg [50] es.length (fun g kv wr => ∃ k : Nat, g = es.length - k ∧ kv = .int .i64 k ∧ k ≤ es.length ∧ ofL (es.drop k) = c ∧ Sat W wr (R1 ++ (cellsA y #[H 50, .pointer (some ⟨nv, 0, none⟩), .int .u64 150] 81 :: cellsA z #[k0] 47 :: cellsA nv #[.pointer (some ⟨z, 0, none⟩)] 50 :: (T ++ F))))
        case atStart => exact ⟨0, by simp, rfl, Nat.zero_le _, by simpa using hcl, hs1⟩
        case round =>
          clear hs1 hcl HCE
          obtain ⟨k, rfl, rfl, hk, hcd, hs⟩ := hrel
          have HCD := Lib.hid hcd
          clear hcd
          have b0 : (0 : Int) ≤ k := by omega
          by_cases hkl : k < es.length
          · have b1 : (k : Int) < es.length := by omega
            have b2 : (k : Int) < 1000000 := by omega
            obtain ⟨ek, hek⟩ : ∃ ek, es[k]? = some ek := ⟨_, List.getElem?_eq_getElem hkl⟩
            have hmem := List.mem_of_getElem? hek
            have hstep := ofL_step hek
            have hsz := size_mem hmem
            have u4 := val_nil ek
            have u6 := guard_nil ek
            rcases hr1.2 with ⟨_, hz, _⟩ | ⟨g1, o1, cap1, e1, _, _, _⟩
            · omega
            cases e1
            have d0 : wr.cell? ⟨g1, o1 + k, none⟩ = some (val ek) := by
              rw [(hr1.cells hs rfl k (by simpa using hkl)).1, List.getElem?_map, hek]; rfl
            have hs2 := Sat.right hs
            have y0 : wr.cell? ⟨y, 0, none⟩ = some (H 50) := hs2.cell m0 0
            have y1 : wr.cell? ⟨y, 1, none⟩ = some (.pointer (some ⟨nv, 0, none⟩)) := hs2.cell m0 1
            have y2 : wr.cell? ⟨y, 2, none⟩ = some (.int .u64 150) := hs2.cell m0 2
            have HST := Lib.hid hstep
            clear hs2 hek hstep
            go_wp2_with fail
            have hs3 : Sat W wr (cellsA z #[k0] 47 :: cellsA nv #[.pointer (some ⟨z, 0, none⟩)] 50 :: (T ++ (R1 ++ (cellsA y #[H 50, .pointer (some ⟨nv, 0, none⟩), .int .u64 150] 81 :: F)))) := hs.use (by intro x; simp only [cnt_append, cnt_cons, cnt_nil]; omega)
            refine (ih ek (by omega) W wr T _ z nv k0 (hin2.mem ek hmem) hs3).mono ?_; rintro r w3 ⟨rfl, hs4⟩
            clear hs hs3
            cases hce : of1 ek with
            | none =>
              rw [hce] at hs4
              simp only [gotOf] at hs4
              have hcn : ofL (es.drop (k + 1)) = c := by have h1 := HST.out; simp only [hce] at h1; rw [← h1]; exact HCD.out
              have HCN := Lib.hid hcn
              clear hce hcn
              go_wp2_with fail
              go_roundg (es.length - (k + 1))
              case measure => omega
              case rel => exact ⟨k + 1, rfl, by simp, by omega, HCN.out, hs4.use (by intro x; simp only [cnt_append, cnt_cons, cnt_nil]; omega)⟩
            | some n =>
              rw [hce] at hs4
              have hcn : c = some n := by have h1 := HST.out; simp only [hce] at h1; rw [← h1]; exact HCD.out.symm
              have HCN := Lib.hid hcn
              clear hce hcn
              go_wp2_with fail
              go_ret
              have hc := HCN.out
              subst hc
              exact ⟨rfl, hs4.use (by intro x; simp only [cnt_append, cnt_cons, cnt_nil]; omega)⟩
          · obtain rfl : k = es.length := by omega
            go_wp2_with fail
            go_ret
            have hc := HCD.out
            simp only [List.drop_length] at hc
            unfold ofL at hc
            subst hc
            simp only [gotOf]
            exact ⟨rfl, hs.use (by intro x; simp only [cnt_append, cnt_cons, cnt_nil]; omega)⟩
set_option maxRecDepth 100000 in
set_option maxHeartbeats 4000000 in
theorem As_of (e : ET) (W w : World) (T F : List Atom) (z : Nat) (k0 : Value) (hin : In T e) (hG : ErrT w) (hs : Sat W w (cellsA z #[k0] 47 :: (T ++ F))) :
    Calls Tryd.prog 20 #[val e, .iface 50 (.pointer (some ⟨z, 0, none⟩))] w
      fun r w' => r = .returned (.bool (of1 e).isSome) ∧ Sat W w' (cellsA z #[gotOf k0 (of1 e)] 47 :: (T ++ F)) := by
  have x1 := @run_callFunc_extern Tryd.prog 27 _ (fun args => ReflectliteValue.unpack (args.getD 0 (.tuple #[]))) Tryd.func27 (by kernel_rfl) (by kernel_rfl) (by kernel_rfl) (by kernel_rfl)
  have x2 := @run_callFunc_extern Tryd.prog 28 _ (ReflectliteValue.methodAny (ReflectliteValue.valueError "reflectlite.Value.Type" 0) fun t _ _ _ => ReflectliteType.toType t) Tryd.func28 (by kernel_rfl) (by kernel_rfl) (by kernel_rfl) (by kernel_rfl)
  have x3 := @run_callFunc_extern Tryd.prog 56 _ (ReflectliteType.abiMethod fun t => do pure (.int .u8 (← Rtype.kind t))) Tryd.func56 (by kernel_rfl) (by kernel_rfl) (by kernel_rfl) (by kernel_rfl)
  have x4 := @run_callFunc_extern Tryd.prog 29 _ (ReflectliteValue.method (ReflectliteValue.valueError "reflectlite.Value.IsNil" 0) ReflectliteValue.isNil) Tryd.func29 (by kernel_rfl) (by kernel_rfl) (by kernel_rfl) (by kernel_rfl)
  have x5 := @run_callFunc_extern Tryd.prog 87 _ (ReflectliteType.method ReflectliteType.elem) Tryd.func87 (by kernel_rfl) (by kernel_rfl) (by kernel_rfl) (by kernel_rfl)
  have x6 := @run_callFunc_extern Tryd.prog 88 _ (ReflectliteType.relation "Implements" ReflectliteType.implements_) Tryd.func88 (by kernel_rfl) (by kernel_rfl) (by kernel_rfl) (by kernel_rfl)
  have m1 := method_kind
  have m2 := method_elem
  have m3 := method_implements
  have f1 := o_valueOf_ptr (.pointer (some ⟨z, 0, none⟩))
  have f2 := o_type_ptr
  have f3 := o_kind2_ptr
  have f4 := o_elem_ptr
  have f5 := o_kind2_code
  have f6 := o_implements_code
  have u4 := val_nil e
  have u5 := guard_nil e
  have hG0 : w.cell? ⟨0, 0, none⟩ = some (.iface 96 (.agg #[H 27])) := hG
  have g0 : 0 < w.heap.size := World.block_lt_of_cell? _ _ hG0
  simp only [Value.cells] at f1
  have f7 := o_isNil_ptr ⟨w.heap.size, 0, none⟩ ⟨z, 0, none⟩ ((w.alloc (.cells #[.pointer (some ⟨z, 0, none⟩)] 50)).alloc (.cells #[H 50, .pointer (some ⟨w.heap.size, 0, none⟩), .int .u64 150] 81)) (by go_simp)
  have hs1 := (hs.newCells #[.pointer (some ⟨z, 0, none⟩)] 50).newCells #[H 50, .pointer (some ⟨w.heap.size, 0, none⟩), .int .u64 150] 81
  rw [show (w.alloc (.cells #[.pointer (some ⟨z, 0, none⟩)] 50)).heap.size = w.heap.size + 1 by simp] at hs1
  have hs2 : Sat W _ (cellsA z #[k0] 47 :: cellsA w.heap.size #[.pointer (some ⟨z, 0, none⟩)] 50 :: (T ++ (cellsA (w.heap.size + 1) #[H 50, .pointer (some ⟨w.heap.size, 0, none⟩), .int .u64 150] 81 :: F))) := hs1.use (by intro x; simp only [cnt_append, cnt_cons, cnt_nil]; omega)
  clear hG hs hs1
  go_enter Tryd.func20, Tryd.ntmps20
  go_wp2_with fail
  refine (as_of e.size e (Nat.le_refl _) W _ T _ z w.heap.size k0 hin hs2).mono ?_; rintro r w2 ⟨rfl, hs3⟩
  go_wp2_with fail
  go_ret
  exact ⟨rfl, hs3.use (by intro x; simp only [cnt_append, cnt_cons, cnt_nil]; omega)⟩

end Go.Proofs.YtoknokbbggnmjaaDoor.Ca
