/-
  errors.as at a *Errno: the walk.
-/
import Derived.Test.YtoknokbbggnmjaaDoorCaC
import Derived.Deep.LoopGhost
import Derived.Lib.Hide
namespace Go.Proofs.YtoknokbbggnmjaaDoor.Ca
set_option linter.unusedSimpArgs false
open Go Go.RowKit Go.Sl Go.Extern.Stop Go.Stop Go.Extern
set_option linter.unusedVariables false

theorem assert_of_as (v : Value) (w : World) (xT : TypeId) : (Instr.typeAssert (.iface 47 v) xT 104 true).run Tryd.prog w = .ok (.tuple #[.nilIface, .bool false]) w := run_typeAssert_lacksB Tryd.underlying104 (by kernel_rfl) (by kernel_rfl) v xT w
theorem assert_all_as (v : Value) (w : World) (xT : TypeId) : (Instr.typeAssert (.iface 58 v) xT 104 true).run Tryd.prog w = .ok (.tuple #[.nilIface, .bool false]) w := run_typeAssert_lacksB Tryd.underlying104 (by kernel_rfl) (by kernel_rfl) v xT w
theorem assert_of_unwrap (v : Value) (w : World) (xT : TypeId) : (Instr.typeAssert (.iface 47 v) xT 65 true).run Tryd.prog w = .ok (.tuple #[.iface 47 v, .bool true]) w := run_typeAssert_hasB Tryd.underlying65 (by kernel_rfl) v xT w
theorem assert_all_unwrap (v : Value) (w : World) (xT : TypeId) : (Instr.typeAssert (.iface 58 v) xT 65 true).run Tryd.prog w = .ok (.tuple #[.nilIface, .bool false]) w := run_typeAssert_lacksB Tryd.underlying65 (by kernel_rfl) (by kernel_rfl) v xT w
theorem assert_all_unwraps (v : Value) (w : World) (xT : TypeId) : (Instr.typeAssert (.iface 58 v) xT 67 true).run Tryd.prog w = .ok (.tuple #[.iface 58 v, .bool true]) w := run_typeAssert_hasB Tryd.underlying67 (by kernel_rfl) v xT w
theorem method_of_unwrap (v : Value) (w : World) : (Go.method 262 47 v "Unwrap").run Tryd.prog w = .ok (77, v) w := by kernel_rfl
theorem method_all_unwrap (v : Value) (w : World) : (Go.method 262 58 v "Unwrap").run Tryd.prog w = .ok (78, v) w := by kernel_rfl
theorem assignable_of (w : World) : (ReflectliteType.relation "AssignableTo" ReflectliteType.assignableTo #[.agg #[H 47], .iface 96 (.agg #[H 29])]).run Tryd.prog w = .ok (.bool false) w := by kernel_rfl
theorem assignable_all (w : World) : (ReflectliteType.relation "AssignableTo" ReflectliteType.assignableTo #[.agg #[H 58], .iface 96 (.agg #[H 29])]).run Tryd.prog w = .ok (.bool false) w := by kernel_rfl

theorem on_unwrap (b : Nat) (v : Value) (w : World) (h : w.cell? ⟨b, 1, none⟩ = some v) : Calls Tryd.prog 61 #[.pointer (some ⟨b, 0, none⟩)] w fun e w' => e = .returned v ∧ w = w' := by
  go_enter Tryd.func61, Tryd.ntmps61
  go_wp2
  go_ret
  exact ⟨rfl, rfl⟩
theorem of_unwrap (b : Nat) (v : Value) (w : World) (h : w.cell? ⟨b, 1, none⟩ = some v) : Calls Tryd.prog 77 #[.pointer (some ⟨b, 0, none⟩)] w fun e w' => e = .returned v ∧ w = w' := by
  go_enter Tryd.func77, Tryd.ntmps77
  go_wp2
  go_ret
  exact ⟨rfl, rfl⟩
theorem all_unwrap (b : Nat) (W w : World) (L : List Atom) (v : Value) (xs : List Value) (hs : Sat W w L) (hm : cellsA b #[v] 60 ∈ L) (hr : InRow L v xs) (h1 : ∀ u ∈ xs, u.oneCell' = true) :
    Calls Tryd.prog 78 #[.pointer (some ⟨b, 0, none⟩)] w fun e w' => ∃ v' R', e = .returned v' ∧ RowA 27 1 v' xs.length xs R' ∧ Sat W w' (R' ++ L) := by
  have c0 : w.cell? ⟨b, 0, none⟩ = some v := hs.cell hm 0
  go_enter Tryd.func78, Tryd.ntmps78
  go_wp2_with fail
  refine (clone_err W w L v xs hs (hr.reads hs) h1 hr.1).mono ?_; rintro e w1 ⟨v1, R1, rfl, hr1, hs1⟩
  go_wp2_with fail
  go_ret
  exact ⟨_, _, rfl, hr1, hs1⟩

theorem valueOf_int (n : Int) (w : World) : (ReflectliteValue.unpack (.iface 29 (.int .i64 n))).run Tryd.prog w = .ok (.agg #[H 29, .pointer (some ⟨w.heap.size, 0, none⟩), .int .u64 130]) (w.alloc (.cells #[.int .i64 n] 29)) := by kernel_rfl
theorem Sat.setRow {W w : World} {L : List Atom} {b : Nat} {cs cs' : Array Value} {T : TypeId} (h : Sat W w (cellsA b cs T :: L)) : Sat W (w.setRow b cs') (cellsA b cs' T :: L) := by
  have hrow := h.row m0
  refine Sat.turn h ⟨rfl, rfl, rfl, by simp [World.setRow]⟩ (fun k _ hk => ?_) ⟨_, ?_, rfl⟩
  · simp [World.setRow, Array.getElem?_modify, Ne.symm hk]
  · simp only [World.setRow, Array.getElem?_modify, if_true, hrow, Option.map_some]

theorem val_nil (e : ET) (w : World) : (binOp .eql 27 (val e) .nilIface).run Tryd.prog w = .ok (.bool false) w := by
  cases e <;> exact run_eql_held_nil _ _ _ _ (by kernel_rfl)
theorem guard_nil (e : ET) (x y : Operand) (w : World) : (eqGuard .eql 27 x y (val e) .nilIface).run Tryd.prog w = .ok () w := by
  cases e <;> rfl
theorem RowA.slice {e : TypeId} {size n : Nat} {v : Value} {xs : List Value} {R : List Atom} (h : RowA e size v n xs R) : ∃ a c, v = .slice a n c := by
  rcases h.2 with ⟨h1, h2, _⟩ | ⟨g, off, cap, h1, _⟩
  · exact ⟨_, _, by rw [h1, h2]⟩
  · exact ⟨_, _, h1⟩
theorem codeL_step {es : List ET} {k : Nat} {e : ET} (h : es[k]? = some e) : codeL (es.drop k) = match code1 e with | some n => some n | none => codeL (es.drop (k + 1)) := by
  obtain ⟨hk, he⟩ := List.getElem?_eq_some_iff.1 h
  rw [List.drop_eq_getElem_cons hk, he]
  rfl

theorem size_on (b : Nat) (n : Int) (e : ET) : (ET.on b n e).size = e.size + 1 := by rw [ET.size]
theorem size_of (b : Nat) (n : Int) (e : ET) : (ET.of b n e).size = e.size + 1 := by rw [ET.size]
theorem size_all (b : Nat) (v : Value) (es : List ET) : (ET.all b v es).size = sizeL es + 1 := by rw [ET.size]

/-- What stands in the target. -/
def got (k0 : Value) : Option Int → Value
  | none => k0
  | some n => .int .i64 n

set_option maxRecDepth 100000 in
set_option maxHeartbeats 4000000 in
theorem as_code (N : Nat) : ∀ (e : ET), e.size ≤ N → ∀ (W w : World) (T F : List Atom) (z nv : Nat) (k0 : Value), In T e →
    Sat W w (cellsA z #[k0] 29 :: cellsA nv #[.pointer (some ⟨z, 0, none⟩)] 69 :: (T ++ F)) →
    Calls Tryd.prog 30 #[val e, .iface 69 (.pointer (some ⟨z, 0, none⟩)), .agg #[H 69, .pointer (some ⟨nv, 0, none⟩), .int .u64 150], .iface 96 (.agg #[H 29])] w
      fun r w' => r = .returned (.bool (code1 e).isSome) ∧ Sat W w' (cellsA z #[got k0 (code1 e)] 29 :: cellsA nv #[.pointer (some ⟨z, 0, none⟩)] 69 :: (T ++ F)) := by
  induction N with
  | zero => intro e he; have := size_pos e; omega
  | succ N ih =>
    intro e he W w T F z nv k0 hin hs
    generalize hc : code1 e = c
    have x1 := @run_callFunc_extern Tryd.prog 24 _ ReflectliteType.typeOf Tryd.func24 (by kernel_rfl) (by kernel_rfl) (by kernel_rfl) (by kernel_rfl)
    have x2 := @run_callFunc_extern Tryd.prog 85 _ (ReflectliteType.relation "AssignableTo" ReflectliteType.assignableTo) Tryd.func85 (by kernel_rfl) (by kernel_rfl) (by kernel_rfl) (by kernel_rfl)
    have x3 := @run_callFunc_extern Tryd.prog 27 _ (fun args => ReflectliteValue.unpack (args.getD 0 (.tuple #[]))) Tryd.func27 (by kernel_rfl) (by kernel_rfl) (by kernel_rfl) (by kernel_rfl)
    have x4 := @run_callFunc_extern Tryd.prog 33 _ (ReflectliteValue.method (ReflectliteValue.valueError "reflectlite.Value.Elem" 0) ReflectliteValue.elem) Tryd.func33 (by kernel_rfl) (by kernel_rfl) (by kernel_rfl) (by kernel_rfl)
    have x5 := @run_callFunc_extern Tryd.prog 34 _ ReflectliteValue.set Tryd.func34 (by kernel_rfl) (by kernel_rfl) (by kernel_rfl) (by kernel_rfl)
    have t1 := typeOf_code
    have t2 := typeOf_on
    have t3 := typeOf_of
    have t4 := typeOf_all
    have t5 := typeOf_other
    have ma := method_assignable
    have a1 := assignable_code
    have a2 := assignable_on
    have a3 := assignable_of
    have a4 := assignable_all
    have a5 := assignable_other
    have hs1 : Sat W (w.alloc (.cells #[H 69, .pointer (some ⟨nv, 0, none⟩), .int .u64 150] 81)) (cellsA w.heap.size #[H 69, .pointer (some ⟨nv, 0, none⟩), .int .u64 150] 81 :: cellsA z #[k0] 29 :: cellsA nv #[.pointer (some ⟨z, 0, none⟩)] 69 :: (T ++ F)) := hs.newCells _ _
    have HC := Lib.hid hc
    clear hc
    go_enter Tryd.func30, Tryd.ntmps30
    go_wp2_with fail
    generalize w.heap.size = y at *
    go_loopg [0] e.size (fun g tv wr => ∃ e' : ET, g = e'.size ∧ tv = val e' ∧ In T e' ∧ e'.size ≤ N + 1 ∧ code1 e' = c ∧ Sat W wr (cellsA y #[H 69, .pointer (some ⟨nv, 0, none⟩), .int .u64 150] 81 :: cellsA z #[k0] 29 :: cellsA nv #[.pointer (some ⟨z, 0, none⟩)] 69 :: (T ++ F)))
    case atStart => exact ⟨e, rfl, rfl, hin, he, HC.out, hs1⟩
    case round =>
      clear hs hs1 hin he HC
      obtain ⟨e', rfl, rfl, hin, he, hce, hs⟩ := hrel
      have HCE := Lib.hid hce
      clear hce
      have y0 : wr.cell? ⟨y, 0, none⟩ = some (H 69) := hs.cell m0 0
      have y1 : wr.cell? ⟨y, 1, none⟩ = some (.pointer (some ⟨nv, 0, none⟩)) := hs.cell m0 1
      have y2 : wr.cell? ⟨y, 2, none⟩ = some (.int .u64 150) := hs.cell m0 2
      have n0 : wr.cell? ⟨nv, 0, none⟩ = some (.pointer (some ⟨z, 0, none⟩)) := hs.cell m2 0
      cases e' with
      | code n =>
        unfold val
        have v1 := valueElem_ptr ⟨nv, 0, none⟩ ⟨z, 0, none⟩ wr n0
        have v2 := valueOf_int n wr
        have hs2 : Sat W _ (cellsA z #[k0] 29 :: cellsA nv #[.pointer (some ⟨z, 0, none⟩)] 69 :: (T ++ F)) := (hs.alloc (.cells #[.int .i64 n] 29)).tail
        have v3 := set_code z ⟨wr.heap.size, 0, none⟩ 29 k0 .i64 n _ (hs2.row m0) (by simp)
        go_wp2_with fail
        go_ret
        have hc : code1 (.code n) = c := HCE.out
        subst hc
        exact ⟨rfl, Sat.setRow hs2⟩
      | other b s =>
        have u1 := assert_other_as
        have u2 := assert_other_unwrap
        have u3 := assert_other_unwraps
        unfold val
        go_wp2_with fail
        go_ret
        have hc : code1 (.other b s) = c := HCE.out
        unfold code1 at hc
        subst hc
        exact ⟨rfl, hs.tail⟩
      | on b n e2 =>
        unfold In at hin
        obtain ⟨hb, hin2⟩ := hin
        have u1 := assert_on_as
        have u2 := assert_on_unwrap
        have u3 := method_on_unwrap
        have u4 := val_nil e2
        have u6 := guard_nil e2
        unfold val
        have b1 : wr.cell? ⟨b, 1, none⟩ = some (val e2) := hs.cell (List.mem_cons_of_mem _ (List.mem_cons_of_mem _ (List.mem_cons_of_mem _ (List.mem_append_left _ hb)))) 1
        go_wp2_with fail
        refine (on_unwrap b (val e2) _ b1).mono ?_; rintro r w2 ⟨rfl, rfl⟩
        go_wp2_with fail
        go_roundg e2.size
        case measure => rw [size_on]; omega
        case rel =>
          have hc : code1 e2 = c := by have := HCE.out; unfold code1 at this; exact this
          rw [size_on] at he
          exact ⟨e2, rfl, rfl, hin2, by omega, hc, hs⟩
      | of b n e2 =>
        unfold In at hin
        obtain ⟨hb, hin2⟩ := hin
        have u1 := assert_of_as
        have u2 := assert_of_unwrap
        have u3 := method_of_unwrap
        have u4 := val_nil e2
        have u6 := guard_nil e2
        unfold val
        have b1 : wr.cell? ⟨b, 1, none⟩ = some (val e2) := hs.cell (List.mem_cons_of_mem _ (List.mem_cons_of_mem _ (List.mem_cons_of_mem _ (List.mem_append_left _ hb)))) 1
        go_wp2_with fail
        refine (of_unwrap b (val e2) _ b1).mono ?_; rintro r w2 ⟨rfl, rfl⟩
        go_wp2_with fail
        go_roundg e2.size
        case measure => rw [size_of]; omega
        case rel =>
          have hc : code1 e2 = c := by have := HCE.out; unfold code1 at this; exact this
          rw [size_of] at he
          exact ⟨e2, rfl, rfl, hin2, by omega, hc, hs⟩
      | all b v es =>
        unfold In at hin
        obtain ⟨hb, hrow, hin2⟩ := hin
        rw [size_all] at he
        have u1 := assert_all_as
        have u2 := assert_all_unwrap
        have u3 := assert_all_unwraps
        have u5 := method_all_unwrap
        have hT : ∀ x ∈ T, x ∈ (cellsA y #[H 69, .pointer (some ⟨nv, 0, none⟩), .int .u64 150] 81 :: cellsA z #[k0] 29 :: cellsA nv #[.pointer (some ⟨z, 0, none⟩)] 69 :: (T ++ F)) := fun x hx => List.mem_cons_of_mem _ (List.mem_cons_of_mem _ (List.mem_cons_of_mem _ (List.mem_append_left _ hx)))
        have hlen := hrow.1
        rw [List.length_map] at hlen
        unfold val
        go_wp2_with fail
        refine (all_unwrap b W wr _ v (es.map val) hs (hT _ hb) (hrow.mono hT) (fun u hu => by obtain ⟨x, _, rfl⟩ := List.mem_map.1 hu; exact val_one x)).mono ?_; rintro r w2 ⟨v1, R1, rfl, hr1, hs1⟩
        rw [List.length_map] at hr1
        obtain ⟨a1', c1', rfl⟩ := Ca.RowA.slice hr1
        clear hs y0 y1 y2 n0 hb hrow
        go_wp2_with fail
        have hcl : codeL es = c := by have := HCE.out; unfold code1 at this; exact this
        go_loopg [50] es.length (fun g kv wr => ∃ k : Nat, g = es.length - k ∧ kv = .int .i64 k ∧ k ≤ es.length ∧ codeL (es.drop k) = c ∧ Sat W wr (R1 ++ (cellsA y #[H 69, .pointer (some ⟨nv, 0, none⟩), .int .u64 150] 81 :: cellsA z #[k0] 29 :: cellsA nv #[.pointer (some ⟨z, 0, none⟩)] 69 :: (T ++ F))))
        case atStart => exact ⟨0, by simp, rfl, Nat.zero_le _, by simpa using hcl, hs1⟩
        case round =>
          clear hs1 hcl HCE
          obtain ⟨k, rfl, rfl, hk, hcd, hs⟩ := hrel
          have HCD := Lib.hid hcd
          clear hcd
          have b0 : (0 : Int) ≤ k := by omega
          by_cases hkl : k < es.length
          · have b1 : (k : Int) < es.length := by omega
            have b2 : (k : Int) < 1000000 := by omega
            obtain ⟨ek, hek⟩ : ∃ ek, es[k]? = some ek := ⟨_, List.getElem?_eq_getElem hkl⟩
            have hmem := List.mem_of_getElem? hek
            have hstep := codeL_step hek
            have hsz := size_mem hmem
            have u4 := val_nil ek
            have u6 := guard_nil ek
            rcases hr1.2 with ⟨_, hz, _⟩ | ⟨g1, o1, cap1, e1, _, _, _⟩
            · omega
            cases e1
            have d0 : wr.cell? ⟨g1, o1 + k, none⟩ = some (val ek) := by
              rw [(hr1.cells hs rfl k (by simpa using hkl)).1, List.getElem?_map, hek]; rfl
            have hs2 := Sat.right hs
            have y0 : wr.cell? ⟨y, 0, none⟩ = some (H 69) := hs2.cell m0 0
            have y1 : wr.cell? ⟨y, 1, none⟩ = some (.pointer (some ⟨nv, 0, none⟩)) := hs2.cell m0 1
            have y2 : wr.cell? ⟨y, 2, none⟩ = some (.int .u64 150) := hs2.cell m0 2
            have HST := Lib.hid hstep
            clear hs2 hek hstep
            go_wp2_with fail
            have hs3 : Sat W wr (cellsA z #[k0] 29 :: cellsA nv #[.pointer (some ⟨z, 0, none⟩)] 69 :: (T ++ (R1 ++ (cellsA y #[H 69, .pointer (some ⟨nv, 0, none⟩), .int .u64 150] 81 :: F)))) := hs.use (by intro x; simp only [cnt_append, cnt_cons, cnt_nil]; omega)
            refine (ih ek (by omega) W wr T _ z nv k0 (hin2.mem ek hmem) hs3).mono ?_; rintro r w3 ⟨rfl, hs4⟩
            clear hs hs3
            cases hce : code1 ek with
            | none =>
              rw [hce] at hs4
              simp only [got] at hs4
              have hcn : codeL (es.drop (k + 1)) = c := by have h1 := HST.out; simp only [hce] at h1; rw [← h1]; exact HCD.out
              have HCN := Lib.hid hcn
              clear hce hcn
              go_wp2_with fail
              go_roundg (es.length - (k + 1))
              case measure => omega
              case rel => exact ⟨k + 1, rfl, by simp, by omega, HCN.out, hs4.use (by intro x; simp only [cnt_append, cnt_cons, cnt_nil]; omega)⟩
            | some n =>
              rw [hce] at hs4
              have hcn : c = some n := by have h1 := HST.out; simp only [hce] at h1; rw [← h1]; exact HCD.out.symm
              have HCN := Lib.hid hcn
              clear hce hcn
              go_wp2_with fail
              go_ret
              have hc := HCN.out
              subst hc
              exact ⟨rfl, hs4.use (by intro x; simp only [cnt_append, cnt_cons, cnt_nil]; omega)⟩
          · obtain rfl : k = es.length := by omega
            go_wp2_with fail
            go_ret
            have hc := HCD.out
            simp only [List.drop_length] at hc
            unfold codeL at hc
            subst hc
            simp only [got]
            exact ⟨rfl, hs.use (by intro x; simp only [cnt_append, cnt_cons, cnt_nil]; omega)⟩
end Go.Proofs.YtoknokbbggnmjaaDoor.Ca
