/-
  errors.Is at any error; cause.Is.
-/
import Derived.Test.YtoknokbbggnmjaaDoorCaF
namespace Go.Proofs.YtoknokbbggnmjaaDoor.Ca
set_option linter.unusedSimpArgs false
open Go Go.RowKit Go.Sl Go.Extern.Stop Go.Stop Go.Extern
set_option linter.unusedVariables false

def tyOf : ET → TypeId
  | .code _ => 29
  | .other _ _ => 89
  | .on _ _ _ => 46
  | .of _ _ _ => 47
  | .all _ _ _ => 58
theorem val_ty (e : ET) : ∃ x, val e = .iface (tyOf e) x := by cases e <;> exact ⟨_, rfl⟩
/-- Are the two one error, as Go's == has it? -/
def eqv : ET → ET → Bool
  | .code n, .code m => n == m
  | .other b _, .other c _ => b == c
  | .on b _ _, .on c _ _ => b == c
  | .of b _ _, .of c _ _ => b == c
  | .all b _ _, .all c _ _ => b == c
  | _, _ => false
mutual
/-- Does the error t stand in it? -/
def hasE (t : ET) : ET → Bool
  | .code n => eqv (.code n) t
  | .other b s => eqv (.other b s) t
  | .on b n e => eqv (.on b n e) t || hasE t e
  | .of b n e => eqv (.of b n e) t || hasE t e
  | .all b v es => eqv (.all b v es) t || hasEL t es
def hasEL (t : ET) : List ET → Bool
  | [] => false
  | e :: es => hasE t e || hasEL t es
end
theorem hasEL_step {t : ET} {es : List ET} {k : Nat} {e : ET} (h : es[k]? = some e) : hasEL t (es.drop k) = (hasE t e || hasEL t (es.drop (k + 1))) := by
  obtain ⟨hk, he⟩ := List.getElem?_eq_some_iff.1 h
  rw [List.drop_eq_getElem_cons hk, he]
  rfl
theorem hasEL_mem {t : ET} : ∀ {es : List ET} {e : ET}, e ∈ es → hasE t e = true → hasEL t es = true
  | [], e, h, _ => by cases h
  | x :: es, e, h, hc => by
    unfold hasEL
    rcases List.mem_cons.1 h with rfl | h
    · rw [hc, Bool.true_or]
    · rw [hasEL_mem h hc, Bool.or_true]
theorem eqv_self (e : ET) : eqv e e = true := by cases e <;> simp [eqv]
theorem hasE_self (e : ET) : hasE e e = true := by
  cases e <;> unfold hasE <;> rw [eqv_self] <;> rfl
theorem eq_codes (n m : Int) (w : World) : (binOp .eql 27 (.iface 29 (.int .i64 n)) (.iface 29 (.int .i64 m))).run Tryd.prog w = .ok (.bool (n == m)) w := by kernel_rfl
theorem otherComp : (Tryd.prog.info? 89).map (·.comparable) = some true := by kernel_rfl
theorem otherSize : (Tryd.prog.info? 91).map (·.size) = some 1 := by kernel_rfl
theorem eq_other (b c : Nat) (w : World) {ca cb : Array Value} {ta tc : TypeId} (ha : w.heap[b]? = some (.cells ca ta (0, 0))) (hb : w.heap[c]? = some (.cells cb tc (0, 0))) :
    (binOp .eql 27 (.iface 89 (.pointer (some ⟨b, 0, none⟩))) (.iface 89 (.pointer (some ⟨c, 0, none⟩)))).run Tryd.prog w = .ok (.bool (b == c)) w := by
  obtain ⟨i, hi, hcmp⟩ := Option.map_eq_some_iff.1 otherComp
  obtain ⟨j, hj, hjs⟩ := Option.map_eq_some_iff.1 otherSize
  by_cases h : b = c
  · subst h
    rw [beq_self_eq_true]
    exact run_eql_iface_ptr_same (P := Tryd.prog) w ⟨b, 0, none⟩ Tryd.underlying27 Tryd.underlying89 hi hcmp hj
  · rw [show (b == c) = false by simpa using h]
    exact run_eql_iface_ptr_other (P := Tryd.prog) w Tryd.underlying27 Tryd.underlying89 hi hcmp hj (by rw [hjs]; decide) (fun h2 => h (by cases h2; rfl)) ha hb
theorem onComp : (Tryd.prog.info? 46).map (·.comparable) = some true := by kernel_rfl
theorem onSize : (Tryd.prog.info? 52).map (·.size) = some 2 := by kernel_rfl
theorem eq_on (b c : Nat) (w : World) {ca cb : Array Value} {ta tc : TypeId} (ha : w.heap[b]? = some (.cells ca ta (0, 0))) (hb : w.heap[c]? = some (.cells cb tc (0, 0))) :
    (binOp .eql 27 (.iface 46 (.pointer (some ⟨b, 0, none⟩))) (.iface 46 (.pointer (some ⟨c, 0, none⟩)))).run Tryd.prog w = .ok (.bool (b == c)) w := by
  obtain ⟨i, hi, hcmp⟩ := Option.map_eq_some_iff.1 onComp
  obtain ⟨j, hj, hjs⟩ := Option.map_eq_some_iff.1 onSize
  by_cases h : b = c
  · subst h
    rw [beq_self_eq_true]
    exact run_eql_iface_ptr_same (P := Tryd.prog) w ⟨b, 0, none⟩ Tryd.underlying27 Tryd.underlying46 hi hcmp hj
  · rw [show (b == c) = false by simpa using h]
    exact run_eql_iface_ptr_other (P := Tryd.prog) w Tryd.underlying27 Tryd.underlying46 hi hcmp hj (by rw [hjs]; decide) (fun h2 => h (by cases h2; rfl)) ha hb
theorem ofComp : (Tryd.prog.info? 47).map (·.comparable) = some true := by kernel_rfl
theorem ofSize : (Tryd.prog.info? 54).map (·.size) = some 2 := by kernel_rfl
theorem eq_of (b c : Nat) (w : World) {ca cb : Array Value} {ta tc : TypeId} (ha : w.heap[b]? = some (.cells ca ta (0, 0))) (hb : w.heap[c]? = some (.cells cb tc (0, 0))) :
    (binOp .eql 27 (.iface 47 (.pointer (some ⟨b, 0, none⟩))) (.iface 47 (.pointer (some ⟨c, 0, none⟩)))).run Tryd.prog w = .ok (.bool (b == c)) w := by
  obtain ⟨i, hi, hcmp⟩ := Option.map_eq_some_iff.1 ofComp
  obtain ⟨j, hj, hjs⟩ := Option.map_eq_some_iff.1 ofSize
  by_cases h : b = c
  · subst h
    rw [beq_self_eq_true]
    exact run_eql_iface_ptr_same (P := Tryd.prog) w ⟨b, 0, none⟩ Tryd.underlying27 Tryd.underlying47 hi hcmp hj
  · rw [show (b == c) = false by simpa using h]
    exact run_eql_iface_ptr_other (P := Tryd.prog) w Tryd.underlying27 Tryd.underlying47 hi hcmp hj (by rw [hjs]; decide) (fun h2 => h (by cases h2; rfl)) ha hb
theorem allComp : (Tryd.prog.info? 58).map (·.comparable) = some true := by kernel_rfl
theorem allSize : (Tryd.prog.info? 60).map (·.size) = some 1 := by kernel_rfl
theorem eq_all (b c : Nat) (w : World) {ca cb : Array Value} {ta tc : TypeId} (ha : w.heap[b]? = some (.cells ca ta (0, 0))) (hb : w.heap[c]? = some (.cells cb tc (0, 0))) :
    (binOp .eql 27 (.iface 58 (.pointer (some ⟨b, 0, none⟩))) (.iface 58 (.pointer (some ⟨c, 0, none⟩)))).run Tryd.prog w = .ok (.bool (b == c)) w := by
  obtain ⟨i, hi, hcmp⟩ := Option.map_eq_some_iff.1 allComp
  obtain ⟨j, hj, hjs⟩ := Option.map_eq_some_iff.1 allSize
  by_cases h : b = c
  · subst h
    rw [beq_self_eq_true]
    exact run_eql_iface_ptr_same (P := Tryd.prog) w ⟨b, 0, none⟩ Tryd.underlying27 Tryd.underlying58 hi hcmp hj
  · rw [show (b == c) = false by simpa using h]
    exact run_eql_iface_ptr_other (P := Tryd.prog) w Tryd.underlying27 Tryd.underlying58 hi hcmp hj (by rw [hjs]; decide) (fun h2 => h (by cases h2; rfl)) ha hb

theorem eq_val (e t : ET) (W w : World) (T F : List Atom) (he : In T e) (ht : In T t) (hs : Sat W w (T ++ F)) : (binOp .eql 27 (val e) (val t)).run Tryd.prog w = .ok (.bool (eqv e t)) w := by
  have row : ∀ {b cs S}, cellsA b cs S ∈ T → w.heap[b]? = some (.cells cs S (0, 0)) := fun h => hs.row (List.mem_append_left _ h)
  cases e with
  | code n => cases t with
    | code m => exact eq_codes n m w
    | _ => exact run_eql_iface_types _ _ _ _ Tryd.underlying27 (by decide) w
  | other b s => cases t with
    | other c s2 =>
      unfold In at he ht
      exact eq_other b c w (row he) (row ht)
    | _ => exact run_eql_iface_types _ _ _ _ Tryd.underlying27 (by decide) w
  | on b n e => cases t with
    | on c m e2 =>
      unfold In at he ht
      exact eq_on b c w (row he.1) (row ht.1)
    | _ => exact run_eql_iface_types _ _ _ _ Tryd.underlying27 (by decide) w
  | of b n e => cases t with
    | of c m e2 =>
      unfold In at he ht
      exact eq_of b c w (row he.1) (row ht.1)
    | _ => exact run_eql_iface_types _ _ _ _ Tryd.underlying27 (by decide) w
  | all b n e => cases t with
    | all c m e2 =>
      unfold In at he ht
      exact eq_all b c w (row he.1) (row ht.1)
    | _ => exact run_eql_iface_types _ _ _ _ Tryd.underlying27 (by decide) w
theorem guard_val (e t : ET) (x y : Operand) (w : World) : (eqGuard .eql 27 x y (val e) (val t)).run Tryd.prog w = .ok () w := by
  cases e <;> cases t <;> rfl
theorem assert_code_is (v : Value) (w : World) (xT : TypeId) : (Instr.typeAssert (.iface 29 v) xT 98 true).run Tryd.prog w = .ok (.tuple #[.nilIface, .bool false]) w := run_typeAssert_lacksB Tryd.underlying98 (by kernel_rfl) (by kernel_rfl) v xT w
theorem cmp_code (w : World) : ((ReflectliteType.method fun t => do Rtype.noPackHeld "Comparable" t; (fun a => Value.bool a.comparable) <$> typeInfo t) #[.agg #[H 29]]).run Tryd.prog w = .ok (.bool true) w := by kernel_rfl
theorem assert_other_is (v : Value) (w : World) (xT : TypeId) : (Instr.typeAssert (.iface 89 v) xT 98 true).run Tryd.prog w = .ok (.tuple #[.nilIface, .bool false]) w := run_typeAssert_lacksB Tryd.underlying98 (by kernel_rfl) (by kernel_rfl) v xT w
theorem cmp_other (w : World) : ((ReflectliteType.method fun t => do Rtype.noPackHeld "Comparable" t; (fun a => Value.bool a.comparable) <$> typeInfo t) #[.agg #[H 89]]).run Tryd.prog w = .ok (.bool true) w := by kernel_rfl
theorem assert_on_is (v : Value) (w : World) (xT : TypeId) : (Instr.typeAssert (.iface 46 v) xT 98 true).run Tryd.prog w = .ok (.tuple #[.nilIface, .bool false]) w := run_typeAssert_lacksB Tryd.underlying98 (by kernel_rfl) (by kernel_rfl) v xT w
theorem cmp_on (w : World) : ((ReflectliteType.method fun t => do Rtype.noPackHeld "Comparable" t; (fun a => Value.bool a.comparable) <$> typeInfo t) #[.agg #[H 46]]).run Tryd.prog w = .ok (.bool true) w := by kernel_rfl
theorem assert_of_is (v : Value) (w : World) (xT : TypeId) : (Instr.typeAssert (.iface 47 v) xT 98 true).run Tryd.prog w = .ok (.tuple #[.nilIface, .bool false]) w := run_typeAssert_lacksB Tryd.underlying98 (by kernel_rfl) (by kernel_rfl) v xT w
theorem cmp_of (w : World) : ((ReflectliteType.method fun t => do Rtype.noPackHeld "Comparable" t; (fun a => Value.bool a.comparable) <$> typeInfo t) #[.agg #[H 47]]).run Tryd.prog w = .ok (.bool true) w := by kernel_rfl
theorem assert_all_is (v : Value) (w : World) (xT : TypeId) : (Instr.typeAssert (.iface 58 v) xT 98 true).run Tryd.prog w = .ok (.tuple #[.nilIface, .bool false]) w := run_typeAssert_lacksB Tryd.underlying98 (by kernel_rfl) (by kernel_rfl) v xT w
theorem cmp_all (w : World) : ((ReflectliteType.method fun t => do Rtype.noPackHeld "Comparable" t; (fun a => Value.bool a.comparable) <$> typeInfo t) #[.agg #[H 58]]).run Tryd.prog w = .ok (.bool true) w := by kernel_rfl
theorem cmp_val (t : ET) (w : World) : ((ReflectliteType.method fun t => do Rtype.noPackHeld "Comparable" t; (fun a => Value.bool a.comparable) <$> typeInfo t) #[.agg #[H (tyOf t)]]).run Tryd.prog w = .ok (.bool true) w := by
  cases t with
  | code n => exact cmp_code w
  | other b s => exact cmp_other w
  | on b n e => exact cmp_on w
  | of b n e => exact cmp_of w
  | all b v es => exact cmp_all w
theorem typeOf_val (t : ET) (w : World) : (ReflectliteType.typeOf #[val t]).run Tryd.prog w = .ok (.iface 96 (.agg #[H (tyOf t)])) w := by
  cases t with
  | code n => exact typeOf_code _ w
  | other b s => exact typeOf_other _ w
  | on b n e => exact typeOf_on _ w
  | of b n e => exact typeOf_of _ w
  | all b v es => exact typeOf_all _ w

set_option maxRecDepth 100000 in
set_option maxHeartbeats 4000000 in
theorem is_any (N : Nat) (t : ET) : ∀ (e : ET), e.size ≤ N → ∀ (W w : World) (T F : List Atom), In T t → In T e → Sat W w (T ++ F) →
    Calls Tryd.prog 25 #[val e, val t, .bool true] w fun r w' => r = .returned (.bool (hasE t e)) ∧ Sat W w' (T ++ F) := by
  induction N with
  | zero => intro e he; have := size_pos e; omega
  | succ N ih =>
    intro e he W w T F ht hin hs
    generalize hc : hasE t e = c
    have HC := Lib.hid hc
    clear hc
    go_enter Tryd.func25, Tryd.ntmps25
    go_wp2_with fail
    go_loopg [0] e.size (fun g tv wr => ∃ e' : ET, g = e'.size ∧ tv = val e' ∧ In T e' ∧ e'.size ≤ N + 1 ∧ hasE t e' = c ∧ Sat W wr (T ++ F))
    case atStart => exact ⟨e, rfl, rfl, hin, he, HC.out, hs⟩
    case round =>
      clear hs hin he HC
      obtain ⟨e', rfl, rfl, hin, he, hce, hs⟩ := hrel
      have HCE := Lib.hid hce
      clear hce
      cases e' with
      | code n =>
        have u1 := assert_code_is
        have u2 := assert_code_unwrap
        have u3 := assert_code_unwraps
        have u4 := eq_val (.code n) t W wr T F hin ht hs
        have u5 := guard_val (.code n) t
        have hc : eqv (.code n) t = c := by have := HCE.out; unfold hasE at this; exact this
        rw [hc] at u4
        clear HCE hc
        rw [show val (.code n) = .iface 29 (.int .i64 n) from rfl] at u4 u5 ⊢
        cases c
        · go_wp2_with fail
          go_ret
          exact ⟨rfl, hs⟩
        · go_wp2_with fail
          go_ret
          exact ⟨rfl, hs⟩
      | other b s =>
        have u1 := assert_other_is
        have u2 := assert_other_unwrap
        have u3 := assert_other_unwraps
        have u4 := eq_val (.other b s) t W wr T F hin ht hs
        have u5 := guard_val (.other b s) t
        have hc : eqv (.other b s) t = c := by have := HCE.out; unfold hasE at this; exact this
        rw [hc] at u4
        clear HCE hc
        rw [show val (.other b s) = .iface 89 (.pointer (some ⟨b, 0, none⟩)) from rfl] at u4 u5 ⊢
        cases c
        · go_wp2_with fail
          go_ret
          exact ⟨rfl, hs⟩
        · go_wp2_with fail
          go_ret
          exact ⟨rfl, hs⟩
      | on b n e2 =>
        have u4' := eq_val (.on b n e2) t W wr T F hin ht hs
        have u5' := guard_val (.on b n e2) t
        unfold In at hin
        obtain ⟨hb, hin2⟩ := hin
        have u1 := assert_on_is
        have u2 := assert_on_unwrap
        have u3 := method_on_unwrap
        have u4 := val_nil e2
        have u6 := guard_nil e2
        have b1 : wr.cell? ⟨b, 1, none⟩ = some (val e2) := hs.cell (List.mem_append_left _ hb) 1
        have hc : (eqv (.on b n e2) t || hasE t e2) = c := by have := HCE.out; unfold hasE at this; exact this
        clear HCE
        have Hc := Lib.hid hc
        clear hc
        rw [show val (.on b n e2) = .iface 46 (.pointer (some ⟨b, 0, none⟩)) from rfl] at u4' u5' ⊢
        cases hq : eqv (.on b n e2) t with
        | true =>
          rw [hq] at u4'
          have HQ := Lib.hid hq
          clear hq
          go_wp2_with fail
          go_ret
          have e1 : c = true := by rw [← Hc.out, HQ.out]; rfl
          clear Hc HQ
          subst e1
          exact ⟨rfl, hs⟩
        | false =>
          rw [hq] at u4'
          have HQ := Lib.hid hq
          clear hq
          go_wp2_with fail
          refine (on_unwrap b (val e2) _ b1).mono ?_; rintro r w2 ⟨rfl, rfl⟩
          go_wp2_with fail
          go_roundg e2.size
          case measure => rw [size_on]; omega
          case rel =>
            have hc : hasE t e2 = c := by have := Hc.out; rw [HQ.out, Bool.false_or] at this; exact this
            rw [size_on] at he
            exact ⟨e2, rfl, rfl, hin2, by omega, hc, hs⟩
      | of b n e2 =>
        have u4' := eq_val (.of b n e2) t W wr T F hin ht hs
        have u5' := guard_val (.of b n e2) t
        unfold In at hin
        obtain ⟨hb, hin2⟩ := hin
        have u1 := assert_of_is
        have u2 := assert_of_unwrap
        have u3 := method_of_unwrap
        have u4 := val_nil e2
        have u6 := guard_nil e2
        have b1 : wr.cell? ⟨b, 1, none⟩ = some (val e2) := hs.cell (List.mem_append_left _ hb) 1
        have hc : (eqv (.of b n e2) t || hasE t e2) = c := by have := HCE.out; unfold hasE at this; exact this
        clear HCE
        have Hc := Lib.hid hc
        clear hc
        rw [show val (.of b n e2) = .iface 47 (.pointer (some ⟨b, 0, none⟩)) from rfl] at u4' u5' ⊢
        cases hq : eqv (.of b n e2) t with
        | true =>
          rw [hq] at u4'
          have HQ := Lib.hid hq
          clear hq
          go_wp2_with fail
          go_ret
          have e1 : c = true := by rw [← Hc.out, HQ.out]; rfl
          clear Hc HQ
          subst e1
          exact ⟨rfl, hs⟩
        | false =>
          rw [hq] at u4'
          have HQ := Lib.hid hq
          clear hq
          go_wp2_with fail
          refine (of_unwrap b (val e2) _ b1).mono ?_; rintro r w2 ⟨rfl, rfl⟩
          go_wp2_with fail
          go_roundg e2.size
          case measure => rw [size_of]; omega
          case rel =>
            have hc : hasE t e2 = c := by have := Hc.out; rw [HQ.out, Bool.false_or] at this; exact this
            rw [size_of] at he
            exact ⟨e2, rfl, rfl, hin2, by omega, hc, hs⟩
      | all b v es =>
        have u4' := eq_val (.all b v es) t W wr T F hin ht hs
        have u5' := guard_val (.all b v es) t
        unfold In at hin
        obtain ⟨hb, hrow, hin2⟩ := hin
        rw [size_all] at he
        have u1 := assert_all_is
        have u2 := assert_all_unwrap
        have u3 := assert_all_unwraps
        have u5 := method_all_unwrap
        have hT : ∀ x ∈ T, x ∈ (T ++ F) := fun x hx => List.mem_append_left _ hx
        have hlen := hrow.1
        rw [List.length_map] at hlen
        have hc : (eqv (.all b v es) t || hasEL t es) = c := by have := HCE.out; unfold hasE at this; exact this
        clear HCE
        have Hc := Lib.hid hc
        clear hc
        rw [show val (.all b v es) = .iface 58 (.pointer (some ⟨b, 0, none⟩)) from rfl] at u4' u5' ⊢
        cases hq : eqv (.all b v es) t with
        | true =>
          rw [hq] at u4'
          have HQ := Lib.hid hq
          clear hq
          go_wp2_with fail
          go_ret
          have e1 : c = true := by rw [← Hc.out, HQ.out]; rfl
          clear Hc HQ
          subst e1
          exact ⟨rfl, hs⟩
        | false =>
          rw [hq] at u4'
          have HQ := Lib.hid hq
          clear hq
          go_wp2_with fail
          refine (all_unwrap b W wr _ v (es.map val) hs (hT _ hb) (hrow.mono hT) (fun u hu => by obtain ⟨x, _, rfl⟩ := List.mem_map.1 hu; exact val_one x)).mono ?_; rintro r w2 ⟨v1, R1, rfl, hr1, hs1⟩
          rw [List.length_map] at hr1
          obtain ⟨a1', c1', rfl⟩ := Ca.RowA.slice hr1
          clear hs hb hrow u4' u5'
          go_wp2_with fail
          have hcl : hasEL t es = c := by have := Hc.out; rw [HQ.out, Bool.false_or] at this; exact this
          clear Hc HQ
          go_loopg [45] es.length (fun g kv wr => ∃ k : Nat, g = es.length - k ∧ kv = .int .i64 k ∧ k ≤ es.length ∧ hasEL t (es.drop k) = c ∧ Sat W wr (R1 ++ (T ++ F)))
          case atStart => exact ⟨0, by simp, rfl, Nat.zero_le _, by simpa using hcl, hs1⟩
          case round =>
            clear hs1 hcl
            obtain ⟨k, rfl, rfl, hk, hcd, hs⟩ := hrel
            have HCD := Lib.hid hcd
            clear hcd
            have b0 : (0 : Int) ≤ k := by omega
            by_cases hkl : k < es.length
            · have b1 : (k : Int) < es.length := by omega
              have b2 : (k : Int) < 1000000 := by omega
              obtain ⟨ek, hek⟩ : ∃ ek, es[k]? = some ek := ⟨_, List.getElem?_eq_getElem hkl⟩
              have hmem := List.mem_of_getElem? hek
              have hstep := hasEL_step (t := t) hek
              have hsz := size_mem hmem
              rcases hr1.2 with ⟨_, hz, _⟩ | ⟨g1, o1, cap1, e1, _, _, _⟩
              · omega
              cases e1
              have d0 : wr.cell? ⟨g1, o1 + k, none⟩ = some (val ek) := by
                rw [(hr1.cells hs rfl k (by simpa using hkl)).1, List.getElem?_map, hek]; rfl
              have HST := Lib.hid hstep
              clear hek hstep
              go_wp2_with fail
              have hs3 : Sat W wr (T ++ (R1 ++ F)) := hs.use (by intro x; simp only [cnt_append, cnt_cons, cnt_nil]; omega)
              refine (ih ek (by omega) W wr T _ ht (hin2.mem ek hmem) hs3).mono ?_; rintro r w3 ⟨rfl, hs4⟩
              clear hs hs3
              cases hce : hasE t ek with
              | false =>
                have hcn : hasEL t (es.drop (k + 1)) = c := by have h1 := HST.out; rw [hce, Bool.false_or] at h1; rw [← h1]; exact HCD.out
                have HCN := Lib.hid hcn
                clear hce hcn
                go_wp2_with fail
                go_roundg (es.length - (k + 1))
                case measure => omega
                case rel => exact ⟨k + 1, rfl, by simp, by omega, HCN.out, hs4.use (by intro x; simp only [cnt_append, cnt_cons, cnt_nil]; omega)⟩
              | true =>
                have hcn : c = true := by have h1 := HST.out; rw [hce, Bool.true_or] at h1; rw [← h1]; exact HCD.out.symm
                have HCN := Lib.hid hcn
                clear hce hcn
                go_wp2_with fail
                go_ret
                have e1 : c = true := HCN.out
                clear HCN HCD HST
                subst e1
                exact ⟨rfl, hs4.use (by intro x; simp only [cnt_append, cnt_cons, cnt_nil]; omega)⟩
            · obtain rfl : k = es.length := by omega
              go_wp2_with fail
              go_ret
              have hc := HCD.out
              simp only [List.drop_length] at hc
              unfold hasEL at hc
              clear HCD
              subst hc
              exact ⟨rfl, hs.use (by intro x; simp only [cnt_append, cnt_cons, cnt_nil]; omega)⟩

set_option maxRecDepth 100000 in
theorem Is_any (e t : ET) (W w : World) (T F : List Atom) (ht : In T t) (hin : In T e) (hs : Sat W w (T ++ F)) :
    Calls Tryd.prog 18 #[val e, val t] w fun r w' => r = .returned (.bool (hasE t e)) ∧ Sat W w' (T ++ F) := by
  have x1 := @run_callFunc_extern Tryd.prog 24 _ ReflectliteType.typeOf Tryd.func24 (by kernel_rfl) (by kernel_rfl) (by kernel_rfl) (by kernel_rfl)
  have x2 := @run_callFunc_extern Tryd.prog 86 _ (ReflectliteType.method fun t => do Rtype.noPackHeld "Comparable" t; pure (.bool (← typeInfo t).comparable)) Tryd.func86 (by kernel_rfl) (by kernel_rfl) (by kernel_rfl) (by kernel_rfl)
  have t1 := typeOf_val t
  have m1 := method_comparable
  have u1 := cmp_val t
  have u4 := val_nil e
  have u6 := guard_nil e
  have u5 := val_nil t
  have u7 := guard_nil t
  go_enter Tryd.func18, Tryd.ntmps18
  go_wp2_with fail
  refine (is_any e.size t e (Nat.le_refl _) W _ T F ht hin hs).mono ?_; rintro r w2 ⟨rfl, hs2⟩
  go_wp2_with fail
  go_ret
  exact ⟨rfl, hs2⟩
/-- Does the code stand in it? -/
def hasC (m : Int) (e : ET) : Bool := hasE (.code m) e
theorem In.code' {T : List Atom} {n : Int} : In T (.code n) := by unfold In; trivial
theorem Is_code (e : ET) (m : Int) (W w : World) (T F : List Atom) (hin : In T e) (hs : Sat W w (T ++ F)) :
    Calls Tryd.prog 18 #[val e, .iface 29 (.int .i64 m)] w fun r w' => r = .returned (.bool (hasC m e)) ∧ Sat W w' (T ++ F) :=
  Is_any e (.code m) W w T F In.code' hin hs

set_option maxRecDepth 100000 in
theorem causeIs (e : ET) (m : Int) (W w : World) (T F : List Atom) (hin : In T e) (hs : Sat W w (T ++ F)) :
    Calls Tryd.prog 17 #[val e, .int .i64 m] w fun r w' => r = .returned (.bool (hasC m e)) ∧ Sat W w' (T ++ F) := by
  have u4 := neq_val e
  have u6 := guardn_nil e
  go_enter Tryd.func17, Tryd.ntmps17
  go_wp2_with fail
  refine (Is_code e m W _ T F hin hs).mono ?_; rintro r w2 ⟨rfl, hs2⟩
  go_wp2_with fail
  go_ret
  exact ⟨by simp, hs2⟩
end Go.Proofs.YtoknokbbggnmjaaDoor.Ca
