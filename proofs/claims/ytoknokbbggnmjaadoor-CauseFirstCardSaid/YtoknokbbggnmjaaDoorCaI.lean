/-
  errors.Is at an Errno; cause.Is.
-/
import Derived.Test.YtoknokbbggnmjaaDoorCaF
namespace Go.Proofs.YtoknokbbggnmjaaDoor.Ca
set_option linter.unusedSimpArgs false
open Go Go.RowKit Go.Sl Go.Extern.Stop Go.Stop Go.Extern
set_option linter.unusedVariables false

mutual
/-- Does the code stand in it? -/
def hasC (m : Int) : ET → Bool
  | .code n => n == m
  | .on _ _ e => hasC m e
  | .of _ _ e => hasC m e
  | .all _ _ es => hasL m es
def hasL (m : Int) : List ET → Bool
  | [] => false
  | e :: es => hasC m e || hasL m es
end
theorem hasL_step {m : Int} {es : List ET} {k : Nat} {e : ET} (h : es[k]? = some e) : hasL m (es.drop k) = (hasC m e || hasL m (es.drop (k + 1))) := by
  obtain ⟨hk, he⟩ := List.getElem?_eq_some_iff.1 h
  rw [List.drop_eq_getElem_cons hk, he]
  rfl
theorem eql_codes (n m : Int) (w : World) : (binOp .eql 27 (.iface 29 (.int .i64 n)) (.iface 29 (.int .i64 m))).run Tryd.prog w = .ok (.bool (n == m)) w := by kernel_rfl
theorem eql_on (v x : Value) (w : World) : (binOp .eql 27 (.iface 46 v) (.iface 29 x)).run Tryd.prog w = .ok (.bool false) w := run_eql_iface_types _ _ _ _ Tryd.underlying27 (by decide) w
theorem eql_of (v x : Value) (w : World) : (binOp .eql 27 (.iface 47 v) (.iface 29 x)).run Tryd.prog w = .ok (.bool false) w := run_eql_iface_types _ _ _ _ Tryd.underlying27 (by decide) w
theorem eql_all (v x : Value) (w : World) : (binOp .eql 27 (.iface 58 v) (.iface 29 x)).run Tryd.prog w = .ok (.bool false) w := run_eql_iface_types _ _ _ _ Tryd.underlying27 (by decide) w
theorem assert_code_is (v : Value) (w : World) (xT : TypeId) : (Instr.typeAssert (.iface 29 v) xT 98 true).run Tryd.prog w = .ok (.tuple #[.nilIface, .bool false]) w := run_typeAssert_lacksB Tryd.underlying98 (by kernel_rfl) (by kernel_rfl) v xT w
theorem assert_on_is (v : Value) (w : World) (xT : TypeId) : (Instr.typeAssert (.iface 46 v) xT 98 true).run Tryd.prog w = .ok (.tuple #[.nilIface, .bool false]) w := run_typeAssert_lacksB Tryd.underlying98 (by kernel_rfl) (by kernel_rfl) v xT w
theorem assert_of_is (v : Value) (w : World) (xT : TypeId) : (Instr.typeAssert (.iface 47 v) xT 98 true).run Tryd.prog w = .ok (.tuple #[.nilIface, .bool false]) w := run_typeAssert_lacksB Tryd.underlying98 (by kernel_rfl) (by kernel_rfl) v xT w
theorem assert_all_is (v : Value) (w : World) (xT : TypeId) : (Instr.typeAssert (.iface 58 v) xT 98 true).run Tryd.prog w = .ok (.tuple #[.nilIface, .bool false]) w := run_typeAssert_lacksB Tryd.underlying98 (by kernel_rfl) (by kernel_rfl) v xT w

set_option maxRecDepth 100000 in
set_option maxHeartbeats 4000000 in
theorem is_code (N : Nat) (m : Int) : ∀ (e : ET), e.size ≤ N → ∀ (W w : World) (T F : List Atom), In T e → Sat W w (T ++ F) →
    Calls Tryd.prog 25 #[val e, .iface 29 (.int .i64 m), .bool true] w fun r w' => r = .returned (.bool (hasC m e)) ∧ Sat W w' (T ++ F) := by
  induction N with
  | zero => intro e he; have := size_pos e; omega
  | succ N ih =>
    intro e he W w T F hin hs
    generalize hc : hasC m e = c
    have HC := Lib.hid hc
    clear hc
    go_enter Tryd.func25, Tryd.ntmps25
    go_wp2_with fail
    go_loopg [0] e.size (fun g tv wr => ∃ e' : ET, g = e'.size ∧ tv = val e' ∧ In T e' ∧ e'.size ≤ N + 1 ∧ hasC m e' = c ∧ Sat W wr (T ++ F))
    case atStart => exact ⟨e, rfl, rfl, hin, he, HC.out, hs⟩
    case round =>
      clear hs hin he HC
      obtain ⟨e', rfl, rfl, hin, he, hce, hs⟩ := hrel
      have HCE := Lib.hid hce
      clear hce
      cases e' with
      | code n =>
        have u1 := assert_code_is
        have u2 := assert_code_unwrap
        have u3 := assert_code_unwraps
        unfold val
        by_cases hnm : n = m
        · subst hnm
          have u4 := eql_codes n n
          rw [show (n == n) = true by simp] at u4
          go_wp2_with fail
          go_ret
          have e1 : c = true := by rw [← HCE.out, hasC]; simp
          clear HCE
          subst e1
          exact ⟨rfl, hs⟩
        · have u4 := eql_codes n m
          have hb : (n == m) = false := by simpa using hnm
          rw [hb] at u4
          go_wp2_with fail
          go_ret
          have e1 : c = false := by rw [← HCE.out, hasC, hb]
          clear HCE
          subst e1
          exact ⟨rfl, hs⟩
      | on b n e2 =>
        unfold In at hin
        obtain ⟨hb, hin2⟩ := hin
        have u1 := assert_on_is
        have u2 := assert_on_unwrap
        have u3 := method_on_unwrap
        have u4 := val_nil e2
        have u6 := guard_nil e2
        have u7 := eql_on
        unfold val
        have b1 : wr.cell? ⟨b, 1, none⟩ = some (val e2) := hs.cell (List.mem_append_left _ hb) 1
        go_wp2_with fail
        refine (on_unwrap b (val e2) _ b1).mono ?_; rintro r w2 ⟨rfl, rfl⟩
        go_wp2_with fail
        go_roundg e2.size
        case measure => rw [size_on]; omega
        case rel =>
          have hc : hasC m e2 = c := by have := HCE.out; unfold hasC at this; exact this
          rw [size_on] at he
          exact ⟨e2, rfl, rfl, hin2, by omega, hc, hs⟩
      | of b n e2 =>
        unfold In at hin
        obtain ⟨hb, hin2⟩ := hin
        have u1 := assert_of_is
        have u2 := assert_of_unwrap
        have u3 := method_of_unwrap
        have u4 := val_nil e2
        have u6 := guard_nil e2
        have u7 := eql_of
        unfold val
        have b1 : wr.cell? ⟨b, 1, none⟩ = some (val e2) := hs.cell (List.mem_append_left _ hb) 1
        go_wp2_with fail
        refine (of_unwrap b (val e2) _ b1).mono ?_; rintro r w2 ⟨rfl, rfl⟩
        go_wp2_with fail
        go_roundg e2.size
        case measure => rw [size_of]; omega
        case rel =>
          have hc : hasC m e2 = c := by have := HCE.out; unfold hasC at this; exact this
          rw [size_of] at he
          exact ⟨e2, rfl, rfl, hin2, by omega, hc, hs⟩
      | all b v es =>
        unfold In at hin
        obtain ⟨hb, hrow, hin2⟩ := hin
        rw [size_all] at he
        have u1 := assert_all_is
        have u7 := eql_all
        have u2 := assert_all_unwrap
        have u3 := assert_all_unwraps
        have u5 := method_all_unwrap
        have hT : ∀ x ∈ T, x ∈ (T ++ F) := fun x hx => List.mem_append_left _ hx
        have hlen := hrow.1
        rw [List.length_map] at hlen
        unfold val
        go_wp2_with fail
        refine (all_unwrap b W wr _ v (es.map val) hs (hT _ hb) (hrow.mono hT) (fun u hu => by obtain ⟨x, _, rfl⟩ := List.mem_map.1 hu; exact val_one x)).mono ?_; rintro r w2 ⟨v1, R1, rfl, hr1, hs1⟩
        rw [List.length_map] at hr1
        obtain ⟨a1', c1', rfl⟩ := Ca.RowA.slice hr1
        clear hs hb hrow
        go_wp2_with fail
        have hcl : hasL m es = c := by have := HCE.out; unfold hasC at this; exact this
        go_loopg [45] es.length (fun g kv wr => ∃ k : Nat, g = es.length - k ∧ kv = .int .i64 k ∧ k ≤ es.length ∧ hasL m (es.drop k) = c ∧ Sat W wr (R1 ++ (T ++ F)))
        case atStart => exact ⟨0, by simp, rfl, Nat.zero_le _, by simpa using hcl, hs1⟩
        case round =>
          clear hs1 hcl HCE
          obtain ⟨k, rfl, rfl, hk, hcd, hs⟩ := hrel
          have HCD := Lib.hid hcd
          clear hcd
          have b0 : (0 : Int) ≤ k := by omega
          by_cases hkl : k < es.length
          · have b1 : (k : Int) < es.length := by omega
            have b2 : (k : Int) < 1000000 := by omega
            obtain ⟨ek, hek⟩ : ∃ ek, es[k]? = some ek := ⟨_, List.getElem?_eq_getElem hkl⟩
            have hmem := List.mem_of_getElem? hek
            have hstep := hasL_step (m := m) hek
            have hsz := size_mem hmem
            have u4 := val_nil ek
            have u6 := guard_nil ek
            rcases hr1.2 with ⟨_, hz, _⟩ | ⟨g1, o1, cap1, e1, _, _, _⟩
            · omega
            cases e1
            have d0 : wr.cell? ⟨g1, o1 + k, none⟩ = some (val ek) := by
              rw [(hr1.cells hs rfl k (by simpa using hkl)).1, List.getElem?_map, hek]; rfl
            have HST := Lib.hid hstep
            clear hek hstep
            go_wp2_with fail
            have hs3 : Sat W wr (T ++ (R1 ++ F)) := hs.use (by intro x; simp only [cnt_append, cnt_cons, cnt_nil]; omega)
            refine (ih ek (by omega) W wr T _ (hin2.mem ek hmem) hs3).mono ?_; rintro r w3 ⟨rfl, hs4⟩
            clear hs hs3
            cases hce : hasC m ek with
            | false =>
              have hcn : hasL m (es.drop (k + 1)) = c := by have h1 := HST.out; rw [hce, Bool.false_or] at h1; rw [← h1]; exact HCD.out
              have HCN := Lib.hid hcn
              clear hce hcn
              go_wp2_with fail
              go_roundg (es.length - (k + 1))
              case measure => omega
              case rel => exact ⟨k + 1, rfl, by simp, by omega, HCN.out, hs4.use (by intro x; simp only [cnt_append, cnt_cons, cnt_nil]; omega)⟩
            | true =>
              have hcn : c = true := by have h1 := HST.out; rw [hce, Bool.true_or] at h1; rw [← h1]; exact HCD.out.symm
              have HCN := Lib.hid hcn
              clear hce hcn
              go_wp2_with fail
              go_ret
              have e1 : c = true := HCN.out
              clear HCN HCD HST
              subst e1
              exact ⟨rfl, hs4.use (by intro x; simp only [cnt_append, cnt_cons, cnt_nil]; omega)⟩
          · obtain rfl : k = es.length := by omega
            go_wp2_with fail
            go_ret
            have hc := HCD.out
            simp only [List.drop_length] at hc
            unfold hasL at hc
            clear HCD
            subst hc
            exact ⟨rfl, hs.use (by intro x; simp only [cnt_append, cnt_cons, cnt_nil]; omega)⟩

theorem comparable_code (w : World) : ((ReflectliteType.method fun t => do Rtype.noPackHeld "Comparable" t; pure (.bool (← typeInfo t).comparable)) #[.agg #[H 29]]).run Tryd.prog w = .ok (.bool true) w := by kernel_rfl
theorem comparable2 (w : World) : ((ReflectliteType.method fun t => do Rtype.noPackHeld "Comparable" t; (fun a => Value.bool a.comparable) <$> typeInfo t) #[.agg #[H 29]]).run Tryd.prog w = .ok (.bool true) w := by kernel_rfl

set_option maxRecDepth 100000 in
theorem Is_code (e : ET) (m : Int) (W w : World) (T F : List Atom) (hin : In T e) (hs : Sat W w (T ++ F)) :
    Calls Tryd.prog 18 #[val e, .iface 29 (.int .i64 m)] w fun r w' => r = .returned (.bool (hasC m e)) ∧ Sat W w' (T ++ F) := by
  have x1 := @run_callFunc_extern Tryd.prog 24 _ ReflectliteType.typeOf Tryd.func24 (by kernel_rfl) (by kernel_rfl) (by kernel_rfl) (by kernel_rfl)
  have x2 := @run_callFunc_extern Tryd.prog 86 _ (ReflectliteType.method fun t => do Rtype.noPackHeld "Comparable" t; pure (.bool (← typeInfo t).comparable)) Tryd.func86 (by kernel_rfl) (by kernel_rfl) (by kernel_rfl) (by kernel_rfl)
  have t1 := typeOf_code
  have m1 := method_comparable
  have u1 := comparable2
  have u4 := val_nil e
  have u6 := guard_nil e
  go_enter Tryd.func18, Tryd.ntmps18
  go_wp2_with fail
  refine (is_code e.size m e (Nat.le_refl _) W _ T F hin hs).mono ?_; rintro r w2 ⟨rfl, hs2⟩
  go_wp2_with fail
  go_ret
  exact ⟨rfl, hs2⟩

set_option maxRecDepth 100000 in
theorem causeIs (e : ET) (m : Int) (W w : World) (T F : List Atom) (hin : In T e) (hs : Sat W w (T ++ F)) :
    Calls Tryd.prog 17 #[val e, .int .i64 m] w fun r w' => r = .returned (.bool (hasC m e)) ∧ Sat W w' (T ++ F) := by
  have u4 := neq_val e
  have u6 := guardn_nil e
  go_enter Tryd.func17, Tryd.ntmps17
  go_wp2_with fail
  refine (Is_code e m W _ T F hin hs).mono ?_; rintro r w2 ⟨rfl, hs2⟩
  go_wp2_with fail
  go_ret
  exact ⟨by simp, hs2⟩
end Go.Proofs.YtoknokbbggnmjaaDoor.Ca
