/-
  cause.Nodes, AtNode, OfStripe.
-/
import Derived.Test.YtoknokbbggnmjaaDoorCaD
namespace Go.Proofs.YtoknokbbggnmjaaDoor.Ca
set_option linter.unusedSimpArgs false
open Go Go.RowKit Go.Sl Go.Extern.Stop Go.Stop Go.Extern
set_option linter.unusedVariables false

theorem val_iface (e : ET) : ∃ t x, val e = .iface t x := by cases e <;> exact ⟨_, _, rfl⟩
theorem at_node (n : Int) (e : ET) (W w : World) (L : List Atom) (hs : Sat W w L) :
    Calls Tryd.prog 10 #[.int .i64 n, val e] w fun r w' => ∃ b, r = .returned (val (.on b n e)) ∧ Sat W w' (cellsA b #[.int .i64 n, val e] 52 :: L) := by
  obtain ⟨t, x, hv⟩ := val_iface e
  rw [hv]
  have hs1 := hs.newCells #[.int .i64 n, .iface t x] 52
  go_enter Tryd.func10, Tryd.ntmps10
  go_wp2_with fail
  go_ret
  exact ⟨_, rfl, hs1⟩
theorem of_stripe (n : Int) (e : ET) (W w : World) (L : List Atom) (hs : Sat W w L) :
    Calls Tryd.prog 11 #[.int .i64 n, val e] w fun r w' => ∃ b, r = .returned (val (.of b n e)) ∧ Sat W w' (cellsA b #[.int .i64 n, val e] 54 :: L) := by
  obtain ⟨t, x, hv⟩ := val_iface e
  rw [hv]
  have hs1 := hs.newCells #[.int .i64 n, .iface t x] 54
  go_enter Tryd.func11, Tryd.ntmps11
  go_wp2_with fail
  go_ret
  exact ⟨_, rfl, hs1⟩

theorem infoInt : (Tryd.prog.info? 3).map (fun i => (i.zero, i.size, i.bytes)) = some (some (.int .i64 0), 1, 8) := by kernel_rfl
def ints (l : List Int) : List Value := l.map (.int .i64)
theorem ints_one (l : List Int) : ∀ u ∈ ints l, u.oneCell' = true := fun u hu => by obtain ⟨x, _, rfl⟩ := List.mem_map.1 hu; rfl

section
variable {W w : World} {F L A : List Atom} {v sv : Value} {o : Oper} {a : Act} {K : Act → World → Prop} {Q : Exit → Act → World → Prop}
theorem wp_append_int {x y : Operand} (ho : o.op = .call { callee := .builtin .append, args := #[x, y], argTypes := #[22, 22] }) (l m : List Int) (hv : a.eval x = v) (hsv : a.eval y = sv)
    (hr : RowA 3 1 v l.length (ints l) A) (hs : Sat W w (A ++ F)) (hsrc : Reads w sv m.length (ints m)) (hb : l.length + m.length < 1000000)
    (h : ∀ v' w' A', RowA 3 1 v' (l ++ m).length (ints (l ++ m)) A' → Sat W w' (A' ++ F) → K (a.put o.dst v') w') : o.wp Tryd.prog a w K Q := by
  obtain ⟨i0, hi, hz0, hz1, hz2⟩ := info_parts infoInt
  obtain ⟨v2, w2, R2, hra, hrow, hs2⟩ := append_sl (P := Tryd.prog) o.type Tryd.underlying22 hi hz0 hz1 hz2 rfl (by decide) hr hs hsrc (by simp [ints]) (ints_one m) (by unfold maxLen; omega) (by omega)
  refine wp_append ho (by rw [hv, hsv]; exact hra) (h _ _ _ ?_ hs2)
  rw [List.length_append, ints, List.map_append]
  exact hrow
end

theorem is_on (v : Value) (xT : TypeId) (w : World) : (Instr.typeAssert (.iface 46 v) xT 46 true).run Tryd.prog w = .ok (.tuple #[v, .bool true]) w := by kernel_rfl
theorem on_code (v : Value) (xT : TypeId) (w : World) : (Instr.typeAssert (.iface 29 v) xT 46 true).run Tryd.prog w = .ok (.tuple #[.pointer none, .bool false]) w := by kernel_rfl
theorem on_other (v : Value) (xT : TypeId) (w : World) : (Instr.typeAssert (.iface 89 v) xT 46 true).run Tryd.prog w = .ok (.tuple #[.pointer none, .bool false]) w := by kernel_rfl
theorem on_of (v : Value) (xT : TypeId) (w : World) : (Instr.typeAssert (.iface 47 v) xT 46 true).run Tryd.prog w = .ok (.tuple #[.pointer none, .bool false]) w := by kernel_rfl
theorem on_all (v : Value) (xT : TypeId) (w : World) : (Instr.typeAssert (.iface 58 v) xT 46 true).run Tryd.prog w = .ok (.tuple #[.pointer none, .bool false]) w := by kernel_rfl
theorem neq_val (e : ET) (w : World) : (binOp .neq 27 (val e) .nilIface).run Tryd.prog w = .ok (.bool true) w := by
  cases e <;> exact run_neq_held_nil _ _ _ _ (by kernel_rfl)
theorem guardn_nil (e : ET) (x y : Operand) (w : World) : (eqGuard .neq 27 x y (val e) .nilIface).run Tryd.prog w = .ok () w := by
  cases e <;> rfl

theorem nodesL_take {es : List ET} {k : Nat} {e : ET} (h : es[k]? = some e) : nodesL (es.take (k + 1)) = nodesL (es.take k) ++ nodesE e := by
  induction es generalizing k with
  | nil => simp at h
  | cons x es ih =>
    cases k with
    | zero =>
      have : x = e := by simpa using h
      subst this
      simp [nodesL]
    | succ k =>
      have := ih (k := k) (by simpa using h)
      simp only [List.take_succ_cons, nodesL]
      rw [this, List.append_assoc]
theorem nodesL_le (es : List ET) (k : Nat) : (nodesL (es.take k)).length ≤ (nodesL es).length := by
  induction es generalizing k with
  | nil => simp
  | cons x es ih =>
    cases k with
    | zero => simp [nodesL]
    | succ k =>
      have := ih k
      simp only [List.take_succ_cons, nodesL, List.length_append]
      omega

set_option maxRecDepth 100000 in
set_option maxHeartbeats 4000000 in
theorem nodes_any (N : Nat) : ∀ (e : ET), e.size ≤ N → (nodesE e).length < 100000 → ∀ (W w : World) (T F : List Atom), In T e → Sat W w (T ++ F) →
    Calls Tryd.prog 15 #[val e] w fun r w' => ∃ v R, r = .returned v ∧ RowA 3 1 v (nodesE e).length (ints (nodesE e)) R ∧ Sat W w' (R ++ (T ++ F)) := by
  induction N with
  | zero => intro e he; have := size_pos e; omega
  | succ N ih =>
    intro e he hl W w T F hin hs
    cases e with
    | code n =>
      have u1 := assert_code_unwrap
      have u2 := assert_code_unwraps
      have u3 := on_code
      unfold val
      go_enter Tryd.func15, Tryd.ntmps15
      go_wp2_with fail
      go_ret
      exact ⟨_, [], rfl, RowA.nil _ _, hs⟩
    | other b s =>
      have u1 := assert_other_unwrap
      have u2 := assert_other_unwraps
      have u3 := on_other
      unfold val
      go_enter Tryd.func15, Tryd.ntmps15
      go_wp2_with fail
      go_ret
      exact ⟨_, [], rfl, RowA.nil _ _, hs⟩
    | on b n e2 =>
      unfold In at hin
      obtain ⟨hb, hin2⟩ := hin
      rw [size_on] at he
      have u1 := assert_on_unwrap
      have u2 := method_on_unwrap
      have u3 := is_on
      have u4 := neq_val e2
      have u5 := guardn_nil e2
      have b0 : w.cell? ⟨b, 0, none⟩ = some (.int .i64 n) := hs.cell (List.mem_append_left _ hb) 0
      have hs1 : Sat W (w.alloc (.cells #[.int .i64 n] 3)) ([] ++ (cellsA w.heap.size #[.int .i64 n] 3 :: (T ++ F))) := hs.newCells _ _
      have hsrc : Reads (w.alloc (.cells #[.int .i64 n] 3)) (.slice (some ⟨w.heap.size, 0, none⟩) 1 1) [n].length (ints [n]) := by
        refine .inr ⟨_, _, rfl, fun j u hu => ?_⟩
        rw [add_row, hs1.cell m0 (0 + j), ← hu]
        simp [ints]
      have hnd : nodesE (.on b n e2) = [] ++ [n] ++ nodesE e2 := by rw [nodesE]; rfl
      rw [hnd] at hl ⊢
      have hl2 : (nodesE e2).length < 100000 := by simp at hl; omega
      have HN := Lib.hid hnd
      clear hnd hs
      unfold val
      go_enter Tryd.func15, Tryd.ntmps15
      go_wp2_with (at_builtin; refine wpList_plain rfl (fun K hK => ?_); refine wp_append_int rfl [] [n] rfl rfl (RowA.nil _ _) hs1 hsrc (by simp) (fun v1 w1 R1 hr1 hs2 => ?_); refine hK _ _ ?_; simp only [Act.put, List.setIfInBounds_toArray, List.set_cons_zero, List.set_cons_succ]; clear hK)
      have b1 : w1.cell? ⟨b, 1, none⟩ = some (val e2) := hs2.cell (List.mem_append_right _ (List.mem_cons_of_mem _ (List.mem_append_left _ hb))) 1
      refine (on_unwrap b (val e2) _ b1).mono ?_; rintro r w2 ⟨rfl, rfl⟩
      clear hs1 hsrc b0
      go_wp2_with fail
      have hs3 : Sat W w1 (T ++ (R1 ++ (cellsA w.heap.size #[.int .i64 n] 3 :: F))) := hs2.use (by intro x; simp only [cnt_append, cnt_cons, cnt_nil]; omega)
      refine (ih e2 (by omega) hl2 W w1 T _ hin2 hs3).mono ?_; rintro r w3 ⟨v3, R3, rfl, hr3, hs4⟩
      have hs5 : Sat W w3 (R1 ++ (R3 ++ (cellsA w.heap.size #[.int .i64 n] 3 :: (T ++ F)))) := hs4.use (by intro x; simp only [cnt_append, cnt_cons, cnt_nil]; omega)
      have hrd := hr3.reads hs4
      clear hs2 hs3 hs4 b1
      go_wp2_with (at_builtin; refine wpList_plain rfl (fun K hK => ?_); refine wp_append_int rfl ([] ++ [n]) (nodesE e2) rfl rfl hr1 hs5 hrd (by simp; omega) (fun v4 w4 R4 hr4 hs6 => ?_); refine hK _ _ ?_; simp only [Act.put, List.setIfInBounds_toArray, List.set_cons_zero, List.set_cons_succ]; clear hK)
      go_ret
      exact ⟨v4, R4, rfl, hr4, hs6.use (by intro x; simp only [cnt_append, cnt_cons, cnt_nil]; omega)⟩
    | of b s e2 =>
      unfold In at hin
      obtain ⟨hb, hin2⟩ := hin
      rw [size_of] at he
      have u1 := assert_of_unwrap
      have u2 := method_of_unwrap
      have u3 := on_of
      have u4 := neq_val e2
      have u5 := guardn_nil e2
      have b1 : w.cell? ⟨b, 1, none⟩ = some (val e2) := hs.cell (List.mem_append_left _ hb) 1
      have hnd : nodesE (.of b s e2) = [] ++ nodesE e2 := by rw [nodesE]; rfl
      rw [hnd] at hl ⊢
      have hl2 : (nodesE e2).length < 100000 := by simpa using hl
      unfold val
      go_enter Tryd.func15, Tryd.ntmps15
      go_wp2_with fail
      refine (of_unwrap b (val e2) _ b1).mono ?_; rintro r w2 ⟨rfl, rfl⟩
      go_wp2_with fail
      refine (ih e2 (by omega) hl2 W w T F hin2 hs).mono ?_; rintro r w3 ⟨v3, R3, rfl, hr3, hs4⟩
      have hrd := hr3.reads hs4
      have hs5 : Sat W w3 ([] ++ (R3 ++ (T ++ F))) := hs4
      clear hs hs4 b1
      go_wp2_with (at_builtin; refine wpList_plain rfl (fun K hK => ?_); refine wp_append_int rfl [] (nodesE e2) rfl rfl (RowA.nil _ _) hs5 hrd (by simp; omega) (fun v4 w4 R4 hr4 hs6 => ?_); refine hK _ _ ?_; simp only [Act.put, List.setIfInBounds_toArray, List.set_cons_zero, List.set_cons_succ]; clear hK)
      go_ret
      exact ⟨v4, R4, rfl, hr4, hs6.use (by intro x; simp only [cnt_append, cnt_cons, cnt_nil]; omega)⟩
    | all b v es =>
      unfold In at hin
      obtain ⟨hb, hrow, hin2⟩ := hin
      rw [size_all] at he
      have hnd : nodesE (.all b v es) = nodesL es := by rw [nodesE]
      rw [hnd] at hl ⊢
      clear hnd
      have u1 := assert_all_unwrap
      have u2 := assert_all_unwraps
      have u3 := on_all
      have u5 := method_all_unwrap
      have hT : ∀ x ∈ T, x ∈ T ++ F := fun x hx => List.mem_append_left _ hx
      have hlen := hrow.1
      rw [List.length_map] at hlen
      unfold val
      go_enter Tryd.func15, Tryd.ntmps15
      go_wp2_with fail
      refine (all_unwrap b W w _ v (es.map val) hs (hT _ hb) (hrow.mono hT) (fun u hu => by obtain ⟨x, _, rfl⟩ := List.mem_map.1 hu; exact val_one x)).mono ?_; rintro r w2 ⟨v1, R1, rfl, hr1, hs1⟩
      rw [List.length_map] at hr1
      obtain ⟨a1', c1', rfl⟩ := Ca.RowA.slice hr1
      clear hs hb hrow
      go_wp2_with fail
      go_loopw [46, 3] (fun kv ov wr => ∃ (k : Nat) (R : List Atom), kv = .int .i64 k ∧ k ≤ es.length ∧ RowA 3 1 ov (nodesL (es.take k)).length (ints (nodesL (es.take k))) R ∧ Sat W wr (R ++ (R1 ++ (T ++ F)))) (fun kv _ _ => (es.length - (intOf kv).toNat))
      case atStart => exact ⟨0, [], rfl, Nat.zero_le _, RowA.nil _ _, hs1⟩
      case round =>
        clear hs1
        obtain ⟨k, R, rfl, hk, hr, hs⟩ := hrel
        have b0 : (0 : Int) ≤ k := by omega
        by_cases hkl : k < es.length
        · have b1 : (k : Int) < es.length := by omega
          have b2 : (k : Int) < 1000000 := by omega
          obtain ⟨ek, hek⟩ : ∃ ek, es[k]? = some ek := ⟨_, List.getElem?_eq_getElem hkl⟩
          have hmem := List.mem_of_getElem? hek
          have hsz := size_mem hmem
          have hstep := nodesL_take hek
          have hln := nodesL_le es (k + 1)
          rw [hstep, List.length_append] at hln
          have HST := Lib.hid hstep
          rcases hr1.2 with ⟨_, hz, _⟩ | ⟨g1, o1, cap1, e1, _, _, _⟩
          · omega
          cases e1
          have hs0 : Sat W wr (R1 ++ (R ++ (T ++ F))) := hs.use (by intro x; simp only [cnt_append, cnt_cons, cnt_nil]; omega)
          have d0 : wr.cell? ⟨g1, o1 + k, none⟩ = some (val ek) := by
            rw [(hr1.cells hs0 rfl k (by simpa using hkl)).1, List.getElem?_map, hek]; rfl
          clear hs0 hek hstep
          go_wp2_with fail
          have hs3 : Sat W wr (T ++ (R ++ (R1 ++ F))) := hs.use (by intro x; simp only [cnt_append, cnt_cons, cnt_nil]; omega)
          refine (ih ek (by omega) (by omega) W wr T _ (hin2.mem ek hmem) hs3).mono ?_; rintro r w3 ⟨v3, R3, rfl, hr3, hs4⟩
          have hrd := hr3.reads hs4
          have hs5 : Sat W w3 (R ++ (R3 ++ (R1 ++ (T ++ F)))) := hs4.use (by intro x; simp only [cnt_append, cnt_cons, cnt_nil]; omega)
          clear hs hs3 hs4 d0
          go_wp2_with (at_builtin; refine wpList_plain rfl (fun K hK => ?_); refine wp_append_int rfl (nodesL (es.take k)) (nodesE ek) rfl rfl hr hs5 hrd (by omega) (fun v4 w4 R4 hr4 hs6 => ?_); refine hK _ _ ?_; simp only [Act.put, List.setIfInBounds_toArray, List.set_cons_zero, List.set_cons_succ]; clear hK)
          refine ⟨⟨k + 1, R4, by simp, by omega, ?_, hs6.use (by intro x; simp only [cnt_append, cnt_cons, cnt_nil]; omega)⟩, ?_⟩
          · rw [HST.out]; exact hr4
          · simp [intOf]
            omega
        · obtain rfl : k = es.length := by omega
          rw [List.take_length] at hr
          go_wp2_with fail
          go_ret
          exact ⟨_, R, rfl, hr, hs.use (by intro x; simp only [cnt_append, cnt_cons, cnt_nil]; omega)⟩
end Go.Proofs.YtoknokbbggnmjaaDoor.Ca
