/-
  corbellaw2.sorted: an item into its place.
-/
import Derived.Test.YtelcaeapflhadaaPkL
import Derived.Deep.RegionHeld3
import Derived.Deep.DrawnRows
namespace Go.Proofs.Ytelcaeapflhadaa.Pk
set_option linter.unusedSimpArgs false
open Go Go.RowKit Go.Sl Go.BigFrame
set_option linter.unusedVariables false

attribute [local go_sem ↓] Go.wp_at_zero Go.wp_at_succ

theorem ins_at (x : It) : ∀ (l : List It) (k : Nat), k ≤ l.length → (∀ j, j < k → lt (at_ l j) x) → (k < l.length → ¬ lt (at_ l k) x) → ins x l = l.take k ++ x :: l.drop k
  | [], k, hk, _, _ => by
    obtain rfl : k = 0 := by simpa using hk
    rfl
  | q :: l, 0, _, _, h2 => by
    have := h2 (by simp)
    unfold ins
    rw [if_neg (by simpa [at_] using this)]
    rfl
  | q :: l, k + 1, hk, h1, h2 => by
    have h0 := h1 0 (by omega)
    unfold ins
    rw [if_pos (by simpa [at_] using h0), ins_at x l k (by simpa using hk) (fun j hj => by have := h1 (j + 1) (by omega); simpa [at_] using this) (fun hl => by have := h2 (by simpa using hl); simpa [at_] using this)]
    rfl

section
variable {W w : World} {F L A : List Atom} {v sv : Value} {l m : List It}

theorem flat_take (l : List It) (k : Nat) : flat (l.take k) = (flat l).take (k * 2) := by
  induction l generalizing k with
  | nil => simp [flat]
  | cons p l ih =>
    cases k with
    | zero => simp [flat]
    | succ k =>
      rw [show (k + 1) * 2 = k * 2 + 1 + 1 by omega]
      simp only [List.take_succ_cons, flat, List.flatMap_cons, List.cons_append, List.nil_append, List.cons.injEq, true_and] at *
      exact ih k
theorem flat_drop (l : List It) (k : Nat) : flat (l.drop k) = (flat l).drop (k * 2) := by
  induction l generalizing k with
  | nil => simp [flat]
  | cons p l ih =>
    cases k with
    | zero => simp [flat]
    | succ k =>
      rw [show (k + 1) * 2 = k * 2 + 1 + 1 by omega]
      simp only [List.drop_succ_cons, flat, List.flatMap_cons, List.cons_append, List.nil_append] at *
      exact ih k

theorem hd_reads {g off cap : Nat} (hr : RowA 28 2 (.slice (some ⟨g, off, none⟩) l.length cap) l.length (flat l) A) (hs : Sat W w (A ++ F)) (k : Nat) (hk : k ≤ l.length) :
    Reads w (.slice (some ⟨g, off, none⟩) k cap) (l.take k).length (flat (l.take k)) := by
  refine .inr ⟨⟨g, off, none⟩, cap, by simp; omega, fun j u hu => ?_⟩
  rw [flat_take, List.getElem?_take] at hu
  split at hu
  · rw [add_row, (hr.cells hs rfl j (List.getElem?_eq_some_iff.1 hu).1).1, hu]
  · cases hu
theorem tl_reads {g off cap : Nat} (hr : RowA 28 2 (.slice (some ⟨g, off, none⟩) l.length cap) l.length (flat l) A) (hs : Sat W w (A ++ F)) (k : Nat) (hk : k ≤ l.length) :
    Reads w (.slice (some ⟨g, off + k * 2, none⟩) (l.length - k) (cap - k)) (l.drop k).length (flat (l.drop k)) := by
  refine .inr ⟨⟨g, off + k * 2, none⟩, cap - k, by simp, fun j u hu => ?_⟩
  rw [flat_drop, List.getElem?_drop] at hu
  rw [add_row, Nat.add_assoc, (hr.cells hs rfl (k * 2 + j) (List.getElem?_eq_some_iff.1 hu).1).1, hu]
theorem no_reads (w : World) (a : Option Addr) (c : Nat) (ha : a = none → c = 0) : Reads w (.slice a 0 c) ([] : List It).length (flat []) := by
  cases a with
  | none => exact .inl ⟨by rw [ha rfl], rfl, rfl⟩
  | some a => exact .inr ⟨a, c, rfl, fun j u hu => by simp [flat] at hu⟩

variable {o : Oper} {a : Act} {K : Act → World → Prop} {Q : Exit → Act → World → Prop}

theorem wp_append_it {x y : Operand} (ho : o.op = .call { callee := .builtin .append, args := #[x, y], argTypes := #[44, 44] }) (l m : List It) (hv : a.eval x = v) (hsv : a.eval y = sv)
    (hr : RowA 28 2 v l.length (flat l) A) (hs : Sat W w (A ++ F)) (hsrc : Reads w sv m.length (flat m)) (hb : l.length + m.length < 1000000)
    (h : ∀ v' w' A', RowA 28 2 v' (l ++ m).length (flat (l ++ m)) A' → Sat W w' (A' ++ F) → K (a.put o.dst v') w') : o.wp Try.prog a w K Q := by
  obtain ⟨i0, hi, hz0, hz1, hz2⟩ := info_parts infoIt
  obtain ⟨v2, w2, R2, hra, hrow, hs2⟩ := append_sl (P := Try.prog) o.type Try.underlying44 hi hz0 hz1 hz2 rfl (by decide) hr hs hsrc (flat_length m) (by
    intro u hu
    obtain ⟨p, _, hu⟩ := List.mem_flatMap.1 hu
    simp at hu
    rcases hu with rfl | rfl <;> rfl) (by unfold maxLen; omega) (by omega)
  refine wp_append ho (by rw [hv, hsv]; exact hra) (h _ _ _ ?_ hs2)
  rw [List.length_append, flat_append]
  exact hrow

theorem step_append_it {ops : Array Oper} {E : Prop} (hgd : o.guard = none) {x y : Operand} (ho : o.op = .call { callee := .builtin .append, args := #[x, y], argTypes := #[44, 44] }) (l m : List It) (hv : a.eval x = v) (hsv : a.eval y = sv)
    (hr : RowA 28 2 v l.length (flat l) A) (hs : Sat W w (A ++ F)) (hsrc : Reads w sv m.length (flat m)) (hb : l.length + m.length < 1000000)
    (h : ∀ v' w' A', RowA 28 2 v' (l ++ m).length (flat (l ++ m)) A' → Sat W w' (A' ++ F) → K (a.put o.dst v') w') :
    if Region.wanted o (yielded ops a.tmps) = true then Oper.wp Try.prog o a w K Q else E := by
  rw [if_pos (by simp [Region.wanted, hgd])]
  exact wp_append_it ho l m hv hsv hr hs hsrc hb h
end

theorem none_row (w : World) (n : Nat) : RowA 28 2 (.slice (some ⟨n, 0, none⟩) 0 0) ([] : List It).length (flat []) [(n, rowP 28 0 (0 * 2) [])] :=
  ⟨rfl, .inr ⟨_, _, _, rfl, Nat.le_refl _, Nat.zero_le _, rfl⟩⟩
theorem none_sat {W w : World} {L : List Atom} (hs : Sat W w L) : Sat W (w.alloc (.cells #[] 28)) ([(w.heap.size, rowP 28 0 (0 * 2) [])] ++ L) :=
  hs.new (.cells #[] 28) ⟨#[], rfl, by simp, by simp, by simp⟩
theorem box_reads {W w : World} {L : List Atom} {n : Nat} {x : It} (hs : Sat W w L) (hm : cellsA n #[.int .i64 x.1, .int .i64 x.2] 28 ∈ L) : Reads w (.slice (some ⟨n, 0, none⟩) 1 1) [x].length (flat [x]) := by
  refine .inr ⟨_, _, rfl, fun j u hu => ?_⟩
  rw [add_row, hs.cell hm (0 + j), ← hu]
  simp [flat]

set_option maxRecDepth 100000 in
set_option maxHeartbeats 4000000 in
theorem sorted_any (W w : World) (F : List Atom) (v : Value) (l : List It) (R : List Atom) (x : It) (hr : RowA 28 2 v l.length (flat l) R) (hs : Sat W w (R ++ F)) (hb : l.length < 1000) :
    Calls Try.prog 30 #[v, .agg #[.int .i64 x.1, .int .i64 x.2]] w fun e w' => ∃ v' R', e = .returned v' ∧ RowA 28 2 v' (ins x l).length (flat (ins x l)) R' ∧ Sat W w' (R' ++ F) := by
  obtain ⟨x1, x2⟩ := x
  have hfl := flat_length l
  rcases hr.2 with ⟨rfl, hn, rfl⟩ | ⟨g, off, cap, rfl, hnc, hcm, rfl⟩
  · have hs1 : Sat W (w.alloc (.cells #[.int .i64 x1, .int .i64 x2] 28)) (cellsA w.heap.size #[.int .i64 x1, .int .i64 x2] 28 :: F) := hs.newCells _ _
    obtain rfl : l = [] := List.eq_nil_of_length_eq_zero hn
    go_enter Try.func30, Try.ntmps30
    go_wp2_with fail
    generalize w.heap.size = z at *
    refine wp_loop_rounds 1 ?_
    rw [rounds_succ]
    go_wp2_with fail
    have z0 := hs1.cell (b := z) m0 0
    refine wp_region_one [] [] [] [] [0, 1, 2, 3, 4, 5, 6, 7, 8, 9, 10, 11, 12, 13, 14, 15, 16, 17, 18, 19, 20, 21, 22, 23, 24, 25, 26, 27, 28, 29, 30, 31, 32, 33] (by kernel_rfl) (by kernel_rfl) ?_
    repeat (first | (refine can_pu1 rfl rfl rfl rfl rfl rfl (fun K hK => ?_); go_big_quiet_op; refine hK _ ?_; clear hK K) | (refine can_st1 rfl rfl rfl rfl rfl rfl (fun K hK => ?_); go_big_quiet_op; refine hK _ ?_; clear hK K) | (refine can_early1 rfl rfl rfl rfl rfl (fun K hK => ?_); go_big_quiet_op; refine hK _ ?_; clear hK K) | (refine can_skip rfl rfl rfl ?_; simp only [Act.put, List.setIfInBounds_toArray, List.set_cons_zero, List.set_cons_succ]))
    refine can_end1 ?_; (try simp only [Exit.then])
    go_wp2_with fail
    refine with_sat hs1.drew ?_
    clear hs1 hs z0
    intro wr hs
    have z0 : wr.cell? ⟨z, 0, none⟩ = some (.int .i64 x1) := hs.cell m0 0
    have z1 : wr.cell? ⟨z, 1, none⟩ = some (.int .i64 x2) := hs.cell m0 1
    have hin : ([] : List It) ++ [] ++ [(x1, x2)] ++ [] = ins (x1, x2) [] := rfl
    have hs3 : Sat W wr (cellsA z #[.int .i64 x1, .int .i64 x2] 28 :: F) := hs
    have hA1 : Sat W (wr.alloc (.cells #[] 28)).drew ([(wr.heap.size, rowP 28 0 (0 * 2) [])] ++ (cellsA z #[.int .i64 x1, .int .i64 x2] 28 :: F)) := (none_sat hs3).drew
    have hB1 : Sat W ((wr.alloc (.cells #[] 28)).alloc (.cells #[.int .i64 x1, .int .i64 x2] 28)).drew ([(wr.heap.size, rowP 28 0 (0 * 2) [])] ++ (cellsA (wr.heap.size + 1) #[.int .i64 x1, .int .i64 x2] 28 :: cellsA z #[.int .i64 x1, .int .i64 x2] 28 :: F)) := by
      have h := ((none_sat hs3).newCells #[.int .i64 x1, .int .i64 x2] 28).drew
      rw [show (wr.alloc (.cells #[] 28)).heap.size = wr.heap.size + 1 by simp] at h
      exact h.use (by intro x; simp only [cnt_append, cnt_cons, cnt_nil]; omega)
    have hC1 : Sat W ((wr.alloc (.cells #[.int .i64 x1, .int .i64 x2] 28)).alloc (.cells #[] 28)).drew ([(wr.heap.size + 1, rowP 28 0 (0 * 2) [])] ++ (cellsA wr.heap.size #[.int .i64 x1, .int .i64 x2] 28 :: cellsA z #[.int .i64 x1, .int .i64 x2] 28 :: F)) := by
      have h := (none_sat (hs3.newCells #[.int .i64 x1, .int .i64 x2] 28)).drew
      rw [show (wr.alloc (.cells #[.int .i64 x1, .int .i64 x2] 28)).heap.size = wr.heap.size + 1 by simp] at h
      exact h.use (by intro x; simp only [cnt_append, cnt_cons, cnt_nil]; omega)
    clear hs hs3
    go_region_held3 (fun w' => w'.cell? ⟨z, 0, none⟩ = some (.int .i64 x1) ∧ w'.cell? ⟨z, 1, none⟩ = some (.int .i64 x2))
      (first
        | go_keep
        | exact ⟨hs3.cell (List.mem_append_right _ m1) 0, hs3.cell (List.mem_append_right _ m1) 1⟩
        | exact ⟨hs2.cell (List.mem_append_right _ m1) 0, hs2.cell (List.mem_append_right _ m1) 1⟩
        | exact ⟨hs1.cell (List.mem_append_right _ m0) 0, hs1.cell (List.mem_append_right _ m0) 1⟩
        | exact ⟨hs1.cell (List.mem_append_right _ m1) 0, hs1.cell (List.mem_append_right _ m1) 1⟩)
      ((first
        | (refine step_append_it (by rfl) (by rfl) [] [] (by rfl) (by rfl) (none_row wr _) hA1 (no_reads _ none 0 (fun _ => rfl)) (by simp <;> omega) ?_; intro v1 w1 A1 hr1 hs1)
        | (refine step_append_it (by rfl) (by rfl) [] [] (by rfl) (by rfl) (none_row wr _) hB1 (no_reads _ none 0 (fun _ => rfl)) (by simp <;> omega) ?_; intro v1 w1 A1 hr1 hs1)
        | (refine step_append_it (by rfl) (by rfl) [] [] (by rfl) (by rfl) (none_row wr _) hC1 (no_reads _ none 0 (fun _ => rfl)) (by simp <;> omega) ?_; intro v1 w1 A1 hr1 hs1)
        | (refine step_append_it (by rfl) (by rfl) ([] ++ []) [(x1, x2)] (by rfl) (by rfl) hr1 (Sat.use (M := A1 ++ (cellsA w1.heap.size #[.int .i64 x1, .int .i64 x2] 28 :: cellsA z #[.int .i64 x1, .int .i64 x2] 28 :: F)) (hs1.newCells _ _) (by intro x; simp only [cnt_append, cnt_cons, cnt_nil]; omega)) (box_reads (hs1.newCells _ _) m0) (by simp <;> omega) ?_; intro v2 w2 A2 hr2 hs2)
        | (refine step_append_it (by rfl) (by rfl) ([] ++ []) [(x1, x2)] (by rfl) (by rfl) hr1 hs1 (box_reads hs1 (List.mem_append_right _ m0)) (by simp <;> omega) ?_; intro v2 w2 A2 hr2 hs2)
        | (refine step_append_it (by rfl) (by rfl) ([] ++ [] ++ [(x1, x2)]) [] (by rfl) (by rfl) hr2 hs2 (no_reads _ none 0 (fun _ => rfl)) (by simp <;> omega) ?_; intro v3 w3 A3 hr3 hs3)))
    all_goals rw [hin] at hr3
    all_goals go_wp2_with fail
    all_goals go_ret
    all_goals first
      | exact ⟨v3, A3, rfl, hr3, hs3.use (by intro x; simp only [cnt_append, cnt_cons, cnt_nil]; omega)⟩
      | exact ⟨v3, rfl, A3, hr3, hs3.use (by intro x; simp only [cnt_append, cnt_cons, cnt_nil]; omega)⟩
  · have hs1 : Sat W (w.alloc (.cells #[.int .i64 x1, .int .i64 x2] 28)) (cellsA w.heap.size #[.int .i64 x1, .int .i64 x2] 28 :: ([(g, rowP 28 off (cap * 2) (flat l))] ++ F)) := hs.newCells _ _
    go_enter Try.func30, Try.ntmps30
    go_wp2_with fail
    generalize w.heap.size = z at *
    go_loopw [5] (fun iv wr => ∃ (k : Nat), iv = .int .i64 k ∧ k ≤ l.length ∧ (∀ j, j < k → lt (at_ l j) (x1, x2)) ∧ Sat W wr (cellsA z #[.int .i64 x1, .int .i64 x2] 28 :: ([(g, rowP 28 off (cap * 2) (flat l))] ++ F))) (fun iv _ => (l.length - (intOf iv).toNat))
    case atStart => exact ⟨0, rfl, Nat.zero_le _, fun j hj => absurd hj (Nat.not_lt_zero _), hs1⟩
    case round =>
      clear hs1 hs
      obtain ⟨k, rfl, hk, hlt, hs⟩ := hrel
      have b0 : (0 : Int) ≤ k := by omega
      have z0 : wr.cell? ⟨z, 0, none⟩ = some (.int .i64 x1) := hs.cell m0 0
      have z1 : wr.cell? ⟨z, 1, none⟩ = some (.int .i64 x2) := hs.cell m0 1
      by_cases hkl : k < l.length
      · have b1 : (k : Int) < l.length := by omega
        have hs2 : Sat W wr ([(g, rowP 28 off (cap * 2) (flat l))] ++ (cellsA z #[.int .i64 x1, .int .i64 x2] 28 :: F)) := hs.use (by intro x; simp only [cnt_append, cnt_cons, cnt_nil]; omega)
        obtain ⟨p, hp⟩ : ∃ p, l[k]? = some p := ⟨_, List.getElem?_eq_getElem hkl⟩
        obtain ⟨f0, f1⟩ := flat_get hp
        have hat : at_ l k = p := by unfold at_; rw [List.getD_eq_getElem?_getD, hp]; rfl
        have d0 : wr.cell? ⟨g, off + k * 2, none⟩ = some (.int .i64 p.1) := by rw [(hr.cells hs2 rfl (k * 2) (by omega)).1, f0]
        have d1 : wr.cell? ⟨g, off + k * 2 + 1, none⟩ = some (.int .i64 p.2) := by rw [Nat.add_assoc, (hr.cells hs2 rfl (k * 2 + 1) (by omega)).1, f1]
        obtain ⟨p1, p2⟩ := p
        have HAT := Lib.hid hat
        clear f0 f1 hp hat
        go_wp2_with fail
        by_cases h2 : p2 < x2
        · have e1 : decide (p2 < x2) = true := by simpa using h2
          have hlt1 : lt (p1, p2) (x1, x2) := .inl h2
          refine wp_region_one [] [] [] [] [0, 1, 2, 3, 4, 5, 6, 7, 8, 9, 10, 11, 12, 13, 14, 15, 16, 17, 18, 19, 20, 21, 22, 23, 24, 25, 26, 27, 28, 29, 30, 31, 32, 33] (by kernel_rfl) (by kernel_rfl) ?_
          repeat (first | (refine can_pu1 rfl rfl rfl rfl rfl rfl (fun K hK => ?_); go_big_quiet_op; refine hK _ ?_; clear hK K) | (refine can_st1 rfl rfl rfl rfl rfl rfl (fun K hK => ?_); go_big_quiet_op; refine hK _ ?_; clear hK K) | (refine can_early1 rfl rfl rfl rfl rfl (fun K hK => ?_); go_big_quiet_op; refine hK _ ?_; clear hK K) | (refine can_skip rfl rfl rfl ?_; simp only [Act.put, List.setIfInBounds_toArray, List.set_cons_zero, List.set_cons_succ]))
          refine can_end1 ?_; (try simp only [Exit.then])
          go_wp2_with fail
          refine ⟨⟨k + 1, by simp, by omega, fun j hj => ?_, hs.drew⟩, ?_⟩
          · by_cases e : j < k
            · exact hlt j e
            · have : j = k := by omega
              subst this
              rw [HAT.out]
              exact hlt1
          · simp [intOf]
            omega
        · have e1 : decide (p2 < x2) = false := by simpa using h2
          by_cases h3 : p2 = x2
          · have h3' : x2 = p2 := h3.symm
            subst h3'
            by_cases h4 : p1 < x1
            · have e2 : decide (p1 < x1) = true := by simpa using h4
              have hlt1 : lt (p1, x2) (x1, x2) := .inr ⟨rfl, h4⟩
              refine wp_region_one [] [] [] [] [0, 1, 2, 3, 4, 5, 6, 7, 8, 9, 10, 11, 12, 13, 14, 15, 16, 17, 18, 19, 20, 21, 22, 23, 24, 25, 26, 27, 28, 29, 30, 31, 32, 33] (by kernel_rfl) (by kernel_rfl) ?_
              repeat (first | (refine can_pu1 rfl rfl rfl rfl rfl rfl (fun K hK => ?_); go_big_quiet_op; refine hK _ ?_; clear hK K) | (refine can_st1 rfl rfl rfl rfl rfl rfl (fun K hK => ?_); go_big_quiet_op; refine hK _ ?_; clear hK K) | (refine can_early1 rfl rfl rfl rfl rfl (fun K hK => ?_); go_big_quiet_op; refine hK _ ?_; clear hK K) | (refine can_skip rfl rfl rfl ?_; simp only [Act.put, List.setIfInBounds_toArray, List.set_cons_zero, List.set_cons_succ]))
              refine can_end1 ?_; (try simp only [Exit.then])
              go_wp2_with fail
              refine ⟨⟨k + 1, by simp, by omega, fun j hj => ?_, hs.drew⟩, ?_⟩
              · by_cases e : j < k
                · exact hlt j e
                · have : j = k := by omega
                  subst this
                  rw [HAT.out]
                  exact hlt1
              · simp [intOf]
                omega
            · have e2 : decide (p1 < x1) = false := by simpa using h4
              have hlt1 : ¬ lt (p1, x2) (x1, x2) := fun h => by unfold lt at h; omega
              refine wp_region_one [] [] [] [] [0, 1, 2, 3, 4, 5, 6, 7, 8, 9, 10, 11, 12, 13, 14, 15, 16, 17, 18, 19, 20, 21, 22, 23, 24, 25, 26, 27, 28, 29, 30, 31, 32, 33] (by kernel_rfl) (by kernel_rfl) ?_
              repeat (first | (refine can_pu1 rfl rfl rfl rfl rfl rfl (fun K hK => ?_); go_big_quiet_op; refine hK _ ?_; clear hK K) | (refine can_st1 rfl rfl rfl rfl rfl rfl (fun K hK => ?_); go_big_quiet_op; refine hK _ ?_; clear hK K) | (refine can_early1 rfl rfl rfl rfl rfl (fun K hK => ?_); go_big_quiet_op; refine hK _ ?_; clear hK K) | (refine can_skip rfl rfl rfl ?_; simp only [Act.put, List.setIfInBounds_toArray, List.set_cons_zero, List.set_cons_succ]))
              refine can_end1 ?_; (try simp only [Exit.then])
              go_wp2_with fail
              have hck : ¬ cap = k := by omega
              have b7 : (k : Int) ≤ cap := by omega
              have b8 : (k : Int) ≤ l.length := by omega
              have htl : ∀ (w' : World) (A' : List Atom) (m : Nat), Sat W w' (A' ++ (cellsA m #[.int .i64 x1, .int .i64 x2] 28 :: cellsA z #[.int .i64 x1, .int .i64 x2] 28 :: ([(g, rowP 28 off (cap * 2) (flat l))] ++ F))) → Reads w' (.slice (some ⟨g, off + k * 2, none⟩) (l.length - k) (cap - k)) (l.drop k).length (flat (l.drop k)) := fun w' A' m h => tl_reads hr (Sat.use (M := [(g, rowP 28 off (cap * 2) (flat l))] ++ (cellsA m #[.int .i64 x1, .int .i64 x2] 28 :: A')) h (by intro x; simp only [cnt_append, cnt_cons, cnt_nil]; omega)) k hk
              refine with_sat hs.drew ?_
              clear hs z0 z1
              intro wr hs
              have z0 : wr.cell? ⟨z, 0, none⟩ = some (.int .i64 x1) := hs.cell m0 0
              have z1 : wr.cell? ⟨z, 1, none⟩ = some (.int .i64 x2) := hs.cell m0 1
              have hin : [] ++ l.take k ++ [(x1, x2)] ++ (l.drop k) = ins (x1, x2) l := by
                rw [ins_at (x1, x2) l k hk hlt (fun h => (by rw [HAT.out]; exact hlt1))]
                simp
              have hs0 : Sat W wr.drew ([(g, rowP 28 off (cap * 2) (flat l))] ++ (cellsA z #[.int .i64 x1, .int .i64 x2] 28 :: F)) := hs.drew.use (by intro x; simp only [cnt_append, cnt_cons, cnt_nil]; omega)
              have hs3 : Sat W wr (cellsA z #[.int .i64 x1, .int .i64 x2] 28 :: ([(g, rowP 28 off (cap * 2) (flat l))] ++ F)) := hs
              have hA1 : Sat W (wr.alloc (.cells #[] 28)).drew ([(wr.heap.size, rowP 28 0 (0 * 2) [])] ++ (cellsA z #[.int .i64 x1, .int .i64 x2] 28 :: ([(g, rowP 28 off (cap * 2) (flat l))] ++ F))) := (none_sat hs3).drew
              have hB1 : Sat W ((wr.alloc (.cells #[] 28)).alloc (.cells #[.int .i64 x1, .int .i64 x2] 28)).drew ([(wr.heap.size, rowP 28 0 (0 * 2) [])] ++ (cellsA (wr.heap.size + 1) #[.int .i64 x1, .int .i64 x2] 28 :: cellsA z #[.int .i64 x1, .int .i64 x2] 28 :: ([(g, rowP 28 off (cap * 2) (flat l))] ++ F))) := by
                have h := ((none_sat hs3).newCells #[.int .i64 x1, .int .i64 x2] 28).drew
                rw [show (wr.alloc (.cells #[] 28)).heap.size = wr.heap.size + 1 by simp] at h
                exact h.use (by intro x; simp only [cnt_append, cnt_cons, cnt_nil]; omega)
              have hC1 : Sat W ((wr.alloc (.cells #[.int .i64 x1, .int .i64 x2] 28)).alloc (.cells #[] 28)).drew ([(wr.heap.size + 1, rowP 28 0 (0 * 2) [])] ++ (cellsA wr.heap.size #[.int .i64 x1, .int .i64 x2] 28 :: cellsA z #[.int .i64 x1, .int .i64 x2] 28 :: ([(g, rowP 28 off (cap * 2) (flat l))] ++ F))) := by
                have h := (none_sat (hs3.newCells #[.int .i64 x1, .int .i64 x2] 28)).drew
                rw [show (wr.alloc (.cells #[.int .i64 x1, .int .i64 x2] 28)).heap.size = wr.heap.size + 1 by simp] at h
                exact h.use (by intro x; simp only [cnt_append, cnt_cons, cnt_nil]; omega)
              clear hs hs3
              go_region_held3 (fun w' => w'.cell? ⟨z, 0, none⟩ = some (.int .i64 x1) ∧ w'.cell? ⟨z, 1, none⟩ = some (.int .i64 x2))
                (first
                  | go_keep
                  | exact ⟨hs3.cell (List.mem_append_right _ m1) 0, hs3.cell (List.mem_append_right _ m1) 1⟩
                  | exact ⟨hs2.cell (List.mem_append_right _ m1) 0, hs2.cell (List.mem_append_right _ m1) 1⟩
                  | exact ⟨hs1.cell (List.mem_append_right _ m0) 0, hs1.cell (List.mem_append_right _ m0) 1⟩
                  | exact ⟨hs1.cell (List.mem_append_right _ m1) 0, hs1.cell (List.mem_append_right _ m1) 1⟩)
                ((first
                  | (refine step_append_it (by rfl) (by rfl) [] (l.take k) (by rfl) (by rfl) (none_row wr _) hA1 (hd_reads hr (Sat.use (M := [(g, rowP 28 off (cap * 2) (flat l))] ++ F) hA1 (by intro x; simp only [cnt_append, cnt_cons, cnt_nil]; omega)) k hk) (by simp <;> omega) ?_; intro v1 w1 A1 hr1 hs1)
                  | (refine step_append_it (by rfl) (by rfl) [] (l.take k) (by rfl) (by rfl) (none_row wr _) hB1 (hd_reads hr (Sat.use (M := [(g, rowP 28 off (cap * 2) (flat l))] ++ F) hB1 (by intro x; simp only [cnt_append, cnt_cons, cnt_nil]; omega)) k hk) (by simp <;> omega) ?_; intro v1 w1 A1 hr1 hs1)
                  | (refine step_append_it (by rfl) (by rfl) [] (l.take k) (by rfl) (by rfl) (none_row wr _) hC1 (hd_reads hr (Sat.use (M := [(g, rowP 28 off (cap * 2) (flat l))] ++ F) hC1 (by intro x; simp only [cnt_append, cnt_cons, cnt_nil]; omega)) k hk) (by simp <;> omega) ?_; intro v1 w1 A1 hr1 hs1)
                  | (refine step_append_it (by rfl) (by rfl) ([] ++ l.take k) [(x1, x2)] (by rfl) (by rfl) hr1 (Sat.use (M := A1 ++ (cellsA w1.heap.size #[.int .i64 x1, .int .i64 x2] 28 :: cellsA z #[.int .i64 x1, .int .i64 x2] 28 :: ([(g, rowP 28 off (cap * 2) (flat l))] ++ F))) (hs1.newCells _ _) (by intro x; simp only [cnt_append, cnt_cons, cnt_nil]; omega)) (box_reads (hs1.newCells _ _) m0) (by simp <;> omega) ?_; intro v2 w2 A2 hr2 hs2)
                  | (refine step_append_it (by rfl) (by rfl) ([] ++ l.take k) [(x1, x2)] (by rfl) (by rfl) hr1 hs1 (box_reads hs1 (List.mem_append_right _ m0)) (by simp <;> omega) ?_; intro v2 w2 A2 hr2 hs2)
                  | (refine step_append_it (by rfl) (by rfl) ([] ++ l.take k ++ [(x1, x2)]) (l.drop k) (by rfl) (by rfl) hr2 hs2 (htl _ _ _ hs2) (by simp <;> omega) ?_; intro v3 w3 A3 hr3 hs3)))
              all_goals rw [hin] at hr3
              all_goals go_wp2_with fail
              all_goals go_ret
              all_goals first
                | exact ⟨v3, A3, rfl, hr3, hs3.use (by intro x; simp only [cnt_append, cnt_cons, cnt_nil]; omega)⟩
                | exact ⟨v3, rfl, A3, hr3, hs3.use (by intro x; simp only [cnt_append, cnt_cons, cnt_nil]; omega)⟩
          · have e2 : (p2 == x2) = false := by simpa using h3
            have hlt1 : ¬ lt (p1, p2) (x1, x2) := fun h => by unfold lt at h; omega
            refine wp_region_one [] [] [] [] [0, 1, 2, 3, 4, 5, 6, 7, 8, 9, 10, 11, 12, 13, 14, 15, 16, 17, 18, 19, 20, 21, 22, 23, 24, 25, 26, 27, 28, 29, 30, 31, 32, 33] (by kernel_rfl) (by kernel_rfl) ?_
            repeat (first | (refine can_pu1 rfl rfl rfl rfl rfl rfl (fun K hK => ?_); go_big_quiet_op; refine hK _ ?_; clear hK K) | (refine can_st1 rfl rfl rfl rfl rfl rfl (fun K hK => ?_); go_big_quiet_op; refine hK _ ?_; clear hK K) | (refine can_early1 rfl rfl rfl rfl rfl (fun K hK => ?_); go_big_quiet_op; refine hK _ ?_; clear hK K) | (refine can_skip rfl rfl rfl ?_; simp only [Act.put, List.setIfInBounds_toArray, List.set_cons_zero, List.set_cons_succ]))
            refine can_end1 ?_; (try simp only [Exit.then])
            go_wp2_with fail
            have hck : ¬ cap = k := by omega
            have b7 : (k : Int) ≤ cap := by omega
            have b8 : (k : Int) ≤ l.length := by omega
            have htl : ∀ (w' : World) (A' : List Atom) (m : Nat), Sat W w' (A' ++ (cellsA m #[.int .i64 x1, .int .i64 x2] 28 :: cellsA z #[.int .i64 x1, .int .i64 x2] 28 :: ([(g, rowP 28 off (cap * 2) (flat l))] ++ F))) → Reads w' (.slice (some ⟨g, off + k * 2, none⟩) (l.length - k) (cap - k)) (l.drop k).length (flat (l.drop k)) := fun w' A' m h => tl_reads hr (Sat.use (M := [(g, rowP 28 off (cap * 2) (flat l))] ++ (cellsA m #[.int .i64 x1, .int .i64 x2] 28 :: A')) h (by intro x; simp only [cnt_append, cnt_cons, cnt_nil]; omega)) k hk
            refine with_sat hs.drew ?_
            clear hs z0 z1
            intro wr hs
            have z0 : wr.cell? ⟨z, 0, none⟩ = some (.int .i64 x1) := hs.cell m0 0
            have z1 : wr.cell? ⟨z, 1, none⟩ = some (.int .i64 x2) := hs.cell m0 1
            have hin : [] ++ l.take k ++ [(x1, x2)] ++ (l.drop k) = ins (x1, x2) l := by
              rw [ins_at (x1, x2) l k hk hlt (fun h => (by rw [HAT.out]; exact hlt1))]
              simp
            have hs0 : Sat W wr.drew ([(g, rowP 28 off (cap * 2) (flat l))] ++ (cellsA z #[.int .i64 x1, .int .i64 x2] 28 :: F)) := hs.drew.use (by intro x; simp only [cnt_append, cnt_cons, cnt_nil]; omega)
            have hs3 : Sat W wr (cellsA z #[.int .i64 x1, .int .i64 x2] 28 :: ([(g, rowP 28 off (cap * 2) (flat l))] ++ F)) := hs
            have hA1 : Sat W (wr.alloc (.cells #[] 28)).drew ([(wr.heap.size, rowP 28 0 (0 * 2) [])] ++ (cellsA z #[.int .i64 x1, .int .i64 x2] 28 :: ([(g, rowP 28 off (cap * 2) (flat l))] ++ F))) := (none_sat hs3).drew
            have hB1 : Sat W ((wr.alloc (.cells #[] 28)).alloc (.cells #[.int .i64 x1, .int .i64 x2] 28)).drew ([(wr.heap.size, rowP 28 0 (0 * 2) [])] ++ (cellsA (wr.heap.size + 1) #[.int .i64 x1, .int .i64 x2] 28 :: cellsA z #[.int .i64 x1, .int .i64 x2] 28 :: ([(g, rowP 28 off (cap * 2) (flat l))] ++ F))) := by
              have h := ((none_sat hs3).newCells #[.int .i64 x1, .int .i64 x2] 28).drew
              rw [show (wr.alloc (.cells #[] 28)).heap.size = wr.heap.size + 1 by simp] at h
              exact h.use (by intro x; simp only [cnt_append, cnt_cons, cnt_nil]; omega)
            have hC1 : Sat W ((wr.alloc (.cells #[.int .i64 x1, .int .i64 x2] 28)).alloc (.cells #[] 28)).drew ([(wr.heap.size + 1, rowP 28 0 (0 * 2) [])] ++ (cellsA wr.heap.size #[.int .i64 x1, .int .i64 x2] 28 :: cellsA z #[.int .i64 x1, .int .i64 x2] 28 :: ([(g, rowP 28 off (cap * 2) (flat l))] ++ F))) := by
              have h := (none_sat (hs3.newCells #[.int .i64 x1, .int .i64 x2] 28)).drew
              rw [show (wr.alloc (.cells #[.int .i64 x1, .int .i64 x2] 28)).heap.size = wr.heap.size + 1 by simp] at h
              exact h.use (by intro x; simp only [cnt_append, cnt_cons, cnt_nil]; omega)
            clear hs hs3
            go_region_held3 (fun w' => w'.cell? ⟨z, 0, none⟩ = some (.int .i64 x1) ∧ w'.cell? ⟨z, 1, none⟩ = some (.int .i64 x2))
              (first
                | go_keep
                | exact ⟨hs3.cell (List.mem_append_right _ m1) 0, hs3.cell (List.mem_append_right _ m1) 1⟩
                | exact ⟨hs2.cell (List.mem_append_right _ m1) 0, hs2.cell (List.mem_append_right _ m1) 1⟩
                | exact ⟨hs1.cell (List.mem_append_right _ m0) 0, hs1.cell (List.mem_append_right _ m0) 1⟩
                | exact ⟨hs1.cell (List.mem_append_right _ m1) 0, hs1.cell (List.mem_append_right _ m1) 1⟩)
              ((first
                | (refine step_append_it (by rfl) (by rfl) [] (l.take k) (by rfl) (by rfl) (none_row wr _) hA1 (hd_reads hr (Sat.use (M := [(g, rowP 28 off (cap * 2) (flat l))] ++ F) hA1 (by intro x; simp only [cnt_append, cnt_cons, cnt_nil]; omega)) k hk) (by simp <;> omega) ?_; intro v1 w1 A1 hr1 hs1)
                | (refine step_append_it (by rfl) (by rfl) [] (l.take k) (by rfl) (by rfl) (none_row wr _) hB1 (hd_reads hr (Sat.use (M := [(g, rowP 28 off (cap * 2) (flat l))] ++ F) hB1 (by intro x; simp only [cnt_append, cnt_cons, cnt_nil]; omega)) k hk) (by simp <;> omega) ?_; intro v1 w1 A1 hr1 hs1)
                | (refine step_append_it (by rfl) (by rfl) [] (l.take k) (by rfl) (by rfl) (none_row wr _) hC1 (hd_reads hr (Sat.use (M := [(g, rowP 28 off (cap * 2) (flat l))] ++ F) hC1 (by intro x; simp only [cnt_append, cnt_cons, cnt_nil]; omega)) k hk) (by simp <;> omega) ?_; intro v1 w1 A1 hr1 hs1)
                | (refine step_append_it (by rfl) (by rfl) ([] ++ l.take k) [(x1, x2)] (by rfl) (by rfl) hr1 (Sat.use (M := A1 ++ (cellsA w1.heap.size #[.int .i64 x1, .int .i64 x2] 28 :: cellsA z #[.int .i64 x1, .int .i64 x2] 28 :: ([(g, rowP 28 off (cap * 2) (flat l))] ++ F))) (hs1.newCells _ _) (by intro x; simp only [cnt_append, cnt_cons, cnt_nil]; omega)) (box_reads (hs1.newCells _ _) m0) (by simp <;> omega) ?_; intro v2 w2 A2 hr2 hs2)
                | (refine step_append_it (by rfl) (by rfl) ([] ++ l.take k) [(x1, x2)] (by rfl) (by rfl) hr1 hs1 (box_reads hs1 (List.mem_append_right _ m0)) (by simp <;> omega) ?_; intro v2 w2 A2 hr2 hs2)
                | (refine step_append_it (by rfl) (by rfl) ([] ++ l.take k ++ [(x1, x2)]) (l.drop k) (by rfl) (by rfl) hr2 hs2 (htl _ _ _ hs2) (by simp <;> omega) ?_; intro v3 w3 A3 hr3 hs3)))
            all_goals rw [hin] at hr3
            all_goals go_wp2_with fail
            all_goals go_ret
            all_goals first
              | exact ⟨v3, A3, rfl, hr3, hs3.use (by intro x; simp only [cnt_append, cnt_cons, cnt_nil]; omega)⟩
              | exact ⟨v3, rfl, A3, hr3, hs3.use (by intro x; simp only [cnt_append, cnt_cons, cnt_nil]; omega)⟩
      · obtain rfl : k = l.length := by omega
        have b1 : ¬ (l.length : Int) < l.length := by omega
        go_wp2_with fail
        refine wp_region_one [] [] [] [] [0, 1, 2, 3, 4, 5, 6, 7, 8, 9, 10, 11, 12, 13, 14, 15, 16, 17, 18, 19, 20, 21, 22, 23, 24, 25, 26, 27, 28, 29, 30, 31, 32, 33] (by kernel_rfl) (by kernel_rfl) ?_
        repeat (first | (refine can_pu1 rfl rfl rfl rfl rfl rfl (fun K hK => ?_); go_big_quiet_op; refine hK _ ?_; clear hK K) | (refine can_st1 rfl rfl rfl rfl rfl rfl (fun K hK => ?_); go_big_quiet_op; refine hK _ ?_; clear hK K) | (refine can_early1 rfl rfl rfl rfl rfl (fun K hK => ?_); go_big_quiet_op; refine hK _ ?_; clear hK K) | (refine can_skip rfl rfl rfl ?_; simp only [Act.put, List.setIfInBounds_toArray, List.set_cons_zero, List.set_cons_succ]))
        refine can_end1 ?_; (try simp only [Exit.then])
        go_wp2_with fail
        refine with_sat hs.drew ?_
        clear hs z0 z1
        intro wr hs
        have z0 : wr.cell? ⟨z, 0, none⟩ = some (.int .i64 x1) := hs.cell m0 0
        have z1 : wr.cell? ⟨z, 1, none⟩ = some (.int .i64 x2) := hs.cell m0 1
        have hin : [] ++ l.take l.length ++ [(x1, x2)] ++ ([] : List It) = ins (x1, x2) l := by
          rw [ins_at (x1, x2) l l.length hk hlt (fun h => absurd h (Nat.lt_irrefl _))]
          simp
        have hs0 : Sat W wr.drew ([(g, rowP 28 off (cap * 2) (flat l))] ++ (cellsA z #[.int .i64 x1, .int .i64 x2] 28 :: F)) := hs.drew.use (by intro x; simp only [cnt_append, cnt_cons, cnt_nil]; omega)
        have hs3 : Sat W wr (cellsA z #[.int .i64 x1, .int .i64 x2] 28 :: ([(g, rowP 28 off (cap * 2) (flat l))] ++ F)) := hs
        have hA1 : Sat W (wr.alloc (.cells #[] 28)).drew ([(wr.heap.size, rowP 28 0 (0 * 2) [])] ++ (cellsA z #[.int .i64 x1, .int .i64 x2] 28 :: ([(g, rowP 28 off (cap * 2) (flat l))] ++ F))) := (none_sat hs3).drew
        have hB1 : Sat W ((wr.alloc (.cells #[] 28)).alloc (.cells #[.int .i64 x1, .int .i64 x2] 28)).drew ([(wr.heap.size, rowP 28 0 (0 * 2) [])] ++ (cellsA (wr.heap.size + 1) #[.int .i64 x1, .int .i64 x2] 28 :: cellsA z #[.int .i64 x1, .int .i64 x2] 28 :: ([(g, rowP 28 off (cap * 2) (flat l))] ++ F))) := by
          have h := ((none_sat hs3).newCells #[.int .i64 x1, .int .i64 x2] 28).drew
          rw [show (wr.alloc (.cells #[] 28)).heap.size = wr.heap.size + 1 by simp] at h
          exact h.use (by intro x; simp only [cnt_append, cnt_cons, cnt_nil]; omega)
        have hC1 : Sat W ((wr.alloc (.cells #[.int .i64 x1, .int .i64 x2] 28)).alloc (.cells #[] 28)).drew ([(wr.heap.size + 1, rowP 28 0 (0 * 2) [])] ++ (cellsA wr.heap.size #[.int .i64 x1, .int .i64 x2] 28 :: cellsA z #[.int .i64 x1, .int .i64 x2] 28 :: ([(g, rowP 28 off (cap * 2) (flat l))] ++ F))) := by
          have h := (none_sat (hs3.newCells #[.int .i64 x1, .int .i64 x2] 28)).drew
          rw [show (wr.alloc (.cells #[.int .i64 x1, .int .i64 x2] 28)).heap.size = wr.heap.size + 1 by simp] at h
          exact h.use (by intro x; simp only [cnt_append, cnt_cons, cnt_nil]; omega)
        clear hs hs3
        go_region_held3 (fun w' => w'.cell? ⟨z, 0, none⟩ = some (.int .i64 x1) ∧ w'.cell? ⟨z, 1, none⟩ = some (.int .i64 x2))
          (first
            | go_keep
            | exact ⟨hs3.cell (List.mem_append_right _ m1) 0, hs3.cell (List.mem_append_right _ m1) 1⟩
            | exact ⟨hs2.cell (List.mem_append_right _ m1) 0, hs2.cell (List.mem_append_right _ m1) 1⟩
            | exact ⟨hs1.cell (List.mem_append_right _ m0) 0, hs1.cell (List.mem_append_right _ m0) 1⟩
            | exact ⟨hs1.cell (List.mem_append_right _ m1) 0, hs1.cell (List.mem_append_right _ m1) 1⟩)
          ((first
            | (refine step_append_it (by rfl) (by rfl) [] (l.take l.length) (by rfl) (by rfl) (none_row wr _) hA1 (hd_reads hr (Sat.use (M := [(g, rowP 28 off (cap * 2) (flat l))] ++ F) hA1 (by intro x; simp only [cnt_append, cnt_cons, cnt_nil]; omega)) l.length hk) (by simp <;> omega) ?_; intro v1 w1 A1 hr1 hs1)
            | (refine step_append_it (by rfl) (by rfl) [] (l.take l.length) (by rfl) (by rfl) (none_row wr _) hB1 (hd_reads hr (Sat.use (M := [(g, rowP 28 off (cap * 2) (flat l))] ++ F) hB1 (by intro x; simp only [cnt_append, cnt_cons, cnt_nil]; omega)) l.length hk) (by simp <;> omega) ?_; intro v1 w1 A1 hr1 hs1)
            | (refine step_append_it (by rfl) (by rfl) [] (l.take l.length) (by rfl) (by rfl) (none_row wr _) hC1 (hd_reads hr (Sat.use (M := [(g, rowP 28 off (cap * 2) (flat l))] ++ F) hC1 (by intro x; simp only [cnt_append, cnt_cons, cnt_nil]; omega)) l.length hk) (by simp <;> omega) ?_; intro v1 w1 A1 hr1 hs1)
            | (refine step_append_it (by rfl) (by rfl) ([] ++ l.take l.length) [(x1, x2)] (by rfl) (by rfl) hr1 (Sat.use (M := A1 ++ (cellsA w1.heap.size #[.int .i64 x1, .int .i64 x2] 28 :: cellsA z #[.int .i64 x1, .int .i64 x2] 28 :: ([(g, rowP 28 off (cap * 2) (flat l))] ++ F))) (hs1.newCells _ _) (by intro x; simp only [cnt_append, cnt_cons, cnt_nil]; omega)) (box_reads (hs1.newCells _ _) m0) (by simp <;> omega) ?_; intro v2 w2 A2 hr2 hs2)
            | (refine step_append_it (by rfl) (by rfl) ([] ++ l.take l.length) [(x1, x2)] (by rfl) (by rfl) hr1 hs1 (box_reads hs1 (List.mem_append_right _ m0)) (by simp <;> omega) ?_; intro v2 w2 A2 hr2 hs2)
            | (refine step_append_it (by rfl) (by rfl) ([] ++ l.take l.length ++ [(x1, x2)]) ([] : List It) (by rfl) (by rfl) hr2 hs2 (no_reads _ _ _ (by intro h; split at h <;> cases h)) (by simp <;> omega) ?_; intro v3 w3 A3 hr3 hs3)))
        all_goals rw [hin] at hr3
        all_goals go_wp2_with fail
        all_goals go_ret
        all_goals first
          | exact ⟨v3, A3, rfl, hr3, hs3.use (by intro x; simp only [cnt_append, cnt_cons, cnt_nil]; omega)⟩
          | exact ⟨v3, rfl, A3, hr3, hs3.use (by intro x; simp only [cnt_append, cnt_cons, cnt_nil]; omega)⟩
end Go.Proofs.Ytelcaeapflhadaa.Pk
