/-
  slices.SortFunc at no more than two pieces.
-/
import Derived.Test.YtdkhgkkdnjejmaaChS
namespace Go.Proofs.Ytdkhgkkdnjejmaa.Ch
set_option linter.unusedSimpArgs false
open Go Go.RowKit Go.Sl Go.BigFrame
set_option linter.unusedVariables false

set_option maxRecDepth 100000 in
theorem len_small (n : Nat) (h : n ≤ 2) (w : World) :
    Calls Try.prog 94 #[.int .u64 n] w fun e w' => ∃ m : Int, e = .returned (.int .i64 m) ∧ w = w' := by
  have h64 : Calls Try.prog 113 #[.int .u64 n] w fun e w' => ∃ m : Int, e = .returned (.int .i64 m) ∧ w = w' := by
    rcases (by omega : n = 0 ∨ n = 1 ∨ n = 2) with rfl | rfl | rfl
    all_goals
      go_enter Try.func113, Try.ntmps113
      go_wp2_with fail
      go_ret
      exact ⟨_, rfl, rfl⟩
  obtain ⟨x, hx⟩ : ∃ x : Int, x = n := ⟨_, rfl⟩
  rw [← hx] at h64 ⊢
  clear hx
  go_enter Try.func94, Try.ntmps94
  go_wp2_with fail
  refine h64.mono ?_; rintro r w2 ⟨m, rfl, rfl⟩
  go_wp2_with fail
  go_ret
  exact ⟨m, rfl, rfl⟩

def pcsC (xs : List (Pc × Value)) : List Value := (xs.map fun x => pcCells x.1 x.2).flatten
theorem pcsC_length (xs : List (Pc × Value)) : (pcsC xs).length = xs.length * 4 := by
  induction xs with
  | nil => rfl
  | cons x xs ih =>
    simp only [pcsC, List.map_cons, List.flatten_cons, List.length_append, List.length_cons] at *
    rw [ih]
    simp [pcCells]
    omega
theorem pcsC_append (xs ys : List (Pc × Value)) : pcsC (xs ++ ys) = pcsC xs ++ pcsC ys := by simp [pcsC]
noncomputable def sort2 : List (Pc × Value) → List (Pc × Value)
  | [x, y] => if x.1.gen < y.1.gen then [y, x] else [x, y]
  | l => l

theorem cmp_any (s g i s2 g2 i2 : Int) (v v2 : Value) (hv : ∃ a n c, v = .slice a n c) (hv2 : ∃ a n c, v2 = .slice a n c) (w : World) (h1 : 0 ≤ g) (h2 : g ≤ 1099511627776) (h3 : 0 ≤ g2) (h4 : g2 ≤ 1099511627776) :
    Calls Try.prog 75 #[.agg #[.int .i64 s, .int .i64 g, .int .i64 i, v], .agg #[.int .i64 s2, .int .i64 g2, .int .i64 i2, v2]] w fun e w' => e = .returned (.int .i64 (g2 - g)) ∧ Ext w w' := by
  obtain ⟨a, n, c, rfl⟩ := hv
  obtain ⟨a2, n2, c2, rfl⟩ := hv2
  go_enter Try.func75, Try.ntmps75
  go_wp2_with fail
  go_ret
  exact ⟨rfl, (Ext.alloc _ _).trans (Ext.alloc _ _)⟩

theorem ins_small (v : Value) (n : Nat) (hn : n ≤ 1) (fv : Value) (w : World) :
    Calls Try.prog 104 #[v, .int .i64 0, .int .i64 n, .func (.func 75) #[] #[]] w fun e w' => e = .returned (.tuple #[]) ∧ w = w' := by
  obtain ⟨x, hx⟩ : ∃ x : Int, x = n := ⟨_, rfl⟩
  have h1 : ¬ (1 : Int) < x := by omega
  rw [← hx]
  clear hx hn
  go_enter Try.func104, Try.ntmps104
  go_wp2_with fail
  refine wp_loop_rounds 1 ?_
  rw [rounds_succ]
  go_wp2_with fail
  go_end0
  exact ⟨rfl, rfl⟩

set_option maxRecDepth 100000 in
theorem ins_two (g off cap : Nat) (p q : Pc) (v1 v2 : Value) (W w : World) (L : List Atom) (hv1 : ∃ a n c, v1 = .slice a n c) (hv2 : ∃ a n c, v2 = .slice a n c) (h1 : 0 ≤ p.gen) (h2 : p.gen ≤ 1099511627776) (h3 : 0 ≤ q.gen) (h4 : q.gen ≤ 1099511627776) (hc : 2 ≤ cap)
    (hs : Sat W w ((g, rowP 45 off (cap * 4) (pcsC [(p, v1), (q, v2)])) :: L)) :
    Calls Try.prog 104 #[.slice (some ⟨g, off, none⟩) 2 cap, .int .i64 0, .int .i64 2, .func (.func 75) #[] #[]] w fun e w' => e = .returned (.tuple #[]) ∧ Sat W w' ((g, rowP 45 off (cap * 4) (pcsC (sort2 [(p, v1), (q, v2)]))) :: L) := by
  obtain ⟨s, gn, i, d⟩ := p
  obtain ⟨s2, gn2, i2, d2⟩ := q
  simp only at h1 h2 h3 h4
  have hcell : ∀ y, Sat W y ((g, rowP 45 off (cap * 4) (pcsC [(⟨s, gn, i, d⟩, v1), (⟨s2, gn2, i2, d2⟩, v2)])) :: L) → ∀ j u, (pcsC [(⟨s, gn, i, d⟩, v1), (⟨s2, gn2, i2, d2⟩, v2)])[j]? = some u → y.cell? ⟨g, off + j, none⟩ = some u ∧ y.frozen? ⟨g, off + j, none⟩ = false := fun y hy j u hu => row_cell (G := L) hy j u hu
  obtain ⟨a1, n1, k1', rfl⟩ := hv1
  obtain ⟨a2, n2, k2', rfl⟩ := hv2
  have c0 := (hcell w hs 0 _ rfl).1
  have c1 := (hcell w hs 1 _ rfl).1
  have c2 := (hcell w hs 2 _ rfl).1
  have c3 := (hcell w hs 3 _ rfl).1
  have c4 := (hcell w hs 4 _ rfl).1
  have c5 := (hcell w hs 5 _ rfl).1
  have c6 := (hcell w hs 6 _ rfl).1
  have c7 := (hcell w hs 7 _ rfl).1
  rw [Nat.add_zero] at c0
  go_enter Try.func104, Try.ntmps104
  go_wp2_with fail
  refine wp_loop_rounds 2 ?_
  rw [rounds_succ]
  go_wp2_with fail
  refine wp_loop_rounds 2 ?_
  rw [rounds_succ]
  go_wp2_with fail
  refine wp_region_one [14] [] [] [] [0, 1, 2, 3, 4, 5, 6, 7, 8, 9, 10, 11, 12, 13, 14, 15, 16] (by kernel_rfl) (by kernel_rfl) ?_
  repeat (first | (refine can_pu1 rfl rfl rfl rfl rfl rfl (fun K hK => ?_); go_big_quiet_op; refine hK _ ?_; clear hK K) | (refine can_st1 rfl rfl rfl rfl rfl rfl (fun K hK => ?_); go_big_quiet_op; refine hK _ ?_; clear hK K) | (refine can_early1 rfl rfl rfl rfl rfl (fun K hK => ?_); go_big_quiet_op; refine hK _ ?_; clear hK K) | (refine can_skip rfl rfl rfl ?_; simp only [Act.put, List.setIfInBounds_toArray, List.set_cons_zero, List.set_cons_succ]))
  refine can_act1 rfl rfl rfl (fun K hK => ?_)
  go_wp2_with fail
  refine (cmp_any s2 gn2 i2 s gn i _ _ ⟨_, _, _, rfl⟩ ⟨_, _, _, rfl⟩ _ h3 h4 h1 h2).mono ?_; rintro r w5 ⟨rfl, hx⟩
  apply hK
  clear hK
  have hs5 := hs.drew.below hx
  by_cases hlt : gn < gn2
  · have b1 : gn - gn2 < 0 := by omega
    have hso : sort2 [((⟨s, gn, i, d⟩ : Pc), Value.slice a1 n1 k1'), (⟨s2, gn2, i2, d2⟩, .slice a2 n2 k2')] = [(⟨s2, gn2, i2, d2⟩, .slice a2 n2 k2'), (⟨s, gn, i, d⟩, .slice a1 n1 k1')] := by
      simp only [sort2]
      rw [if_pos hlt]
    have HSO := Lib.hid hso
    clear hso hlt c0 c1 c2 c3 c4 c5 c6 c7 hx hs
    have c0 := (hcell _ hs5 0 _ rfl).1
    have c1 := (hcell _ hs5 1 _ rfl).1
    have c2 := (hcell _ hs5 2 _ rfl).1
    have c3 := (hcell _ hs5 3 _ rfl).1
    have c4 := (hcell _ hs5 4 _ rfl).1
    have c5 := (hcell _ hs5 5 _ rfl).1
    have c6 := (hcell _ hs5 6 _ rfl).1
    have c7 := (hcell _ hs5 7 _ rfl).1
    have f0 := (hcell _ hs5 0 _ rfl).2
    have f1 := (hcell _ hs5 1 _ rfl).2
    have f2 := (hcell _ hs5 2 _ rfl).2
    have f3 := (hcell _ hs5 3 _ rfl).2
    have f4 := (hcell _ hs5 4 _ rfl).2
    have f5 := (hcell _ hs5 5 _ rfl).2
    have f6 := (hcell _ hs5 6 _ rfl).2
    have f7 := (hcell _ hs5 7 _ rfl).2
    rw [Nat.add_zero] at c0 f0
    repeat (first | (refine can_pu1 rfl rfl rfl rfl rfl rfl (fun K hK => ?_); go_big_quiet_op; refine hK _ ?_; clear hK K) | (refine can_st1 rfl rfl rfl rfl rfl rfl (fun K hK => ?_); go_big_quiet_op; refine hK _ ?_; clear hK K) | (refine can_early1 rfl rfl rfl rfl rfl (fun K hK => ?_); go_big_quiet_op; refine hK _ ?_; clear hK K) | (refine can_skip rfl rfl rfl ?_; simp only [Act.put, List.setIfInBounds_toArray, List.set_cons_zero, List.set_cons_succ]))
    refine can_end1 ?_; (try simp only [Exit.then])
    go_wp2_with fail
    refine wp_region_one [15, 17] [2, 3, 4] [2, 3, 4] [] [0, 1, 2, 3, 4, 5, 6, 7, 8, 9, 10, 11, 12, 13, 14, 15, 16, 17] (by kernel_rfl) (by kernel_rfl) ?_
    repeat (first | (refine can_pu1 rfl rfl rfl rfl rfl rfl (fun K hK => ?_); go_big_quiet_op; refine hK _ ?_; clear hK K) | (refine can_st1 rfl rfl rfl rfl rfl rfl (fun K hK => ?_); go_big_quiet_op; refine hK _ ?_; clear hK K) | (refine can_early1 rfl rfl rfl rfl rfl (fun K hK => ?_); go_big_quiet_op; refine hK _ ?_; clear hK K) | (refine can_skip rfl rfl rfl ?_; simp only [Act.put, List.setIfInBounds_toArray, List.set_cons_zero, List.set_cons_succ]))
    have k1 := row_store hs5.drew 4 (by simp [pcsC, pcCells]) (.int .i64 s)
    have k2 := row_store k1 5 (by simp [pcsC, pcCells]) (.int .i64 gn)
    have k3 := row_store k2 6 (by simp [pcsC, pcCells]) (.int .i64 i)
    have k4 := row_store k3 7 (by simp [pcsC, pcCells]) (.slice a1 n1 k1')
    simp only [pcsC, pcCells, List.map_cons, List.map_nil, List.flatten_cons, List.flatten_nil, List.append_nil, List.cons_append, List.nil_append, List.set_cons_zero, List.set_cons_succ] at k4
    refine can_act1 rfl rfl rfl (fun K hK => ?_)
    go_wp2_with fail
    refine with_sat k4 ?_
    clear k4 k3 k2 k1 hs5 c0 c1 c2 c3 c4 c5 c6 c7 f0 f1 f2 f3 f4 f5 f6 f7
    intro w6 hs6
    obtain ⟨c0, f0⟩ := row_cell (G := L) hs6 0 _ rfl
    obtain ⟨c1, f1⟩ := row_cell (G := L) hs6 1 _ rfl
    obtain ⟨c2, f2⟩ := row_cell (G := L) hs6 2 _ rfl
    obtain ⟨c3, f3⟩ := row_cell (G := L) hs6 3 _ rfl
    rw [Nat.add_zero] at c0 f0
    repeat (first | (refine can_pu1 rfl rfl rfl rfl rfl rfl (fun K hK => ?_); go_big_quiet_op; refine hK _ ?_; clear hK K) | (refine can_st1 rfl rfl rfl rfl rfl rfl (fun K hK => ?_); go_big_quiet_op; refine hK _ ?_; clear hK K) | (refine can_early1 rfl rfl rfl rfl rfl (fun K hK => ?_); go_big_quiet_op; refine hK _ ?_; clear hK K) | (refine can_skip rfl rfl rfl ?_; simp only [Act.put, List.setIfInBounds_toArray, List.set_cons_zero, List.set_cons_succ]))
    have k1 := row_store hs6 0 (by simp) (.int .i64 s2)
    have k2 := row_store k1 1 (by simp) (.int .i64 gn2)
    have k3 := row_store k2 2 (by simp) (.int .i64 i2)
    have k4 := row_store k3 3 (by simp) (.slice a2 n2 k2')
    simp only [List.set_cons_zero, List.set_cons_succ, Nat.add_zero] at k4
    refine can_act1 rfl rfl rfl (fun K hK => ?_)
    go_wp2_with fail
    refine with_sat k4 ?_
    clear k4 k3 k2 k1 hs6 c0 c1 c2 c3 f0 f1 f2 f3
    intro w7 hs7
    refine can_end1 ?_; (try simp only [Exit.then])
    go_wp2_with fail
    rw [rounds_succ]
    go_wp2_with fail
    refine wp_region_one [14] [] [] [] [0, 1, 2, 3, 4, 5, 6, 7, 8, 9, 10, 11, 12, 13, 14, 15, 16] (by kernel_rfl) (by kernel_rfl) ?_
    repeat (first | (refine can_pu1 rfl rfl rfl rfl rfl rfl (fun K hK => ?_); go_big_quiet_op; refine hK _ ?_; clear hK K) | (refine can_st1 rfl rfl rfl rfl rfl rfl (fun K hK => ?_); go_big_quiet_op; refine hK _ ?_; clear hK K) | (refine can_early1 rfl rfl rfl rfl rfl (fun K hK => ?_); go_big_quiet_op; refine hK _ ?_; clear hK K) | (refine can_skip rfl rfl rfl ?_; simp only [Act.put, List.setIfInBounds_toArray, List.set_cons_zero, List.set_cons_succ]))
    refine can_act_skip rfl rfl rfl (fun wz hx => ⟨(fun h => absurd h (by decide)), ?_⟩); obtain rfl : wz = w7.drew := hx
    repeat (first | (refine can_pu1 rfl rfl rfl rfl rfl rfl (fun K hK => ?_); go_big_quiet_op; refine hK _ ?_; clear hK K) | (refine can_st1 rfl rfl rfl rfl rfl rfl (fun K hK => ?_); go_big_quiet_op; refine hK _ ?_; clear hK K) | (refine can_early1 rfl rfl rfl rfl rfl (fun K hK => ?_); go_big_quiet_op; refine hK _ ?_; clear hK K) | (refine can_skip rfl rfl rfl ?_; simp only [Act.put, List.setIfInBounds_toArray, List.set_cons_zero, List.set_cons_succ]))
    refine can_end1 ?_; (try simp only [Exit.then])
    go_wp2_with fail
    rw [rounds_succ]
    go_wp2_with fail
    go_end0
    rw [HSO.out]
    exact ⟨rfl, hs7.drew⟩
  · have b1 : ¬ gn - gn2 < 0 := by omega
    have hso : sort2 [((⟨s, gn, i, d⟩ : Pc), Value.slice a1 n1 k1'), (⟨s2, gn2, i2, d2⟩, .slice a2 n2 k2')] = [((⟨s, gn, i, d⟩ : Pc), Value.slice a1 n1 k1'), (⟨s2, gn2, i2, d2⟩, .slice a2 n2 k2')] := by
      simp only [sort2]
      rw [if_neg hlt]
    have HSO := Lib.hid hso
    clear hso hlt c0 c1 c2 c3 c4 c5 c6 c7 hx hs
    repeat (first | (refine can_pu1 rfl rfl rfl rfl rfl rfl (fun K hK => ?_); go_big_quiet_op; refine hK _ ?_; clear hK K) | (refine can_st1 rfl rfl rfl rfl rfl rfl (fun K hK => ?_); go_big_quiet_op; refine hK _ ?_; clear hK K) | (refine can_early1 rfl rfl rfl rfl rfl (fun K hK => ?_); go_big_quiet_op; refine hK _ ?_; clear hK K) | (refine can_skip rfl rfl rfl ?_; simp only [Act.put, List.setIfInBounds_toArray, List.set_cons_zero, List.set_cons_succ]))
    refine can_end1 ?_; (try simp only [Exit.then])
    go_wp2_with fail
    rw [rounds_succ]
    go_wp2_with fail
    go_end0
    rw [HSO.out]
    exact ⟨rfl, hs5⟩

set_option maxRecDepth 100000 in
theorem sort_by (a : Option Addr) (cap n : Nat) (hn : n ≤ 2) (S : World → Prop) (w : World) (h : Calls Try.prog 104 #[.slice a n cap, .int .i64 0, .int .i64 n, .func (.func 75) #[] #[]] w fun e w' => e = .returned (.tuple #[]) ∧ S w') :
    Calls Try.prog 74 #[.slice a n cap, .func (.func 75) #[] #[]] w fun e w' => e = .returned (.tuple #[]) ∧ S w' := by
  have hp : ∀ m : Int, Calls Try.prog 93 #[.slice a n cap, .int .i64 0, .int .i64 n, .int .i64 m, .func (.func 75) #[] #[]] w fun e w' => e = .returned (.tuple #[]) ∧ S w' := fun m => by
    have h1 : (0 : Int) ≤ n := by omega
    have h2 : (n : Int) ≤ 2 := by omega
    have h3 : (n : Int) ≤ 12 := by omega
    go_enter Try.func93, Try.ntmps93
    go_wp2_with fail
    refine wp_loop_rounds 1 ?_
    rw [rounds_succ]
    go_wp2_with fail
    refine h.mono ?_; rintro r w2 ⟨rfl, hS⟩
    go_wp2_with fail
    refine bodyPost_ret (results_none rfl _ _ _) rfl ?_
    exact ⟨rfl, hS⟩
  have HP := Lib.hid hp
  have HL := Lib.hid (len_small n hn w)
  have h1 : (0 : Int) ≤ n := by omega
  have h2 : (n : Int) ≤ 2 := by omega
  clear h hp
  go_enter Try.func74, Try.ntmps74
  go_wp2_with fail
  refine HL.out.mono ?_; rintro r w2 ⟨m, rfl, rfl⟩
  go_wp2_with fail
  refine (HP.out m).mono ?_; rintro r w2 ⟨rfl, hS⟩
  go_wp2_with fail
  go_end0
  exact ⟨rfl, hS⟩

theorem sort_any (xs : List (Pc × Value)) (v : Value) (R : List Atom) (W w : World) (L : List Atom) (hn : xs.length ≤ 2) (hr : RowA 45 4 v xs.length (pcsC xs) R) (hs : Sat W w (R ++ L)) (hg : ∀ x ∈ xs, (0 ≤ x.1.gen ∧ x.1.gen ≤ 1099511627776) ∧ ∃ a n c, x.2 = .slice a n c) :
    Calls Try.prog 74 #[v, .func (.func 75) #[] #[]] w fun e w' => e = .returned (.tuple #[]) ∧ ∃ R', RowA 45 4 v (sort2 xs).length (pcsC (sort2 xs)) R' ∧ Sat W w' (R' ++ L) := by
  obtain ⟨a, c, rfl⟩ := Ch.RowA.slice hr
  refine sort_by a c xs.length hn _ w ?_
  rcases xs with _ | ⟨x, _ | ⟨y, _ | ⟨z, xs⟩⟩⟩
  · refine (ins_small _ 0 (by omega) (.int .i64 0) w).mono ?_
    rintro r w2 ⟨rfl, rfl⟩
    exact ⟨rfl, R, hr, hs⟩
  · refine (ins_small _ 1 (by omega) (.int .i64 0) w).mono ?_
    rintro r w2 ⟨rfl, rfl⟩
    exact ⟨rfl, R, hr, hs⟩
  · obtain ⟨⟨x1, x2⟩, x3⟩ := hg x (by simp)
    obtain ⟨⟨y1, y2⟩, y3⟩ := hg y (by simp)
    obtain ⟨g, off, cap, he, h1, h2, rfl⟩ := Ch.RowA.some_of hr (by simp)
    obtain ⟨rfl, rfl⟩ : a = some ⟨g, off, none⟩ ∧ c = cap := by
      cases he
      exact ⟨rfl, rfl⟩
    refine (ins_two g off c x.1 y.1 x.2 y.2 W w L x3 y3 x1 x2 y1 y2 h1 hs).mono ?_
    rintro r w2 ⟨rfl, hs2⟩
    have hlen : (sort2 [x, y]).length = 2 := by
      simp only [sort2]
      split <;> rfl
    refine ⟨rfl, [(g, rowP 45 off (c * 4) (pcsC (sort2 [(x.1, x.2), (y.1, y.2)])))], ?_, hs2⟩
    refine ⟨by rw [pcsC_length], .inr ⟨g, off, c, ?_, ?_, h2, rfl⟩⟩
    · rw [hlen]; rfl
    · rw [hlen]; exact h1
  · simp only [List.length_cons] at hn
    omega
end Go.Proofs.Ytdkhgkkdnjejmaa.Ch
