/-
  PickKnown: the walk.
-/
import Derived.Test.YtelcaeapflhadaaPkL
namespace Go.Proofs.Ytelcaeapflhadaa.Pk
set_option linter.unusedSimpArgs false
open Go Go.RowKit Go.Sl Go.BigFrame
set_option linter.unusedVariables false


theorem kS_eq : putS (putS (putS (putS (putS (putS (putS (putS (putS (putS [] 0 50) 1 49) 2 46) 3 48) 4 48) 5 46) 6 49) 7 50) 8 49) 9 46 = [(2, 46), (5, 46), (9, 46), (3, 48), (4, 48), (1, 49), (6, 49), (8, 49), (0, 50), (7, 50)] := by decide
theorem kS_drop : dropS [(2, 46), (5, 46), (9, 46), (3, 48), (4, 48), (1, 49), (6, 49), (8, 49), (0, 50), (7, 50)] 4 = [(2, 46), (5, 46), (9, 46), (3, 48), (1, 49), (6, 49), (8, 49), (0, 50), (7, 50)] := by decide
theorem kS_put : putS (putS [(2, 46), (5, 46), (9, 46), (3, 48), (1, 49), (6, 49), (8, 49), (0, 50), (7, 50)] (-9223372036854775808) 9223372036854775807) 9223372036854775807 (-9223372036854775808) = [(9223372036854775807, -9223372036854775808), (2, 46), (5, 46), (9, 46), (3, 48), (1, 49), (6, 49), (8, 49), (0, 50), (7, 50), (-9223372036854775808, 9223372036854775807)] := by decide

set_option maxRecDepth 100000 in
set_option maxHeartbeats 4000000 in
theorem pickKnown_walk (W : World) : Calls Try.prog 9 #[] W fun e w' => e = .returned (.bool true) ∧ Below W.heap.size W w' := by
  go_enter Try.func9, Try.ntmps9
  go_wp2_with fail
  refine (heap_new W _ (allOf W) (allOf_sat W)).mono ?_; rintro e w1 ⟨h, A1, rfl, hA1, hs1⟩
  go_wp2_with fail
  refine (known_true W _ _ hs1).mono ?_; rintro e w2 ⟨rfl, hs2⟩
  clear hs1
  go_wp2_with fail
  refine (heap_peek_none h A1 _ W _ hA1 hs2).mono ?_; rintro e w3 ⟨rfl, hx⟩
  have hs3 := hs2.below hx
  clear hs2 hx
  go_wp2_with fail
  have hs : Sat W _ (A1 ++ allOf W) := hs3.alloc (.cells #[.int .i64 0, .int .i64 0] 28)
  have hA := hA1
  clear hs3 hA1
  refine with_sat hs ?_
  clear hs
  intro wq hs
  refine wp_loop_rounds 11 ?_
  rw [rounds_succ]
  go_wp2_with fail
  refine (heap_put h _ 0 50 _ _ W _ hA hs (by decide) false (by decide)).mono ?_; rintro e w3 ⟨rfl, A3, hA3, hs3⟩
  clear hA hs
  have hA := hA3
  have hs := hs3
  clear hA3 hs3
  go_wp2_with fail
  rw [rounds_succ]
  go_wp2_with fail
  refine (heap_put h _ 1 49 _ _ W _ hA hs (by decide) false (by decide)).mono ?_; rintro e w3 ⟨rfl, A3, hA3, hs3⟩
  clear hA hs
  have hA := hA3
  have hs := hs3
  clear hA3 hs3
  go_wp2_with fail
  rw [rounds_succ]
  go_wp2_with fail
  refine (heap_put h _ 2 46 _ _ W _ hA hs (by decide) false (by decide)).mono ?_; rintro e w3 ⟨rfl, A3, hA3, hs3⟩
  clear hA hs
  have hA := hA3
  have hs := hs3
  clear hA3 hs3
  go_wp2_with fail
  rw [rounds_succ]
  go_wp2_with fail
  refine (heap_put h _ 3 48 _ _ W _ hA hs (by decide) false (by decide)).mono ?_; rintro e w3 ⟨rfl, A3, hA3, hs3⟩
  clear hA hs
  have hA := hA3
  have hs := hs3
  clear hA3 hs3
  go_wp2_with fail
  rw [rounds_succ]
  go_wp2_with fail
  refine (heap_put h _ 4 48 _ _ W _ hA hs (by decide) false (by decide)).mono ?_; rintro e w3 ⟨rfl, A3, hA3, hs3⟩
  clear hA hs
  have hA := hA3
  have hs := hs3
  clear hA3 hs3
  go_wp2_with fail
  rw [rounds_succ]
  go_wp2_with fail
  refine (heap_put h _ 5 46 _ _ W _ hA hs (by decide) false (by decide)).mono ?_; rintro e w3 ⟨rfl, A3, hA3, hs3⟩
  clear hA hs
  have hA := hA3
  have hs := hs3
  clear hA3 hs3
  go_wp2_with fail
  rw [rounds_succ]
  go_wp2_with fail
  refine (heap_put h _ 6 49 _ _ W _ hA hs (by decide) false (by decide)).mono ?_; rintro e w3 ⟨rfl, A3, hA3, hs3⟩
  clear hA hs
  have hA := hA3
  have hs := hs3
  clear hA3 hs3
  go_wp2_with fail
  rw [rounds_succ]
  go_wp2_with fail
  refine (heap_put h _ 7 50 _ _ W _ hA hs (by decide) false (by decide)).mono ?_; rintro e w3 ⟨rfl, A3, hA3, hs3⟩
  clear hA hs
  have hA := hA3
  have hs := hs3
  clear hA3 hs3
  go_wp2_with fail
  rw [rounds_succ]
  go_wp2_with fail
  refine (heap_put h _ 8 49 _ _ W _ hA hs (by decide) false (by decide)).mono ?_; rintro e w3 ⟨rfl, A3, hA3, hs3⟩
  clear hA hs
  have hA := hA3
  have hs := hs3
  clear hA3 hs3
  go_wp2_with fail
  rw [rounds_succ]
  go_wp2_with fail
  refine (heap_put h _ 9 46 _ _ W _ hA hs (by decide) false (by decide)).mono ?_; rintro e w3 ⟨rfl, A3, hA3, hs3⟩
  clear hA hs
  have hA := hA3
  have hs := hs3
  clear hA3 hs3
  go_wp2_with fail
  rw [rounds_succ]
  go_wp2_with fail
  rw [kS_eq] at hA
  refine (heap_key_some h _ 4 48 _ _ W _ hA hs (by decide)).mono ?_; rintro e w4 ⟨rfl, rfl⟩
  go_wp2_with fail
  refine (heap_drop_some h _ 4 _ _ W _ hA hs (by decide) (by decide)).mono ?_; rintro e w5 ⟨rfl, A4, hA4, hs4⟩
  rw [kS_drop] at hA4
  clear hA hs
  go_wp2_with fail
  refine (heap_drop_none h _ 4 _ _ W _ hA4 hs4 (by decide)).mono ?_; rintro e w6 ⟨rfl, rfl⟩
  go_wp2_with fail
  refine (heap_key_none h _ 4 _ _ W _ hA4 hs4 (by decide)).mono ?_; rintro e w6 ⟨rfl, rfl⟩
  go_wp2_with fail
  refine (heap_peek_some h (2, 46) _ A4 _ W _ hA4 hs4).mono ?_; rintro e w8 ⟨rfl, hx⟩
  have hs5 := hs4.below hx
  clear hs4 hx
  go_wp2_with fail
  have hs6 : Sat W _ (A4 ++ (cellsA w8.heap.size #[.int .i64 2, .int .i64 46] 28 :: allOf W)) := (hs5.newCells #[.int .i64 2, .int .i64 46] 28).use (by intro x; simp only [cnt_append, cnt_cons, cnt_nil]; omega)
  clear hs5
  refine (heap_all h _ A4 _ W _ hA4 hs6 (by decide)).mono ?_; rintro e w9 ⟨v, R, rfl, hr, hs7⟩
  generalize w8.heap.size = z1 at *
  clear hs6
  rcases hr.2 with ⟨_, hn, _⟩ | ⟨g, off, cap, rfl, _, _, rfl⟩
  · cases hn
  have hs8 : Sat W w9 (A4 ++ ((g, rowP 28 off (cap * 2) (flat [(2, 46), (5, 46), (9, 46), (3, 48), (1, 49), (6, 49), (8, 49), (0, 50), (7, 50)])) :: cellsA z1 #[.int .i64 2, .int .i64 46] 28 :: allOf W)) := hs7.use (by intro x; simp only [cnt_append, cnt_cons, cnt_nil]; omega)
  clear hs7 hr
  go_wp2_with fail
  refine (heap_put h _ (-9223372036854775808) 9223372036854775807 _ _ W _ hA4 hs8 (by decide) false (by decide)).mono ?_; rintro e w10 ⟨rfl, A5, hA5, hs9⟩
  clear hA4 hs8
  go_wp2_with fail
  refine (heap_put h _ 9223372036854775807 (-9223372036854775808) _ _ W _ hA5 hs9 (by decide) false (by decide)).mono ?_; rintro e w11 ⟨rfl, A6, hA6, hs10⟩
  rw [kS_put] at hA6
  clear hA5 hs9
  go_wp2_with fail
  refine (heap_peek_some h (9223372036854775807, -9223372036854775808) _ A6 _ W _ hA6 hs10).mono ?_; rintro e w12 ⟨rfl, hx⟩
  have hs11 := hs10.below hx
  clear hs10 hx
  go_wp2_with fail
  refine with_sat (hs11.newCells #[.int .i64 9223372036854775807, .int .i64 (-9223372036854775808)] 28) ?_
  generalize w12.heap.size = z2
  clear hs11
  intro w hs
  have hs1 : Sat W w (A6 ++ ((g, rowP 28 off (cap * 2) (flat [(2, 46), (5, 46), (9, 46), (3, 48), (1, 49), (6, 49), (8, 49), (0, 50), (7, 50)])) :: cellsA z1 #[.int .i64 2, .int .i64 46] 28 :: cellsA z2 #[.int .i64 9223372036854775807, .int .i64 (-9223372036854775808)] 28 :: allOf W)) := hs.use (by intro x; simp only [cnt_append, cnt_cons, cnt_nil]; omega)
  have hs2 := hs1.right
  have c0 : w.cell? ⟨z1, 0, none⟩ = some (.int .i64 2) := hs2.cell m1 0
  have c1 : w.cell? ⟨z1, 1, none⟩ = some (.int .i64 46) := hs2.cell m1 1
  have c2 : w.cell? ⟨z2, 0, none⟩ = some (.int .i64 9223372036854775807) := hs2.cell m2 0
  have c3 : w.cell? ⟨g, off, none⟩ = some (.int .i64 2) := by
    obtain ⟨o, ho, hp⟩ := hs2.head
    exact (hp.cell ho 0 (by decide)).1
  have c4 : w.cell? ⟨g, off + 1, none⟩ = some (.int .i64 46) := by
    obtain ⟨o, ho, hp⟩ := hs2.head
    exact (hp.cell ho 1 (by decide)).1
  have hB : Below W.heap.size W w := Sat.below_all (L := []) (hs.use (M := [] ++ allOf W) (by intro x; simp only [cnt_append, cnt_cons, cnt_nil]; omega))
  clear hs hs2
  refine wp_region_one [] [] [] [] (0 :: 1 :: 2 :: 3 :: 4 :: 5 :: 6 :: 7 :: 8 :: 9 :: 10 :: 11 :: 12 :: 13 :: 14 :: 15 :: 16 :: 17 :: 18 :: 19 :: 20 :: 21 :: 22 :: 23 :: 24 :: 25 :: 26 :: 27 :: 28 :: 29 :: 30 :: 31 :: 32 :: 33 :: 34 :: 35 :: 36 :: 37 :: 38 :: 39 :: 40 :: 41 :: 42 :: 43 :: 44 :: 45 :: 46 :: 47 :: []) (by kernel_rfl) (by kernel_rfl) ?_
  repeat (first | (refine can_pu1 rfl rfl rfl rfl rfl rfl (fun K hK => ?_); go_big_quiet_op; refine hK _ ?_; clear hK K) | (refine can_st1 rfl rfl rfl rfl rfl rfl (fun K hK => ?_); go_big_quiet_op; refine hK _ ?_; clear hK K) | (refine can_early1 rfl rfl rfl rfl rfl (fun K hK => ?_); go_big_quiet_op; refine hK _ ?_; clear hK K) | (refine can_skip rfl rfl rfl ?_; simp only [Act.put, List.setIfInBounds_toArray, List.set_cons_zero, List.set_cons_succ]))
  refine can_call1 rfl rfl rfl rfl (by (intro w; go_simp); (try (repeat' apply And.intro)); all_goals rfl) ((heap_len h _ A6 _ W _ hA6 hs1.drew).mono fun e w' h => ⟨h.1, h.2.symm⟩) ?_; simp only [Act.put, List.setIfInBounds_toArray, List.set_cons_zero, List.set_cons_succ]
  repeat (first | (refine can_pu1 rfl rfl rfl rfl rfl rfl (fun K hK => ?_); go_big_quiet_op; refine hK _ ?_; clear hK K) | (refine can_st1 rfl rfl rfl rfl rfl rfl (fun K hK => ?_); go_big_quiet_op; refine hK _ ?_; clear hK K) | (refine can_early1 rfl rfl rfl rfl rfl (fun K hK => ?_); go_big_quiet_op; refine hK _ ?_; clear hK K) | (refine can_skip rfl rfl rfl ?_; simp only [Act.put, List.setIfInBounds_toArray, List.set_cons_zero, List.set_cons_succ]))
  refine can_end1 ?_; (try simp only [Exit.then])
  go_wp2_with fail
  go_ret
  exact ⟨rfl, hB.drew⟩
end Go.Proofs.Ytelcaeapflhadaa.Pk
