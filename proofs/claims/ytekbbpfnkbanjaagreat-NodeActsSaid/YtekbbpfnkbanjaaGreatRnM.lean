
/-
  corbelhand.Req: some request, with its bytes.
-/
import Derived.Test.YtekbbpfnkbanjaaGreatRnL
namespace Go.Proofs.YtekbbpfnkbanjaaGreat.Ch
open Go Go.RowKit Go.Sl Go.BigFrame
set_option linter.unusedVariables false
set_option linter.unusedSimpArgs false

set_option maxRecDepth 100000 in
set_option maxHeartbeats 8000000 in
theorem hand_req (a0 a1 a2 a3 a4 a5 : Int) (W w : World) (L : List Atom) (hs : Sat W w L) :
    Calls Tryz.prog 12 #[.agg #[.int .i64 a0, .int .i64 a1, .int .i64 a2, .int .i64 a3, .int .i64 a4, .int .i64 a5]] w fun e w' => ∃ (q : Rq) (v : Value) (R : List Atom), e = .returned (rqV q v) ∧ RowA 5 1 v q.data.length (bts q.data) R ∧ Sat W w' (R ++ L) := by
  have hsq := hs.newCells #[.int .i64 a0, .int .i64 a1, .int .i64 a2, .int .i64 a3, .int .i64 a4, .int .i64 a5] 29
  have hsr := hsq.newCells #[.int .i64 0, .int .i64 0, .int .i64 0, .int .i64 0, .slice none 0 0] 37
  have hsz : (w.alloc (.cells #[.int .i64 a0, .int .i64 a1, .int .i64 a2, .int .i64 a3, .int .i64 a4, .int .i64 a5] 29)).heap.size = w.heap.size + 1 := by simp
  rw [hsz] at hsr
  clear hsz hsq hs
  go_enter Tryz.func12, Tryz.ntmps12
  go_upto_region 1 with fail
  refine with_sat hsr ?_
  clear hsr
  intro w1 hs1
  generalize w.heap.size = z at *
  obtain ⟨LL, hLL⟩ : ∃ LL, LL = cellsA (z + 1) #[.int .i64 0, .int .i64 0, .int .i64 0, .int .i64 0, .slice none 0 0] 37 :: (cellsA z #[.int .i64 a0, .int .i64 a1, .int .i64 a2, .int .i64 a3, .int .i64 a4, .int .i64 a5] 29 :: L) := ⟨_, rfl⟩
  rw [← hLL] at hs1
  have HLL := Lib.hid hLL
  have hmz : cellsA z #[.int .i64 a0, .int .i64 a1, .int .i64 a2, .int .i64 a3, .int .i64 a4, .int .i64 a5] 29 ∈ LL := by rw [hLL]; exact m1
  have c0 : ∀ y : Of W LL, y.v.cell? ⟨z, 0, none⟩ = some (.int .i64 a0) := fun y => y.s.cell hmz 0
  have c1 : ∀ y : Of W LL, y.v.cell? ⟨z, 1, none⟩ = some (.int .i64 a1) := fun y => y.s.cell hmz 1
  have c2 : ∀ y : Of W LL, y.v.cell? ⟨z, 2, none⟩ = some (.int .i64 a2) := fun y => y.s.cell hmz 2
  have c3 : ∀ y : Of W LL, y.v.cell? ⟨z, 3, none⟩ = some (.int .i64 a3) := fun y => y.s.cell hmz 3
  obtain ⟨b00, b01⟩ := handPick_bounds a0 6 (by omega)
  obtain ⟨b20, b21⟩ := handPick_bounds a2 6 (by omega)
  have hsT : Sat W w1.drew LL := hs1.drew
  have hne : Nonempty (Of W LL) := ⟨⟨_, hs1⟩⟩
  clear hLL hmz
  go_wp2_with fail
  refine wp_region_held1 [15, 16] [0, 1, 2, 3, 4, 5, 6, 7, 8, 9, 10, 11, 12, 13, 14] [0, 3, 4, 7, 10, 11, 14] [15] [0, 1, 2, 3, 4, 5, 6, 7, 8, 9, 10, 11, 12, 13, 14, 15, 16] (Held W LL) (by kernel_rfl) (by kernel_rfl) ?_ ?_
  · exact Held.mk hsT
  repeat (first | (refine can_pu1 rfl rfl rfl rfl rfl rfl (fun K hK => ?_); go_big_quiet_op; refine hK _ ?_; clear hK K) | (refine can_st1 rfl rfl rfl rfl rfl rfl (fun K hK => ?_); go_big_quiet_op; refine hK _ ?_; clear hK K) | (refine can_early1 rfl rfl rfl rfl rfl (fun K hK => ?_); go_big_quiet_op; refine hK _ ?_; clear hK K) | (refine can_skip rfl rfl rfl ?_; simp only [Act.put, List.setIfInBounds_toArray, List.set_cons_zero, List.set_cons_succ]))
  refine can_callS (.int .i64 (handPick a0 6)) rfl rfl rfl rfl rfl (by intro w; go_simp; (try (repeat' apply And.intro)); all_goals rfl) (fun y _ => (hand_pick a0 6 y (by omega) (by omega)).mono fun e w' h => ⟨h.1, h.2.symm⟩) ?_
  simp only [Act.put, List.setIfInBounds_toArray, List.set_cons_zero, List.set_cons_succ]
  repeat (first | (refine can_pu1 rfl rfl rfl rfl rfl rfl (fun K hK => ?_); go_big_quiet_op; refine hK _ ?_; clear hK K) | (refine can_st1 rfl rfl rfl rfl rfl rfl (fun K hK => ?_); go_big_quiet_op; refine hK _ ?_; clear hK K) | (refine can_early1 rfl rfl rfl rfl rfl (fun K hK => ?_); go_big_quiet_op; refine hK _ ?_; clear hK K) | (refine can_skip rfl rfl rfl ?_; simp only [Act.put, List.setIfInBounds_toArray, List.set_cons_zero, List.set_cons_succ]))
  refine can_callS (.int .i64 (handPick a1 5)) rfl rfl rfl rfl rfl (by intro w; go_simp; (try (repeat' apply And.intro)); all_goals rfl) (fun y _ => (hand_pick a1 5 y (by omega) (by omega)).mono fun e w' h => ⟨h.1, h.2.symm⟩) ?_
  simp only [Act.put, List.setIfInBounds_toArray, List.set_cons_zero, List.set_cons_succ]
  repeat (first | (refine can_pu1 rfl rfl rfl rfl rfl rfl (fun K hK => ?_); go_big_quiet_op; refine hK _ ?_; clear hK K) | (refine can_st1 rfl rfl rfl rfl rfl rfl (fun K hK => ?_); go_big_quiet_op; refine hK _ ?_; clear hK K) | (refine can_early1 rfl rfl rfl rfl rfl (fun K hK => ?_); go_big_quiet_op; refine hK _ ?_; clear hK K) | (refine can_skip rfl rfl rfl ?_; simp only [Act.put, List.setIfInBounds_toArray, List.set_cons_zero, List.set_cons_succ]))
  refine can_callS (.int .i64 (handPick a2 6)) rfl rfl rfl rfl rfl (by intro w; go_simp; (try (repeat' apply And.intro)); all_goals rfl) (fun y _ => (hand_pick a2 6 y (by omega) (by omega)).mono fun e w' h => ⟨h.1, h.2.symm⟩) ?_
  simp only [Act.put, List.setIfInBounds_toArray, List.set_cons_zero, List.set_cons_succ]
  repeat (first | (refine can_pu1 rfl rfl rfl rfl rfl rfl (fun K hK => ?_); go_big_quiet_op; refine hK _ ?_; clear hK K) | (refine can_st1 rfl rfl rfl rfl rfl rfl (fun K hK => ?_); go_big_quiet_op; refine hK _ ?_; clear hK K) | (refine can_early1 rfl rfl rfl rfl rfl (fun K hK => ?_); go_big_quiet_op; refine hK _ ?_; clear hK K) | (refine can_skip rfl rfl rfl ?_; simp only [Act.put, List.setIfInBounds_toArray, List.set_cons_zero, List.set_cons_succ]))
  refine can_callS (.int .i64 (handPick a3 6)) rfl rfl rfl rfl rfl (by intro w; go_simp; (try (repeat' apply And.intro)); all_goals rfl) (fun y _ => (hand_pick a3 6 y (by omega) (by omega)).mono fun e w' h => ⟨h.1, h.2.symm⟩) ?_
  simp only [Act.put, List.setIfInBounds_toArray, List.set_cons_zero, List.set_cons_succ]
  repeat (first | (refine can_pu1 rfl rfl rfl rfl rfl rfl (fun K hK => ?_); go_big_quiet_op; refine hK _ ?_; clear hK K) | (refine can_st1 rfl rfl rfl rfl rfl rfl (fun K hK => ?_); go_big_quiet_op; refine hK _ ?_; clear hK K) | (refine can_early1 rfl rfl rfl rfl rfl (fun K hK => ?_); go_big_quiet_op; refine hK _ ?_; clear hK K) | (refine can_skip rfl rfl rfl ?_; simp only [Act.put, List.setIfInBounds_toArray, List.set_cons_zero, List.set_cons_succ]))
  clear c0 c1 c2 c3 hne hs1
  generalize handPick a0 6 = p0 at *
  generalize handPick a1 5 = p1 at *
  generalize handPick a2 6 = p2 at *
  generalize handPick a3 6 = p3 at *
  refine with_sat hsT ?_
  clear hsT
  intro w2 hs2
  refine can_actS rfl rfl rfl rfl (fun K hK => ?_)
  go_wp2_with fail
  refine ⟨Held.mk (hs2.alloc _), ?_⟩
  have hs3 := hs2.newCells #[.int .i64 0, .int .i64 0, .int .i64 0, .int .i64 0, .slice none 0 0] 37
  generalize w2.heap.size = z3 at *
  refine with_sat hs3 ?_
  clear hs3 hs2
  intro w3 hs3
  have t0 := hs3.cell m0 0
  have t1 := hs3.cell m0 1
  have t2 := hs3.cell m0 2
  have t3 := hs3.cell m0 3
  have t4 := hs3.cell m0 4
  have f0 := hs3.free m0 0
  have f1 := hs3.free m0 1
  have f2 := hs3.free m0 2
  have f3 := hs3.free m0 3
  have f4 := hs3.free m0 4
  have hs4 := Sat.setCell (Sat.setCell (Sat.setCell (Sat.setCell (Sat.setCell hs3 0 (.int .i64 (1 + p0))) 1 (.int .i64 p1)) 2 (.int .i64 (1 + p2))) 3 (.int .i64 p3)) 4 (.slice none 0 0)
  simp only [List.setIfInBounds_toArray, List.set_cons_zero, List.set_cons_succ] at hs4
  clear hs3
  repeat (first | (refine can_pu1 rfl rfl rfl rfl rfl rfl (fun K hK => ?_); go_big_quiet_op; refine hK _ ?_; clear hK K) | (refine can_st1 rfl rfl rfl rfl rfl rfl (fun K hK => ?_); go_big_quiet_op; refine hK _ ?_; clear hK K) | (refine can_early1 rfl rfl rfl rfl rfl (fun K hK => ?_); go_big_quiet_op; refine hK _ ?_; clear hK K) | (refine can_skip rfl rfl rfl ?_; simp only [Act.put, List.setIfInBounds_toArray, List.set_cons_zero, List.set_cons_succ]))
  refine can_actF rfl rfl rfl rfl (fun K hK => ?_)
  go_wp2_with fail
  refine can_end1 ?_; (try simp only [Exit.then])
  refine with_sat hs4 ?_
  clear hs4 t0 t1 t2 t3 t4 f0 f1 f2 f3 f4
  intro w4 hs4
  rw [HLL.out] at hs4
  by_cases e2 : p0 = 1
  · subst e2
    have t0 := hs4.cell m0 0
    have t1 := hs4.cell m0 1
    have t2 := hs4.cell m0 2
    have t3 := hs4.cell m0 3
    have t4 := hs4.cell m0 4
    have f0 := hs4.free m0 0
    have f1 := hs4.free m0 1
    have f2 := hs4.free m0 2
    have f3 := hs4.free m0 3
    have f4 := hs4.free m0 4
    have o0 := hs4.cell m2 0
    have o1 := hs4.cell m2 1
    have o2 := hs4.cell m2 2
    have o3 := hs4.cell m2 3
    have o4 := hs4.cell m2 4
    have o5 := hs4.cell m2 5
    have HBY := Lib.hid (bytes_of a4 32 W _ _ (by omega) hs4)
    have HBL := Lib.hid (bytesOf_length a4 32)
    generalize bytesOf a4 32 = bl at *
    clear hs4
    go_wp2_with fail
    refine HBY.out.mono ?_; rintro r9 w9 ⟨v9, R9, rfl, hr9, hs9⟩
    have hsA := Sat.use (M := cellsA z3 #[.int .i64 (1 + 1), .int .i64 (p1), .int .i64 (1 + p2), .int .i64 (p3), .slice none 0 0] 37 :: (cellsA (z + 1) #[.int .i64 0, .int .i64 0, .int .i64 0, .int .i64 0, .slice none 0 0] 37 :: (cellsA z #[.int .i64 a0, .int .i64 a1, .int .i64 a2, .int .i64 a3, .int .i64 a4, .int .i64 a5] 29 :: (R9 ++ L)))) hs9 (by intro x; simp only [cnt_append, cnt_cons, cnt_nil]; omega)
    clear hs9 HBY
    clear t0 t1 t2 t3 t4 f0 f1 f2 f3 f4 o0 o1 o2 o3 o4 o5
    have t4 := hsA.cell m0 4
    have f4 := hsA.free m0 4
    have hs5 := Sat.setCell hsA 4 v9
    simp only [List.setIfInBounds_toArray, List.set_cons_zero, List.set_cons_succ] at hs5
    obtain ⟨a9, c9, rfl⟩ := Ch.RowA.slice hr9
    clear hsA
    go_upto_region 8 with fail
    refine with_sat hs5 ?_
    clear hs5 t4 f4
    intro w5 hs5
    have t0 := hs5.cell m0 0
    have t1 := hs5.cell m0 1
    have t2 := hs5.cell m0 2
    have t3 := hs5.cell m0 3
    have t4 := hs5.cell m0 4
    have f0 := hs5.free m0 0
    have f1 := hs5.free m0 1
    have f2 := hs5.free m0 2
    have f3 := hs5.free m0 3
    have f4 := hs5.free m0 4
    have o0 := hs5.cell m2 0
    have o1 := hs5.cell m2 1
    have o2 := hs5.cell m2 2
    have o3 := hs5.cell m2 3
    have o4 := hs5.cell m2 4
    have o5 := hs5.cell m2 5
    obtain ⟨x0, x1⟩ := handPick_bounds a5 30 (by omega)
    have HPK := Lib.hid (fun w => hand_pick a5 30 w (by omega) (by omega))
    generalize handPick a5 30 = bp at *
    go_wp2_with fail
    refine (HPK.out _).mono ?_; rintro r9 w9 ⟨rfl, rfl⟩
    clear HPK
    by_cases e24 : bp = 24
    · subst e24
      have HP9 := Lib.hid (fun w => hand_pick (wrap64 (a5.tdiv 30)) 9 w (by omega) (by omega))
      obtain ⟨y0, y1⟩ := handPick_bounds (wrap64 (a5.tdiv 30)) 9 (by omega)
      generalize handPick (wrap64 (a5.tdiv 30)) 9 = p9 at *
      go_wp2_with fail
      refine (HP9.out _).mono ?_; rintro r9 w9 ⟨rfl, rfl⟩
      clear HP9
      have hs6 := Sat.setCell hs5 0 (.int .i64 (p9 - 1))
      simp only [List.setIfInBounds_toArray, List.set_cons_zero, List.set_cons_succ] at hs6
      go_upto_region 21 with fail
      refine with_sat hs6 ?_
      clear hs6
      intro w6 hs6
      clear t0 t1 t2 t3 t4 f0 f1 f2 f3 f4 o0 o1 o2 o3 o4 o5
      have t0 := hs6.cell m0 0
      have t1 := hs6.cell m0 1
      have t2 := hs6.cell m0 2
      have t3 := hs6.cell m0 3
      have t4 := hs6.cell m0 4
      have f0 := hs6.free m0 0
      have f1 := hs6.free m0 1
      have f2 := hs6.free m0 2
      have f3 := hs6.free m0 3
      have f4 := hs6.free m0 4
      have o0 := hs6.cell m2 0
      have o1 := hs6.cell m2 1
      have o2 := hs6.cell m2 2
      have o3 := hs6.cell m2 3
      have o4 := hs6.cell m2 4
      have o5 := hs6.cell m2 5
      have u0 := hs6.cell m1 0
      have u1 := hs6.cell m1 1
      have u2 := hs6.cell m1 2
      have u3 := hs6.cell m1 3
      have u4 := hs6.cell m1 4
      have v0 := hs6.free m1 0
      have v1 := hs6.free m1 1
      have v2 := hs6.free m1 2
      have v3 := hs6.free m1 3
      have v4 := hs6.free m1 4
      have hy := Sat.setCell (Sat.setCell (Sat.setCell (Sat.setCell (Sat.setCell (Sat.swap hs6) 0 (.int .i64 (p9 - 1))) 1 (.int .i64 (p1))) 2 (.int .i64 (1 + p2))) 3 (.int .i64 (p3))) 4 ((.slice a9 32 c9))
      go_wp2_with fail
      refine bodyPost_ret (v := rqV ⟨p9 - 1, p1, 1 + p2, p3, bl⟩ ((.slice a9 32 c9))) (by simp [results, Tryz.results12, go_sem, rqV, *]) rfl ?_
      replace hy := hy.tail.tail.tail
      exact ⟨_, _, _, rfl, (by rw [HBL.out]; exact hr9), hy⟩
    by_cases e25 : bp = 25
    · subst e25
      have hs6 := Sat.setCell hs5 1 (.int .i64 a1)
      simp only [List.setIfInBounds_toArray, List.set_cons_zero, List.set_cons_succ] at hs6
      go_upto_region 21 with fail
      refine with_sat hs6 ?_
      clear hs6
      intro w6 hs6
      clear t0 t1 t2 t3 t4 f0 f1 f2 f3 f4 o0 o1 o2 o3 o4 o5
      have t0 := hs6.cell m0 0
      have t1 := hs6.cell m0 1
      have t2 := hs6.cell m0 2
      have t3 := hs6.cell m0 3
      have t4 := hs6.cell m0 4
      have f0 := hs6.free m0 0
      have f1 := hs6.free m0 1
      have f2 := hs6.free m0 2
      have f3 := hs6.free m0 3
      have f4 := hs6.free m0 4
      have o0 := hs6.cell m2 0
      have o1 := hs6.cell m2 1
      have o2 := hs6.cell m2 2
      have o3 := hs6.cell m2 3
      have o4 := hs6.cell m2 4
      have o5 := hs6.cell m2 5
      have u0 := hs6.cell m1 0
      have u1 := hs6.cell m1 1
      have u2 := hs6.cell m1 2
      have u3 := hs6.cell m1 3
      have u4 := hs6.cell m1 4
      have v0 := hs6.free m1 0
      have v1 := hs6.free m1 1
      have v2 := hs6.free m1 2
      have v3 := hs6.free m1 3
      have v4 := hs6.free m1 4
      have hy := Sat.setCell (Sat.setCell (Sat.setCell (Sat.setCell (Sat.setCell (Sat.swap hs6) 0 (.int .i64 (1 + 1))) 1 (.int .i64 (a1))) 2 (.int .i64 (1 + p2))) 3 (.int .i64 (p3))) 4 ((.slice a9 32 c9))
      go_wp2_with fail
      refine bodyPost_ret (v := rqV ⟨1 + 1, a1, 1 + p2, p3, bl⟩ ((.slice a9 32 c9))) (by simp [results, Tryz.results12, go_sem, rqV, *]) rfl ?_
      replace hy := hy.tail.tail.tail
      exact ⟨_, _, _, rfl, (by rw [HBL.out]; exact hr9), hy⟩
    by_cases e26 : bp = 26
    · subst e26
      have hs6 := Sat.setCell hs5 2 (.int .i64 a2)
      simp only [List.setIfInBounds_toArray, List.set_cons_zero, List.set_cons_succ] at hs6
      go_upto_region 21 with fail
      refine with_sat hs6 ?_
      clear hs6
      intro w6 hs6
      clear t0 t1 t2 t3 t4 f0 f1 f2 f3 f4 o0 o1 o2 o3 o4 o5
      have t0 := hs6.cell m0 0
      have t1 := hs6.cell m0 1
      have t2 := hs6.cell m0 2
      have t3 := hs6.cell m0 3
      have t4 := hs6.cell m0 4
      have f0 := hs6.free m0 0
      have f1 := hs6.free m0 1
      have f2 := hs6.free m0 2
      have f3 := hs6.free m0 3
      have f4 := hs6.free m0 4
      have o0 := hs6.cell m2 0
      have o1 := hs6.cell m2 1
      have o2 := hs6.cell m2 2
      have o3 := hs6.cell m2 3
      have o4 := hs6.cell m2 4
      have o5 := hs6.cell m2 5
      have u0 := hs6.cell m1 0
      have u1 := hs6.cell m1 1
      have u2 := hs6.cell m1 2
      have u3 := hs6.cell m1 3
      have u4 := hs6.cell m1 4
      have v0 := hs6.free m1 0
      have v1 := hs6.free m1 1
      have v2 := hs6.free m1 2
      have v3 := hs6.free m1 3
      have v4 := hs6.free m1 4
      have hy := Sat.setCell (Sat.setCell (Sat.setCell (Sat.setCell (Sat.setCell (Sat.swap hs6) 0 (.int .i64 (1 + 1))) 1 (.int .i64 (p1))) 2 (.int .i64 (a2))) 3 (.int .i64 (p3))) 4 ((.slice a9 32 c9))
      go_wp2_with fail
      refine bodyPost_ret (v := rqV ⟨1 + 1, p1, a2, p3, bl⟩ ((.slice a9 32 c9))) (by simp [results, Tryz.results12, go_sem, rqV, *]) rfl ?_
      replace hy := hy.tail.tail.tail
      exact ⟨_, _, _, rfl, (by rw [HBL.out]; exact hr9), hy⟩
    by_cases e27 : bp = 27
    · subst e27
      have hs6 := Sat.setCell hs5 3 (.int .i64 a3)
      simp only [List.setIfInBounds_toArray, List.set_cons_zero, List.set_cons_succ] at hs6
      go_upto_region 21 with fail
      refine with_sat hs6 ?_
      clear hs6
      intro w6 hs6
      clear t0 t1 t2 t3 t4 f0 f1 f2 f3 f4 o0 o1 o2 o3 o4 o5
      have t0 := hs6.cell m0 0
      have t1 := hs6.cell m0 1
      have t2 := hs6.cell m0 2
      have t3 := hs6.cell m0 3
      have t4 := hs6.cell m0 4
      have f0 := hs6.free m0 0
      have f1 := hs6.free m0 1
      have f2 := hs6.free m0 2
      have f3 := hs6.free m0 3
      have f4 := hs6.free m0 4
      have o0 := hs6.cell m2 0
      have o1 := hs6.cell m2 1
      have o2 := hs6.cell m2 2
      have o3 := hs6.cell m2 3
      have o4 := hs6.cell m2 4
      have o5 := hs6.cell m2 5
      have u0 := hs6.cell m1 0
      have u1 := hs6.cell m1 1
      have u2 := hs6.cell m1 2
      have u3 := hs6.cell m1 3
      have u4 := hs6.cell m1 4
      have v0 := hs6.free m1 0
      have v1 := hs6.free m1 1
      have v2 := hs6.free m1 2
      have v3 := hs6.free m1 3
      have v4 := hs6.free m1 4
      have hy := Sat.setCell (Sat.setCell (Sat.setCell (Sat.setCell (Sat.setCell (Sat.swap hs6) 0 (.int .i64 (1 + 1))) 1 (.int .i64 (p1))) 2 (.int .i64 (1 + p2))) 3 (.int .i64 (a3))) 4 ((.slice a9 32 c9))
      go_wp2_with fail
      refine bodyPost_ret (v := rqV ⟨1 + 1, p1, 1 + p2, a3, bl⟩ ((.slice a9 32 c9))) (by simp [results, Tryz.results12, go_sem, rqV, *]) rfl ?_
      replace hy := hy.tail.tail.tail
      exact ⟨_, _, _, rfl, (by rw [HBL.out]; exact hr9), hy⟩
    by_cases e28 : bp = 28
    · subst e28
      have HP9 := Lib.hid (fun w => hand_pick (wrap64 (a5.tdiv 30)) 140 w (by omega) (by omega))
      obtain ⟨y0, y1⟩ := handPick_bounds (wrap64 (a5.tdiv 30)) 140 (by omega)
      obtain ⟨nn, hnn⟩ : ∃ nn : Nat, handPick (wrap64 (a5.tdiv 30)) 140 = nn := ⟨(handPick (wrap64 (a5.tdiv 30)) 140).toNat, by omega⟩
      rw [hnn] at HP9 y0 y1
      have HBY := Lib.hid (bytes_of a4 nn W _ _ (by omega) hs5.drew)
      have HBL := Lib.hid (bytesOf_length a4 nn)
      generalize bytesOf a4 nn = bl at *
      clear hs5 hnn
      go_wp2_with fail
      refine wp_region_one [6, 8] [] [] [] [0, 1, 2, 3, 4, 5, 6, 7, 8] (by kernel_rfl) (by kernel_rfl) ?_
      repeat (first | (refine can_pu1 rfl rfl rfl rfl rfl rfl (fun K hK => ?_); go_big_quiet_op; refine hK _ ?_; clear hK K) | (refine can_st1 rfl rfl rfl rfl rfl rfl (fun K hK => ?_); go_big_quiet_op; refine hK _ ?_; clear hK K) | (refine can_early1 rfl rfl rfl rfl rfl (fun K hK => ?_); go_big_quiet_op; refine hK _ ?_; clear hK K) | (refine can_skip rfl rfl rfl ?_; simp only [Act.put, List.setIfInBounds_toArray, List.set_cons_zero, List.set_cons_succ]))
      refine can_call1 rfl rfl rfl rfl (by (intro w; go_simp); (try (repeat' apply And.intro)); all_goals rfl) ((HP9.out _).mono fun e w' h => ⟨h.1, h.2.symm⟩) ?_; simp only [Act.put, List.setIfInBounds_toArray, List.set_cons_zero, List.set_cons_succ]
      repeat (first | (refine can_pu1 rfl rfl rfl rfl rfl rfl (fun K hK => ?_); go_big_quiet_op; refine hK _ ?_; clear hK K) | (refine can_st1 rfl rfl rfl rfl rfl rfl (fun K hK => ?_); go_big_quiet_op; refine hK _ ?_; clear hK K) | (refine can_early1 rfl rfl rfl rfl rfl (fun K hK => ?_); go_big_quiet_op; refine hK _ ?_; clear hK K) | (refine can_skip rfl rfl rfl ?_; simp only [Act.put, List.setIfInBounds_toArray, List.set_cons_zero, List.set_cons_succ]))
      refine can_act1 rfl rfl rfl (fun K hK => ?_)
      go_wp2_with fail
      refine HBY.out.mono ?_; rintro r9 w9 ⟨v9, R9, rfl, hr9, hs9⟩
      apply hK
      clear hK HBY HP9
      have hsA := Sat.use (M := cellsA z3 #[.int .i64 (1 + 1), .int .i64 (p1), .int .i64 (1 + p2), .int .i64 (p3), (.slice a9 32 c9)] 37 :: (cellsA (z + 1) #[.int .i64 0, .int .i64 0, .int .i64 0, .int .i64 0, .slice none 0 0] 37 :: (cellsA z #[.int .i64 a0, .int .i64 a1, .int .i64 a2, .int .i64 a3, .int .i64 a4, .int .i64 a5] 29 :: (R9 ++ L)))) hs9 (by intro x; simp only [cnt_append, cnt_cons, cnt_nil]; omega)
      clear t0 t1 t2 t3 t4 f0 f1 f2 f3 f4 o0 o1 o2 o3 o4 o5
      have t4 := hsA.cell m0 4
      have f4 := hsA.free m0 4
      have hs6 := Sat.setCell hsA 4 v9
      obtain ⟨a9, c9, rfl⟩ := Ch.RowA.slice hr9
      clear hs9 hsA
      repeat (first | (refine can_pu1 rfl rfl rfl rfl rfl rfl (fun K hK => ?_); go_big_quiet_op; refine hK _ ?_; clear hK K) | (refine can_st1 rfl rfl rfl rfl rfl rfl (fun K hK => ?_); go_big_quiet_op; refine hK _ ?_; clear hK K) | (refine can_early1 rfl rfl rfl rfl rfl (fun K hK => ?_); go_big_quiet_op; refine hK _ ?_; clear hK K) | (refine can_skip rfl rfl rfl ?_; simp only [Act.put, List.setIfInBounds_toArray, List.set_cons_zero, List.set_cons_succ]))
      refine can_act1 rfl rfl rfl (fun K hK => ?_)
      go_wp2_with fail
      refine can_end1 ?_; (try simp only [Exit.then])
      simp only [List.setIfInBounds_toArray, List.set_cons_zero, List.set_cons_succ] at hs6
      refine with_sat hs6 ?_
      clear hs6 t4 f4
      intro w6 hs6
      have t0 := hs6.cell m0 0
      have t1 := hs6.cell m0 1
      have t2 := hs6.cell m0 2
      have t3 := hs6.cell m0 3
      have t4 := hs6.cell m0 4
      have f0 := hs6.free m0 0
      have f1 := hs6.free m0 1
      have f2 := hs6.free m0 2
      have f3 := hs6.free m0 3
      have f4 := hs6.free m0 4
      have o0 := hs6.cell m2 0
      have o1 := hs6.cell m2 1
      have o2 := hs6.cell m2 2
      have o3 := hs6.cell m2 3
      have o4 := hs6.cell m2 4
      have o5 := hs6.cell m2 5
      have u0 := hs6.cell m1 0
      have u1 := hs6.cell m1 1
      have u2 := hs6.cell m1 2
      have u3 := hs6.cell m1 3
      have u4 := hs6.cell m1 4
      have v0 := hs6.free m1 0
      have v1 := hs6.free m1 1
      have v2 := hs6.free m1 2
      have v3 := hs6.free m1 3
      have v4 := hs6.free m1 4
      have hy := Sat.setCell (Sat.setCell (Sat.setCell (Sat.setCell (Sat.setCell (Sat.swap hs6) 0 (.int .i64 (1 + 1))) 1 (.int .i64 (p1))) 2 (.int .i64 (1 + p2))) 3 (.int .i64 (p3))) 4 ((.slice a9 nn c9))
      go_wp2_with fail
      refine bodyPost_ret (v := rqV ⟨1 + 1, p1, 1 + p2, p3, bl⟩ ((.slice a9 nn c9))) (by simp [results, Tryz.results12, go_sem, rqV, *]) rfl ?_
      replace hy := hy.tail.tail.tail
      exact ⟨_, _, _, rfl, (by rw [HBL.out]; exact hr9), hy⟩
    by_cases e29 : bp = 29
    · subst e29
      have HP9 := Lib.hid (fun w => hand_pick a1 43 w (by omega) (by omega))
      generalize handPick a1 43 = p9 at *
      go_wp2_with fail
      refine (HP9.out _).mono ?_; rintro r9 w9 ⟨rfl, rfl⟩
      clear HP9
      have hs6 := Sat.setCell hs5 1 (.int .i64 p9)
      simp only [List.setIfInBounds_toArray, List.set_cons_zero, List.set_cons_succ] at hs6
      go_upto_region 21 with fail
      refine with_sat hs6 ?_
      clear hs6
      intro w6 hs6
      clear t0 t1 t2 t3 t4 f0 f1 f2 f3 f4 o0 o1 o2 o3 o4 o5
      have t0 := hs6.cell m0 0
      have t1 := hs6.cell m0 1
      have t2 := hs6.cell m0 2
      have t3 := hs6.cell m0 3
      have t4 := hs6.cell m0 4
      have f0 := hs6.free m0 0
      have f1 := hs6.free m0 1
      have f2 := hs6.free m0 2
      have f3 := hs6.free m0 3
      have f4 := hs6.free m0 4
      have o0 := hs6.cell m2 0
      have o1 := hs6.cell m2 1
      have o2 := hs6.cell m2 2
      have o3 := hs6.cell m2 3
      have o4 := hs6.cell m2 4
      have o5 := hs6.cell m2 5
      have u0 := hs6.cell m1 0
      have u1 := hs6.cell m1 1
      have u2 := hs6.cell m1 2
      have u3 := hs6.cell m1 3
      have u4 := hs6.cell m1 4
      have v0 := hs6.free m1 0
      have v1 := hs6.free m1 1
      have v2 := hs6.free m1 2
      have v3 := hs6.free m1 3
      have v4 := hs6.free m1 4
      have hy := Sat.setCell (Sat.setCell (Sat.setCell (Sat.setCell (Sat.setCell (Sat.swap hs6) 0 (.int .i64 (1 + 1))) 1 (.int .i64 (p9))) 2 (.int .i64 (1 + p2))) 3 (.int .i64 (p3))) 4 ((.slice a9 32 c9))
      go_wp2_with fail
      refine bodyPost_ret (v := rqV ⟨1 + 1, p9, 1 + p2, p3, bl⟩ ((.slice a9 32 c9))) (by simp [results, Tryz.results12, go_sem, rqV, *]) rfl ?_
      replace hy := hy.tail.tail.tail
      exact ⟨_, _, _, rfl, (by rw [HBL.out]; exact hr9), hy⟩
    clear t0 t1 t2 t3 t4 f0 f1 f2 f3 f4 o0 o1 o2 o3 o4 o5
    have t0 := hs5.cell m0 0
    have t1 := hs5.cell m0 1
    have t2 := hs5.cell m0 2
    have t3 := hs5.cell m0 3
    have t4 := hs5.cell m0 4
    have f0 := hs5.free m0 0
    have f1 := hs5.free m0 1
    have f2 := hs5.free m0 2
    have f3 := hs5.free m0 3
    have f4 := hs5.free m0 4
    have o0 := hs5.cell m2 0
    have o1 := hs5.cell m2 1
    have o2 := hs5.cell m2 2
    have o3 := hs5.cell m2 3
    have o4 := hs5.cell m2 4
    have o5 := hs5.cell m2 5
    have u0 := hs5.cell m1 0
    have u1 := hs5.cell m1 1
    have u2 := hs5.cell m1 2
    have u3 := hs5.cell m1 3
    have u4 := hs5.cell m1 4
    have v0 := hs5.free m1 0
    have v1 := hs5.free m1 1
    have v2 := hs5.free m1 2
    have v3 := hs5.free m1 3
    have v4 := hs5.free m1 4
    have hy := Sat.setCell (Sat.setCell (Sat.setCell (Sat.setCell (Sat.setCell (Sat.swap hs5) 0 (.int .i64 (1 + 1))) 1 (.int .i64 (p1))) 2 (.int .i64 (1 + p2))) 3 (.int .i64 (p3))) 4 ((.slice a9 32 c9))
    go_wp2_with fail
    refine bodyPost_ret (v := rqV ⟨1 + 1, p1, 1 + p2, p3, bl⟩ ((.slice a9 32 c9))) (by simp [results, Tryz.results12, go_sem, rqV, *]) rfl ?_
    replace hy := hy.tail.tail.tail
    exact ⟨_, _, _, rfl, (by rw [HBL.out]; exact hr9), hy⟩
  by_cases e3 : p0 = 2
  · subst e3
    have t0 := hs4.cell m0 0
    have t1 := hs4.cell m0 1
    have t2 := hs4.cell m0 2
    have t3 := hs4.cell m0 3
    have t4 := hs4.cell m0 4
    have f0 := hs4.free m0 0
    have f1 := hs4.free m0 1
    have f2 := hs4.free m0 2
    have f3 := hs4.free m0 3
    have f4 := hs4.free m0 4
    have o0 := hs4.cell m2 0
    have o1 := hs4.cell m2 1
    have o2 := hs4.cell m2 2
    have o3 := hs4.cell m2 3
    have o4 := hs4.cell m2 4
    have o5 := hs4.cell m2 5
    have HBY := Lib.hid (bytes_of a4 128 W _ _ (by omega) hs4)
    have HBL := Lib.hid (bytesOf_length a4 128)
    generalize bytesOf a4 128 = bl at *
    have HG9 := Lib.hid (fun w => hand_pick a2 30 w (by omega) (by omega))
    obtain ⟨yg0, yg1⟩ := handPick_bounds a2 30 (by omega)
    generalize handPick a2 30 = g9 at *
    clear hs4
    go_wp2_with fail
    refine HBY.out.mono ?_; rintro r9 w9 ⟨v9, R9, rfl, hr9, hs9⟩
    have hsA := Sat.use (M := cellsA z3 #[.int .i64 (1 + 2), .int .i64 (p1), .int .i64 (1 + p2), .int .i64 (p3), .slice none 0 0] 37 :: (cellsA (z + 1) #[.int .i64 0, .int .i64 0, .int .i64 0, .int .i64 0, .slice none 0 0] 37 :: (cellsA z #[.int .i64 a0, .int .i64 a1, .int .i64 a2, .int .i64 a3, .int .i64 a4, .int .i64 a5] 29 :: (R9 ++ L)))) hs9 (by intro x; simp only [cnt_append, cnt_cons, cnt_nil]; omega)
    clear hs9 HBY
    clear t0 t1 t2 t3 t4 f0 f1 f2 f3 f4 o0 o1 o2 o3 o4 o5
    have t4 := hsA.cell m0 4
    have f4 := hsA.free m0 4
    have hsB := Sat.setCell hsA 4 v9
    simp only [List.setIfInBounds_toArray, List.set_cons_zero, List.set_cons_succ] at hsB
    obtain ⟨a9, c9, rfl⟩ := Ch.RowA.slice hr9
    clear hsA
    go_upto_region 7 with fail
    refine with_sat hsB ?_
    clear hsB t4 f4
    intro w7 hsB
    have o2 := hsB.cell m2 2
    go_wp2_with fail
    refine (HG9.out _).mono ?_; rintro r9 w9 ⟨rfl, rfl⟩
    clear HG9
    have t2 := hsB.cell m0 2
    have f2 := hsB.free m0 2
    have hs5 := Sat.setCell hsB 2 (.int .i64 (1 + g9))
    simp only [List.setIfInBounds_toArray, List.set_cons_zero, List.set_cons_succ] at hs5
    clear hsB
    go_upto_region 8 with fail
    refine with_sat hs5 ?_
    clear hs5 t2 f2 o2
    intro w5 hs5
    have t0 := hs5.cell m0 0
    have t1 := hs5.cell m0 1
    have t2 := hs5.cell m0 2
    have t3 := hs5.cell m0 3
    have t4 := hs5.cell m0 4
    have f0 := hs5.free m0 0
    have f1 := hs5.free m0 1
    have f2 := hs5.free m0 2
    have f3 := hs5.free m0 3
    have f4 := hs5.free m0 4
    have o0 := hs5.cell m2 0
    have o1 := hs5.cell m2 1
    have o2 := hs5.cell m2 2
    have o3 := hs5.cell m2 3
    have o4 := hs5.cell m2 4
    have o5 := hs5.cell m2 5
    obtain ⟨x0, x1⟩ := handPick_bounds a5 30 (by omega)
    have HPK := Lib.hid (fun w => hand_pick a5 30 w (by omega) (by omega))
    generalize handPick a5 30 = bp at *
    go_wp2_with fail
    refine (HPK.out _).mono ?_; rintro r9 w9 ⟨rfl, rfl⟩
    clear HPK
    by_cases e24 : bp = 24
    · subst e24
      have HP9 := Lib.hid (fun w => hand_pick (wrap64 (a5.tdiv 30)) 9 w (by omega) (by omega))
      obtain ⟨y0, y1⟩ := handPick_bounds (wrap64 (a5.tdiv 30)) 9 (by omega)
      generalize handPick (wrap64 (a5.tdiv 30)) 9 = p9 at *
      go_wp2_with fail
      refine (HP9.out _).mono ?_; rintro r9 w9 ⟨rfl, rfl⟩
      clear HP9
      have hs6 := Sat.setCell hs5 0 (.int .i64 (p9 - 1))
      simp only [List.setIfInBounds_toArray, List.set_cons_zero, List.set_cons_succ] at hs6
      go_upto_region 21 with fail
      refine with_sat hs6 ?_
      clear hs6
      intro w6 hs6
      clear t0 t1 t2 t3 t4 f0 f1 f2 f3 f4 o0 o1 o2 o3 o4 o5
      have t0 := hs6.cell m0 0
      have t1 := hs6.cell m0 1
      have t2 := hs6.cell m0 2
      have t3 := hs6.cell m0 3
      have t4 := hs6.cell m0 4
      have f0 := hs6.free m0 0
      have f1 := hs6.free m0 1
      have f2 := hs6.free m0 2
      have f3 := hs6.free m0 3
      have f4 := hs6.free m0 4
      have o0 := hs6.cell m2 0
      have o1 := hs6.cell m2 1
      have o2 := hs6.cell m2 2
      have o3 := hs6.cell m2 3
      have o4 := hs6.cell m2 4
      have o5 := hs6.cell m2 5
      have u0 := hs6.cell m1 0
      have u1 := hs6.cell m1 1
      have u2 := hs6.cell m1 2
      have u3 := hs6.cell m1 3
      have u4 := hs6.cell m1 4
      have v0 := hs6.free m1 0
      have v1 := hs6.free m1 1
      have v2 := hs6.free m1 2
      have v3 := hs6.free m1 3
      have v4 := hs6.free m1 4
      have hy := Sat.setCell (Sat.setCell (Sat.setCell (Sat.setCell (Sat.setCell (Sat.swap hs6) 0 (.int .i64 (p9 - 1))) 1 (.int .i64 (p1))) 2 (.int .i64 (1 + g9))) 3 (.int .i64 (p3))) 4 ((.slice a9 128 c9))
      go_wp2_with fail
      refine bodyPost_ret (v := rqV ⟨p9 - 1, p1, 1 + g9, p3, bl⟩ ((.slice a9 128 c9))) (by simp [results, Tryz.results12, go_sem, rqV, *]) rfl ?_
      replace hy := hy.tail.tail.tail
      exact ⟨_, _, _, rfl, (by rw [HBL.out]; exact hr9), hy⟩
    by_cases e25 : bp = 25
    · subst e25
      have hs6 := Sat.setCell hs5 1 (.int .i64 a1)
      simp only [List.setIfInBounds_toArray, List.set_cons_zero, List.set_cons_succ] at hs6
      go_upto_region 21 with fail
      refine with_sat hs6 ?_
      clear hs6
      intro w6 hs6
      clear t0 t1 t2 t3 t4 f0 f1 f2 f3 f4 o0 o1 o2 o3 o4 o5
      have t0 := hs6.cell m0 0
      have t1 := hs6.cell m0 1
      have t2 := hs6.cell m0 2
      have t3 := hs6.cell m0 3
      have t4 := hs6.cell m0 4
      have f0 := hs6.free m0 0
      have f1 := hs6.free m0 1
      have f2 := hs6.free m0 2
      have f3 := hs6.free m0 3
      have f4 := hs6.free m0 4
      have o0 := hs6.cell m2 0
      have o1 := hs6.cell m2 1
      have o2 := hs6.cell m2 2
      have o3 := hs6.cell m2 3
      have o4 := hs6.cell m2 4
      have o5 := hs6.cell m2 5
      have u0 := hs6.cell m1 0
      have u1 := hs6.cell m1 1
      have u2 := hs6.cell m1 2
      have u3 := hs6.cell m1 3
      have u4 := hs6.cell m1 4
      have v0 := hs6.free m1 0
      have v1 := hs6.free m1 1
      have v2 := hs6.free m1 2
      have v3 := hs6.free m1 3
      have v4 := hs6.free m1 4
      have hy := Sat.setCell (Sat.setCell (Sat.setCell (Sat.setCell (Sat.setCell (Sat.swap hs6) 0 (.int .i64 (1 + 2))) 1 (.int .i64 (a1))) 2 (.int .i64 (1 + g9))) 3 (.int .i64 (p3))) 4 ((.slice a9 128 c9))
      go_wp2_with fail
      refine bodyPost_ret (v := rqV ⟨1 + 2, a1, 1 + g9, p3, bl⟩ ((.slice a9 128 c9))) (by simp [results, Tryz.results12, go_sem, rqV, *]) rfl ?_
      replace hy := hy.tail.tail.tail
      exact ⟨_, _, _, rfl, (by rw [HBL.out]; exact hr9), hy⟩
    by_cases e26 : bp = 26
    · subst e26
      have hs6 := Sat.setCell hs5 2 (.int .i64 a2)
      simp only [List.setIfInBounds_toArray, List.set_cons_zero, List.set_cons_succ] at hs6
      go_upto_region 21 with fail
      refine with_sat hs6 ?_
      clear hs6
      intro w6 hs6
      clear t0 t1 t2 t3 t4 f0 f1 f2 f3 f4 o0 o1 o2 o3 o4 o5
      have t0 := hs6.cell m0 0
      have t1 := hs6.cell m0 1
      have t2 := hs6.cell m0 2
      have t3 := hs6.cell m0 3
      have t4 := hs6.cell m0 4
      have f0 := hs6.free m0 0
      have f1 := hs6.free m0 1
      have f2 := hs6.free m0 2
      have f3 := hs6.free m0 3
      have f4 := hs6.free m0 4
      have o0 := hs6.cell m2 0
      have o1 := hs6.cell m2 1
      have o2 := hs6.cell m2 2
      have o3 := hs6.cell m2 3
      have o4 := hs6.cell m2 4
      have o5 := hs6.cell m2 5
      have u0 := hs6.cell m1 0
      have u1 := hs6.cell m1 1
      have u2 := hs6.cell m1 2
      have u3 := hs6.cell m1 3
      have u4 := hs6.cell m1 4
      have v0 := hs6.free m1 0
      have v1 := hs6.free m1 1
      have v2 := hs6.free m1 2
      have v3 := hs6.free m1 3
      have v4 := hs6.free m1 4
      have hy := Sat.setCell (Sat.setCell (Sat.setCell (Sat.setCell (Sat.setCell (Sat.swap hs6) 0 (.int .i64 (1 + 2))) 1 (.int .i64 (p1))) 2 (.int .i64 (a2))) 3 (.int .i64 (p3))) 4 ((.slice a9 128 c9))
      go_wp2_with fail
      refine bodyPost_ret (v := rqV ⟨1 + 2, p1, a2, p3, bl⟩ ((.slice a9 128 c9))) (by simp [results, Tryz.results12, go_sem, rqV, *]) rfl ?_
      replace hy := hy.tail.tail.tail
      exact ⟨_, _, _, rfl, (by rw [HBL.out]; exact hr9), hy⟩
    by_cases e27 : bp = 27
    · subst e27
      have hs6 := Sat.setCell hs5 3 (.int .i64 a3)
      simp only [List.setIfInBounds_toArray, List.set_cons_zero, List.set_cons_succ] at hs6
      go_upto_region 21 with fail
      refine with_sat hs6 ?_
      clear hs6
      intro w6 hs6
      clear t0 t1 t2 t3 t4 f0 f1 f2 f3 f4 o0 o1 o2 o3 o4 o5
      have t0 := hs6.cell m0 0
      have t1 := hs6.cell m0 1
      have t2 := hs6.cell m0 2
      have t3 := hs6.cell m0 3
      have t4 := hs6.cell m0 4
      have f0 := hs6.free m0 0
      have f1 := hs6.free m0 1
      have f2 := hs6.free m0 2
      have f3 := hs6.free m0 3
      have f4 := hs6.free m0 4
      have o0 := hs6.cell m2 0
      have o1 := hs6.cell m2 1
      have o2 := hs6.cell m2 2
      have o3 := hs6.cell m2 3
      have o4 := hs6.cell m2 4
      have o5 := hs6.cell m2 5
      have u0 := hs6.cell m1 0
      have u1 := hs6.cell m1 1
      have u2 := hs6.cell m1 2
      have u3 := hs6.cell m1 3
      have u4 := hs6.cell m1 4
      have v0 := hs6.free m1 0
      have v1 := hs6.free m1 1
      have v2 := hs6.free m1 2
      have v3 := hs6.free m1 3
      have v4 := hs6.free m1 4
      have hy := Sat.setCell (Sat.setCell (Sat.setCell (Sat.setCell (Sat.setCell (Sat.swap hs6) 0 (.int .i64 (1 + 2))) 1 (.int .i64 (p1))) 2 (.int .i64 (1 + g9))) 3 (.int .i64 (a3))) 4 ((.slice a9 128 c9))
      go_wp2_with fail
      refine bodyPost_ret (v := rqV ⟨1 + 2, p1, 1 + g9, a3, bl⟩ ((.slice a9 128 c9))) (by simp [results, Tryz.results12, go_sem, rqV, *]) rfl ?_
      replace hy := hy.tail.tail.tail
      exact ⟨_, _, _, rfl, (by rw [HBL.out]; exact hr9), hy⟩
    by_cases e28 : bp = 28
    · subst e28
      have HP9 := Lib.hid (fun w => hand_pick (wrap64 (a5.tdiv 30)) 140 w (by omega) (by omega))
      obtain ⟨y0, y1⟩ := handPick_bounds (wrap64 (a5.tdiv 30)) 140 (by omega)
      obtain ⟨nn, hnn⟩ : ∃ nn : Nat, handPick (wrap64 (a5.tdiv 30)) 140 = nn := ⟨(handPick (wrap64 (a5.tdiv 30)) 140).toNat, by omega⟩
      rw [hnn] at HP9 y0 y1
      have HBY := Lib.hid (bytes_of a4 nn W _ _ (by omega) hs5.drew)
      have HBL := Lib.hid (bytesOf_length a4 nn)
      generalize bytesOf a4 nn = bl at *
      clear hs5 hnn
      go_wp2_with fail
      refine wp_region_one [6, 8] [] [] [] [0, 1, 2, 3, 4, 5, 6, 7, 8] (by kernel_rfl) (by kernel_rfl) ?_
      repeat (first | (refine can_pu1 rfl rfl rfl rfl rfl rfl (fun K hK => ?_); go_big_quiet_op; refine hK _ ?_; clear hK K) | (refine can_st1 rfl rfl rfl rfl rfl rfl (fun K hK => ?_); go_big_quiet_op; refine hK _ ?_; clear hK K) | (refine can_early1 rfl rfl rfl rfl rfl (fun K hK => ?_); go_big_quiet_op; refine hK _ ?_; clear hK K) | (refine can_skip rfl rfl rfl ?_; simp only [Act.put, List.setIfInBounds_toArray, List.set_cons_zero, List.set_cons_succ]))
      refine can_call1 rfl rfl rfl rfl (by (intro w; go_simp); (try (repeat' apply And.intro)); all_goals rfl) ((HP9.out _).mono fun e w' h => ⟨h.1, h.2.symm⟩) ?_; simp only [Act.put, List.setIfInBounds_toArray, List.set_cons_zero, List.set_cons_succ]
      repeat (first | (refine can_pu1 rfl rfl rfl rfl rfl rfl (fun K hK => ?_); go_big_quiet_op; refine hK _ ?_; clear hK K) | (refine can_st1 rfl rfl rfl rfl rfl rfl (fun K hK => ?_); go_big_quiet_op; refine hK _ ?_; clear hK K) | (refine can_early1 rfl rfl rfl rfl rfl (fun K hK => ?_); go_big_quiet_op; refine hK _ ?_; clear hK K) | (refine can_skip rfl rfl rfl ?_; simp only [Act.put, List.setIfInBounds_toArray, List.set_cons_zero, List.set_cons_succ]))
      refine can_act1 rfl rfl rfl (fun K hK => ?_)
      go_wp2_with fail
      refine HBY.out.mono ?_; rintro r9 w9 ⟨v9, R9, rfl, hr9, hs9⟩
      apply hK
      clear hK HBY HP9
      have hsA := Sat.use (M := cellsA z3 #[.int .i64 (1 + 2), .int .i64 (p1), .int .i64 (1 + g9), .int .i64 (p3), (.slice a9 128 c9)] 37 :: (cellsA (z + 1) #[.int .i64 0, .int .i64 0, .int .i64 0, .int .i64 0, .slice none 0 0] 37 :: (cellsA z #[.int .i64 a0, .int .i64 a1, .int .i64 a2, .int .i64 a3, .int .i64 a4, .int .i64 a5] 29 :: (R9 ++ L)))) hs9 (by intro x; simp only [cnt_append, cnt_cons, cnt_nil]; omega)
      clear t0 t1 t2 t3 t4 f0 f1 f2 f3 f4 o0 o1 o2 o3 o4 o5
      have t4 := hsA.cell m0 4
      have f4 := hsA.free m0 4
      have hs6 := Sat.setCell hsA 4 v9
      obtain ⟨a9, c9, rfl⟩ := Ch.RowA.slice hr9
      clear hs9 hsA
      repeat (first | (refine can_pu1 rfl rfl rfl rfl rfl rfl (fun K hK => ?_); go_big_quiet_op; refine hK _ ?_; clear hK K) | (refine can_st1 rfl rfl rfl rfl rfl rfl (fun K hK => ?_); go_big_quiet_op; refine hK _ ?_; clear hK K) | (refine can_early1 rfl rfl rfl rfl rfl (fun K hK => ?_); go_big_quiet_op; refine hK _ ?_; clear hK K) | (refine can_skip rfl rfl rfl ?_; simp only [Act.put, List.setIfInBounds_toArray, List.set_cons_zero, List.set_cons_succ]))
      refine can_act1 rfl rfl rfl (fun K hK => ?_)
      go_wp2_with fail
      refine can_end1 ?_; (try simp only [Exit.then])
      simp only [List.setIfInBounds_toArray, List.set_cons_zero, List.set_cons_succ] at hs6
      refine with_sat hs6 ?_
      clear hs6 t4 f4
      intro w6 hs6
      have t0 := hs6.cell m0 0
      have t1 := hs6.cell m0 1
      have t2 := hs6.cell m0 2
      have t3 := hs6.cell m0 3
      have t4 := hs6.cell m0 4
      have f0 := hs6.free m0 0
      have f1 := hs6.free m0 1
      have f2 := hs6.free m0 2
      have f3 := hs6.free m0 3
      have f4 := hs6.free m0 4
      have o0 := hs6.cell m2 0
      have o1 := hs6.cell m2 1
      have o2 := hs6.cell m2 2
      have o3 := hs6.cell m2 3
      have o4 := hs6.cell m2 4
      have o5 := hs6.cell m2 5
      have u0 := hs6.cell m1 0
      have u1 := hs6.cell m1 1
      have u2 := hs6.cell m1 2
      have u3 := hs6.cell m1 3
      have u4 := hs6.cell m1 4
      have v0 := hs6.free m1 0
      have v1 := hs6.free m1 1
      have v2 := hs6.free m1 2
      have v3 := hs6.free m1 3
      have v4 := hs6.free m1 4
      have hy := Sat.setCell (Sat.setCell (Sat.setCell (Sat.setCell (Sat.setCell (Sat.swap hs6) 0 (.int .i64 (1 + 2))) 1 (.int .i64 (p1))) 2 (.int .i64 (1 + g9))) 3 (.int .i64 (p3))) 4 ((.slice a9 nn c9))
      go_wp2_with fail
      refine bodyPost_ret (v := rqV ⟨1 + 2, p1, 1 + g9, p3, bl⟩ ((.slice a9 nn c9))) (by simp [results, Tryz.results12, go_sem, rqV, *]) rfl ?_
      replace hy := hy.tail.tail.tail
      exact ⟨_, _, _, rfl, (by rw [HBL.out]; exact hr9), hy⟩
    by_cases e29 : bp = 29
    · subst e29
      have HP9 := Lib.hid (fun w => hand_pick a1 43 w (by omega) (by omega))
      generalize handPick a1 43 = p9 at *
      go_wp2_with fail
      refine (HP9.out _).mono ?_; rintro r9 w9 ⟨rfl, rfl⟩
      clear HP9
      have hs6 := Sat.setCell hs5 1 (.int .i64 p9)
      simp only [List.setIfInBounds_toArray, List.set_cons_zero, List.set_cons_succ] at hs6
      go_upto_region 21 with fail
      refine with_sat hs6 ?_
      clear hs6
      intro w6 hs6
      clear t0 t1 t2 t3 t4 f0 f1 f2 f3 f4 o0 o1 o2 o3 o4 o5
      have t0 := hs6.cell m0 0
      have t1 := hs6.cell m0 1
      have t2 := hs6.cell m0 2
      have t3 := hs6.cell m0 3
      have t4 := hs6.cell m0 4
      have f0 := hs6.free m0 0
      have f1 := hs6.free m0 1
      have f2 := hs6.free m0 2
      have f3 := hs6.free m0 3
      have f4 := hs6.free m0 4
      have o0 := hs6.cell m2 0
      have o1 := hs6.cell m2 1
      have o2 := hs6.cell m2 2
      have o3 := hs6.cell m2 3
      have o4 := hs6.cell m2 4
      have o5 := hs6.cell m2 5
      have u0 := hs6.cell m1 0
      have u1 := hs6.cell m1 1
      have u2 := hs6.cell m1 2
      have u3 := hs6.cell m1 3
      have u4 := hs6.cell m1 4
      have v0 := hs6.free m1 0
      have v1 := hs6.free m1 1
      have v2 := hs6.free m1 2
      have v3 := hs6.free m1 3
      have v4 := hs6.free m1 4
      have hy := Sat.setCell (Sat.setCell (Sat.setCell (Sat.setCell (Sat.setCell (Sat.swap hs6) 0 (.int .i64 (1 + 2))) 1 (.int .i64 (p9))) 2 (.int .i64 (1 + g9))) 3 (.int .i64 (p3))) 4 ((.slice a9 128 c9))
      go_wp2_with fail
      refine bodyPost_ret (v := rqV ⟨1 + 2, p9, 1 + g9, p3, bl⟩ ((.slice a9 128 c9))) (by simp [results, Tryz.results12, go_sem, rqV, *]) rfl ?_
      replace hy := hy.tail.tail.tail
      exact ⟨_, _, _, rfl, (by rw [HBL.out]; exact hr9), hy⟩
    clear t0 t1 t2 t3 t4 f0 f1 f2 f3 f4 o0 o1 o2 o3 o4 o5
    have t0 := hs5.cell m0 0
    have t1 := hs5.cell m0 1
    have t2 := hs5.cell m0 2
    have t3 := hs5.cell m0 3
    have t4 := hs5.cell m0 4
    have f0 := hs5.free m0 0
    have f1 := hs5.free m0 1
    have f2 := hs5.free m0 2
    have f3 := hs5.free m0 3
    have f4 := hs5.free m0 4
    have o0 := hs5.cell m2 0
    have o1 := hs5.cell m2 1
    have o2 := hs5.cell m2 2
    have o3 := hs5.cell m2 3
    have o4 := hs5.cell m2 4
    have o5 := hs5.cell m2 5
    have u0 := hs5.cell m1 0
    have u1 := hs5.cell m1 1
    have u2 := hs5.cell m1 2
    have u3 := hs5.cell m1 3
    have u4 := hs5.cell m1 4
    have v0 := hs5.free m1 0
    have v1 := hs5.free m1 1
    have v2 := hs5.free m1 2
    have v3 := hs5.free m1 3
    have v4 := hs5.free m1 4
    have hy := Sat.setCell (Sat.setCell (Sat.setCell (Sat.setCell (Sat.setCell (Sat.swap hs5) 0 (.int .i64 (1 + 2))) 1 (.int .i64 (p1))) 2 (.int .i64 (1 + g9))) 3 (.int .i64 (p3))) 4 ((.slice a9 128 c9))
    go_wp2_with fail
    refine bodyPost_ret (v := rqV ⟨1 + 2, p1, 1 + g9, p3, bl⟩ ((.slice a9 128 c9))) (by simp [results, Tryz.results12, go_sem, rqV, *]) rfl ?_
    replace hy := hy.tail.tail.tail
    exact ⟨_, _, _, rfl, (by rw [HBL.out]; exact hr9), hy⟩
  have q2 : ((1 + p0 : Int) == 2) = false := by simp; omega
  have q3 : ((1 + p0 : Int) == 3) = false := by simp; omega
  have hs5 := hs4
  clear hs4
  have t0 := hs5.cell m0 0
  have t1 := hs5.cell m0 1
  have t2 := hs5.cell m0 2
  have t3 := hs5.cell m0 3
  have t4 := hs5.cell m0 4
  have f0 := hs5.free m0 0
  have f1 := hs5.free m0 1
  have f2 := hs5.free m0 2
  have f3 := hs5.free m0 3
  have f4 := hs5.free m0 4
  have o0 := hs5.cell m2 0
  have o1 := hs5.cell m2 1
  have o2 := hs5.cell m2 2
  have o3 := hs5.cell m2 3
  have o4 := hs5.cell m2 4
  have o5 := hs5.cell m2 5
  obtain ⟨x0, x1⟩ := handPick_bounds a5 30 (by omega)
  have HPK := Lib.hid (fun w => hand_pick a5 30 w (by omega) (by omega))
  generalize handPick a5 30 = bp at *
  go_wp2_with fail
  refine (HPK.out _).mono ?_; rintro r9 w9 ⟨rfl, rfl⟩
  clear HPK
  by_cases e24 : bp = 24
  · subst e24
    have HP9 := Lib.hid (fun w => hand_pick (wrap64 (a5.tdiv 30)) 9 w (by omega) (by omega))
    obtain ⟨y0, y1⟩ := handPick_bounds (wrap64 (a5.tdiv 30)) 9 (by omega)
    generalize handPick (wrap64 (a5.tdiv 30)) 9 = p9 at *
    go_wp2_with fail
    refine (HP9.out _).mono ?_; rintro r9 w9 ⟨rfl, rfl⟩
    clear HP9
    have hs6 := Sat.setCell hs5 0 (.int .i64 (p9 - 1))
    simp only [List.setIfInBounds_toArray, List.set_cons_zero, List.set_cons_succ] at hs6
    go_upto_region 21 with fail
    refine with_sat hs6 ?_
    clear hs6
    intro w6 hs6
    clear t0 t1 t2 t3 t4 f0 f1 f2 f3 f4 o0 o1 o2 o3 o4 o5
    have t0 := hs6.cell m0 0
    have t1 := hs6.cell m0 1
    have t2 := hs6.cell m0 2
    have t3 := hs6.cell m0 3
    have t4 := hs6.cell m0 4
    have f0 := hs6.free m0 0
    have f1 := hs6.free m0 1
    have f2 := hs6.free m0 2
    have f3 := hs6.free m0 3
    have f4 := hs6.free m0 4
    have o0 := hs6.cell m2 0
    have o1 := hs6.cell m2 1
    have o2 := hs6.cell m2 2
    have o3 := hs6.cell m2 3
    have o4 := hs6.cell m2 4
    have o5 := hs6.cell m2 5
    have u0 := hs6.cell m1 0
    have u1 := hs6.cell m1 1
    have u2 := hs6.cell m1 2
    have u3 := hs6.cell m1 3
    have u4 := hs6.cell m1 4
    have v0 := hs6.free m1 0
    have v1 := hs6.free m1 1
    have v2 := hs6.free m1 2
    have v3 := hs6.free m1 3
    have v4 := hs6.free m1 4
    have hy := Sat.setCell (Sat.setCell (Sat.setCell (Sat.setCell (Sat.setCell (Sat.swap hs6) 0 (.int .i64 (p9 - 1))) 1 (.int .i64 (p1))) 2 (.int .i64 (1 + p2))) 3 (.int .i64 (p3))) 4 (.slice none 0 0)
    go_wp2_with fail
    refine bodyPost_ret (v := rqV ⟨p9 - 1, p1, 1 + p2, p3, []⟩ (.slice none 0 0)) (by simp [results, Tryz.results12, go_sem, rqV, *]) rfl ?_
    replace hy := hy.tail.tail.tail
    exact ⟨_, _, _, rfl, RowA.nil _ _, hy⟩
  by_cases e25 : bp = 25
  · subst e25
    have hs6 := Sat.setCell hs5 1 (.int .i64 a1)
    simp only [List.setIfInBounds_toArray, List.set_cons_zero, List.set_cons_succ] at hs6
    go_upto_region 21 with fail
    refine with_sat hs6 ?_
    clear hs6
    intro w6 hs6
    clear t0 t1 t2 t3 t4 f0 f1 f2 f3 f4 o0 o1 o2 o3 o4 o5
    have t0 := hs6.cell m0 0
    have t1 := hs6.cell m0 1
    have t2 := hs6.cell m0 2
    have t3 := hs6.cell m0 3
    have t4 := hs6.cell m0 4
    have f0 := hs6.free m0 0
    have f1 := hs6.free m0 1
    have f2 := hs6.free m0 2
    have f3 := hs6.free m0 3
    have f4 := hs6.free m0 4
    have o0 := hs6.cell m2 0
    have o1 := hs6.cell m2 1
    have o2 := hs6.cell m2 2
    have o3 := hs6.cell m2 3
    have o4 := hs6.cell m2 4
    have o5 := hs6.cell m2 5
    have u0 := hs6.cell m1 0
    have u1 := hs6.cell m1 1
    have u2 := hs6.cell m1 2
    have u3 := hs6.cell m1 3
    have u4 := hs6.cell m1 4
    have v0 := hs6.free m1 0
    have v1 := hs6.free m1 1
    have v2 := hs6.free m1 2
    have v3 := hs6.free m1 3
    have v4 := hs6.free m1 4
    have hy := Sat.setCell (Sat.setCell (Sat.setCell (Sat.setCell (Sat.setCell (Sat.swap hs6) 0 (.int .i64 (1 + p0))) 1 (.int .i64 (a1))) 2 (.int .i64 (1 + p2))) 3 (.int .i64 (p3))) 4 (.slice none 0 0)
    go_wp2_with fail
    refine bodyPost_ret (v := rqV ⟨1 + p0, a1, 1 + p2, p3, []⟩ (.slice none 0 0)) (by simp [results, Tryz.results12, go_sem, rqV, *]) rfl ?_
    replace hy := hy.tail.tail.tail
    exact ⟨_, _, _, rfl, RowA.nil _ _, hy⟩
  by_cases e26 : bp = 26
  · subst e26
    have hs6 := Sat.setCell hs5 2 (.int .i64 a2)
    simp only [List.setIfInBounds_toArray, List.set_cons_zero, List.set_cons_succ] at hs6
    go_upto_region 21 with fail
    refine with_sat hs6 ?_
    clear hs6
    intro w6 hs6
    clear t0 t1 t2 t3 t4 f0 f1 f2 f3 f4 o0 o1 o2 o3 o4 o5
    have t0 := hs6.cell m0 0
    have t1 := hs6.cell m0 1
    have t2 := hs6.cell m0 2
    have t3 := hs6.cell m0 3
    have t4 := hs6.cell m0 4
    have f0 := hs6.free m0 0
    have f1 := hs6.free m0 1
    have f2 := hs6.free m0 2
    have f3 := hs6.free m0 3
    have f4 := hs6.free m0 4
    have o0 := hs6.cell m2 0
    have o1 := hs6.cell m2 1
    have o2 := hs6.cell m2 2
    have o3 := hs6.cell m2 3
    have o4 := hs6.cell m2 4
    have o5 := hs6.cell m2 5
    have u0 := hs6.cell m1 0
    have u1 := hs6.cell m1 1
    have u2 := hs6.cell m1 2
    have u3 := hs6.cell m1 3
    have u4 := hs6.cell m1 4
    have v0 := hs6.free m1 0
    have v1 := hs6.free m1 1
    have v2 := hs6.free m1 2
    have v3 := hs6.free m1 3
    have v4 := hs6.free m1 4
    have hy := Sat.setCell (Sat.setCell (Sat.setCell (Sat.setCell (Sat.setCell (Sat.swap hs6) 0 (.int .i64 (1 + p0))) 1 (.int .i64 (p1))) 2 (.int .i64 (a2))) 3 (.int .i64 (p3))) 4 (.slice none 0 0)
    go_wp2_with fail
    refine bodyPost_ret (v := rqV ⟨1 + p0, p1, a2, p3, []⟩ (.slice none 0 0)) (by simp [results, Tryz.results12, go_sem, rqV, *]) rfl ?_
    replace hy := hy.tail.tail.tail
    exact ⟨_, _, _, rfl, RowA.nil _ _, hy⟩
  by_cases e27 : bp = 27
  · subst e27
    have hs6 := Sat.setCell hs5 3 (.int .i64 a3)
    simp only [List.setIfInBounds_toArray, List.set_cons_zero, List.set_cons_succ] at hs6
    go_upto_region 21 with fail
    refine with_sat hs6 ?_
    clear hs6
    intro w6 hs6
    clear t0 t1 t2 t3 t4 f0 f1 f2 f3 f4 o0 o1 o2 o3 o4 o5
    have t0 := hs6.cell m0 0
    have t1 := hs6.cell m0 1
    have t2 := hs6.cell m0 2
    have t3 := hs6.cell m0 3
    have t4 := hs6.cell m0 4
    have f0 := hs6.free m0 0
    have f1 := hs6.free m0 1
    have f2 := hs6.free m0 2
    have f3 := hs6.free m0 3
    have f4 := hs6.free m0 4
    have o0 := hs6.cell m2 0
    have o1 := hs6.cell m2 1
    have o2 := hs6.cell m2 2
    have o3 := hs6.cell m2 3
    have o4 := hs6.cell m2 4
    have o5 := hs6.cell m2 5
    have u0 := hs6.cell m1 0
    have u1 := hs6.cell m1 1
    have u2 := hs6.cell m1 2
    have u3 := hs6.cell m1 3
    have u4 := hs6.cell m1 4
    have v0 := hs6.free m1 0
    have v1 := hs6.free m1 1
    have v2 := hs6.free m1 2
    have v3 := hs6.free m1 3
    have v4 := hs6.free m1 4
    have hy := Sat.setCell (Sat.setCell (Sat.setCell (Sat.setCell (Sat.setCell (Sat.swap hs6) 0 (.int .i64 (1 + p0))) 1 (.int .i64 (p1))) 2 (.int .i64 (1 + p2))) 3 (.int .i64 (a3))) 4 (.slice none 0 0)
    go_wp2_with fail
    refine bodyPost_ret (v := rqV ⟨1 + p0, p1, 1 + p2, a3, []⟩ (.slice none 0 0)) (by simp [results, Tryz.results12, go_sem, rqV, *]) rfl ?_
    replace hy := hy.tail.tail.tail
    exact ⟨_, _, _, rfl, RowA.nil _ _, hy⟩
  by_cases e28 : bp = 28
  · subst e28
    have HP9 := Lib.hid (fun w => hand_pick (wrap64 (a5.tdiv 30)) 140 w (by omega) (by omega))
    obtain ⟨y0, y1⟩ := handPick_bounds (wrap64 (a5.tdiv 30)) 140 (by omega)
    obtain ⟨nn, hnn⟩ : ∃ nn : Nat, handPick (wrap64 (a5.tdiv 30)) 140 = nn := ⟨(handPick (wrap64 (a5.tdiv 30)) 140).toNat, by omega⟩
    rw [hnn] at HP9 y0 y1
    have HBY := Lib.hid (bytes_of a4 nn W _ _ (by omega) hs5.drew)
    have HBL := Lib.hid (bytesOf_length a4 nn)
    generalize bytesOf a4 nn = bl at *
    clear hs5 hnn
    go_wp2_with fail
    refine wp_region_one [6, 8] [] [] [] [0, 1, 2, 3, 4, 5, 6, 7, 8] (by kernel_rfl) (by kernel_rfl) ?_
    repeat (first | (refine can_pu1 rfl rfl rfl rfl rfl rfl (fun K hK => ?_); go_big_quiet_op; refine hK _ ?_; clear hK K) | (refine can_st1 rfl rfl rfl rfl rfl rfl (fun K hK => ?_); go_big_quiet_op; refine hK _ ?_; clear hK K) | (refine can_early1 rfl rfl rfl rfl rfl (fun K hK => ?_); go_big_quiet_op; refine hK _ ?_; clear hK K) | (refine can_skip rfl rfl rfl ?_; simp only [Act.put, List.setIfInBounds_toArray, List.set_cons_zero, List.set_cons_succ]))
    refine can_call1 rfl rfl rfl rfl (by (intro w; go_simp); (try (repeat' apply And.intro)); all_goals rfl) ((HP9.out _).mono fun e w' h => ⟨h.1, h.2.symm⟩) ?_; simp only [Act.put, List.setIfInBounds_toArray, List.set_cons_zero, List.set_cons_succ]
    repeat (first | (refine can_pu1 rfl rfl rfl rfl rfl rfl (fun K hK => ?_); go_big_quiet_op; refine hK _ ?_; clear hK K) | (refine can_st1 rfl rfl rfl rfl rfl rfl (fun K hK => ?_); go_big_quiet_op; refine hK _ ?_; clear hK K) | (refine can_early1 rfl rfl rfl rfl rfl (fun K hK => ?_); go_big_quiet_op; refine hK _ ?_; clear hK K) | (refine can_skip rfl rfl rfl ?_; simp only [Act.put, List.setIfInBounds_toArray, List.set_cons_zero, List.set_cons_succ]))
    refine can_act1 rfl rfl rfl (fun K hK => ?_)
    go_wp2_with fail
    refine HBY.out.mono ?_; rintro r9 w9 ⟨v9, R9, rfl, hr9, hs9⟩
    apply hK
    clear hK HBY HP9
    have hsA := Sat.use (M := cellsA z3 #[.int .i64 (1 + p0), .int .i64 (p1), .int .i64 (1 + p2), .int .i64 (p3), .slice none 0 0] 37 :: (cellsA (z + 1) #[.int .i64 0, .int .i64 0, .int .i64 0, .int .i64 0, .slice none 0 0] 37 :: (cellsA z #[.int .i64 a0, .int .i64 a1, .int .i64 a2, .int .i64 a3, .int .i64 a4, .int .i64 a5] 29 :: (R9 ++ L)))) hs9 (by intro x; simp only [cnt_append, cnt_cons, cnt_nil]; omega)
    clear t0 t1 t2 t3 t4 f0 f1 f2 f3 f4 o0 o1 o2 o3 o4 o5
    have t4 := hsA.cell m0 4
    have f4 := hsA.free m0 4
    have hs6 := Sat.setCell hsA 4 v9
    obtain ⟨a9, c9, rfl⟩ := Ch.RowA.slice hr9
    clear hs9 hsA
    repeat (first | (refine can_pu1 rfl rfl rfl rfl rfl rfl (fun K hK => ?_); go_big_quiet_op; refine hK _ ?_; clear hK K) | (refine can_st1 rfl rfl rfl rfl rfl rfl (fun K hK => ?_); go_big_quiet_op; refine hK _ ?_; clear hK K) | (refine can_early1 rfl rfl rfl rfl rfl (fun K hK => ?_); go_big_quiet_op; refine hK _ ?_; clear hK K) | (refine can_skip rfl rfl rfl ?_; simp only [Act.put, List.setIfInBounds_toArray, List.set_cons_zero, List.set_cons_succ]))
    refine can_act1 rfl rfl rfl (fun K hK => ?_)
    go_wp2_with fail
    refine can_end1 ?_; (try simp only [Exit.then])
    simp only [List.setIfInBounds_toArray, List.set_cons_zero, List.set_cons_succ] at hs6
    refine with_sat hs6 ?_
    clear hs6 t4 f4
    intro w6 hs6
    have t0 := hs6.cell m0 0
    have t1 := hs6.cell m0 1
    have t2 := hs6.cell m0 2
    have t3 := hs6.cell m0 3
    have t4 := hs6.cell m0 4
    have f0 := hs6.free m0 0
    have f1 := hs6.free m0 1
    have f2 := hs6.free m0 2
    have f3 := hs6.free m0 3
    have f4 := hs6.free m0 4
    have o0 := hs6.cell m2 0
    have o1 := hs6.cell m2 1
    have o2 := hs6.cell m2 2
    have o3 := hs6.cell m2 3
    have o4 := hs6.cell m2 4
    have o5 := hs6.cell m2 5
    have u0 := hs6.cell m1 0
    have u1 := hs6.cell m1 1
    have u2 := hs6.cell m1 2
    have u3 := hs6.cell m1 3
    have u4 := hs6.cell m1 4
    have v0 := hs6.free m1 0
    have v1 := hs6.free m1 1
    have v2 := hs6.free m1 2
    have v3 := hs6.free m1 3
    have v4 := hs6.free m1 4
    have hy := Sat.setCell (Sat.setCell (Sat.setCell (Sat.setCell (Sat.setCell (Sat.swap hs6) 0 (.int .i64 (1 + p0))) 1 (.int .i64 (p1))) 2 (.int .i64 (1 + p2))) 3 (.int .i64 (p3))) 4 ((.slice a9 nn c9))
    go_wp2_with fail
    refine bodyPost_ret (v := rqV ⟨1 + p0, p1, 1 + p2, p3, bl⟩ ((.slice a9 nn c9))) (by simp [results, Tryz.results12, go_sem, rqV, *]) rfl ?_
    replace hy := hy.tail.tail.tail
    exact ⟨_, _, _, rfl, (by rw [HBL.out]; exact hr9), hy⟩
  by_cases e29 : bp = 29
  · subst e29
    have HP9 := Lib.hid (fun w => hand_pick a1 43 w (by omega) (by omega))
    generalize handPick a1 43 = p9 at *
    go_wp2_with fail
    refine (HP9.out _).mono ?_; rintro r9 w9 ⟨rfl, rfl⟩
    clear HP9
    have hs6 := Sat.setCell hs5 1 (.int .i64 p9)
    simp only [List.setIfInBounds_toArray, List.set_cons_zero, List.set_cons_succ] at hs6
    go_upto_region 21 with fail
    refine with_sat hs6 ?_
    clear hs6
    intro w6 hs6
    clear t0 t1 t2 t3 t4 f0 f1 f2 f3 f4 o0 o1 o2 o3 o4 o5
    have t0 := hs6.cell m0 0
    have t1 := hs6.cell m0 1
    have t2 := hs6.cell m0 2
    have t3 := hs6.cell m0 3
    have t4 := hs6.cell m0 4
    have f0 := hs6.free m0 0
    have f1 := hs6.free m0 1
    have f2 := hs6.free m0 2
    have f3 := hs6.free m0 3
    have f4 := hs6.free m0 4
    have o0 := hs6.cell m2 0
    have o1 := hs6.cell m2 1
    have o2 := hs6.cell m2 2
    have o3 := hs6.cell m2 3
    have o4 := hs6.cell m2 4
    have o5 := hs6.cell m2 5
    have u0 := hs6.cell m1 0
    have u1 := hs6.cell m1 1
    have u2 := hs6.cell m1 2
    have u3 := hs6.cell m1 3
    have u4 := hs6.cell m1 4
    have v0 := hs6.free m1 0
    have v1 := hs6.free m1 1
    have v2 := hs6.free m1 2
    have v3 := hs6.free m1 3
    have v4 := hs6.free m1 4
    have hy := Sat.setCell (Sat.setCell (Sat.setCell (Sat.setCell (Sat.setCell (Sat.swap hs6) 0 (.int .i64 (1 + p0))) 1 (.int .i64 (p9))) 2 (.int .i64 (1 + p2))) 3 (.int .i64 (p3))) 4 (.slice none 0 0)
    go_wp2_with fail
    refine bodyPost_ret (v := rqV ⟨1 + p0, p9, 1 + p2, p3, []⟩ (.slice none 0 0)) (by simp [results, Tryz.results12, go_sem, rqV, *]) rfl ?_
    replace hy := hy.tail.tail.tail
    exact ⟨_, _, _, rfl, RowA.nil _ _, hy⟩
  clear t0 t1 t2 t3 t4 f0 f1 f2 f3 f4 o0 o1 o2 o3 o4 o5
  have t0 := hs5.cell m0 0
  have t1 := hs5.cell m0 1
  have t2 := hs5.cell m0 2
  have t3 := hs5.cell m0 3
  have t4 := hs5.cell m0 4
  have f0 := hs5.free m0 0
  have f1 := hs5.free m0 1
  have f2 := hs5.free m0 2
  have f3 := hs5.free m0 3
  have f4 := hs5.free m0 4
  have o0 := hs5.cell m2 0
  have o1 := hs5.cell m2 1
  have o2 := hs5.cell m2 2
  have o3 := hs5.cell m2 3
  have o4 := hs5.cell m2 4
  have o5 := hs5.cell m2 5
  have u0 := hs5.cell m1 0
  have u1 := hs5.cell m1 1
  have u2 := hs5.cell m1 2
  have u3 := hs5.cell m1 3
  have u4 := hs5.cell m1 4
  have v0 := hs5.free m1 0
  have v1 := hs5.free m1 1
  have v2 := hs5.free m1 2
  have v3 := hs5.free m1 3
  have v4 := hs5.free m1 4
  have hy := Sat.setCell (Sat.setCell (Sat.setCell (Sat.setCell (Sat.setCell (Sat.swap hs5) 0 (.int .i64 (1 + p0))) 1 (.int .i64 (p1))) 2 (.int .i64 (1 + p2))) 3 (.int .i64 (p3))) 4 (.slice none 0 0)
  go_wp2_with fail
  refine bodyPost_ret (v := rqV ⟨1 + p0, p1, 1 + p2, p3, []⟩ (.slice none 0 0)) (by simp [results, Tryz.results12, go_sem, rqV, *]) rfl ?_
  replace hy := hy.tail.tail.tail
  exact ⟨_, _, _, rfl, RowA.nil _ _, hy⟩
end Go.Proofs.YtekbbpfnkbanjaaGreat.Ch
