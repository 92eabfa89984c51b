/-
  The document's piece.
-/
import Derived.Test.YtdkhgkkdnjejmaaRcF
import Derived.Test.YtdkhgkkdnjejmaaChL
namespace Go.Proofs.Ytdkhgkkdnjejmaa.Ch
set_option linter.unusedSimpArgs false
open Go Go.RowKit Go.Sl Go.BigFrame
set_option linter.unusedVariables false

set_option maxRecDepth 100000 in
set_option maxHeartbeats 4000000 in
theorem ref_piece (g off cap : Nat) (b : List UInt8) (W w : World) (L : List Atom) (hs : Sat W w L) (h8 : 8 ≤ b.length) (hl : b.length < 1000000) (hcap : b.length ≤ cap)
    (hcell : ∀ y, Sat W y L → ∀ k u, b[k]? = some u → y.cell? ((⟨g, off, none⟩ : Addr).add k) = some (.int .u8 (u.toNat : Int))) :
    Calls Try.prog 79 #[.slice (some ⟨g, off, none⟩) b.length cap] w fun e w' => ∃ dv R, e = .returned (pcV (pieceOf b) dv) ∧ RowA 5 1 dv (pieceOf b).data.length (bts (pieceOf b).data) R ∧ Sat W w' (R ++ L) := by
  obtain ⟨u0, hu0⟩ : ∃ c, b[0]? = some c := ⟨_, List.getElem?_eq_getElem (by omega)⟩
  obtain ⟨u7, hu7⟩ : ∃ c, b[7]? = some c := ⟨_, List.getElem?_eq_getElem (by omega)⟩
  have hpo : pieceOf b = ⟨u0.toNat, numB ((b.drop 1).take 6), u7.toNat, b.drop 8⟩ := by
    unfold pieceOf
    rw [getD_of hu0, getD_of hu7]
  rw [hpo]
  clear hpo
  simp only []
  have v0 := u8_lt u0
  have v7 := u8_lt u7
  have x0 : (0 : Int) ≤ u0.toNat := by omega
  have x7 : (0 : Int) ≤ u7.toNat := by omega
  have hs2 := hs.newCells #[.int .i64 0, .int .i64 0, .int .i64 0, .slice none 0 0] 45
  obtain ⟨LL, hLL⟩ : ∃ LL, LL = cellsA w.heap.size #[.int .i64 0, .int .i64 0, .int .i64 0, .slice none 0 0] 45 :: L := ⟨_, rfl⟩
  have HLL := Lib.hid hLL
  have hcell2 : ∀ y, Sat W y LL → ∀ k u, b[k]? = some u → y.cell? ((⟨g, off, none⟩ : Addr).add k) = some (.int .u8 (u.toNat : Int)) := fun y hy => hcell y (by rw [hLL] at hy; exact hy.tail)
  rw [← hLL] at hs2
  have e0 : ∀ y : Of W LL, y.v.cell? ⟨g, off, none⟩ = some (.int .u8 (u0.toNat : Int)) := fun y => hcell2 y.v y.s 0 _ hu0
  have e7 : ∀ y : Of W LL, y.v.cell? ⟨g, off + 7, none⟩ = some (.int .u8 (u7.toNat : Int)) := fun y => hcell2 y.v y.s 7 _ hu7
  have hl1 : ((b.drop 1).take 6).length ≤ 6 := by simp; omega
  have hdl : (b.drop 8).length = b.length - 8 := by simp
  have hnum : ∀ y, Sat W y LL → ∀ c', Reads y (.slice (some ⟨g, off + 1, none⟩) 6 c') ((b.drop 1).take 6).length (bts ((b.drop 1).take 6)) := fun y hy c' => reads_sub (hcell2 y hy) 1 6 c' (by omega) (add_off g off 1 none (by omega))
  have hdat : ∀ y, Sat W y LL → ∀ c', Reads y (.slice (some ⟨g, off + 8, none⟩) (b.length - 8) c') (b.drop 8).length (bts (b.drop 8)) := fun y hy c' => by
    have h := reads_sub (hcell2 y hy) 8 (b.length - 8) c' (by omega) (add_off g off 8 none (by omega))
    rw [List.take_of_length_le (by simp)] at h
    exact h
  generalize (b.drop 1).take 6 = M6 at *
  generalize b.drop 8 = D at *
  have HNUM := Lib.hid hnum
  have HDAT := Lib.hid hdat
  have HDL := Lib.hid hdl
  generalize b.length = n at *
  have b1 : (8 : Int) ≤ n := by omega
  have b2 : (7 : Int) < n := by omega
  have b3 : (0 : Int) < n := by omega
  have b4 : (7 : Int) ≤ cap := by omega
  clear hcell hcell2 hnum hdat hdl hu0 hu7 hLL hs
  rcases Nat.lt_or_ge 8 cap with hc | hc
  · have hc2 : ¬ cap = 8 := by omega
    clear hc
    go_enter Try.func79, Try.ntmps79
    go_wp2_with fail
    refine wp_region_plan [6, 11, 14, 16] [0, 1, 2, 3, 4, 5, 7, 8, 9, 10, 12, 13] [0, 1, 3, 4, 5, 7, 8, 10, 12, 13] [6, 11, 14] [0, 1, 2, 3, 4, 5, 7, 8, 9, 10, 12, 13] (.two [6, 11, 14, 15, 16] .nil [11, 6, 14, 15, 16] .nil) (Held W LL) (by kernel_rfl) (by kernel_rfl) ?_ ?_
    · exact Held.mk hs2.drew
    have hne : Nonempty (Of W LL) := ⟨⟨_, hs2⟩⟩
    have hsT := hs2.drew
    repeat (first | (refine can_pu1 rfl rfl rfl rfl rfl rfl (fun K hK => ?_); go_big_quiet_op; refine hK _ ?_; clear hK K) | (refine can_st1 rfl rfl rfl rfl rfl rfl (fun K hK => ?_); go_big_quiet_op; refine hK _ ?_; clear hK K) | (refine can_early1 rfl rfl rfl rfl rfl (fun K hK => ?_); go_big_quiet_op; refine hK _ ?_; clear hK K) | (refine can_skip rfl rfl rfl ?_; simp only [Act.put, List.setIfInBounds_toArray, List.set_cons_zero, List.set_cons_succ]))
    clear e0 e7 hne
    generalize w.heap.size = z at *
    refine with_sat hsT ?_
    clear hsT hs2
    intro wt hsT
    refine can_two ?_ ?_
    · skip
      refine can_actS rfl rfl rfl rfl (fun K hK => ?_)
      go_wp2_with fail
      refine (ref_from _ M6 _ (HNUM.out _ hsT _) hl1).mono ?_; rintro r w4 ⟨rfl, rfl⟩
      apply hK
      refine ⟨Held.mk hsT, ?_⟩
      clear hK
      refine can_actS rfl rfl rfl rfl (fun K hK => ?_)
      go_wp2_with fail
      refine ⟨Held.mk (Sat.alloc hsT _), ?_⟩
      have hs6 := none_sat hsT
      generalize wt.heap.size = z7 at *
      refine with_sat hs6 ?_
      clear hs6
      intro w6 hs6
      refine can_actS rfl rfl rfl rfl (fun K hK => ?_)
      refine wp_append_u8 rfl [] D rfl rfl (none_row _) hs6 (HDAT.out _ hs6.right _) (by rw [HDL.out]; show 0 + (n - 8) < 1000000; omega) (fun v7 w7 R7 hr7 hs7 => ?_)
      apply hK
      refine ⟨Held.mk hs7.right, ?_⟩
      clear hK
      simp only [Act.put, List.setIfInBounds_toArray, List.set_cons_zero, List.set_cons_succ]
      rw [List.nil_append] at hr7
      obtain ⟨a7, c7, rfl⟩ := Ch.RowA.slice hr7
      repeat (first | (refine can_pu1 rfl rfl rfl rfl rfl rfl (fun K hK => ?_); go_big_quiet_op; refine hK _ ?_; clear hK K) | (refine can_st1 rfl rfl rfl rfl rfl rfl (fun K hK => ?_); go_big_quiet_op; refine hK _ ?_; clear hK K) | (refine can_early1 rfl rfl rfl rfl rfl (fun K hK => ?_); go_big_quiet_op; refine hK _ ?_; clear hK K) | (refine can_skip rfl rfl rfl ?_; simp only [Act.put, List.setIfInBounds_toArray, List.set_cons_zero, List.set_cons_succ]))
      rw [HLL.out] at hs7
      have hs8 := Sat.use (M := cellsA z #[.int .i64 0, .int .i64 0, .int .i64 0, .slice none 0 0] 45 :: (R7 ++ L)) hs7 (by intro x; simp only [cnt_append, cnt_cons, cnt_nil]; omega)
      clear hs7 hs6
      have g0 := hs8.cell m0 0
      have g1 := hs8.cell m0 1
      have g2 := hs8.cell m0 2
      have g3 := hs8.cell m0 3
      have j0 := hs8.free m0 0
      have j1 := hs8.free m0 1
      have j2 := hs8.free m0 2
      have j3 := hs8.free m0 3
      refine can_actF rfl rfl rfl rfl (fun K hK => ?_)
      go_wp2_with fail
      have hz := Sat.setCell (Sat.setCell (Sat.setCell (Sat.setCell hs8 0 (.int .i64 u0.toNat)) 1 (.int .i64 (numB M6))) 2 (.int .i64 u7.toNat)) 3 (.slice a7 (D : List UInt8).length c7)
      simp only [List.setIfInBounds_toArray, List.set_cons_zero, List.set_cons_succ] at hz
      refine can_end1 ?_; (try simp only [Exit.then])
      refine with_sat hz ?_
      clear hz hs8 g0 g1 g2 g3 j0 j1 j2 j3
      intro w9 hs9
      have g0 := hs9.cell m0 0
      have g1 := hs9.cell m0 1
      have g2 := hs9.cell m0 2
      have g3 := hs9.cell m0 3
      go_wp2_with fail
      refine bodyPost_ret (v := pcV ⟨u0.toNat, numB M6, u7.toNat, D⟩ (.slice a7 (D : List UInt8).length c7)) (by simp [results, Try.results79, go_sem, pcV, *]) rfl ?_
      exact ⟨_, R7, rfl, hr7, hs9.tail⟩
    · skip
      refine can_actS rfl rfl rfl rfl (fun K hK => ?_)
      go_wp2_with fail
      refine ⟨Held.mk (Sat.alloc hsT _), ?_⟩
      have hs6 := none_sat hsT
      generalize wt.heap.size = z7 at *
      refine with_sat hs6 ?_
      clear hs6
      intro w6 hs6
      refine can_actS rfl rfl rfl rfl (fun K hK => ?_)
      go_wp2_with fail
      refine (ref_from _ M6 _ (HNUM.out _ hs6.right _) hl1).mono ?_; rintro r w4 ⟨rfl, rfl⟩
      apply hK
      refine ⟨Held.mk hs6.right, ?_⟩
      clear hK
      refine can_actS rfl rfl rfl rfl (fun K hK => ?_)
      refine wp_append_u8 rfl [] D rfl rfl (none_row _) hs6 (HDAT.out _ hs6.right _) (by rw [HDL.out]; show 0 + (n - 8) < 1000000; omega) (fun v7 w7 R7 hr7 hs7 => ?_)
      apply hK
      refine ⟨Held.mk hs7.right, ?_⟩
      clear hK
      simp only [Act.put, List.setIfInBounds_toArray, List.set_cons_zero, List.set_cons_succ]
      rw [List.nil_append] at hr7
      obtain ⟨a7, c7, rfl⟩ := Ch.RowA.slice hr7
      repeat (first | (refine can_pu1 rfl rfl rfl rfl rfl rfl (fun K hK => ?_); go_big_quiet_op; refine hK _ ?_; clear hK K) | (refine can_st1 rfl rfl rfl rfl rfl rfl (fun K hK => ?_); go_big_quiet_op; refine hK _ ?_; clear hK K) | (refine can_early1 rfl rfl rfl rfl rfl (fun K hK => ?_); go_big_quiet_op; refine hK _ ?_; clear hK K) | (refine can_skip rfl rfl rfl ?_; simp only [Act.put, List.setIfInBounds_toArray, List.set_cons_zero, List.set_cons_succ]))
      rw [HLL.out] at hs7
      have hs8 := Sat.use (M := cellsA z #[.int .i64 0, .int .i64 0, .int .i64 0, .slice none 0 0] 45 :: (R7 ++ L)) hs7 (by intro x; simp only [cnt_append, cnt_cons, cnt_nil]; omega)
      clear hs7 hs6
      have g0 := hs8.cell m0 0
      have g1 := hs8.cell m0 1
      have g2 := hs8.cell m0 2
      have g3 := hs8.cell m0 3
      have j0 := hs8.free m0 0
      have j1 := hs8.free m0 1
      have j2 := hs8.free m0 2
      have j3 := hs8.free m0 3
      refine can_actF rfl rfl rfl rfl (fun K hK => ?_)
      go_wp2_with fail
      have hz := Sat.setCell (Sat.setCell (Sat.setCell (Sat.setCell hs8 0 (.int .i64 u0.toNat)) 1 (.int .i64 (numB M6))) 2 (.int .i64 u7.toNat)) 3 (.slice a7 (D : List UInt8).length c7)
      simp only [List.setIfInBounds_toArray, List.set_cons_zero, List.set_cons_succ] at hz
      refine can_end1 ?_; (try simp only [Exit.then])
      refine with_sat hz ?_
      clear hz hs8 g0 g1 g2 g3 j0 j1 j2 j3
      intro w9 hs9
      have g0 := hs9.cell m0 0
      have g1 := hs9.cell m0 1
      have g2 := hs9.cell m0 2
      have g3 := hs9.cell m0 3
      go_wp2_with fail
      refine bodyPost_ret (v := pcV ⟨u0.toNat, numB M6, u7.toNat, D⟩ (.slice a7 (D : List UInt8).length c7)) (by simp [results, Try.results79, go_sem, pcV, *]) rfl ?_
      exact ⟨_, R7, rfl, hr7, hs9.tail⟩
  · obtain rfl : cap = 8 := by omega
    obtain rfl : n = 8 := by omega
    obtain rfl : D = [] := List.length_eq_zero_iff.1 HDL.out
    have hdat : ∀ y, Sat W y LL → ∀ c', Reads y (.slice (some ⟨g, off, none⟩) (8 - 8) c') ([] : List UInt8).length (bts []) := fun y _ c' => .inr ⟨_, _, rfl, fun j u hu => by simp [bts] at hu⟩
    clear HDAT
    have HDAT := Lib.hid hdat
    clear hdat
    clear hc
    go_enter Try.func79, Try.ntmps79
    go_wp2_with fail
    refine wp_region_plan [6, 11, 14, 16] [0, 1, 2, 3, 4, 5, 7, 8, 9, 10, 12, 13] [0, 1, 3, 4, 5, 7, 8, 10, 12, 13] [6, 11, 14] [0, 1, 2, 3, 4, 5, 7, 8, 9, 10, 12, 13] (.two [6, 11, 14, 15, 16] .nil [11, 6, 14, 15, 16] .nil) (Held W LL) (by kernel_rfl) (by kernel_rfl) ?_ ?_
    · exact Held.mk hs2.drew
    have hne : Nonempty (Of W LL) := ⟨⟨_, hs2⟩⟩
    have hsT := hs2.drew
    repeat (first | (refine can_pu1 rfl rfl rfl rfl rfl rfl (fun K hK => ?_); go_big_quiet_op; refine hK _ ?_; clear hK K) | (refine can_st1 rfl rfl rfl rfl rfl rfl (fun K hK => ?_); go_big_quiet_op; refine hK _ ?_; clear hK K) | (refine can_early1 rfl rfl rfl rfl rfl (fun K hK => ?_); go_big_quiet_op; refine hK _ ?_; clear hK K) | (refine can_skip rfl rfl rfl ?_; simp only [Act.put, List.setIfInBounds_toArray, List.set_cons_zero, List.set_cons_succ]))
    clear e0 e7 hne
    generalize w.heap.size = z at *
    refine with_sat hsT ?_
    clear hsT hs2
    intro wt hsT
    refine can_two ?_ ?_
    · skip
      refine can_actS rfl rfl rfl rfl (fun K hK => ?_)
      go_wp2_with fail
      refine (ref_from _ M6 _ (HNUM.out _ hsT _) hl1).mono ?_; rintro r w4 ⟨rfl, rfl⟩
      apply hK
      refine ⟨Held.mk hsT, ?_⟩
      clear hK
      refine can_actS rfl rfl rfl rfl (fun K hK => ?_)
      go_wp2_with fail
      refine ⟨Held.mk (Sat.alloc hsT _), ?_⟩
      have hs6 := none_sat hsT
      generalize wt.heap.size = z7 at *
      refine with_sat hs6 ?_
      clear hs6
      intro w6 hs6
      refine can_actS rfl rfl rfl rfl (fun K hK => ?_)
      refine wp_append_u8 rfl [] [] rfl rfl (none_row _) hs6 (HDAT.out _ hs6.right _) (by rw [HDL.out]; show 0 + (8 - 8) < 1000000; omega) (fun v7 w7 R7 hr7 hs7 => ?_)
      apply hK
      refine ⟨Held.mk hs7.right, ?_⟩
      clear hK
      simp only [Act.put, List.setIfInBounds_toArray, List.set_cons_zero, List.set_cons_succ]
      rw [List.nil_append] at hr7
      obtain ⟨a7, c7, rfl⟩ := Ch.RowA.slice hr7
      repeat (first | (refine can_pu1 rfl rfl rfl rfl rfl rfl (fun K hK => ?_); go_big_quiet_op; refine hK _ ?_; clear hK K) | (refine can_st1 rfl rfl rfl rfl rfl rfl (fun K hK => ?_); go_big_quiet_op; refine hK _ ?_; clear hK K) | (refine can_early1 rfl rfl rfl rfl rfl (fun K hK => ?_); go_big_quiet_op; refine hK _ ?_; clear hK K) | (refine can_skip rfl rfl rfl ?_; simp only [Act.put, List.setIfInBounds_toArray, List.set_cons_zero, List.set_cons_succ]))
      rw [HLL.out] at hs7
      have hs8 := Sat.use (M := cellsA z #[.int .i64 0, .int .i64 0, .int .i64 0, .slice none 0 0] 45 :: (R7 ++ L)) hs7 (by intro x; simp only [cnt_append, cnt_cons, cnt_nil]; omega)
      clear hs7 hs6
      have g0 := hs8.cell m0 0
      have g1 := hs8.cell m0 1
      have g2 := hs8.cell m0 2
      have g3 := hs8.cell m0 3
      have j0 := hs8.free m0 0
      have j1 := hs8.free m0 1
      have j2 := hs8.free m0 2
      have j3 := hs8.free m0 3
      refine can_actF rfl rfl rfl rfl (fun K hK => ?_)
      go_wp2_with fail
      have hz := Sat.setCell (Sat.setCell (Sat.setCell (Sat.setCell hs8 0 (.int .i64 u0.toNat)) 1 (.int .i64 (numB M6))) 2 (.int .i64 u7.toNat)) 3 (.slice a7 ([] : List UInt8).length c7)
      simp only [List.setIfInBounds_toArray, List.set_cons_zero, List.set_cons_succ] at hz
      refine can_end1 ?_; (try simp only [Exit.then])
      refine with_sat hz ?_
      clear hz hs8 g0 g1 g2 g3 j0 j1 j2 j3
      intro w9 hs9
      have g0 := hs9.cell m0 0
      have g1 := hs9.cell m0 1
      have g2 := hs9.cell m0 2
      have g3 := hs9.cell m0 3
      go_wp2_with fail
      refine bodyPost_ret (v := pcV ⟨u0.toNat, numB M6, u7.toNat, []⟩ (.slice a7 ([] : List UInt8).length c7)) (by simp [results, Try.results79, go_sem, pcV, *]) rfl ?_
      exact ⟨_, R7, rfl, hr7, hs9.tail⟩
    · skip
      refine can_actS rfl rfl rfl rfl (fun K hK => ?_)
      go_wp2_with fail
      refine ⟨Held.mk (Sat.alloc hsT _), ?_⟩
      have hs6 := none_sat hsT
      generalize wt.heap.size = z7 at *
      refine with_sat hs6 ?_
      clear hs6
      intro w6 hs6
      refine can_actS rfl rfl rfl rfl (fun K hK => ?_)
      go_wp2_with fail
      refine (ref_from _ M6 _ (HNUM.out _ hs6.right _) hl1).mono ?_; rintro r w4 ⟨rfl, rfl⟩
      apply hK
      refine ⟨Held.mk hs6.right, ?_⟩
      clear hK
      refine can_actS rfl rfl rfl rfl (fun K hK => ?_)
      refine wp_append_u8 rfl [] [] rfl rfl (none_row _) hs6 (HDAT.out _ hs6.right _) (by rw [HDL.out]; show 0 + (8 - 8) < 1000000; omega) (fun v7 w7 R7 hr7 hs7 => ?_)
      apply hK
      refine ⟨Held.mk hs7.right, ?_⟩
      clear hK
      simp only [Act.put, List.setIfInBounds_toArray, List.set_cons_zero, List.set_cons_succ]
      rw [List.nil_append] at hr7
      obtain ⟨a7, c7, rfl⟩ := Ch.RowA.slice hr7
      repeat (first | (refine can_pu1 rfl rfl rfl rfl rfl rfl (fun K hK => ?_); go_big_quiet_op; refine hK _ ?_; clear hK K) | (refine can_st1 rfl rfl rfl rfl rfl rfl (fun K hK => ?_); go_big_quiet_op; refine hK _ ?_; clear hK K) | (refine can_early1 rfl rfl rfl rfl rfl (fun K hK => ?_); go_big_quiet_op; refine hK _ ?_; clear hK K) | (refine can_skip rfl rfl rfl ?_; simp only [Act.put, List.setIfInBounds_toArray, List.set_cons_zero, List.set_cons_succ]))
      rw [HLL.out] at hs7
      have hs8 := Sat.use (M := cellsA z #[.int .i64 0, .int .i64 0, .int .i64 0, .slice none 0 0] 45 :: (R7 ++ L)) hs7 (by intro x; simp only [cnt_append, cnt_cons, cnt_nil]; omega)
      clear hs7 hs6
      have g0 := hs8.cell m0 0
      have g1 := hs8.cell m0 1
      have g2 := hs8.cell m0 2
      have g3 := hs8.cell m0 3
      have j0 := hs8.free m0 0
      have j1 := hs8.free m0 1
      have j2 := hs8.free m0 2
      have j3 := hs8.free m0 3
      refine can_actF rfl rfl rfl rfl (fun K hK => ?_)
      go_wp2_with fail
      have hz := Sat.setCell (Sat.setCell (Sat.setCell (Sat.setCell hs8 0 (.int .i64 u0.toNat)) 1 (.int .i64 (numB M6))) 2 (.int .i64 u7.toNat)) 3 (.slice a7 ([] : List UInt8).length c7)
      simp only [List.setIfInBounds_toArray, List.set_cons_zero, List.set_cons_succ] at hz
      refine can_end1 ?_; (try simp only [Exit.then])
      refine with_sat hz ?_
      clear hz hs8 g0 g1 g2 g3 j0 j1 j2 j3
      intro w9 hs9
      have g0 := hs9.cell m0 0
      have g1 := hs9.cell m0 1
      have g2 := hs9.cell m0 2
      have g3 := hs9.cell m0 3
      go_wp2_with fail
      refine bodyPost_ret (v := pcV ⟨u0.toNat, numB M6, u7.toNat, []⟩ (.slice a7 ([] : List UInt8).length c7)) (by simp [results, Try.results79, go_sem, pcV, *]) rfl ?_
      exact ⟨_, R7, rfl, hr7, hs9.tail⟩
end Go.Proofs.Ytdkhgkkdnjejmaa.Ch
