/-
  corbelhand.Piece.
-/
import Derived.Test.YtdkhgkkdnjejmaaChW
namespace Go.Proofs.Ytdkhgkkdnjejmaa.Ch
set_option linter.unusedSimpArgs false
open Go Go.RowKit Go.Sl Go.BigFrame
set_option linter.unusedVariables false

/-- corbelhand.Piece. -/
def handPiece (s g i seed bend : Int) : Pc :=
  let p : Pc := ⟨handPick s 40, 1 + handPick g 9, handPick i 6, bytesOf seed 32⟩
  if handPick bend 24 = 19 then { p with stripe := s }
  else if handPick bend 24 = 20 then { p with gen := g }
  else if handPick bend 24 = 21 then { p with index := i }
  else if handPick bend 24 = 22 then { p with data := bytesOf seed (handPick (bend.tdiv 24) 40).toNat }
  else if handPick bend 24 = 23 then { p with gen := 1 + handPick g 1099511627776 }
  else p

theorem tdiv_wrap (b : Int) (h1 : -9223372036854775808 ≤ b) (h2 : b < 9223372036854775808) : wrap64 (b.tdiv 24) = b.tdiv 24 := by
  have hb : -9223372036854775808 ≤ b.tdiv 24 ∧ b.tdiv 24 < 9223372036854775808 := by
    rcases Int.le_total 0 b with h0 | h0
    · rw [Int.tdiv_eq_ediv_of_nonneg h0]; omega
    · have e : b.tdiv 24 = -((-b).tdiv 24) := by rw [Int.neg_tdiv]; omega
      rw [e, Int.tdiv_eq_ediv_of_nonneg (by omega)]; omega
  generalize b.tdiv 24 = q at *
  unfold wrap64
  omega
set_option maxRecDepth 100000 in
set_option maxHeartbeats 4000000 in
theorem hand_piece (s g i seed bend : Int) (W w : World) (L : List Atom) (hs : Sat W w L) (hb1 : -9223372036854775808 ≤ bend) (hb2 : bend < 9223372036854775808) :
    Calls Try.prog 35 #[.int .i64 s, .int .i64 g, .int .i64 i, .int .i64 seed, .int .i64 bend] w fun e w' => ∃ v R, e = .returned (pcV (handPiece s g i seed bend) v) ∧ RowA 5 1 v (handPiece s g i seed bend).data.length (bts (handPiece s g i seed bend).data) R ∧ Sat W w' (R ++ L) := by
  obtain ⟨P, hP⟩ : ∃ P, P = handPiece s g i seed bend := ⟨_, rfl⟩
  rw [← hP]
  have hP2 := hP
  simp only [handPiece] at hP2
  have HP := Lib.hid hP2
  have hb := bytes_of seed 32 W _ _ (by omega) (hs.newCells #[.int .i64 0, .int .i64 0, .int .i64 0, .slice none 0 0] 45)
  have HB := Lib.hid hb
  have hl := bytesOf_length seed 32
  have HL := Lib.hid hl
  obtain ⟨s1, s2⟩ := handPick_bounds s 40 (by omega)
  obtain ⟨g1, g2⟩ := handPick_bounds g 9 (by omega)
  obtain ⟨i1, i2⟩ := handPick_bounds i 6 (by omega)
  clear hb hl hP hP2 hs
  by_cases h19 : handPick bend 24 = 19
  · skip
    go_enter Try.func35, Try.ntmps35
    go_wp2_with fail
    refine (hand_pick s 40 _ (by omega) (by omega)).mono ?_; rintro r w2 ⟨rfl, rfl⟩
    go_wp2_with fail
    refine (hand_pick g 9 _ (by omega) (by omega)).mono ?_; rintro r w2 ⟨rfl, rfl⟩
    generalize handPick s 40 = S at *
    generalize handPick g 9 = G at *
    go_wp2_with fail
    refine (hand_pick i 6 _ (by omega) (by omega)).mono ?_; rintro r w2 ⟨rfl, rfl⟩
    generalize handPick i 6 = I at *
    go_wp2_with fail
    refine HB.out.mono ?_; rintro r w2 ⟨v, R, rfl, hv, hs2⟩
    generalize w.heap.size = z at *
    obtain ⟨a, c, rfl⟩ := Ch.RowA.slice hv
    generalize bytesOf seed 32 = D at *
    have hs3 := hs2.newCells #[.int .i64 S, .int .i64 (1 + G), .int .i64 I, .slice a 32 c] 45
    obtain ⟨z2, hz2⟩ : ∃ z2, z2 = w2.heap.size := ⟨_, rfl⟩
    rw [← hz2] at hs3
    have hs4 := Sat.use (M := cellsA z2 #[.int .i64 S, .int .i64 (1 + G), .int .i64 I, .slice a 32 c] 45 :: (cellsA z #[.int .i64 0, .int .i64 0, .int .i64 0, .slice none 0 0] 45 :: (R ++ L))) hs3 (by intro x; simp only [cnt_append, cnt_cons, cnt_nil]; omega)
    clear hs2 hs3
    have G1 : 1 + G < 10 := by omega
    have G0 : 0 ≤ 1 + G := by omega
    generalize 1 + G = G' at *
    go_wp2_with fail
    refine (hand_pick bend 24 _ (by omega) (by omega)).mono ?_; rintro r w5 ⟨rfl, rfl⟩
    rw [← hz2]
    refine with_sat hs4 ?_
    clear hs4 hz2
    intro w6 hs6
    have hPP := HP.out
    rw [if_pos h19] at hPP
    have HPP := Lib.hid hPP
    clear hPP HP
    rw [h19]
    clear h19
    have y0 := hs6.cell m0 0
    have y1 := hs6.free m0 0
    have hs7 := Sat.setCell hs6 0 (.int .i64 s)
    simp only [List.setIfInBounds_toArray, List.set_cons_zero, List.set_cons_succ] at hs7
    clear hs6
    have k0 := hs7.cell m0 0
    have k1 := hs7.cell m0 1
    have k2 := hs7.cell m0 2
    have k3 := hs7.cell m0 3
    have c0 := hs7.cell m1 0
    have c1 := hs7.cell m1 1
    have c2 := hs7.cell m1 2
    have c3 := hs7.cell m1 3
    have f0 := hs7.free m1 0
    have f1 := hs7.free m1 1
    have f2 := hs7.free m1 2
    have f3 := hs7.free m1 3
    have hs8 := Sat.setCell (Sat.setCell (Sat.setCell (Sat.setCell (Sat.use (M := cellsA z #[.int .i64 0, .int .i64 0, .int .i64 0, .slice none 0 0] 45 :: (cellsA z2 #[.int .i64 s, .int .i64 G', .int .i64 I, .slice a 32 c] 45 :: (R ++ L))) hs7 (by intro x; simp only [cnt_append, cnt_cons, cnt_nil]; omega)) 0 (.int .i64 s)) 1 (.int .i64 G')) 2 (.int .i64 I)) 3 (.slice a 32 c)
    clear hs7
    go_wp2_with fail
    refine bodyPost_ret (v := .agg #[.int .i64 s, .int .i64 G', .int .i64 I, .slice a 32 c]) (by simp [results, Try.results35, go_sem, *]) rfl ?_
    rw [HPP.out]
    exact ⟨.slice a 32 c, R, rfl, (by show RowA _ 1 _ D.length _ _; rw [HL.out]; exact hv), hs8.use (by intro x; simp only [cnt_append, cnt_cons, cnt_nil]; omega)⟩
  by_cases h20 : handPick bend 24 = 20
  · skip
    go_enter Try.func35, Try.ntmps35
    go_wp2_with fail
    refine (hand_pick s 40 _ (by omega) (by omega)).mono ?_; rintro r w2 ⟨rfl, rfl⟩
    go_wp2_with fail
    refine (hand_pick g 9 _ (by omega) (by omega)).mono ?_; rintro r w2 ⟨rfl, rfl⟩
    generalize handPick s 40 = S at *
    generalize handPick g 9 = G at *
    go_wp2_with fail
    refine (hand_pick i 6 _ (by omega) (by omega)).mono ?_; rintro r w2 ⟨rfl, rfl⟩
    generalize handPick i 6 = I at *
    go_wp2_with fail
    refine HB.out.mono ?_; rintro r w2 ⟨v, R, rfl, hv, hs2⟩
    generalize w.heap.size = z at *
    obtain ⟨a, c, rfl⟩ := Ch.RowA.slice hv
    generalize bytesOf seed 32 = D at *
    have hs3 := hs2.newCells #[.int .i64 S, .int .i64 (1 + G), .int .i64 I, .slice a 32 c] 45
    obtain ⟨z2, hz2⟩ : ∃ z2, z2 = w2.heap.size := ⟨_, rfl⟩
    rw [← hz2] at hs3
    have hs4 := Sat.use (M := cellsA z2 #[.int .i64 S, .int .i64 (1 + G), .int .i64 I, .slice a 32 c] 45 :: (cellsA z #[.int .i64 0, .int .i64 0, .int .i64 0, .slice none 0 0] 45 :: (R ++ L))) hs3 (by intro x; simp only [cnt_append, cnt_cons, cnt_nil]; omega)
    clear hs2 hs3
    have G1 : 1 + G < 10 := by omega
    have G0 : 0 ≤ 1 + G := by omega
    generalize 1 + G = G' at *
    go_wp2_with fail
    refine (hand_pick bend 24 _ (by omega) (by omega)).mono ?_; rintro r w5 ⟨rfl, rfl⟩
    rw [← hz2]
    refine with_sat hs4 ?_
    clear hs4 hz2
    intro w6 hs6
    have hPP := HP.out
    rw [if_neg h19, if_pos h20] at hPP; clear h19
    have HPP := Lib.hid hPP
    clear hPP HP
    rw [h20]
    clear h20
    have y0 := hs6.cell m0 1
    have y1 := hs6.free m0 1
    have hs7 := Sat.setCell hs6 1 (.int .i64 g)
    simp only [List.setIfInBounds_toArray, List.set_cons_zero, List.set_cons_succ] at hs7
    clear hs6
    have k0 := hs7.cell m0 0
    have k1 := hs7.cell m0 1
    have k2 := hs7.cell m0 2
    have k3 := hs7.cell m0 3
    have c0 := hs7.cell m1 0
    have c1 := hs7.cell m1 1
    have c2 := hs7.cell m1 2
    have c3 := hs7.cell m1 3
    have f0 := hs7.free m1 0
    have f1 := hs7.free m1 1
    have f2 := hs7.free m1 2
    have f3 := hs7.free m1 3
    have hs8 := Sat.setCell (Sat.setCell (Sat.setCell (Sat.setCell (Sat.use (M := cellsA z #[.int .i64 0, .int .i64 0, .int .i64 0, .slice none 0 0] 45 :: (cellsA z2 #[.int .i64 S, .int .i64 g, .int .i64 I, .slice a 32 c] 45 :: (R ++ L))) hs7 (by intro x; simp only [cnt_append, cnt_cons, cnt_nil]; omega)) 0 (.int .i64 S)) 1 (.int .i64 g)) 2 (.int .i64 I)) 3 (.slice a 32 c)
    clear hs7
    go_wp2_with fail
    refine bodyPost_ret (v := .agg #[.int .i64 S, .int .i64 g, .int .i64 I, .slice a 32 c]) (by simp [results, Try.results35, go_sem, *]) rfl ?_
    rw [HPP.out]
    exact ⟨.slice a 32 c, R, rfl, (by show RowA _ 1 _ D.length _ _; rw [HL.out]; exact hv), hs8.use (by intro x; simp only [cnt_append, cnt_cons, cnt_nil]; omega)⟩
  by_cases h21 : handPick bend 24 = 21
  · skip
    go_enter Try.func35, Try.ntmps35
    go_wp2_with fail
    refine (hand_pick s 40 _ (by omega) (by omega)).mono ?_; rintro r w2 ⟨rfl, rfl⟩
    go_wp2_with fail
    refine (hand_pick g 9 _ (by omega) (by omega)).mono ?_; rintro r w2 ⟨rfl, rfl⟩
    generalize handPick s 40 = S at *
    generalize handPick g 9 = G at *
    go_wp2_with fail
    refine (hand_pick i 6 _ (by omega) (by omega)).mono ?_; rintro r w2 ⟨rfl, rfl⟩
    generalize handPick i 6 = I at *
    go_wp2_with fail
    refine HB.out.mono ?_; rintro r w2 ⟨v, R, rfl, hv, hs2⟩
    generalize w.heap.size = z at *
    obtain ⟨a, c, rfl⟩ := Ch.RowA.slice hv
    generalize bytesOf seed 32 = D at *
    have hs3 := hs2.newCells #[.int .i64 S, .int .i64 (1 + G), .int .i64 I, .slice a 32 c] 45
    obtain ⟨z2, hz2⟩ : ∃ z2, z2 = w2.heap.size := ⟨_, rfl⟩
    rw [← hz2] at hs3
    have hs4 := Sat.use (M := cellsA z2 #[.int .i64 S, .int .i64 (1 + G), .int .i64 I, .slice a 32 c] 45 :: (cellsA z #[.int .i64 0, .int .i64 0, .int .i64 0, .slice none 0 0] 45 :: (R ++ L))) hs3 (by intro x; simp only [cnt_append, cnt_cons, cnt_nil]; omega)
    clear hs2 hs3
    have G1 : 1 + G < 10 := by omega
    have G0 : 0 ≤ 1 + G := by omega
    generalize 1 + G = G' at *
    go_wp2_with fail
    refine (hand_pick bend 24 _ (by omega) (by omega)).mono ?_; rintro r w5 ⟨rfl, rfl⟩
    rw [← hz2]
    refine with_sat hs4 ?_
    clear hs4 hz2
    intro w6 hs6
    have hPP := HP.out
    rw [if_neg h19, if_neg h20, if_pos h21] at hPP; clear h19 h20
    have HPP := Lib.hid hPP
    clear hPP HP
    rw [h21]
    clear h21
    have y0 := hs6.cell m0 2
    have y1 := hs6.free m0 2
    have hs7 := Sat.setCell hs6 2 (.int .i64 i)
    simp only [List.setIfInBounds_toArray, List.set_cons_zero, List.set_cons_succ] at hs7
    clear hs6
    have k0 := hs7.cell m0 0
    have k1 := hs7.cell m0 1
    have k2 := hs7.cell m0 2
    have k3 := hs7.cell m0 3
    have c0 := hs7.cell m1 0
    have c1 := hs7.cell m1 1
    have c2 := hs7.cell m1 2
    have c3 := hs7.cell m1 3
    have f0 := hs7.free m1 0
    have f1 := hs7.free m1 1
    have f2 := hs7.free m1 2
    have f3 := hs7.free m1 3
    have hs8 := Sat.setCell (Sat.setCell (Sat.setCell (Sat.setCell (Sat.use (M := cellsA z #[.int .i64 0, .int .i64 0, .int .i64 0, .slice none 0 0] 45 :: (cellsA z2 #[.int .i64 S, .int .i64 G', .int .i64 i, .slice a 32 c] 45 :: (R ++ L))) hs7 (by intro x; simp only [cnt_append, cnt_cons, cnt_nil]; omega)) 0 (.int .i64 S)) 1 (.int .i64 G')) 2 (.int .i64 i)) 3 (.slice a 32 c)
    clear hs7
    go_wp2_with fail
    refine bodyPost_ret (v := .agg #[.int .i64 S, .int .i64 G', .int .i64 i, .slice a 32 c]) (by simp [results, Try.results35, go_sem, *]) rfl ?_
    rw [HPP.out]
    exact ⟨.slice a 32 c, R, rfl, (by show RowA _ 1 _ D.length _ _; rw [HL.out]; exact hv), hs8.use (by intro x; simp only [cnt_append, cnt_cons, cnt_nil]; omega)⟩
  by_cases h22 : handPick bend 24 = 22
  · skip
    go_enter Try.func35, Try.ntmps35
    go_wp2_with fail
    refine (hand_pick s 40 _ (by omega) (by omega)).mono ?_; rintro r w2 ⟨rfl, rfl⟩
    go_wp2_with fail
    refine (hand_pick g 9 _ (by omega) (by omega)).mono ?_; rintro r w2 ⟨rfl, rfl⟩
    generalize handPick s 40 = S at *
    generalize handPick g 9 = G at *
    go_wp2_with fail
    refine (hand_pick i 6 _ (by omega) (by omega)).mono ?_; rintro r w2 ⟨rfl, rfl⟩
    generalize handPick i 6 = I at *
    go_wp2_with fail
    refine HB.out.mono ?_; rintro r w2 ⟨v, R, rfl, hv, hs2⟩
    generalize w.heap.size = z at *
    obtain ⟨a, c, rfl⟩ := Ch.RowA.slice hv
    generalize bytesOf seed 32 = D at *
    have hs3 := hs2.newCells #[.int .i64 S, .int .i64 (1 + G), .int .i64 I, .slice a 32 c] 45
    obtain ⟨z2, hz2⟩ : ∃ z2, z2 = w2.heap.size := ⟨_, rfl⟩
    rw [← hz2] at hs3
    have hs4 := Sat.use (M := cellsA z2 #[.int .i64 S, .int .i64 (1 + G), .int .i64 I, .slice a 32 c] 45 :: (cellsA z #[.int .i64 0, .int .i64 0, .int .i64 0, .slice none 0 0] 45 :: (R ++ L))) hs3 (by intro x; simp only [cnt_append, cnt_cons, cnt_nil]; omega)
    clear hs2 hs3
    have G1 : 1 + G < 10 := by omega
    have G0 : 0 ≤ 1 + G := by omega
    generalize 1 + G = G' at *
    go_wp2_with fail
    refine (hand_pick bend 24 _ (by omega) (by omega)).mono ?_; rintro r w5 ⟨rfl, rfl⟩
    rw [← hz2]
    refine with_sat hs4 ?_
    clear hs4 hz2
    intro w6 hs6
    have hPP := HP.out
    rw [if_neg h19, if_neg h20, if_neg h21, if_pos h22] at hPP
    obtain ⟨n1, n2⟩ := handPick_bounds (bend.tdiv 24) 40 (by omega)
    have hbl := bytesOf_length seed (handPick (bend.tdiv 24) 40).toNat
    have HBB := Lib.hid (bytes_of seed (handPick (bend.tdiv 24) 40).toNat W w6 _ (by omega) hs6)
    have HPP := Lib.hid hPP
    have hnn : handPick (bend.tdiv 24) 40 = ((handPick (bend.tdiv 24) 40).toNat : Int) := by omega
    generalize bytesOf seed (handPick (bend.tdiv 24) 40).toNat = E at *
    generalize (handPick (bend.tdiv 24) 40).toNat = n at *
    have HNN := Lib.hid hnn
    have HBL := Lib.hid hbl
    clear hPP HP hs6 hnn hbl n1 n2 h19 h20 h21
    rw [h22]
    clear h22
    go_wp2_with fail
    refine (hand_pick (bend.tdiv 24) 40 _ (by omega) (by omega)).mono ?_; rintro r w8 ⟨rfl, rfl⟩
    rw [HNN.out]
    go_wp2_with fail
    refine HBB.out.mono ?_; rintro r w8 ⟨v8, R8, rfl, hv8, hs9⟩
    obtain ⟨a8, c8, rfl⟩ := Ch.RowA.slice hv8
    have hs10 := Sat.use (M := cellsA z2 #[.int .i64 S, .int .i64 G', .int .i64 I, .slice a 32 c] 45 :: (cellsA z #[.int .i64 0, .int .i64 0, .int .i64 0, .slice none 0 0] 45 :: (R8 ++ L))) hs9 (by intro x; simp only [cnt_append, cnt_cons, cnt_nil]; omega)
    have y0 := hs10.cell m0 3
    have y1 := hs10.free m0 3
    have hs7 := Sat.setCell hs10 3 (.slice a8 n c8)
    simp only [List.setIfInBounds_toArray, List.set_cons_zero, List.set_cons_succ] at hs7
    clear hs9 hs10 hv
    have k0 := hs7.cell m0 0
    have k1 := hs7.cell m0 1
    have k2 := hs7.cell m0 2
    have k3 := hs7.cell m0 3
    have c0 := hs7.cell m1 0
    have c1 := hs7.cell m1 1
    have c2 := hs7.cell m1 2
    have c3 := hs7.cell m1 3
    have f0 := hs7.free m1 0
    have f1 := hs7.free m1 1
    have f2 := hs7.free m1 2
    have f3 := hs7.free m1 3
    have hs8 := Sat.setCell (Sat.setCell (Sat.setCell (Sat.setCell (Sat.use (M := cellsA z #[.int .i64 0, .int .i64 0, .int .i64 0, .slice none 0 0] 45 :: (cellsA z2 #[.int .i64 S, .int .i64 G', .int .i64 I, .slice a8 n c8] 45 :: (R8 ++ L))) hs7 (by intro x; simp only [cnt_append, cnt_cons, cnt_nil]; omega)) 0 (.int .i64 S)) 1 (.int .i64 G')) 2 (.int .i64 I)) 3 (.slice a8 n c8)
    clear hs7
    go_wp2_with fail
    refine bodyPost_ret (v := .agg #[.int .i64 S, .int .i64 G', .int .i64 I, .slice a8 n c8]) (by simp [results, Try.results35, go_sem, *]) rfl ?_
    rw [HPP.out]
    exact ⟨.slice a8 n c8, R8, rfl, (by show RowA _ 1 _ E.length _ _; rw [HBL.out]; exact hv8), hs8.use (by intro x; simp only [cnt_append, cnt_cons, cnt_nil]; omega)⟩
  by_cases h23 : handPick bend 24 = 23
  · skip
    go_enter Try.func35, Try.ntmps35
    go_wp2_with fail
    refine (hand_pick s 40 _ (by omega) (by omega)).mono ?_; rintro r w2 ⟨rfl, rfl⟩
    go_wp2_with fail
    refine (hand_pick g 9 _ (by omega) (by omega)).mono ?_; rintro r w2 ⟨rfl, rfl⟩
    generalize handPick s 40 = S at *
    generalize handPick g 9 = G at *
    go_wp2_with fail
    refine (hand_pick i 6 _ (by omega) (by omega)).mono ?_; rintro r w2 ⟨rfl, rfl⟩
    generalize handPick i 6 = I at *
    go_wp2_with fail
    refine HB.out.mono ?_; rintro r w2 ⟨v, R, rfl, hv, hs2⟩
    generalize w.heap.size = z at *
    obtain ⟨a, c, rfl⟩ := Ch.RowA.slice hv
    generalize bytesOf seed 32 = D at *
    have hs3 := hs2.newCells #[.int .i64 S, .int .i64 (1 + G), .int .i64 I, .slice a 32 c] 45
    obtain ⟨z2, hz2⟩ : ∃ z2, z2 = w2.heap.size := ⟨_, rfl⟩
    rw [← hz2] at hs3
    have hs4 := Sat.use (M := cellsA z2 #[.int .i64 S, .int .i64 (1 + G), .int .i64 I, .slice a 32 c] 45 :: (cellsA z #[.int .i64 0, .int .i64 0, .int .i64 0, .slice none 0 0] 45 :: (R ++ L))) hs3 (by intro x; simp only [cnt_append, cnt_cons, cnt_nil]; omega)
    clear hs2 hs3
    have G1 : 1 + G < 10 := by omega
    have G0 : 0 ≤ 1 + G := by omega
    generalize 1 + G = G' at *
    go_wp2_with fail
    refine (hand_pick bend 24 _ (by omega) (by omega)).mono ?_; rintro r w5 ⟨rfl, rfl⟩
    rw [← hz2]
    refine with_sat hs4 ?_
    clear hs4 hz2
    intro w6 hs6
    have hPP := HP.out
    rw [if_neg h19, if_neg h20, if_neg h21, if_neg h22, if_pos h23] at hPP
    have HPP := Lib.hid hPP
    obtain ⟨n1, n2⟩ := handPick_bounds g 1099511627776 (by omega)
    clear hPP HP h19 h20 h21 h22
    rw [h23]
    clear h23
    go_wp2_with fail
    refine (hand_pick g 1099511627776 _ (by omega) (by omega)).mono ?_; rintro r w8 ⟨rfl, rfl⟩
    generalize handPick g 1099511627776 = Q at *
    have y0 := hs6.cell m0 1
    have y1 := hs6.free m0 1
    have hs7 := Sat.setCell hs6 1 (.int .i64 (1 + Q))
    simp only [List.setIfInBounds_toArray, List.set_cons_zero, List.set_cons_succ] at hs7
    clear hs6
    have k0 := hs7.cell m0 0
    have k1 := hs7.cell m0 1
    have k2 := hs7.cell m0 2
    have k3 := hs7.cell m0 3
    have c0 := hs7.cell m1 0
    have c1 := hs7.cell m1 1
    have c2 := hs7.cell m1 2
    have c3 := hs7.cell m1 3
    have f0 := hs7.free m1 0
    have f1 := hs7.free m1 1
    have f2 := hs7.free m1 2
    have f3 := hs7.free m1 3
    have hs8 := Sat.setCell (Sat.setCell (Sat.setCell (Sat.setCell (Sat.use (M := cellsA z #[.int .i64 0, .int .i64 0, .int .i64 0, .slice none 0 0] 45 :: (cellsA z2 #[.int .i64 S, .int .i64 (1 + Q), .int .i64 I, .slice a 32 c] 45 :: (R ++ L))) hs7 (by intro x; simp only [cnt_append, cnt_cons, cnt_nil]; omega)) 0 (.int .i64 S)) 1 (.int .i64 (1 + Q))) 2 (.int .i64 I)) 3 (.slice a 32 c)
    clear hs7
    go_wp2_with fail
    refine bodyPost_ret (v := .agg #[.int .i64 S, .int .i64 (1 + Q), .int .i64 I, .slice a 32 c]) (by simp [results, Try.results35, go_sem, *]) rfl ?_
    rw [HPP.out]
    exact ⟨.slice a 32 c, R, rfl, (by show RowA _ 1 _ D.length _ _; rw [HL.out]; exact hv), hs8.use (by intro x; simp only [cnt_append, cnt_cons, cnt_nil]; omega)⟩
  go_enter Try.func35, Try.ntmps35
  go_wp2_with fail
  refine (hand_pick s 40 _ (by omega) (by omega)).mono ?_; rintro r w2 ⟨rfl, rfl⟩
  go_wp2_with fail
  refine (hand_pick g 9 _ (by omega) (by omega)).mono ?_; rintro r w2 ⟨rfl, rfl⟩
  generalize handPick s 40 = S at *
  generalize handPick g 9 = G at *
  go_wp2_with fail
  refine (hand_pick i 6 _ (by omega) (by omega)).mono ?_; rintro r w2 ⟨rfl, rfl⟩
  generalize handPick i 6 = I at *
  go_wp2_with fail
  refine HB.out.mono ?_; rintro r w2 ⟨v, R, rfl, hv, hs2⟩
  generalize w.heap.size = z at *
  obtain ⟨a, c, rfl⟩ := Ch.RowA.slice hv
  generalize bytesOf seed 32 = D at *
  have hs3 := hs2.newCells #[.int .i64 S, .int .i64 (1 + G), .int .i64 I, .slice a 32 c] 45
  obtain ⟨z2, hz2⟩ : ∃ z2, z2 = w2.heap.size := ⟨_, rfl⟩
  rw [← hz2] at hs3
  have hs4 := Sat.use (M := cellsA z2 #[.int .i64 S, .int .i64 (1 + G), .int .i64 I, .slice a 32 c] 45 :: (cellsA z #[.int .i64 0, .int .i64 0, .int .i64 0, .slice none 0 0] 45 :: (R ++ L))) hs3 (by intro x; simp only [cnt_append, cnt_cons, cnt_nil]; omega)
  clear hs2 hs3
  have G1 : 1 + G < 10 := by omega
  have G0 : 0 ≤ 1 + G := by omega
  generalize 1 + G = G' at *
  go_wp2_with fail
  refine (hand_pick bend 24 _ (by omega) (by omega)).mono ?_; rintro r w5 ⟨rfl, rfl⟩
  rw [← hz2]
  refine with_sat hs4 ?_
  clear hs4 hz2
  intro w6 hs6
  have hPP := HP.out
  rw [if_neg h19, if_neg h20, if_neg h21, if_neg h22, if_neg h23] at hPP
  have HPP := Lib.hid hPP
  have q1 : (handPick bend 24 == 19) = false := by simpa using h19
  have q2 : (handPick bend 24 == 20) = false := by simpa using h20
  have q3 : (handPick bend 24 == 21) = false := by simpa using h21
  have q4 : (handPick bend 24 == 22) = false := by simpa using h22
  have q5 : (handPick bend 24 == 23) = false := by simpa using h23
  clear h19 h20 h21 h22 h23 hPP HP
  generalize handPick bend 24 = pb at *
  have hs7 := hs6
  clear hs6
  have k0 := hs7.cell m0 0
  have k1 := hs7.cell m0 1
  have k2 := hs7.cell m0 2
  have k3 := hs7.cell m0 3
  have c0 := hs7.cell m1 0
  have c1 := hs7.cell m1 1
  have c2 := hs7.cell m1 2
  have c3 := hs7.cell m1 3
  have f0 := hs7.free m1 0
  have f1 := hs7.free m1 1
  have f2 := hs7.free m1 2
  have f3 := hs7.free m1 3
  have hs8 := Sat.setCell (Sat.setCell (Sat.setCell (Sat.setCell (Sat.use (M := cellsA z #[.int .i64 0, .int .i64 0, .int .i64 0, .slice none 0 0] 45 :: (cellsA z2 #[.int .i64 S, .int .i64 G', .int .i64 I, .slice a 32 c] 45 :: (R ++ L))) hs7 (by intro x; simp only [cnt_append, cnt_cons, cnt_nil]; omega)) 0 (.int .i64 S)) 1 (.int .i64 G')) 2 (.int .i64 I)) 3 (.slice a 32 c)
  clear hs7
  go_wp2_with fail
  refine bodyPost_ret (v := .agg #[.int .i64 S, .int .i64 G', .int .i64 I, .slice a 32 c]) (by simp [results, Try.results35, go_sem, *]) rfl ?_
  rw [HPP.out]
  exact ⟨.slice a 32 c, R, rfl, (by show RowA _ 1 _ D.length _ _; rw [HL.out]; exact hv), hs8.use (by intro x; simp only [cnt_append, cnt_cons, cnt_nil]; omega)⟩
end Go.Proofs.Ytdkhgkkdnjejmaa.Ch
