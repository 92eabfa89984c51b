/-
  ChunkKnown, walked.
-/
import Derived.Test.YtdkhgkkdnjejmaaLpA
namespace Go.Proofs.Ytdkhgkkdnjejmaa.Ch
set_option linter.unusedSimpArgs false
open Go Go.RowKit Go.Sl Go.BigFrame
set_option linter.unusedVariables false

def kE : Pc := ⟨39, 1099511627776, 5, bytesOf 1 32⟩
def kX : Pc := ⟨3, 7, 1, bytesOf 9 32⟩
theorem kE_right : rightP kE := ⟨by show (0 : Int) ≤ 39; omega, by show (39 : Int) < 40; omega, by show (1 : Int) ≤ 1099511627776; omega, by show (1099511627776 : Int) ≤ 1099511627776; omega, by show (0 : Int) ≤ 5; omega, by show (5 : Int) < 6; omega, bytesOf_length 1 32⟩
theorem kX_right : rightP kX := ⟨by show (0 : Int) ≤ 3; omega, by show (3 : Int) < 40; omega, by show (1 : Int) ≤ 7; omega, by show (7 : Int) ≤ 1099511627776; omega, by show (0 : Int) ≤ 1; omega, by show (1 : Int) < 6; omega, bytesOf_length 9 32⟩
def kQ1 : Pt := q0.wr 78 (layB kE)
def kQ2 : Pt := kQ1.wr 8 (layB kX)
theorem k_get4 : getL kQ2 4 = [] := by
  have h0 : getAt kQ2 4 8 = none := by
    unfold getAt kQ2 Pt.wr
    simp only [List.getElem?_set_self (show 8 < kQ1.now.length by simp [kQ1, Pt.wr, q0]), read_lay kX kX_right]
    rw [if_neg (fun h => absurd h.1 (by show ¬ (3 : Int) = 4; omega))]
  have h1 : getAt kQ2 4 9 = none := by
    unfold kQ2 kQ1
    rw [getAt_wr_ne _ _ _ (by decide), getAt_wr_ne _ _ _ (by decide)]
    exact getAt_blank _ _ _ _ _ _
  have hn : getN kQ2 4 2 = [] := by
    rw [getN_succ, getN_succ, show placeN 4 ((0 : Nat) : Int) = 8 by decide, show placeN 4 ((1 : Nat) : Int) = 9 by decide, h0, h1]
    rfl
  unfold getL
  rw [hn]; rfl
theorem k_get3 : getL kQ2 3 = [] := by
  have h : ∀ k, k ≠ 8 → k ≠ 78 → getAt kQ2 3 k = none := fun k h1 h2 => by
    unfold kQ2 kQ1
    rw [getAt_wr_ne _ _ _ (Ne.symm h1), getAt_wr_ne _ _ _ (Ne.symm h2)]
    exact getAt_blank _ _ _ _ _ _
  have hn : getN kQ2 3 2 = [] := by
    rw [getN_succ, getN_succ, show placeN 3 ((0 : Nat) : Int) = 6 by decide, show placeN 3 ((1 : Nat) : Int) = 7 by decide, h 6 (by decide) (by decide), h 7 (by decide) (by decide)]
    rfl
  unfold getL
  rw [hn]; rfl
theorem k_get39 : (getL kQ2 39).length = 1 := by
  have h0 : getAt kQ2 39 78 = some kE := by
    unfold kQ2
    rw [getAt_wr_ne _ _ _ (by decide)]
    exact getAt_wr_same q0 kE kE_right (by decide) (by simp [q0])
  have h1 : getAt kQ2 39 79 = none := by
    unfold kQ2 kQ1
    rw [getAt_wr_ne _ _ _ (by decide), getAt_wr_ne _ _ _ (by decide)]
    exact getAt_blank _ _ _ _ _ _
  have hn : getN kQ2 39 2 = [kE] := by
    rw [getN_succ, getN_succ, show placeN 39 ((0 : Nat) : Int) = 78 by decide, show placeN 39 ((1 : Nat) : Int) = 79 by decide, h0, h1]
    rfl
  unfold getL
  rw [hn]; rfl
theorem k_none : readB ([] : List UInt8) = none := by
  have ho : openB [] = (0, [], 2) := by unfold openB; rw [if_pos (by decide)]
  unfold readB
  rw [ho, if_neg (fun h => absurd h.1 (by decide))]
theorem k_bytes : bytesOf 1 32 ≠ bytesOf 2 32 := by decide +kernel
theorem now_small {q : Pt} {k : Nat} {l : List UInt8} (h : ∀ x ∈ q.now, x.length < 1000000) (hl : l.length < 1000000) : ∀ x ∈ (q.wr k l).now, x.length < 1000000 := fun x hx => by
  rcases List.mem_or_eq_of_mem_set hx with h1 | h1
  · exact h x h1
  · rw [h1]; exact hl
theorem q0_small : ∀ x ∈ q0.now, x.length < 1000000 := (qk_facts 0).2.2.2
theorem bytesOf_small (n : Int) (k : Nat) (h : k < 1000000) : (bytesOf n k).length < 1000000 := by rw [bytesOf_length]; exact h
theorem lay_small (p : Pc) (h : rightP p) : (layB p).length < 1000000 := by rw [layB_length _ h.2.2.2.2.2.2]; omega
theorem row_cap {e : TypeId} {size n : Nat} {v : Value} {xs : List Value} {R : List Atom} (hr : RowA e size v n xs R) : ∀ a m c, v = .slice a m c → m ≤ c := fun a m c h => by
  rcases hr.2 with ⟨h1, h2, _⟩ | ⟨g, off, cap, h1, h2, _⟩
  · rw [h1] at h; cases h; exact Nat.le_refl _
  · rw [h1] at h; cases h; exact h2

set_option maxRecDepth 100000 in
set_option maxHeartbeats 8000000 in
theorem chunkKnown_walk (W : World) :
    Calls Try.prog 4 #[] W fun e w' => e = .returned (.bool true) ∧ Below W.heap.size W w' := by
  have hs0 := allOf_sat W
  have HN := Lib.hid (fun w L (hs : Sat W w L) => platter_new 96 W w L (by omega) (by omega) hs)
  have HN5 := Lib.hid (fun w L (hs : Sat W w L) => platter_new 5 W w L (by omega) (by omega) hs)
  have hB : ∀ w', Sat W w' (allOf W) → Below W.heap.size W w' := fun w' h => below_of h
  have HB := Lib.hid hB
  clear hB
  generalize allOf W = aW at *
  go_enter Try.func4, Try.ntmps4
  go_wp2_with fail
  refine (HN.out _ _ hs0).mono ?_; rintro r w1 ⟨b, A, rfl, hA, hs1⟩
  clear hs0 HN
  go_wp2_with fail
  refine (known_any W _ _ hs1).mono ?_; rintro r w2 ⟨rfl, hs2⟩
  clear hs1
  go_wp2_with fail
  refine (one_any 0 1 0 1 W _ _ hs2).mono ?_; rintro r w3 ⟨v3, R3, rfl, hv3, hs3⟩
  obtain ⟨a3, c3, rfl⟩ := Ch.RowA.slice hv3
  clear hs2
  go_wp2_with fail
  refine (put_small _ ⟨0, 1, 0, bytesOf 1 32⟩ a3 c3 W _ _ hs3 (fun y hy => hv3.reads hy) (.inl rfl)).mono ?_; rintro r w4 ⟨rfl, hs4⟩
  have hs5 := hs4.right
  clear hs3 hs4
  go_wp2_with fail
  refine (HN5.out _ _ hs5).mono ?_; rintro r w6 ⟨b5, A5, rfl, hA5, hs6⟩
  go_wp2_with fail
  refine (one_any 0 1 0 1 W _ _ hs6).mono ?_; rintro r w7 ⟨v7, R7, rfl, hv7, hs7⟩
  obtain ⟨a7, c7, rfl⟩ := Ch.RowA.slice hv7
  have hs8 : Sat W w7 (A5 ++ (R7 ++ (A ++ aW))) := hs7.use (by intro x; simp only [cnt_append, cnt_cons, cnt_nil]; omega)
  clear hs6 hs7
  go_wp2_with fail
  refine (put_small _ ⟨0, 1, 0, bytesOf 1 32⟩ a7 c7 W _ _ hs8 (fun y hy => hv7.reads (F := A ++ aW) hy.right) (.inr ⟨b5, _, A5, _, rfl, hA5, rfl, by decide⟩)).mono ?_; rintro r w9 ⟨rfl, hs9⟩
  have hs10 := hs9.right.right
  clear hs8 hs9
  go_wp2_with fail
  refine (one_any 0 0 0 1 W _ _ hs10).mono ?_; rintro r w11 ⟨v11, R11, rfl, hv11, hs11⟩
  obtain ⟨a11, c11, rfl⟩ := Ch.RowA.slice hv11
  have hs12 : Sat W w11 (A ++ (R11 ++ aW)) := hs11.use (by intro x; simp only [cnt_append, cnt_cons, cnt_nil]; omega)
  clear hs10 hs11
  go_wp2_with fail
  refine (put_bad _ ⟨0, 0, 0, bytesOf 1 32⟩ a11 c11 W _ _ hs12 (fun h => absurd h.2.2.1 (by show ¬ (1 : Int) ≤ 0; omega)) (.inr ⟨b, _, A, _, rfl, hA, rfl⟩)).mono ?_; rintro r w13 ⟨rfl, hs13⟩
  have hs14 : Sat W w13 (A ++ aW) := hs13.use (by intro x; simp only [cnt_append, cnt_cons, cnt_nil]; omega)
  clear hs12 hs13
  go_wp2_with fail
  refine (one_any 39 1099511627776 5 1 W _ _ hs14).mono ?_; rintro r w15 ⟨v15, R15, rfl, hv15, hs15⟩
  obtain ⟨a15, c15, rfl⟩ := Ch.RowA.slice hv15
  have hs16 : Sat W w15 (A ++ (R15 ++ aW)) := hs15.use (by intro x; simp only [cnt_append, cnt_cons, cnt_nil]; omega)
  clear hs14 hs15
  have hpu := put_any b q0 A kE a15 c15 W w15 _ hA hs16 (fun y hy => hv15.reads (F := aW) hy.right) kE_right (by simp [q0]) (by simp [q0]) (by simp [q0]) (by simp [q0])
  rw [show placeN kE.stripe kE.gen = 78 by decide] at hpu
  have HPU := Lib.hid hpu
  clear hpu hs16
  go_wp2_with fail
  refine HPU.out.mono ?_; rintro r w17 ⟨A17, rfl, hA17, hs17⟩
  have hs18 : Sat W w17 (A17 ++ aW) := hs17.use (by intro x; simp only [cnt_append, cnt_cons, cnt_nil]; omega)
  clear hs17 HPU
  go_wp2_with fail
  refine (one_any 3 7 1 9 W _ _ hs18).mono ?_; rintro r w19 ⟨v19, R19, rfl, hv19, hs19⟩
  obtain ⟨a19, c19, rfl⟩ := Ch.RowA.slice hv19
  clear hs18
  have hly := lay_any kX a19 c19 W w19 _ hs19 (fun y hy => hv19.reads hy) kX_right
  have HLY := Lib.hid hly
  clear hly hs19
  go_wp2_with fail
  refine HLY.out.mono ?_; rintro r w20 ⟨xv, Rx, rfl, hxr, hs20⟩
  have hcx := row_cap hxr
  obtain ⟨ax, cx, rfl⟩ := Ch.RowA.slice hxr
  have hs21 : Sat W w20 (Rx ++ (A17 ++ aW)) := hs20.use (by intro x; simp only [cnt_append, cnt_cons, cnt_nil]; omega)
  clear hs20 HLY
  have hrx := read_any W w20 _ _ (layB kX) hs21 (fun y hy => hxr.reads hy) (lay_small _ kX_right) hcx
  have e1 : readP (layB kX) = kX := by unfold readP; rw [read_lay _ kX_right]; rfl
  rw [read_lay _ kX_right, e1] at hrx
  have HRX := Lib.hid hrx
  clear hrx hs21 hcx e1
  go_wp2_with fail
  refine HRX.out.mono ?_; rintro r w22 ⟨yv, Ry, rfl, hyr, hs22⟩
  obtain ⟨ay, cy, rfl⟩ := Ch.RowA.slice hyr
  have hyl : kX.data.length = 32 := bytesOf_length 9 32
  have hs23 := hs22.newCells #[.int .i64 3, .int .i64 7, .int .i64 1, .slice ay kX.data.length cy] 45
  have hrn := read_any W _ _ (.slice none 0 0) [] hs23 (fun y hy => .inl ⟨rfl, rfl, rfl⟩) (by simp) (fun a n c h => by cases h; exact Nat.le_refl _)
  have e1 : readP [] = pc0 := by unfold readP; rw [k_none]; rfl
  rw [k_none, e1] at hrn
  have HRN := Lib.hid hrn
  clear hrn hs22 HRX e1
  unfold pcV
  unfold kX
  simp only [Option.isSome_some]
  go_wp2_with fail
  refine HRN.out.mono ?_; rintro r w24 ⟨nv, Rn, rfl, hnr, hs24⟩
  obtain ⟨an, cn, rfl⟩ := Ch.RowA.slice hnr
  generalize w22.heap.size = z8 at *
  have hs25 := hs24.newCells #[.int .i64 0, .int .i64 0, .int .i64 0, .slice an pc0.data.length cn] 45
  have hs26 : Sat W _ (A17 ++ (cellsA z8 #[.int .i64 3, .int .i64 7, .int .i64 1, .slice ay kX.data.length cy] 45 :: (Ry ++ (Rx ++ aW)))) := hs25.use (by intro x; simp only [cnt_append, cnt_cons, cnt_nil]; omega)
  have hwr := write_in b kQ1 A17 8 (.slice ax (layB kX).length cx) (layB kX) W _ _ hA17 hs26 (by simp [kQ1, Pt.wr, q0]) (layB_length _ hyl) (hxr.reads (F := A17 ++ (cellsA z8 #[.int .i64 3, .int .i64 7, .int .i64 1, .slice ay kX.data.length cy] 45 :: (Ry ++ aW))) (hs26.use (by intro x; simp only [cnt_append, cnt_cons, cnt_nil]; omega))) (by simp [kQ1, Pt.wr, q0]) (by simp [kQ1, Pt.wr, q0]) (by simp [kQ1, Pt.wr, q0])
  have HWR := Lib.hid hwr
  clear hwr hs24 hs25 hs26 HRN
  unfold pcV pc0
  simp only [Option.isSome_none]
  go_wp2_with fail
  refine (place_any 4 6 _ (by omega) (by omega)).mono ?_; rintro r w27 ⟨rfl, rfl⟩
  rw [show placeI 4 6 = ((8 : Nat) : Int) by decide]
  go_wp2_with fail
  refine HWR.out.mono ?_; rintro r w28 ⟨A2, rfl, hA2, hs28⟩
  obtain ⟨LL, hLL⟩ : ∃ LL, LL = cellsA z8 #[.int .i64 3, .int .i64 7, .int .i64 1, .slice ay kX.data.length cy] 45 :: (Ry ++ (A2 ++ aW)) := ⟨_, rfl⟩
  have hs29 : Sat W w28 LL := by rw [hLL]; exact hs28.use (by intro x; simp only [cnt_append, cnt_cons, cnt_nil]; omega)
  have c0 : ∀ y : Of W LL, y.v.cell? ⟨z8, 0, none⟩ = some (.int .i64 3) := fun y => y.s.cell (by rw [hLL]; exact m0) 0
  have c1 : ∀ y : Of W LL, y.v.cell? ⟨z8, 1, none⟩ = some (.int .i64 7) := fun y => y.s.cell (by rw [hLL]; exact m0) 1
  have c2 : ∀ y : Of W LL, y.v.cell? ⟨z8, 2, none⟩ = some (.int .i64 1) := fun y => y.s.cell (by rw [hLL]; exact m0) 2
  have c3 : ∀ y : Of W LL, y.v.cell? ⟨z8, 3, none⟩ = some (.slice ay kX.data.length cy) := fun y => y.s.cell (by rw [hLL]; exact m0) 3
  have HLL := Lib.hid hLL
  clear hs28 hLL HWR
  have hd1 : kX.data.length < 1000000 := by omega
  have hn96 : 80 ≤ kQ2.now.length := by simp [kQ2, kQ1, Pt.wr, q0]
  have hsm := now_small (k := 8) (now_small (k := 78) q0_small (lay_small kE kE_right)) (lay_small kX kX_right)
  clear hyl
  go_wp2_with fail
  refine wp_region_held1 [23, 24, 32, 38, 44, 49, 55, 60, 64, 69, 73, 74, 75] [22] [] [23] (0 :: 1 :: 2 :: 3 :: 4 :: 5 :: 6 :: 7 :: 8 :: 9 :: 10 :: 11 :: 12 :: 13 :: 14 :: 15 :: 16 :: 17 :: 18 :: 19 :: 20 :: 21 :: 22 :: 23 :: 24 :: 25 :: 26 :: 27 :: 28 :: 29 :: 30 :: 31 :: 32 :: 33 :: 34 :: 35 :: 36 :: 37 :: 38 :: 39 :: 40 :: 41 :: 42 :: 43 :: 44 :: 45 :: 46 :: 47 :: 48 :: 49 :: 50 :: 51 :: 52 :: 53 :: 54 :: 55 :: 56 :: 57 :: 58 :: 59 :: 60 :: 61 :: 62 :: 63 :: 64 :: 65 :: 66 :: 67 :: 68 :: 69 :: 70 :: 71 :: 72 :: 73 :: 74 :: 75 :: 76 :: 77 :: 78 :: []) (Held W LL) (by kernel_rfl) (by kernel_rfl) ?_ ?_
  · exact Held.mk hs29.drew
  have hne : Nonempty (Of W LL) := ⟨⟨_, hs29⟩⟩
  have hs30 : Sat W w28.drew LL := hs29.drew
  clear hs29
  repeat (first | (refine can_pu1 rfl rfl rfl rfl rfl rfl (fun K hK => ?_); go_big_quiet_op; refine hK _ ?_; clear hK K) | (refine can_st1 rfl rfl rfl rfl rfl rfl (fun K hK => ?_); go_big_quiet_op; refine hK _ ?_; clear hK K) | (refine can_early1 rfl rfl rfl rfl rfl (fun K hK => ?_); go_big_quiet_op; refine hK _ ?_; clear hK K) | (refine can_skip rfl rfl rfl ?_; simp only [Act.put, List.setIfInBounds_toArray, List.set_cons_zero, List.set_cons_succ]))
  refine can_actS rfl rfl rfl rfl (fun K hK => ?_)
  go_wp2_with fail
  refine (one_any 3 7 1 9 W _ _ hs30).mono ?_; rintro r w31 ⟨v31, R31, rfl, hv31, hs31⟩
  apply hK
  refine ⟨Held.mk hs31.right, ?_⟩
  clear hK hs30
  obtain ⟨a31, c31, rfl⟩ := Ch.RowA.slice hv31
  clear c0 c1 c2 c3 hne
  unfold pcV
  refine can_actF rfl rfl rfl rfl (fun K hK => ?_)
  go_wp2_with fail
  refine (same_any kX kX (.slice ay kX.data.length cy) (.slice a31 (bytesOf 9 32).length c31) W w31 _ hs31 (fun y hy => hyr.reads (F := A2 ++ aW) (by have h := hy.right; rw [HLL.out] at h; exact h.tail)) (fun y hy => hv31.reads hy) hd1 hd1).mono ?_
  rintro r w32 ⟨rfl, hs32⟩
  rw [decide_eq_true rfl]
  apply hK
  clear hK hs31
  have hs33 : Sat W w32 (A2 ++ aW) := by
    have h := hs32.right
    rw [HLL.out] at h
    exact h.tail.right
  clear hs32
  repeat (first | (refine can_pu1 rfl rfl rfl rfl rfl rfl (fun K hK => ?_); go_big_quiet_op; refine hK _ ?_; clear hK K) | (refine can_st1 rfl rfl rfl rfl rfl rfl (fun K hK => ?_); go_big_quiet_op; refine hK _ ?_; clear hK K) | (refine can_early1 rfl rfl rfl rfl rfl (fun K hK => ?_); go_big_quiet_op; refine hK _ ?_; clear hK K) | (refine can_skip rfl rfl rfl ?_; simp only [Act.put, List.setIfInBounds_toArray, List.set_cons_zero, List.set_cons_succ]))
  refine can_actF rfl rfl rfl rfl (fun K hK => ?_)
  go_wp2_with fail
  refine (get_any b kQ2 A2 4 W _ aW hA2 hs33 (by omega) (by omega) hn96 hsm).mono ?_; rintro r w34 ⟨v34, xs34, R34, B34, rfl, hr34, hx34, _, hs34⟩
  obtain ⟨a34, c34, rfl⟩ := Ch.RowA.slice hr34
  have hl34 := congrArg List.length hx34
  rw [List.length_map, k_get4] at hl34
  rw [show xs34.length = _ from hl34]
  have hz34 : Sat W w34 (A2 ++ aW) := hs34.right.right
  apply hK
  clear hK hs34 hr34 hx34 hl34 hs33
  repeat (first | (refine can_pu1 rfl rfl rfl rfl rfl rfl (fun K hK => ?_); go_big_quiet_op; refine hK _ ?_; clear hK K) | (refine can_st1 rfl rfl rfl rfl rfl rfl (fun K hK => ?_); go_big_quiet_op; refine hK _ ?_; clear hK K) | (refine can_early1 rfl rfl rfl rfl rfl (fun K hK => ?_); go_big_quiet_op; refine hK _ ?_; clear hK K) | (refine can_skip rfl rfl rfl ?_; simp only [Act.put, List.setIfInBounds_toArray, List.set_cons_zero, List.set_cons_succ]))
  refine can_actF rfl rfl rfl rfl (fun K hK => ?_)
  go_wp2_with fail
  refine (get_any b kQ2 A2 3 W _ aW hA2 hz34 (by omega) (by omega) hn96 hsm).mono ?_; rintro r w35 ⟨v35, xs35, R35, B35, rfl, hr35, hx35, _, hs35⟩
  obtain ⟨a35, c35, rfl⟩ := Ch.RowA.slice hr35
  have hl35 := congrArg List.length hx35
  rw [List.length_map, k_get3] at hl35
  rw [show xs35.length = _ from hl35]
  have hz35 : Sat W w35 (A2 ++ aW) := hs35.right.right
  apply hK
  clear hK hs35 hr35 hx35 hl35 hz34
  repeat (first | (refine can_pu1 rfl rfl rfl rfl rfl rfl (fun K hK => ?_); go_big_quiet_op; refine hK _ ?_; clear hK K) | (refine can_st1 rfl rfl rfl rfl rfl rfl (fun K hK => ?_); go_big_quiet_op; refine hK _ ?_; clear hK K) | (refine can_early1 rfl rfl rfl rfl rfl (fun K hK => ?_); go_big_quiet_op; refine hK _ ?_; clear hK K) | (refine can_skip rfl rfl rfl ?_; simp only [Act.put, List.setIfInBounds_toArray, List.set_cons_zero, List.set_cons_succ]))
  refine can_actF rfl rfl rfl rfl (fun K hK => ?_)
  go_wp2_with fail
  refine (get_any b kQ2 A2 39 W _ aW hA2 hz35 (by omega) (by omega) hn96 hsm).mono ?_; rintro r w36 ⟨v36, xs36, R36, B36, rfl, hr36, hx36, _, hs36⟩
  obtain ⟨a36, c36, rfl⟩ := Ch.RowA.slice hr36
  have hl36 := congrArg List.length hx36
  rw [List.length_map, k_get39] at hl36
  rw [show xs36.length = _ from hl36]
  have hz36 : Sat W w36 (A2 ++ aW) := hs36.right.right
  apply hK
  clear hK hs36 hr36 hx36 hl36 hz35
  repeat (first | (refine can_pu1 rfl rfl rfl rfl rfl rfl (fun K hK => ?_); go_big_quiet_op; refine hK _ ?_; clear hK K) | (refine can_st1 rfl rfl rfl rfl rfl rfl (fun K hK => ?_); go_big_quiet_op; refine hK _ ?_; clear hK K) | (refine can_early1 rfl rfl rfl rfl rfl (fun K hK => ?_); go_big_quiet_op; refine hK _ ?_; clear hK K) | (refine can_skip rfl rfl rfl ?_; simp only [Act.put, List.setIfInBounds_toArray, List.set_cons_zero, List.set_cons_succ]))
  refine can_actF rfl rfl rfl rfl (fun K hK => ?_)
  go_wp2_with fail
  refine (get_none (.pointer none) 3 _ (.inl rfl)).mono ?_; rintro r w37 ⟨rfl, rfl⟩
  apply hK
  clear hK
  repeat (first | (refine can_pu1 rfl rfl rfl rfl rfl rfl (fun K hK => ?_); go_big_quiet_op; refine hK _ ?_; clear hK K) | (refine can_st1 rfl rfl rfl rfl rfl rfl (fun K hK => ?_); go_big_quiet_op; refine hK _ ?_; clear hK K) | (refine can_early1 rfl rfl rfl rfl rfl (fun K hK => ?_); go_big_quiet_op; refine hK _ ?_; clear hK K) | (refine can_skip rfl rfl rfl ?_; simp only [Act.put, List.setIfInBounds_toArray, List.set_cons_zero, List.set_cons_succ]))
  refine can_actF rfl rfl rfl rfl (fun K hK => ?_)
  go_wp2_with fail
  refine (get_none (.pointer (some ⟨b, 0, none⟩)) (-1) _ (.inr ⟨⟨b, rfl⟩, .inl (by omega)⟩)).mono ?_; rintro r w37 ⟨rfl, rfl⟩
  apply hK
  clear hK
  repeat (first | (refine can_pu1 rfl rfl rfl rfl rfl rfl (fun K hK => ?_); go_big_quiet_op; refine hK _ ?_; clear hK K) | (refine can_st1 rfl rfl rfl rfl rfl rfl (fun K hK => ?_); go_big_quiet_op; refine hK _ ?_; clear hK K) | (refine can_early1 rfl rfl rfl rfl rfl (fun K hK => ?_); go_big_quiet_op; refine hK _ ?_; clear hK K) | (refine can_skip rfl rfl rfl ?_; simp only [Act.put, List.setIfInBounds_toArray, List.set_cons_zero, List.set_cons_succ]))
  refine can_actF rfl rfl rfl rfl (fun K hK => ?_)
  go_wp2_with fail
  refine (place_any 3 7 _ (by omega) (by omega)).mono ?_; rintro r w37 ⟨rfl, rfl⟩
  rw [show placeI 3 7 = 7 by decide]
  apply hK
  clear hK
  repeat (first | (refine can_pu1 rfl rfl rfl rfl rfl rfl (fun K hK => ?_); go_big_quiet_op; refine hK _ ?_; clear hK K) | (refine can_st1 rfl rfl rfl rfl rfl rfl (fun K hK => ?_); go_big_quiet_op; refine hK _ ?_; clear hK K) | (refine can_early1 rfl rfl rfl rfl rfl (fun K hK => ?_); go_big_quiet_op; refine hK _ ?_; clear hK K) | (refine can_skip rfl rfl rfl ?_; simp only [Act.put, List.setIfInBounds_toArray, List.set_cons_zero, List.set_cons_succ]))
  refine can_actF rfl rfl rfl rfl (fun K hK => ?_)
  go_wp2_with fail
  refine (place_any 3 8 _ (by omega) (by omega)).mono ?_; rintro r w37 ⟨rfl, rfl⟩
  rw [show placeI 3 8 = 6 by decide]
  apply hK
  clear hK
  repeat (first | (refine can_pu1 rfl rfl rfl rfl rfl rfl (fun K hK => ?_); go_big_quiet_op; refine hK _ ?_; clear hK K) | (refine can_st1 rfl rfl rfl rfl rfl rfl (fun K hK => ?_); go_big_quiet_op; refine hK _ ?_; clear hK K) | (refine can_early1 rfl rfl rfl rfl rfl (fun K hK => ?_); go_big_quiet_op; refine hK _ ?_; clear hK K) | (refine can_skip rfl rfl rfl ?_; simp only [Act.put, List.setIfInBounds_toArray, List.set_cons_zero, List.set_cons_succ]))
  refine can_actF rfl rfl rfl rfl (fun K hK => ?_)
  go_wp2_with fail
  have hrt := right_any pc0 none 0 w36
  rw [decide_eq_false (fun h => absurd h.2.2.1 (by show ¬ (1 : Int) ≤ 0; omega))] at hrt
  refine hrt.mono ?_; rintro r w38 ⟨rfl, hx38⟩
  have hs38 := hz36.below hx38
  apply hK
  clear hK hrt hx38 hz36
  repeat (first | (refine can_pu1 rfl rfl rfl rfl rfl rfl (fun K hK => ?_); go_big_quiet_op; refine hK _ ?_; clear hK K) | (refine can_st1 rfl rfl rfl rfl rfl rfl (fun K hK => ?_); go_big_quiet_op; refine hK _ ?_; clear hK K) | (refine can_early1 rfl rfl rfl rfl rfl (fun K hK => ?_); go_big_quiet_op; refine hK _ ?_; clear hK K) | (refine can_skip rfl rfl rfl ?_; simp only [Act.put, List.setIfInBounds_toArray, List.set_cons_zero, List.set_cons_succ]))
  refine can_actF rfl rfl rfl rfl (fun K hK => ?_)
  go_wp2_with fail
  refine (one_any 1 1 1 1 W _ _ hs38).mono ?_; rintro r w39 ⟨v39, R39, rfl, hv39, hs39⟩
  obtain ⟨a39, c39, rfl⟩ := Ch.RowA.slice hv39
  apply hK
  clear hK hs38
  repeat (first | (refine can_pu1 rfl rfl rfl rfl rfl rfl (fun K hK => ?_); go_big_quiet_op; refine hK _ ?_; clear hK K) | (refine can_st1 rfl rfl rfl rfl rfl rfl (fun K hK => ?_); go_big_quiet_op; refine hK _ ?_; clear hK K) | (refine can_early1 rfl rfl rfl rfl rfl (fun K hK => ?_); go_big_quiet_op; refine hK _ ?_; clear hK K) | (refine can_skip rfl rfl rfl ?_; simp only [Act.put, List.setIfInBounds_toArray, List.set_cons_zero, List.set_cons_succ]))
  refine can_actF rfl rfl rfl rfl (fun K hK => ?_)
  go_wp2_with fail
  refine (one_any 1 1 1 2 W _ _ hs39).mono ?_; rintro r w40 ⟨v40, R40, rfl, hv40, hs40⟩
  obtain ⟨a40, c40, rfl⟩ := Ch.RowA.slice hv40
  apply hK
  clear hK hs39
  unfold pcV
  repeat (first | (refine can_pu1 rfl rfl rfl rfl rfl rfl (fun K hK => ?_); go_big_quiet_op; refine hK _ ?_; clear hK K) | (refine can_st1 rfl rfl rfl rfl rfl rfl (fun K hK => ?_); go_big_quiet_op; refine hK _ ?_; clear hK K) | (refine can_early1 rfl rfl rfl rfl rfl (fun K hK => ?_); go_big_quiet_op; refine hK _ ?_; clear hK K) | (refine can_skip rfl rfl rfl ?_; simp only [Act.put, List.setIfInBounds_toArray, List.set_cons_zero, List.set_cons_succ]))
  refine can_actF rfl rfl rfl rfl (fun K hK => ?_)
  go_wp2_with fail
  refine (same_any ⟨1, 1, 1, bytesOf 1 32⟩ ⟨1, 1, 1, bytesOf 2 32⟩ (.slice a39 (bytesOf 1 32).length c39) (.slice a40 (bytesOf 2 32).length c40) W w40 _ hs40 (fun y hy => hv39.reads hy.right) (fun y hy => hv40.reads hy) (bytesOf_small 1 32 (by decide)) (bytesOf_small 2 32 (by decide))).mono ?_
  rintro r w41 ⟨rfl, hs41⟩
  rw [decide_eq_false (fun h => k_bytes (by injection h))]
  apply hK
  clear hK
  repeat (first | (refine can_pu1 rfl rfl rfl rfl rfl rfl (fun K hK => ?_); go_big_quiet_op; refine hK _ ?_; clear hK K) | (refine can_st1 rfl rfl rfl rfl rfl rfl (fun K hK => ?_); go_big_quiet_op; refine hK _ ?_; clear hK K) | (refine can_early1 rfl rfl rfl rfl rfl (fun K hK => ?_); go_big_quiet_op; refine hK _ ?_; clear hK K) | (refine can_skip rfl rfl rfl ?_; simp only [Act.put, List.setIfInBounds_toArray, List.set_cons_zero, List.set_cons_succ]))
  refine can_end1 ?_; (try simp only [Exit.then])
  go_wp2_with fail
  go_ret
  exact ⟨rfl, HB.out _ hs41.right.right.right⟩
end Go.Proofs.Ytdkhgkkdnjejmaa.Ch
