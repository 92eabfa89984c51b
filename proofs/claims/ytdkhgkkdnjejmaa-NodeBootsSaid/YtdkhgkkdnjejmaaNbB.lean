/-
  NodeBoots, walked.
-/
import Derived.Test.YtdkhgkkdnjejmaaNbA
import Derived.Test.YtdkhgkkdnjejmaaLpA
namespace Go.Proofs.Ytdkhgkkdnjejmaa.Ch
set_option linter.unusedSimpArgs false
open Go Go.RowKit Go.Sl Go.BigFrame
set_option linter.unusedVariables false


set_option maxRecDepth 100000 in
set_option maxHeartbeats 16000000 in
theorem boots_walk (aa : Option Addr) (ac : Nat) (ks : List Int) (s : Int) (W : World) (ha : ∀ y, Below W.heap.size W y → Reads y (.slice aa ks.length ac) ks.length (intsC ks)) :
    Calls Try.prog 10 #[.slice aa ks.length ac, .int .i64 s] W fun e w' => e = .returned (.bool true) ∧ Below W.heap.size W w' := by
  have hs0 := allOf_sat W
  have hB : ∀ w', Sat W w' (allOf W) → Below W.heap.size W w' := fun w' h => below_of h
  have HB := Lib.hid hB
  have HAT := Lib.hid (fun y (h : Sat W y (allOf W)) => ha y (hB y h))
  clear hB ha
  generalize allOf W = aW at *
  have HN := Lib.hid (node_new W W aW hs0)
  have hpk := fun w => hand_pick s 40 w (by omega) (by omega)
  obtain ⟨j0, j1⟩ := handPick_bounds s 40 (by omega)
  generalize handPick s 40 = ss at *
  have HPK := Lib.hid hpk
  clear hpk hs0
  go_enter Try.func10, Try.ntmps10
  go_wp2_with fail
  refine HN.out.mono ?_; rintro r w1 ⟨b, A, rfl, hA, hs1⟩
  clear HN
  go_wp2_with fail
  refine (known10_any W _ _ hs1).mono ?_; rintro r w2 ⟨rfl, hs2⟩
  clear hs1
  go_wp2_with fail
  refine (HPK.out _).mono ?_; rintro r w3 ⟨rfl, rfl⟩
  go_wp2_with fail
  go_loopw [6, 7] (fun sv iv wr => ∃ (i : Nat) (sure : Int) (n : Nd) (A : List Atom), iv = .int .i64 i ∧ sv = .int .i64 sure ∧ i ≤ 30 ∧ NodA b n A ∧ Bt ss n sure i ∧ Sat W wr (A ++ aW)) (fun _ iv _ => (30 - (intOf iv).toNat))
  case atStart => exact ⟨0, 0, nd0, A, rfl, rfl, by omega, hA, ⟨NdOk.start, rfl, rfl, Int.le_refl _, Int.le_refl _, fun h => absurd h (by decide)⟩, hs2⟩
  case round =>
    clear hs2 hA
    obtain ⟨i, sure, n, A, rfl, rfl, hi, hA, hbt, hs⟩ := hrel
    have HBT := Lib.hid hbt
    clear hbt
    have i0 : (0 : Int) ≤ i := by omega
    by_cases hin : i < ks.length
    case neg =>
      have i1 : ¬ (i : Int) < ks.length := by omega
      go_wp2_with fail
      go_ret
      exact ⟨rfl, HB.out _ hs.right⟩
    case pos =>
    have i1 : (i : Int) < ks.length := by omega
    by_cases hi30 : i < 30
    case neg =>
      have i2 : ¬ (i : Int) < 30 := by omega
      go_wp2_with fail
      go_ret
      exact ⟨rfl, HB.out _ hs.right⟩
    case pos =>
    have i2 : (i : Int) < 30 := by omega
    obtain ⟨x, hx⟩ : ∃ x, ks[i]? = some x := ⟨_, List.getElem?_eq_getElem hin⟩
    rcases HAT.out wr hs.right with ⟨_, hz, _⟩ | ⟨a', c', e1, hcell⟩
    · omega
    cases e1
    have hd : ∀ y, Sat W y aW → y.cell? (a'.add i) = some (.int .i64 x) := fun y hy => by
      rcases HAT.out y hy with ⟨_, hz, _⟩ | ⟨a2, c2, e, hc⟩
      · omega
      · cases e
        exact hc i _ (intsC_get hx)
    have HD := Lib.hid hd
    clear hd hcell hx
    obtain ⟨p, hp⟩ : ∃ p : Pc, p = ⟨ss, i + 1, 1, bytesOf (i + 1) 32⟩ := ⟨_, rfl⟩
    have hpr : rightP p := by
      rw [hp]
      exact ⟨j0, j1, by show (1 : Int) ≤ (i : Int) + 1; omega, by show (i : Int) + 1 ≤ (1099511627776 : Int); omega, by show (0 : Int) ≤ 1; omega, by show (1 : Int) < 6; omega, bytesOf_length _ _⟩
    have hby := bytes_of ((i : Int) + 1) 32 W wr _ (by omega) hs
    have HBY := Lib.hid hby
    have HP := Lib.hid hp
    have HPR := Lib.hid hpr
    have HA := Lib.hid hA
    clear hby hp hpr hs hA
    go_wp2_with fail
    refine HBY.out.mono ?_; rintro r w4 ⟨v4, R4, rfl, hr4, hs4⟩
    have h32 : p.data.length = 32 := HPR.out.2.2.2.2.2.2
    have hr4' : RowA 5 1 v4 p.data.length (bts p.data) R4 := by rw [h32, HP.out]; exact hr4
    obtain ⟨a4, c4, rfl⟩ := Ch.RowA.slice hr4
    have hpu := do_put b (3 * i) n A p a4 c4 W w4 (R4 ++ aW) HA.out (hs4.use (by intro x; simp only [cnt_append, cnt_cons, cnt_nil]; omega)) (fun y hy => by have h := hr4'.reads hy; rw [h32] at h ⊢; exact h) HPR.out HBT.out.ok (by omega)
    rw [h32, show p.stripe = ss by rw [HP.out], show p.gen = (i : Int) + 1 by rw [HP.out], show p.index = 1 by rw [HP.out]] at hpu
    have hok1 := HBT.out.ok.wr (placeN ss (i + 1)) (layB p) (by have := placeI_bounds ss (i + 1) j0 j1; unfold placeN; omega) (by rw [layB_length _ h32]; omega)
    have hbt1 := HBT.out.flush p HPR.out (by rw [HP.out]) (by rw [HP.out])
    have hbt2 := fun keep => HBT.out.crash p HPR.out (by rw [HP.out]) (by rw [HP.out]) keep
    rw [show p.stripe = ss by rw [HP.out], show p.gen = (i : Int) + 1 by rw [HP.out]] at hbt1 hbt2
    have HPU := Lib.hid hpu
    obtain ⟨n1, hn1⟩ : ∃ n1 : Nd, n1 = ⟨n.q.wr (placeN ss ((i : Int) + 1)) (layB p), n.g, n.boot⟩ := ⟨_, rfl⟩
    rw [← hn1] at hok1 hbt2
    have hn1b : n1.boot = n.boot := by rw [hn1]
    have hn1q : n1.q = n.q.wr (placeN ss ((i : Int) + 1)) (layB p) := by rw [hn1]
    have hn1g : n1.g = n.g := by rw [hn1]
    rw [← hn1q, ← hn1g] at hbt1
    have HN1 := Lib.hid hn1
    have HOK1 := Lib.hid hok1
    have HBT1 := Lib.hid hbt1
    have HBT2 := Lib.hid hbt2
    have HN1B := Lib.hid hn1b
    clear hpu hs4 HBY hok1 hbt1 hbt2 hn1 hn1b hn1q hn1g hr4 hr4' h32
    go_wp2_with fail
    refine HPU.out.mono ?_; rintro r w5 ⟨A5, rfl, hA5, hs5⟩
    rw [← HN1.out] at hA5
    clear HPU
    unfold repV
    have hs6 := hs5.newCells #[.int .i64 0, .int .i64 n.boot, .slice none 0 0, .slice none 0 0] 80
    obtain ⟨bt, hbt⟩ : ∃ bt, bt = n.boot := ⟨_, rfl⟩
    rw [← hbt] at hs6 ⊢
    have HBTE := Lib.hid hbt
    clear hbt hs5
    go_upto_region 11 with fail
    generalize w5.heap.size = zp at *
    refine with_sat hs6 ?_
    clear hs6
    intro w6 hs6
    obtain ⟨LL, hLL⟩ : ∃ LL, LL = cellsA zp #[.int .i64 0, .int .i64 bt, .slice none 0 0, .slice none 0 0] 80 :: (R4 ++ aW) := ⟨_, rfl⟩
    have HMP := Lib.hid (show cellsA zp #[.int .i64 0, .int .i64 bt, .slice none 0 0, .slice none 0 0] 80 ∈ LL by rw [hLL]; exact m0)
    have HAW := Lib.hid (show ∀ y, Sat W y LL → Sat W y aW from fun y hy => by rw [hLL] at hy; exact hy.tail.right)
    have hs7 : Sat W w6 (A5 ++ LL) := by rw [hLL]; exact hs6.use (by intro x; simp only [cnt_append, cnt_cons, cnt_nil]; omega)
    have HLL := Lib.hid hLL
    clear hs6 hLL
    have d6 := HD.out _ (HAW.out _ hs7.right)
    by_cases hc : x.tmod 3 = 0
    case neg =>
      obtain ⟨n2, hn2⟩ : ∃ n2, n2 = n1 := ⟨_, rfl⟩
      have HOK2 := Lib.hid (show NdOk n2 (3 * i + 1) by rw [hn2]; exact HOK1.out)
      have HB2 := Lib.hid (show n2.boot = bt by rw [hn2, HN1B.out, HBTE.out])
      have HBT3' := Lib.hid (show Bt ss ⟨n2.q.fl, n2.g, bt⟩ (i + 1) (i + 1) by rw [hn2, HBTE.out]; exact HBT1.out)
      rw [← hn2] at hA5
      have hc' : (x.tmod 3 == 0) = false := by simpa using hc
      have hc2 : (x.tmod 3 != 0) = true := by simpa using hc
      clear hn2
      have hfl := do_flush b (3 * i + 2) n2 A5 0 0 0 none 0 0 W w6 LL hA5 hs7 (HOK2.out.mono (by omega))
      rw [show n2.boot = bt from HB2.out] at hfl
      obtain ⟨n3, hn3⟩ : ∃ n3 : Nd, n3 = ⟨n2.q.fl, n2.g, bt⟩ := ⟨_, rfl⟩
      rw [← hn3] at hfl
      have HOK3 := Lib.hid (show NdOk n3 (3 * i + 2) by rw [hn3, ← HB2.out]; exact HOK2.out.fl.mono (by omega))
      have HBT3 := Lib.hid (show Bt ss n3 ((i + 1 : Int)) (i + 1) by rw [hn3]; exact HBT3'.out)
      have HFL := Lib.hid hfl
      clear hfl hn3 HBT3'
      go_wp2_with fail
      refine HFL.out.mono ?_; rintro r3 w3 ⟨A3, rfl, hA3, hs3⟩
      clear HFL
      unfold repV
      have hs4 := hs3.newCells #[.int .i64 0, .int .i64 (bt), .slice none 0 0, .slice none 0 0] 80
      go_upto_region 14 with fail
      generalize w3.heap.size = zf at *
      refine with_sat hs4 ?_
      clear hs4 hs3
      intro w8 hs8
      have hmp := HMP.out
      have e0 : w8.cell? ⟨zp, 0, none⟩ = some (.int .i64 0) := hs8.cell (.tail _ (List.mem_append_right A3 hmp)) 0
      have e1 : w8.cell? ⟨zp, 1, none⟩ = some (.int .i64 bt) := hs8.cell (.tail _ (List.mem_append_right A3 hmp)) 1
      have e2 : w8.cell? ⟨zf, 0, none⟩ = some (.int .i64 0) := hs8.cell m0 0
      have e3 : w8.cell? ⟨zf, 1, none⟩ = some (.int .i64 (bt)) := hs8.cell m0 1
      have d8 := HD.out _ (HAW.out _ hs8.tail.right)
      clear hmp
      by_cases h5 : x.tmod 5 = 0
      case pos =>
        have hcr := node_crash b (3 * i + 2) n3 A3 (.slice none 0 0) [] W w8 (cellsA zf #[.int .i64 0, .int .i64 (bt), .slice none 0 0, .slice none 0 0] 80 :: LL) hA3 (hs8.use (by intro x; simp only [cnt_append, cnt_cons, cnt_nil]; omega)) (fun y hy => .inl ⟨rfl, rfl, rfl⟩) (by decide) HOK3.out (by omega)
        obtain ⟨n4, hn4⟩ : ∃ n4 : Nd, n4 = n3.crash [] := ⟨_, rfl⟩
        rw [← hn4] at hcr
        have HOK4 := Lib.hid (show NdOk n4 (3 * i + 3) by rw [hn4]; exact HOK3.out.crash [])
        have HBT4 := Lib.hid (show Bt ss n4 ((i + 1 : Int)) (i + 1) by rw [hn4]; exact HBT3.out.fall HOK3.out)
        have HCR := Lib.hid hcr
        clear hcr hs8 hA3 hn4
        go_wp2_with fail
        refine HCR.out.mono ?_; rintro r4 w9 ⟨A9, rfl, hA9, hs9⟩
        clear HCR e0 e1 e2 e3 d8
        have hgt := do_get b (3 * i + 3) n4 A9 ss 0 0 none 0 0 W w9 (cellsA zf #[.int .i64 0, .int .i64 (bt), .slice none 0 0, .slice none 0 0] 80 :: LL) hA9 hs9 j0 j1 HOK4.out
        have HHD := Lib.hid (HBT4.out.head2)
        have HGT := Lib.hid hgt
        clear hgt hs9 hA9
        go_wp2_with fail
        refine HGT.out.mono ?_; rintro r5 w10 ⟨pa, pc, ys, R5, B5, A10, rfl, hr5, hx5, hb5, hA10, hs10⟩
        clear HGT
        unfold repV
        have hs11 := hs10.newCells #[.int .i64 0, .int .i64 n4.boot, .slice pa ys.length pc, .slice none 0 0] 80
        go_upto_region 21 with fail
        generalize w10.heap.size = zg at *
        refine with_sat hs11 ?_
        clear hs11 hs10
        intro w11 hs11
        have hmp := HMP.out
        have e1 : w11.cell? ⟨zp, 1, none⟩ = some (.int .i64 bt) := hs11.cell (.tail _ (List.mem_append_right A10 (List.mem_append_right R5 (List.mem_append_right B5 (.tail _ hmp))))) 1
        have e3 : w11.cell? ⟨zf, 1, none⟩ = some (.int .i64 (bt)) := hs11.cell (.tail _ (List.mem_append_right A10 (List.mem_append_right R5 (List.mem_append_right B5 m0)))) 1
        have g2 : w11.cell? ⟨zg, 2, none⟩ = some (.slice pa ys.length pc) := hs11.cell m0 2
        have d8 := HD.out _ (HAW.out _ hs11.tail.right.right.right.tail)
        clear hmp
        by_cases hsp : 0 < ((i + 1 : Int))
        case pos =>
          obtain ⟨yp, yv, ys', rfl, hge⟩ := HHD.out _ hx5 hsp
          obtain ⟨yp0, yp1, yp2, yp3⟩ := yp
          simp only [List.length_cons] at hr5 g2 hge hs11 ⊢
          have hy0 : ((ys'.length : Int) + 1 == 0) = false := by simp; omega
          obtain ⟨gg, go, gk, he, _, _, _⟩ := Ch.RowA.some_of hr5 (by omega)
          obtain ⟨rfl, rfl⟩ : pa = some ⟨gg, go, none⟩ ∧ pc = gk := by cases he; exact ⟨rfl, rfl⟩
          have y1 : w11.cell? ⟨gg, go + 1, none⟩ = some (.int .i64 yp1) := (hr5.cells (F := cellsA zg #[.int .i64 0, .int .i64 n4.boot, .slice (some ⟨gg, go, none⟩) (ys'.length + 1) pc, .slice none 0 0] 80 :: (A10 ++ (B5 ++ (cellsA zf #[.int .i64 0, .int .i64 (bt), .slice none 0 0, .slice none 0 0] 80 :: LL)))) (hs11.use (by intro x; simp only [cnt_append, cnt_cons, cnt_nil]; omega)) rfl 1 (by rw [pcsC_length]; simp only [List.length_cons]; omega)).1
          have hge' : ¬ yp1 < ((i + 1 : Int)) := by omega
          have hgd : decide (yp1 < ((i + 1 : Int))) = false := decide_eq_false hge'
          clear he hx5 hb5 hr5
          have hs12 := hs11.drew
          go_wp2_with fail
          refine wp_region_one [] [] [] [] [0, 1, 2, 3, 4, 5, 6, 7, 8, 9, 10, 11, 12, 13, 14, 15, 16, 17, 18, 19, 20, 21, 22, 23, 24, 25, 26, 27, 28, 29, 30] (by kernel_rfl) (by kernel_rfl) ?_
          repeat (first | (refine can_pu1 rfl rfl rfl rfl rfl rfl (fun K hK => ?_); go_big_quiet_op; refine hK _ ?_; clear hK K) | (refine can_st1 rfl rfl rfl rfl rfl rfl (fun K hK => ?_); go_big_quiet_op; refine hK _ ?_; clear hK K) | (refine can_early1 rfl rfl rfl rfl rfl (fun K hK => ?_); go_big_quiet_op; refine hK _ ?_; clear hK K) | (refine can_skip rfl rfl rfl ?_; simp only [Act.put, List.setIfInBounds_toArray, List.set_cons_zero, List.set_cons_succ]))
          refine can_end1 ?_; (try simp only [Exit.then])
          go_wp2_with fail
          refine ⟨⟨i + 1, _, n4, A10, by simp, rfl, by omega, hA10, HBT4.out, (by have h := hs12; rw [HLL.out] at h; exact h.use (by intro x; simp only [cnt_append, cnt_cons, cnt_nil]; omega))⟩, ?_⟩
          simp [intOf]
          omega
        case neg =>
          exact absurd (show (0 : Int) < (i : Int) + 1 by omega) hsp
      case neg =>
        obtain ⟨n4, hn4⟩ : ∃ n4 : Nd, n4 = n3 := ⟨_, rfl⟩
        have HOK4 := Lib.hid (show NdOk n4 (3 * i + 3) by rw [hn4]; exact HOK3.out.mono (by omega))
        have HBT4 := Lib.hid (show Bt ss n4 ((i + 1 : Int)) (i + 1) by rw [hn4]; exact HBT3.out)
        rw [← hn4] at hA3
        have h5' : (x.tmod 5 == 0) = false := by simpa using h5
        have hs9 := Sat.use (M := A3 ++ (cellsA zf #[.int .i64 0, .int .i64 (bt), .slice none 0 0, .slice none 0 0] 80 :: LL)) hs8 (by intro x; simp only [cnt_append, cnt_cons, cnt_nil]; omega)
        clear hn4 hs8
        have hgt := do_get b (3 * i + 3) n4 A3 ss 0 0 none 0 0 W w8 (cellsA zf #[.int .i64 0, .int .i64 (bt), .slice none 0 0, .slice none 0 0] 80 :: LL) hA3 hs9 j0 j1 HOK4.out
        have HHD := Lib.hid (HBT4.out.head2)
        have HGT := Lib.hid hgt
        clear hgt hs9 hA3
        go_wp2_with fail
        refine HGT.out.mono ?_; rintro r5 w10 ⟨pa, pc, ys, R5, B5, A10, rfl, hr5, hx5, hb5, hA10, hs10⟩
        clear HGT
        unfold repV
        have hs11 := hs10.newCells #[.int .i64 0, .int .i64 n4.boot, .slice pa ys.length pc, .slice none 0 0] 80
        go_upto_region 21 with fail
        generalize w10.heap.size = zg at *
        refine with_sat hs11 ?_
        clear hs11 hs10
        intro w11 hs11
        have hmp := HMP.out
        have e1 : w11.cell? ⟨zp, 1, none⟩ = some (.int .i64 bt) := hs11.cell (.tail _ (List.mem_append_right A10 (List.mem_append_right R5 (List.mem_append_right B5 (.tail _ hmp))))) 1
        have e3 : w11.cell? ⟨zf, 1, none⟩ = some (.int .i64 (bt)) := hs11.cell (.tail _ (List.mem_append_right A10 (List.mem_append_right R5 (List.mem_append_right B5 m0)))) 1
        have g2 : w11.cell? ⟨zg, 2, none⟩ = some (.slice pa ys.length pc) := hs11.cell m0 2
        have d8 := HD.out _ (HAW.out _ hs11.tail.right.right.right.tail)
        clear hmp
        by_cases hsp : 0 < ((i + 1 : Int))
        case pos =>
          obtain ⟨yp, yv, ys', rfl, hge⟩ := HHD.out _ hx5 hsp
          obtain ⟨yp0, yp1, yp2, yp3⟩ := yp
          simp only [List.length_cons] at hr5 g2 hge hs11 ⊢
          have hy0 : ((ys'.length : Int) + 1 == 0) = false := by simp; omega
          obtain ⟨gg, go, gk, he, _, _, _⟩ := Ch.RowA.some_of hr5 (by omega)
          obtain ⟨rfl, rfl⟩ : pa = some ⟨gg, go, none⟩ ∧ pc = gk := by cases he; exact ⟨rfl, rfl⟩
          have y1 : w11.cell? ⟨gg, go + 1, none⟩ = some (.int .i64 yp1) := (hr5.cells (F := cellsA zg #[.int .i64 0, .int .i64 n4.boot, .slice (some ⟨gg, go, none⟩) (ys'.length + 1) pc, .slice none 0 0] 80 :: (A10 ++ (B5 ++ (cellsA zf #[.int .i64 0, .int .i64 (bt), .slice none 0 0, .slice none 0 0] 80 :: LL)))) (hs11.use (by intro x; simp only [cnt_append, cnt_cons, cnt_nil]; omega)) rfl 1 (by rw [pcsC_length]; simp only [List.length_cons]; omega)).1
          have hge' : ¬ yp1 < ((i + 1 : Int)) := by omega
          have hgd : decide (yp1 < ((i + 1 : Int))) = false := decide_eq_false hge'
          clear he hx5 hb5 hr5
          have hs12 := hs11.drew
          go_wp2_with fail
          refine wp_region_one [] [] [] [] [0, 1, 2, 3, 4, 5, 6, 7, 8, 9, 10, 11, 12, 13, 14, 15, 16, 17, 18, 19, 20, 21, 22, 23, 24, 25, 26, 27, 28, 29, 30] (by kernel_rfl) (by kernel_rfl) ?_
          repeat (first | (refine can_pu1 rfl rfl rfl rfl rfl rfl (fun K hK => ?_); go_big_quiet_op; refine hK _ ?_; clear hK K) | (refine can_st1 rfl rfl rfl rfl rfl rfl (fun K hK => ?_); go_big_quiet_op; refine hK _ ?_; clear hK K) | (refine can_early1 rfl rfl rfl rfl rfl (fun K hK => ?_); go_big_quiet_op; refine hK _ ?_; clear hK K) | (refine can_skip rfl rfl rfl ?_; simp only [Act.put, List.setIfInBounds_toArray, List.set_cons_zero, List.set_cons_succ]))
          refine can_end1 ?_; (try simp only [Exit.then])
          go_wp2_with fail
          refine ⟨⟨i + 1, _, n4, A10, by simp, rfl, by omega, hA10, HBT4.out, (by have h := hs12; rw [HLL.out] at h; exact h.use (by intro x; simp only [cnt_append, cnt_cons, cnt_nil]; omega))⟩, ?_⟩
          simp [intOf]
          omega
        case neg =>
          exact absurd (show (0 : Int) < (i : Int) + 1 by omega) hsp
    case pos =>
      have hs8 := hs7.newCells #[.int .i64 (wrap64 (x.tdiv 3))] 3
      have hcr := node_crash b (3 * i + 1) n1 A5 (.slice (some ⟨w6.heap.size, 0, none⟩) 1 1) [wrap64 (x.tdiv 3)] W _ (cellsA w6.heap.size #[.int .i64 (wrap64 (x.tdiv 3))] 3 :: LL) hA5 (hs8.use (by intro x; simp only [cnt_append, cnt_cons, cnt_nil]; omega)) (fun y hy => reads_cells hy m0 1 1 [.int .i64 (wrap64 (x.tdiv 3))] rfl) (by show 1 < 9223372036854775808; omega) HOK1.out (by omega)
      obtain ⟨n2, hn2⟩ : ∃ n2, n2 = n1.crash [wrap64 (x.tdiv 3)] := ⟨_, rfl⟩
      rw [← hn2] at hcr
      have HOK2 := Lib.hid (show NdOk n2 (3 * i + 2) by rw [hn2]; exact HOK1.out.crash _)
      have HB2 := Lib.hid (show n2.boot = bt + 1 by rw [hn2, HBTE.out, ← HN1B.out]; rfl)
      have HBT3' := Lib.hid (show Bt ss ⟨n2.q.fl, n2.g, bt + 1⟩ sure (i + 1) by rw [hn2, HBTE.out]; exact HBT2.out [wrap64 (x.tdiv 3)])
      have HCR := Lib.hid hcr
      have hb9 : (bt == bt + 1) = false := by simp; omega
      clear hcr hs8 hs7 hn2 hA5
      go_wp2_with fail
      refine HCR.out.mono ?_; rintro r4 w7 ⟨A7, rfl, hA7, hs7'⟩
      have hs9 := Sat.use (M := A7 ++ LL) hs7' (by intro x; simp only [cnt_append, cnt_cons, cnt_nil]; omega)
      clear HCR hs7' d6
      have hfl := do_flush b (3 * i + 2) n2 A7 0 0 0 none 0 0 W w7 LL hA7 hs9 (HOK2.out.mono (by omega))
      rw [show n2.boot = bt + 1 from HB2.out] at hfl
      obtain ⟨n3, hn3⟩ : ∃ n3 : Nd, n3 = ⟨n2.q.fl, n2.g, bt + 1⟩ := ⟨_, rfl⟩
      rw [← hn3] at hfl
      have HOK3 := Lib.hid (show NdOk n3 (3 * i + 2) by rw [hn3, ← HB2.out]; exact HOK2.out.fl.mono (by omega))
      have HBT3 := Lib.hid (show Bt ss n3 (sure) (i + 1) by rw [hn3]; exact HBT3'.out)
      have HFL := Lib.hid hfl
      clear hfl hn3 HBT3'
      go_wp2_with fail
      refine HFL.out.mono ?_; rintro r3 w3 ⟨A3, rfl, hA3, hs3⟩
      clear HFL
      unfold repV
      have hs4 := hs3.newCells #[.int .i64 0, .int .i64 (bt + 1), .slice none 0 0, .slice none 0 0] 80
      go_upto_region 14 with fail
      generalize w3.heap.size = zf at *
      refine with_sat hs4 ?_
      clear hs4 hs3
      intro w8 hs8
      have hmp := HMP.out
      have e0 : w8.cell? ⟨zp, 0, none⟩ = some (.int .i64 0) := hs8.cell (.tail _ (List.mem_append_right A3 hmp)) 0
      have e1 : w8.cell? ⟨zp, 1, none⟩ = some (.int .i64 bt) := hs8.cell (.tail _ (List.mem_append_right A3 hmp)) 1
      have e2 : w8.cell? ⟨zf, 0, none⟩ = some (.int .i64 0) := hs8.cell m0 0
      have e3 : w8.cell? ⟨zf, 1, none⟩ = some (.int .i64 (bt + 1)) := hs8.cell m0 1
      have d8 := HD.out _ (HAW.out _ hs8.tail.right)
      clear hmp
      by_cases h5 : x.tmod 5 = 0
      case pos =>
        have hcr := node_crash b (3 * i + 2) n3 A3 (.slice none 0 0) [] W w8 (cellsA zf #[.int .i64 0, .int .i64 (bt + 1), .slice none 0 0, .slice none 0 0] 80 :: LL) hA3 (hs8.use (by intro x; simp only [cnt_append, cnt_cons, cnt_nil]; omega)) (fun y hy => .inl ⟨rfl, rfl, rfl⟩) (by decide) HOK3.out (by omega)
        obtain ⟨n4, hn4⟩ : ∃ n4 : Nd, n4 = n3.crash [] := ⟨_, rfl⟩
        rw [← hn4] at hcr
        have HOK4 := Lib.hid (show NdOk n4 (3 * i + 3) by rw [hn4]; exact HOK3.out.crash [])
        have HBT4 := Lib.hid (show Bt ss n4 (sure) (i + 1) by rw [hn4]; exact HBT3.out.fall HOK3.out)
        have HCR := Lib.hid hcr
        clear hcr hs8 hA3 hn4
        go_wp2_with fail
        refine HCR.out.mono ?_; rintro r4 w9 ⟨A9, rfl, hA9, hs9⟩
        clear HCR e0 e1 e2 e3 d8
        have hgt := do_get b (3 * i + 3) n4 A9 ss 0 0 none 0 0 W w9 (cellsA zf #[.int .i64 0, .int .i64 (bt + 1), .slice none 0 0, .slice none 0 0] 80 :: LL) hA9 hs9 j0 j1 HOK4.out
        have HHD := Lib.hid (HBT4.out.head2)
        have HGT := Lib.hid hgt
        clear hgt hs9 hA9
        go_wp2_with fail
        refine HGT.out.mono ?_; rintro r5 w10 ⟨pa, pc, ys, R5, B5, A10, rfl, hr5, hx5, hb5, hA10, hs10⟩
        clear HGT
        unfold repV
        have hs11 := hs10.newCells #[.int .i64 0, .int .i64 n4.boot, .slice pa ys.length pc, .slice none 0 0] 80
        go_upto_region 21 with fail
        generalize w10.heap.size = zg at *
        refine with_sat hs11 ?_
        clear hs11 hs10
        intro w11 hs11
        have hmp := HMP.out
        have e1 : w11.cell? ⟨zp, 1, none⟩ = some (.int .i64 bt) := hs11.cell (.tail _ (List.mem_append_right A10 (List.mem_append_right R5 (List.mem_append_right B5 (.tail _ hmp))))) 1
        have e3 : w11.cell? ⟨zf, 1, none⟩ = some (.int .i64 (bt + 1)) := hs11.cell (.tail _ (List.mem_append_right A10 (List.mem_append_right R5 (List.mem_append_right B5 m0)))) 1
        have g2 : w11.cell? ⟨zg, 2, none⟩ = some (.slice pa ys.length pc) := hs11.cell m0 2
        have d8 := HD.out _ (HAW.out _ hs11.tail.right.right.right.tail)
        clear hmp
        by_cases hsp : 0 < (sure)
        case pos =>
          obtain ⟨yp, yv, ys', rfl, hge⟩ := HHD.out _ hx5 hsp
          obtain ⟨yp0, yp1, yp2, yp3⟩ := yp
          simp only [List.length_cons] at hr5 g2 hge hs11 ⊢
          have hy0 : ((ys'.length : Int) + 1 == 0) = false := by simp; omega
          obtain ⟨gg, go, gk, he, _, _, _⟩ := Ch.RowA.some_of hr5 (by omega)
          obtain ⟨rfl, rfl⟩ : pa = some ⟨gg, go, none⟩ ∧ pc = gk := by cases he; exact ⟨rfl, rfl⟩
          have y1 : w11.cell? ⟨gg, go + 1, none⟩ = some (.int .i64 yp1) := (hr5.cells (F := cellsA zg #[.int .i64 0, .int .i64 n4.boot, .slice (some ⟨gg, go, none⟩) (ys'.length + 1) pc, .slice none 0 0] 80 :: (A10 ++ (B5 ++ (cellsA zf #[.int .i64 0, .int .i64 (bt + 1), .slice none 0 0, .slice none 0 0] 80 :: LL)))) (hs11.use (by intro x; simp only [cnt_append, cnt_cons, cnt_nil]; omega)) rfl 1 (by rw [pcsC_length]; simp only [List.length_cons]; omega)).1
          have hge' : ¬ yp1 < (sure) := by omega
          have hgd : decide (yp1 < (sure)) = false := decide_eq_false hge'
          clear he hx5 hb5 hr5
          have hs12 := hs11.drew
          go_wp2_with fail
          refine wp_region_one [] [] [] [] [0, 1, 2, 3, 4, 5, 6, 7, 8, 9, 10, 11, 12, 13, 14, 15, 16, 17, 18, 19, 20, 21, 22, 23, 24, 25, 26, 27, 28, 29, 30] (by kernel_rfl) (by kernel_rfl) ?_
          repeat (first | (refine can_pu1 rfl rfl rfl rfl rfl rfl (fun K hK => ?_); go_big_quiet_op; refine hK _ ?_; clear hK K) | (refine can_st1 rfl rfl rfl rfl rfl rfl (fun K hK => ?_); go_big_quiet_op; refine hK _ ?_; clear hK K) | (refine can_early1 rfl rfl rfl rfl rfl (fun K hK => ?_); go_big_quiet_op; refine hK _ ?_; clear hK K) | (refine can_skip rfl rfl rfl ?_; simp only [Act.put, List.setIfInBounds_toArray, List.set_cons_zero, List.set_cons_succ]))
          refine can_end1 ?_; (try simp only [Exit.then])
          go_wp2_with fail
          refine ⟨⟨i + 1, _, n4, A10, by simp, rfl, by omega, hA10, HBT4.out, (by have h := hs12; rw [HLL.out] at h; exact h.use (by intro x; simp only [cnt_append, cnt_cons, cnt_nil]; omega))⟩, ?_⟩
          simp [intOf]
          omega
        case neg =>
          have hge' : decide (0 < sure) = false := decide_eq_false hsp
          have hs12 := hs11.drew
          clear hx5 hb5 hr5
          go_wp2_with fail
          refine wp_region_one [] [] [] [] [0, 1, 2, 3, 4, 5, 6, 7, 8, 9, 10, 11, 12, 13, 14, 15, 16, 17, 18, 19, 20, 21, 22, 23, 24, 25, 26, 27, 28, 29, 30] (by kernel_rfl) (by kernel_rfl) ?_
          repeat (first | (refine can_pu1 rfl rfl rfl rfl rfl rfl (fun K hK => ?_); go_big_quiet_op; refine hK _ ?_; clear hK K) | (refine can_st1 rfl rfl rfl rfl rfl rfl (fun K hK => ?_); go_big_quiet_op; refine hK _ ?_; clear hK K) | (refine can_early1 rfl rfl rfl rfl rfl (fun K hK => ?_); go_big_quiet_op; refine hK _ ?_; clear hK K) | (refine can_skip rfl rfl rfl ?_; simp only [Act.put, List.setIfInBounds_toArray, List.set_cons_zero, List.set_cons_succ]))
          refine can_end1 ?_; (try simp only [Exit.then])
          go_wp2_with fail
          refine ⟨⟨i + 1, _, n4, A10, by simp, rfl, by omega, hA10, HBT4.out, (by have h := hs12; rw [HLL.out] at h; exact h.use (by intro x; simp only [cnt_append, cnt_cons, cnt_nil]; omega))⟩, ?_⟩
          simp [intOf]
          omega
      case neg =>
        obtain ⟨n4, hn4⟩ : ∃ n4 : Nd, n4 = n3 := ⟨_, rfl⟩
        have HOK4 := Lib.hid (show NdOk n4 (3 * i + 3) by rw [hn4]; exact HOK3.out.mono (by omega))
        have HBT4 := Lib.hid (show Bt ss n4 (sure) (i + 1) by rw [hn4]; exact HBT3.out)
        rw [← hn4] at hA3
        have h5' : (x.tmod 5 == 0) = false := by simpa using h5
        have hs9 := Sat.use (M := A3 ++ (cellsA zf #[.int .i64 0, .int .i64 (bt + 1), .slice none 0 0, .slice none 0 0] 80 :: LL)) hs8 (by intro x; simp only [cnt_append, cnt_cons, cnt_nil]; omega)
        clear hn4 hs8
        have hgt := do_get b (3 * i + 3) n4 A3 ss 0 0 none 0 0 W w8 (cellsA zf #[.int .i64 0, .int .i64 (bt + 1), .slice none 0 0, .slice none 0 0] 80 :: LL) hA3 hs9 j0 j1 HOK4.out
        have HHD := Lib.hid (HBT4.out.head2)
        have HGT := Lib.hid hgt
        clear hgt hs9 hA3
        go_wp2_with fail
        refine HGT.out.mono ?_; rintro r5 w10 ⟨pa, pc, ys, R5, B5, A10, rfl, hr5, hx5, hb5, hA10, hs10⟩
        clear HGT
        unfold repV
        have hs11 := hs10.newCells #[.int .i64 0, .int .i64 n4.boot, .slice pa ys.length pc, .slice none 0 0] 80
        go_upto_region 21 with fail
        generalize w10.heap.size = zg at *
        refine with_sat hs11 ?_
        clear hs11 hs10
        intro w11 hs11
        have hmp := HMP.out
        have e1 : w11.cell? ⟨zp, 1, none⟩ = some (.int .i64 bt) := hs11.cell (.tail _ (List.mem_append_right A10 (List.mem_append_right R5 (List.mem_append_right B5 (.tail _ hmp))))) 1
        have e3 : w11.cell? ⟨zf, 1, none⟩ = some (.int .i64 (bt + 1)) := hs11.cell (.tail _ (List.mem_append_right A10 (List.mem_append_right R5 (List.mem_append_right B5 m0)))) 1
        have g2 : w11.cell? ⟨zg, 2, none⟩ = some (.slice pa ys.length pc) := hs11.cell m0 2
        have d8 := HD.out _ (HAW.out _ hs11.tail.right.right.right.tail)
        clear hmp
        by_cases hsp : 0 < (sure)
        case pos =>
          obtain ⟨yp, yv, ys', rfl, hge⟩ := HHD.out _ hx5 hsp
          obtain ⟨yp0, yp1, yp2, yp3⟩ := yp
          simp only [List.length_cons] at hr5 g2 hge hs11 ⊢
          have hy0 : ((ys'.length : Int) + 1 == 0) = false := by simp; omega
          obtain ⟨gg, go, gk, he, _, _, _⟩ := Ch.RowA.some_of hr5 (by omega)
          obtain ⟨rfl, rfl⟩ : pa = some ⟨gg, go, none⟩ ∧ pc = gk := by cases he; exact ⟨rfl, rfl⟩
          have y1 : w11.cell? ⟨gg, go + 1, none⟩ = some (.int .i64 yp1) := (hr5.cells (F := cellsA zg #[.int .i64 0, .int .i64 n4.boot, .slice (some ⟨gg, go, none⟩) (ys'.length + 1) pc, .slice none 0 0] 80 :: (A10 ++ (B5 ++ (cellsA zf #[.int .i64 0, .int .i64 (bt + 1), .slice none 0 0, .slice none 0 0] 80 :: LL)))) (hs11.use (by intro x; simp only [cnt_append, cnt_cons, cnt_nil]; omega)) rfl 1 (by rw [pcsC_length]; simp only [List.length_cons]; omega)).1
          have hge' : ¬ yp1 < (sure) := by omega
          have hgd : decide (yp1 < (sure)) = false := decide_eq_false hge'
          clear he hx5 hb5 hr5
          have hs12 := hs11.drew
          go_wp2_with fail
          refine wp_region_one [] [] [] [] [0, 1, 2, 3, 4, 5, 6, 7, 8, 9, 10, 11, 12, 13, 14, 15, 16, 17, 18, 19, 20, 21, 22, 23, 24, 25, 26, 27, 28, 29, 30] (by kernel_rfl) (by kernel_rfl) ?_
          repeat (first | (refine can_pu1 rfl rfl rfl rfl rfl rfl (fun K hK => ?_); go_big_quiet_op; refine hK _ ?_; clear hK K) | (refine can_st1 rfl rfl rfl rfl rfl rfl (fun K hK => ?_); go_big_quiet_op; refine hK _ ?_; clear hK K) | (refine can_early1 rfl rfl rfl rfl rfl (fun K hK => ?_); go_big_quiet_op; refine hK _ ?_; clear hK K) | (refine can_skip rfl rfl rfl ?_; simp only [Act.put, List.setIfInBounds_toArray, List.set_cons_zero, List.set_cons_succ]))
          refine can_end1 ?_; (try simp only [Exit.then])
          go_wp2_with fail
          refine ⟨⟨i + 1, _, n4, A10, by simp, rfl, by omega, hA10, HBT4.out, (by have h := hs12; rw [HLL.out] at h; exact h.use (by intro x; simp only [cnt_append, cnt_cons, cnt_nil]; omega))⟩, ?_⟩
          simp [intOf]
          omega
        case neg =>
          have hge' : decide (0 < sure) = false := decide_eq_false hsp
          have hs12 := hs11.drew
          clear hx5 hb5 hr5
          go_wp2_with fail
          refine wp_region_one [] [] [] [] [0, 1, 2, 3, 4, 5, 6, 7, 8, 9, 10, 11, 12, 13, 14, 15, 16, 17, 18, 19, 20, 21, 22, 23, 24, 25, 26, 27, 28, 29, 30] (by kernel_rfl) (by kernel_rfl) ?_
          repeat (first | (refine can_pu1 rfl rfl rfl rfl rfl rfl (fun K hK => ?_); go_big_quiet_op; refine hK _ ?_; clear hK K) | (refine can_st1 rfl rfl rfl rfl rfl rfl (fun K hK => ?_); go_big_quiet_op; refine hK _ ?_; clear hK K) | (refine can_early1 rfl rfl rfl rfl rfl (fun K hK => ?_); go_big_quiet_op; refine hK _ ?_; clear hK K) | (refine can_skip rfl rfl rfl ?_; simp only [Act.put, List.setIfInBounds_toArray, List.set_cons_zero, List.set_cons_succ]))
          refine can_end1 ?_; (try simp only [Exit.then])
          go_wp2_with fail
          refine ⟨⟨i + 1, _, n4, A10, by simp, rfl, by omega, hA10, HBT4.out, (by have h := hs12; rw [HLL.out] at h; exact h.use (by intro x; simp only [cnt_append, cnt_cons, cnt_nil]; omega))⟩, ?_⟩
          simp [intOf]
          omega
theorem boots_law (v : Value) (ks : List Int) (s : Int) (W : World) (ha : ∀ y, Below W.heap.size W y → Reads y v ks.length (intsC ks)) (_ : ks.length ≤ maxLen) :
    Calls Try.prog 10 #[v, .int .i64 s] W fun e w' => e = .returned (.bool true) ∧ Below W.heap.size W w' := by
  obtain ⟨aa, ac, rfl⟩ := reads_shape (ha W (Below.refl _ W))
  exact boots_walk aa ac ks s W ha
end Go.Proofs.Ytdkhgkkdnjejmaa.Ch
