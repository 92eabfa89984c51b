
/-
  WireKnown: the walk.
-/
import Derived.Test.YtekbbpfnkbanjaaGreatDoorWkA
namespace Go.Proofs.YtekbbpfnkbanjaaGreatDoor.Ch
set_option linter.unusedSimpArgs false
open Go Go.RowKit Go.Sl Go.BigFrame
set_option linter.unusedVariables false

set_option maxRecDepth 100000 in
set_option maxHeartbeats 32000000 in
theorem wknown_walk (W : World) (hG : Ca.ErrT W) :
    Calls Tryz.prog 5 #[] W fun e w' => e = .returned (.bool true) ∧ Below W.heap.size W w' := by
  have hs0 := allOf_sat W
  have HB := Lib.hid (fun w' (h : Sat W w' (allOf W)) => below12 h)
  have HG := Lib.hid (fun y (h : Sat W y (allOf W)) => errT12 (below12 h) hG)
  clear hG
  generalize allOf W = aW at *
  have HN := Lib.hid (wnew_any W W aW hs0)
  clear hs0
  go_enter Tryz.func5, Tryz.ntmps5
  go_wp2_with fail
  refine HN.out.mono ?_; rintro r w1 ⟨b, ps, A, rfl, hpl, hall, hA, hs1⟩
  clear HN
  have HALL := Lib.hid hall
  obtain ⟨⟨b0, n0⟩, g0⟩ : ∃ p, ps[0]? = some p := ⟨_, List.getElem?_eq_getElem (by omega)⟩
  obtain rfl : n0 = nd0 := hall _ (List.mem_of_getElem? g0)
  obtain ⟨⟨b1, n1⟩, g1⟩ : ∃ p, ps[1]? = some p := ⟨_, List.getElem?_eq_getElem (by omega)⟩
  obtain rfl : n1 = nd0 := hall _ (List.mem_of_getElem? g1)
  obtain ⟨⟨b2, n2⟩, g2⟩ : ∃ p, ps[2]? = some p := ⟨_, List.getElem?_eq_getElem (by omega)⟩
  obtain rfl : n2 = nd0 := hall _ (List.mem_of_getElem? g2)
  obtain ⟨⟨b3, n3⟩, g3⟩ : ∃ p, ps[3]? = some p := ⟨_, List.getElem?_eq_getElem (by omega)⟩
  have l1 : 1 < ps.length := by omega
  have G0 := Lib.hid g0
  have G1 := Lib.hid g1
  have G2 := Lib.hid g2
  have G3 := Lib.hid g3
  have L1 := Lib.hid l1
  clear hall hpl g0 g1 g2 g3 l1
  go_wp2_with fail
  refine (known12_any W _ _ hs1 (fun y hy => HG.out y hy.right)).mono ?_; rintro r w2 ⟨rfl, hs⟩
  clear hs1
  have HSS := Lib.hid hs
  clear hs
  go_wp2_with fail
  refine (wnode_in (k := 3) hA HSS.out G3.out).mono ?_; rintro r wq ⟨rfl, rfl⟩
  go_wp2_with fail
  refine (wnode_out (n := 8) (by omega)).mono ?_; rintro r wq ⟨rfl, rfl⟩
  go_wp2_with fail
  refine (wnode_out (n := -1) (by omega)).mono ?_; rintro r wq ⟨rfl, rfl⟩
  have hs := HSS.out
  clear HSS
  go_wp2_with fail
  refine (flush12 W _ _ hs).mono ?_; rintro r wq ⟨rfl, hsq⟩
  clear hs
  go_wp2_with fail
  refine (wcall_bad b 8 qF _ none 0 W _ _ hsq (fun y hy => .inl ⟨rfl, rfl, rfl⟩) (fun h => absurd h.2.1 (by decide))).mono ?_
  rintro r w3 ⟨v, ev, R', rfl, hR, hsc⟩
  clear hsq
  obtain ⟨rfl, e1, rfl, rfl⟩ := hR
  unfold repV
  have hs := Sat.use (M := A ++ (onA e1 8 1 :: aW)) (hsc.alloc (.cells #[.int .i64 0, .int .i64 0, .slice none 0 0, .slice none 0 0] 38)) (by intro x; simp only [cnt_append, cnt_cons, cnt_nil]; omega)
  clear hsc
  go_wp2_with fail
  refine (wcall_bad b 0 ⟨0, 0, 0, 0, []⟩ _ none 0 W _ _ hs (fun y hy => .inl ⟨rfl, rfl, rfl⟩) (fun h => absurd h.2.2.1 (show ¬ (1 : Int) ≤ 0 by decide))).mono ?_
  rintro r w4 ⟨v, ev, R', rfl, hR, hsc⟩
  clear hs
  obtain ⟨rfl, e2, rfl, rfl⟩ := hR
  unfold repV
  have hs := Sat.use (M := A ++ (onA e2 0 1 :: (onA e1 8 1 :: aW))) (hsc.alloc (.cells #[.int .i64 0, .int .i64 0, .slice none 0 0, .slice none 0 0] 38)) (by intro x; simp only [cnt_append, cnt_cons, cnt_nil]; omega)
  clear hsc
  have HF0 := Lib.hid (fit0 HALL.out [] (by simp))
  go_wp2_with fail
  refine (wcall_at 0 b 0 0 (wr0 ps) A qP none 0 W _ _ rfl hA hs (by omega) reqOk_put (fun y hy => .inl ⟨rfl, rfl, rfl⟩) HF0.out (by omega)).mono ?_
  rintro r w5 ⟨x', rr, v, ev, A', R', rfl, hT, hR, hA', hsc⟩
  have HFT := Lib.hid (TryR.fit 3 hT HF0.out)
  obtain ⟨rfl, rfl⟩ := kn_put G0.out hT
  clear hA hs hT HF0
  obtain ⟨rfl, e3, rfl, rfl⟩ := hR
  unfold repV
  have hs := Sat.use (M := A' ++ (onA e3 0 1 :: (onA e2 0 1 :: (onA e1 8 1 :: aW)))) (hsc.alloc (.cells #[.int .i64 0, .int .i64 0, .slice none 0 0, .slice none 0 0] 38)) (by intro x; simp only [cnt_append, cnt_cons, cnt_nil]; omega)
  have hA := hA'
  clear hsc hA'
  go_wp2_with fail
  refine (wsent_any hA hs).mono ?_; rintro r wq ⟨rfl, rfl⟩
  go_wp2_with fail
  refine (bytes_of 1 128 W _ _ (by omega) hs).mono ?_; rintro r w6 ⟨dv, RD, rfl, hrd, hs6⟩
  clear hs
  obtain ⟨da, dc, rfl⟩ := Ch.RowA.slice hrd
  obtain ⟨D, hD⟩ : ∃ D, D = bytesOf 1 128 := ⟨_, rfl⟩
  have HDL := Lib.hid (show D.length = 128 by rw [hD]; exact bytesOf_length _ _)
  rw [← hD] at hrd
  have HRD := Lib.hid hrd
  have hs7 := (hs6.newCells #[.int .i64 3, .int .i64 0, .int .i64 1, .int .i64 0, .slice da 128 dc] 44)
  have hs8 := hs7.newCells #[.int .i64 2, .int .i64 2, .int .i64 0, .int .i64 3, .int .i64 77] 3
  have hsz : (w6.alloc (.cells #[.int .i64 3, .int .i64 0, .int .i64 1, .int .i64 0, .slice da 128 dc] 44)).heap.size = w6.heap.size + 1 := by simp
  rw [hsz] at hs8
  have hs9 := Sat.use (M := A' ++ (cellsA (w6.heap.size + 1) #[.int .i64 2, .int .i64 2, .int .i64 0, .int .i64 3, .int .i64 77] 3 :: (cellsA w6.heap.size #[.int .i64 3, .int .i64 0, .int .i64 1, .int .i64 0, .slice da 128 dc] 44 :: (RD ++ (onA e3 0 1 :: (onA e2 0 1 :: (onA e1 8 1 :: aW))))))) hs8 (by intro x; simp only [cnt_append, cnt_cons, cnt_nil]; omega)
  have hfa := wfates_any (b := b) [2, 2, 0, 3, 77] (some ⟨w6.heap.size + 1, 0, none⟩) 5 hA hs9 (fun y hy => reads_cells hy m0 _ _ _ rfl) (by simp) (by simp)
  have HFA := Lib.hid hfa
  clear hs6 hs7 hs8 hs9 hsz hfa hA hD hrd
  go_wp2_with fail
  refine HFA.out.mono ?_; rintro r w7 ⟨A7, rfl, hA7, hs10⟩
  clear HFA
  generalize w6.heap.size = zq at *
  have hs11 := Sat.use (M := cellsA zq #[.int .i64 3, .int .i64 0, .int .i64 1, .int .i64 0, .slice da 128 dc] 44 :: []) hs10 (by intro x; simp only [cnt_append, cnt_cons, cnt_nil]; omega)
  have c0 : w7.cell? ⟨zq, 0, none⟩ = some (.int .i64 3) := hs11.cell m0 0
  have c1 : w7.cell? ⟨zq, 1, none⟩ = some (.int .i64 0) := hs11.cell m0 1
  have c2 : w7.cell? ⟨zq, 2, none⟩ = some (.int .i64 1) := hs11.cell m0 2
  have c3 : w7.cell? ⟨zq, 3, none⟩ = some (.int .i64 0) := hs11.cell m0 3
  have c4 : w7.cell? ⟨zq, 4, none⟩ = some (.slice da 128 dc) := hs11.cell m0 4
  have HF2 := Lib.hid (⟨HFT.out.nodes, by simp, HFT.out.f0, HFT.out.f1, HFT.out.s0, HFT.out.s1⟩ : WrFit ⟨ps, rep8, [] ++ [2, 2, 0, 3, 77], -1, false, 1⟩ (0 + 2 * 3))
  have hcall := wcall_at (0 + 2 * 3) b 1 1 ⟨ps, rep8, [] ++ [2, 2, 0, 3, 77], -1, false, 1⟩ A7 (logq (iK D)) da dc W _ _ rfl hA7 hs10 (by omega) (reqOk_log D HDL.out) (fun y hy => by
    show Reads y (.slice da D.length dc) D.length (bts D)
    have h := HRD.out.reads (Sat.use (M := RD ++ aW) hy (by intro x; simp only [cnt_append, cnt_cons, cnt_nil]; omega))
    rw [HDL.out]
    exact h) HF2.out (by omega)
  unfold rqV logq iK at hcall
  simp only at hcall
  rw [HDL.out] at hcall
  have HCALL := Lib.hid hcall
  clear hs11 hcall hs10 hA7
  go_wp2_with fail
  refine HCALL.out.mono ?_; rintro r w8 ⟨x', rr, v, ev, A', R', rfl, hT, hR, hA', hsc⟩
  clear HCALL c0 c1 c2 c3 c4 HFT
  have HFT := Lib.hid (TryR.fit 3 hT HF2.out)
  obtain ⟨m1, ls1, rfl, rfl, hb1, ht1, hl1⟩ := kn_log HDL.out G1.out hT
  clear hT
  have HB1 := Lib.hid hb1
  have HT1 := Lib.hid ht1
  have HL1 := Lib.hid hl1
  clear hb1 ht1 hl1
  obtain ⟨_, rfl, pv, iv, rfl, hra⟩ := hR
  obtain ⟨pa, pn, pc, ia, im, ic, rfl, rfl⟩ := hra.shape
  unfold repV
  have hs := Sat.use (M := A' ++ (onA e3 0 1 :: (onA e2 0 1 :: (onA e1 8 1 :: aW)))) (hsc.alloc (.cells #[.int .i64 0, .int .i64 (1), .slice pa pn pc, .slice ia im ic] 38)) (by intro x; simp only [cnt_append, cnt_cons, cnt_nil]; omega)
  have hA := hA'
  clear hsc hra hA'
  go_wp2_with fail
  refine (wleft_any hA hs).mono ?_; rintro r wq ⟨rfl, rfl⟩
  have HNK := Lib.hid (show (ps.set 1 (b1, m1))[1]? = some (b1, m1) by rw [List.getElem?_set]; simp [L1.out])
  obtain ⟨br, hring, hlive⟩ := wlive_any hA hs HNK.out (HFT.out.nodes _ (List.mem_of_getElem? HNK.out))
  have HRING := Lib.hid hring
  have HLIVE := Lib.hid hlive
  have HSS := Lib.hid hs
  clear hs hring hlive
  go_wp2_with fail
  refine (wnode_in (k := 1) hA HSS.out HNK.out).mono ?_; rintro r wq ⟨rfl, rfl⟩
  go_wp2_with fail
  refine HRING.out.mono ?_; rintro r wq ⟨rfl, rfl⟩
  go_wp2_with fail
  refine HLIVE.out.mono ?_; rintro r w8 ⟨lv, ys, R8, C8, rfl, hr8, hly, hs10⟩
  clear HRING HLIVE HSS
  have hyl : ys.length = 1 := by
    obtain ⟨zs, hp, _, hy, _⟩ := hly
    have h1 := congrArg List.length hy
    rw [List.length_map, List.length_map, hp.length_eq] at h1
    rw [h1]
    exact by rw [live_tn HT1.out, HL1.out]
  rw [hyl] at hr8
  obtain ⟨la, lc, rfl⟩ := Ch.RowA.slice hr8
  clear hr8 hly hyl
  have hs := Sat.use (M := A' ++ (onA e3 0 1 :: (onA e2 0 1 :: (onA e1 8 1 :: aW)))) hs10 (by intro x; simp only [cnt_append, cnt_cons, cnt_nil]; omega)
  clear hs10
  go_wp2_with fail
  refine (flush12 W _ _ hs).mono ?_; rintro r wq ⟨rfl, hsq⟩
  clear hs
  go_wp2_with fail
  refine (wcall_flush _ b 1 1 _ _ W _ _ rfl hA hsq (by omega) (HFT.out) (by omega)).mono ?_
  rintro r wc ⟨x', rr, v, ev, A', R', rfl, hT, hR, hA', hsc⟩
  have HFT := Lib.hid (TryR.fit 3 hT (HFT.out))
  obtain ⟨rfl, rfl⟩ := kn_pow HNK.out hT
  clear hA hsq hT
  rw [HB1.out] at hR
  obtain ⟨_, rfl, pv, iv, rfl, hra⟩ := hR
  obtain ⟨qa, qn, qc, ja, jm, jc, rfl, rfl⟩ := hra.shape
  unfold repV
  obtain ⟨zp, hzp⟩ : ∃ z, wc.heap.size = z := ⟨_, rfl⟩
  have hs := hsc.newCells #[.int .i64 0, .int .i64 (1 + 1), .slice qa qn qc, .slice ja jm jc] 38
  rw [hzp] at hs
  have HZP := Lib.hid hzp
  clear hzp
  have hs := Sat.use (M := A' ++ (cellsA zp #[.int .i64 0, .int .i64 (1 + 1), .slice qa qn qc, .slice ja jm jc] 38 :: (onA e3 0 1 :: (onA e2 0 1 :: (onA e1 8 1 :: aW))))) hs (by intro x; simp only [cnt_append, cnt_cons, cnt_nil]; omega)
  have hA := hA'
  clear hsc hra hA'
  have GB1 := Lib.hid (show ((ps.set 1 (b1, m1)).set 1 (b1, (m1.crash []).flu))[1]? = some (b1, (m1.crash []).flu) by rw [List.getElem?_set]; simp [L1.out])
  have GB2 := Lib.hid (show ((ps.set 1 (b1, m1)).set 1 (b1, (m1.crash []).flu))[2]? = some (b2, nd0) by rw [List.getElem?_set_ne (by decide), List.getElem?_set_ne (by decide)]; exact G2.out)
  have LB1 := Lib.hid (show 1 < ((ps.set 1 (b1, m1)).set 1 (b1, (m1.crash []).flu)).length by simpa using L1.out)
  generalize (ps.set 1 (b1, m1)).set 1 (b1, (m1.crash []).flu) = ns at *
  obtain ⟨E, hE⟩ : ∃ E, E = cellsA zp #[.int .i64 0, .int .i64 (1 + 1), .slice qa qn qc, .slice ja jm jc] 38 :: (onA e3 0 1 :: (onA e2 0 1 :: (onA e1 8 1 :: aW))) := ⟨_, rfl⟩
  rw [← hE] at hs
  have HE := Lib.hid hE
  clear hE
  have HNK := Lib.hid GB1.out
  obtain ⟨br, hring, hlive⟩ := wlive_any hA hs HNK.out (HFT.out.nodes _ (List.mem_of_getElem? HNK.out))
  have HRING := Lib.hid hring
  have HLIVE := Lib.hid hlive
  have HSS := Lib.hid hs
  clear hs hring hlive
  go_wp2_with fail
  refine (wnode_in (k := 1) hA HSS.out HNK.out).mono ?_; rintro r wq ⟨rfl, rfl⟩
  go_wp2_with fail
  refine HRING.out.mono ?_; rintro r wq ⟨rfl, rfl⟩
  go_wp2_with fail
  refine HLIVE.out.mono ?_; rintro r w8 ⟨lv, ys, R8, C8, rfl, hr8, hly, hs10⟩
  clear HRING HLIVE HSS
  have hyl : ys.length = 0 := by
    obtain ⟨zs, hp, _, hy, _⟩ := hly
    have h1 := congrArg List.length hy
    rw [List.length_map, List.length_map, hp.length_eq] at h1
    rw [h1]
    exact by rw [show (m1.crash []).flu.g = (m1.crash []).g from rfl, live_tn (crash_tn HT1.out)]; rfl
  rw [hyl] at hr8
  obtain ⟨la, lc, rfl⟩ := Ch.RowA.slice hr8
  clear hr8 hly hyl
  have hs := Sat.use (M := A' ++ E) hs10 (by intro x; simp only [cnt_append, cnt_cons, cnt_nil]; omega)
  clear hs10
  go_wp2_with fail
  refine (flush12 W _ _ hs).mono ?_; rintro r wq ⟨rfl, hsq⟩
  clear hs
  go_wp2_with fail
  refine (wcall_flush _ b 1 1 _ _ W _ _ rfl hA hsq (by omega) (HFT.out) (by omega)).mono ?_
  rintro r wc ⟨x', rr, v, ev, A', R', rfl, hT, hR, hA', hsc⟩
  have HFT := Lib.hid (TryR.fit 3 hT (HFT.out))
  obtain ⟨rfl, rfl⟩ := kn_77 GB1.out hT
  clear hA hsq hT
  obtain ⟨_, rfl, pv, iv, rfl, hra⟩ := hR
  obtain ⟨pa2, pn2, pc2, ia2, im2, ic2, rfl, rfl⟩ := hra.shape
  unfold repV
  have hs := Sat.use (M := A' ++ E) hsc (by intro x; simp only [cnt_append, cnt_cons, cnt_nil]; omega)
  have hA := hA'
  clear hsc hra hA'
  have GC1 := Lib.hid (show (ns.set 1 (b1, (m1.crash []).flu.flu))[1]? = some (b1, (m1.crash []).flu.flu) by rw [List.getElem?_set]; simp [LB1.out])
  have GC2 := Lib.hid (show (ns.set 1 (b1, (m1.crash []).flu.flu))[2]? = some (b2, nd0) by rw [List.getElem?_set_ne (by decide)]; exact GB2.out)
  have LC1 := Lib.hid (show 1 < (ns.set 1 (b1, (m1.crash []).flu.flu)).length by simpa using LB1.out)
  generalize ns.set 1 (b1, (m1.crash []).flu.flu) = ns2 at *
  generalize (m1.crash []).flu.flu = m2 at *
  go_wp2_with fail
  refine (wdown_in (k := 1) true hA hs (by decide)).mono ?_; rintro r w9 ⟨A9, rfl, hA9, hs11⟩
  clear hA hs
  have hA := hA9
  have hs := hs11
  clear hA9 hs11
  go_wp2_with fail
  refine (wdown_out (n := 9) (by omega)).mono ?_; rintro r wq ⟨rfl, rfl⟩
  go_wp2_with fail
  refine (flush12 W _ _ hs).mono ?_; rintro r wq ⟨rfl, hsq⟩
  clear hs
  go_wp2_with fail
  refine (wcall_flush _ b 1 1 _ _ W _ _ rfl hA hsq (by omega) (HFT.out.down _) (by omega)).mono ?_
  rintro r wc ⟨x', rr, v, ev, A', R', rfl, hT, hR, hA', hsc⟩
  have HFT := Lib.hid (TryR.fit 3 hT (HFT.out.down _))
  obtain ⟨rfl, rfl⟩ := try_down (k := 1) rfl hT
  clear hA hsq hT
  obtain ⟨rfl, e4, rfl, rfl⟩ := hR
  unfold repV
  have hs := Sat.use (M := A' ++ (onA e4 1 4 :: (E))) (hsc.alloc (.cells #[.int .i64 0, .int .i64 0, .slice none 0 0, .slice none 0 0] 38)) (by intro x; simp only [cnt_append, cnt_cons, cnt_nil]; omega)
  have hA := hA'
  clear hsc hA'
  go_wp2_with fail
  refine (wdown_in (k := 1) false hA hs (by decide)).mono ?_; rintro r w9 ⟨A9, rfl, hA9, hs11⟩
  clear hA hs
  go_wp2_with fail
  refine (wfuse_any 1 hA9 hs11 (by decide)).mono ?_; rintro r w10 ⟨A10, rfl, hA, hs⟩
  clear hA9 hs11
  have HF5 := Lib.hid (⟨HFT.out.nodes, by simp, by show (-1 : Int) ≤ 1; decide, by show (1 : Int) < _; decide, HFT.out.s0, HFT.out.s1⟩ : WrFit ⟨ns2, (rep8.set 1 true).set 1 false, [], 1, false, 4 + 1 + 1⟩ _)
  clear HFT
  go_wp2_with fail
  refine (flush12 W _ _ hs).mono ?_; rintro r wq ⟨rfl, hsq⟩
  clear hs
  go_wp2_with fail
  refine (wcall_flush _ b 1 1 _ _ W _ _ rfl hA hsq (by omega) (HF5.out) (by omega)).mono ?_
  rintro r wc ⟨x', rr, v, ev, A', R', rfl, hT, hR, hA', hsc⟩
  have HFT := Lib.hid (TryR.fit 3 hT (HF5.out))
  obtain ⟨rfl, rfl⟩ := kn_fuse GC1.out rfl hT
  clear hA hsq hT
  obtain ⟨_, rfl, pv, iv, rfl, hra⟩ := hR
  obtain ⟨pa, pn, pc, ia, im, ic, rfl, rfl⟩ := hra.shape
  unfold repV
  have hs := Sat.use (M := A' ++ ((onA e4 1 4 :: E))) (hsc.alloc (.cells #[.int .i64 0, .int .i64 (m2.boot), .slice pa pn pc, .slice ia im ic] 38)) (by intro x; simp only [cnt_append, cnt_cons, cnt_nil]; omega)
  have hA := hA'
  clear hsc hra hA'
  have GD2 := Lib.hid (show (ns2.set 1 (b1, m2.flu))[2]? = some (b2, nd0) by rw [List.getElem?_set_ne (by decide)]; exact GC2.out)
  generalize ns2.set 1 (b1, m2.flu) = ns3 at *
  go_wp2_with fail
  refine (flush12 W _ _ hs).mono ?_; rintro r wq ⟨rfl, hsq⟩
  clear hs
  go_wp2_with fail
  refine (wcall_flush _ b 1 1 _ _ W _ _ rfl hA hsq (by omega) (HFT.out) (by omega)).mono ?_
  rintro r wc ⟨x', rr, v, ev, A', R', rfl, hT, hR, hA', hsc⟩
  have HFT := Lib.hid (TryR.fit 3 hT (HFT.out))
  obtain ⟨rfl, rfl⟩ := kn_burn rfl hT
  clear hA hsq hT
  obtain ⟨rfl, e5, rfl, rfl⟩ := hR
  unfold repV
  have hs := Sat.use (M := A' ++ (onA e5 1 4 :: (onA e4 1 4 :: E))) (hsc.alloc (.cells #[.int .i64 0, .int .i64 0, .slice none 0 0, .slice none 0 0] 38)) (by intro x; simp only [cnt_append, cnt_cons, cnt_nil]; omega)
  have hA := hA'
  clear hsc hA'
  go_wp2_with fail
  refine (wdead_any hA hs).mono ?_; rintro r wq ⟨rfl, rfl⟩
  go_wp2_with fail
  refine (flush12 W _ _ hs).mono ?_; rintro r wq ⟨rfl, hsq⟩
  clear hs
  go_wp2_with fail
  refine (wcall_flush _ b 2 2 _ _ W _ _ rfl hA hsq (by omega) (HFT.out) (by omega)).mono ?_
  rintro r wc ⟨x', rr, v, ev, A', R', rfl, hT, hR, hA', hsc⟩
  have HFT := Lib.hid (TryR.fit 3 hT (HFT.out))
  obtain ⟨rfl, rfl⟩ := kn_dead rfl hT
  clear hA hsq hT
  obtain ⟨rfl, e6, rfl, rfl⟩ := hR
  unfold repV
  have hs := Sat.use (M := A' ++ (onA e6 2 4 :: (onA e5 1 4 :: (onA e4 1 4 :: E)))) (hsc.alloc (.cells #[.int .i64 0, .int .i64 0, .slice none 0 0, .slice none 0 0] 38)) (by intro x; simp only [cnt_append, cnt_cons, cnt_nil]; omega)
  have hA := hA'
  clear hsc hA'
  go_wp2_with fail
  refine (wrevive_any hA hs).mono ?_; rintro r w10 ⟨A10, rfl, hA11, hs11⟩
  clear hA hs
  have hA := hA11
  have hs := hs11
  clear hA11 hs11
  go_wp2_with fail
  refine (flush12 W _ _ hs).mono ?_; rintro r wq ⟨rfl, hsq⟩
  clear hs
  go_wp2_with fail
  refine (wcall_flush _ b 2 2 _ _ W _ _ rfl hA hsq (by omega) (⟨HFT.out.nodes, HFT.out.fates, HFT.out.f0, HFT.out.f1, HFT.out.s0, HFT.out.s1⟩) (by omega)).mono ?_
  rintro r wc ⟨x', rr, v, ev, A', R', rfl, hT, hR, hA', hsc⟩
  have HFT := Lib.hid (TryR.fit 3 hT (⟨HFT.out.nodes, HFT.out.fates, HFT.out.f0, HFT.out.f1, HFT.out.s0, HFT.out.s1⟩))
  obtain ⟨rfl, rfl⟩ := kn_last GD2.out rfl hT
  clear hA hsq hT
  obtain ⟨_, rfl, pv, iv, rfl, hra⟩ := hR
  obtain ⟨pa3, pn3, pc3, ia3, im3, ic3, rfl, rfl⟩ := hra.shape
  unfold repV
  obtain ⟨LL, hLL⟩ : ∃ LL, LL = onA e1 8 1 :: (onA e2 0 1 :: (onA e3 0 1 :: (onA e4 1 4 :: (onA e5 1 4 :: (onA e6 2 4 :: (cellsA zp #[.int .i64 0, .int .i64 (1 + 1), .slice qa qn qc, .slice ja jm jc] 38 :: (A' ++ aW))))))) := ⟨_, rfl⟩
  have hs := Sat.use (M := LL) (hsc.alloc (.cells #[.int .i64 0, .int .i64 nd0.boot, .slice pa3 pn3 pc3, .slice ia3 im3 ic3] 38)) (by rw [hLL, HE.out]; intro y; simp only [cnt_append, cnt_cons, cnt_nil]; omega)
  have hA := hA'
  have M1 := Lib.hid (show onA e1 8 1 ∈ LL by rw [hLL]; simp)
  have M2 := Lib.hid (show onA e2 0 1 ∈ LL by rw [hLL]; simp)
  have M3 := Lib.hid (show onA e3 0 1 ∈ LL by rw [hLL]; simp)
  have M4 := Lib.hid (show onA e4 1 4 ∈ LL by rw [hLL]; simp)
  have M5 := Lib.hid (show onA e5 1 4 ∈ LL by rw [hLL]; simp)
  have M6 := Lib.hid (show onA e6 2 4 ∈ LL by rw [hLL]; simp)
  have M7 := Lib.hid (show cellsA zp #[.int .i64 0, .int .i64 (1 + 1), .slice qa qn qc, .slice ja jm jc] 38 ∈ LL by rw [hLL]; simp)
  have HWW := Lib.hid (fun y (hy : Sat W y LL) => (Sat.use (M := aW) hy (by rw [hLL]; intro y; simp only [cnt_append, cnt_cons, cnt_nil]; omega)))
  have HWA := Lib.hid (fun y (hy : Sat W y LL) => (Sat.use (M := A' ++ aW) hy (by rw [hLL]; intro y; simp only [cnt_append, cnt_cons, cnt_nil]; omega)))
  clear hsc hra hA' hLL HE HFT
  go_wp2_with fail
  refine (code_mem M1.out (HG.out _ (HWW.out _ hs)) hs).mono ?_; rintro r wq ⟨rfl, hs'⟩
  clear hs
  have hs := hs'
  clear hs'
  go_wp2_with fail
  refine (code_mem M2.out (HG.out _ (HWW.out _ hs)) hs).mono ?_; rintro r wq ⟨rfl, hs'⟩
  clear hs
  have hs := hs'
  clear hs'
  go_wp2_with fail
  refine (code_mem M3.out (HG.out _ (HWW.out _ hs)) hs).mono ?_; rintro r wq ⟨rfl, hs'⟩
  clear hs
  have hs := hs'
  clear hs'
  go_wp2_with fail
  refine (nodes_mem M1.out hs).mono ?_; rintro r w12 ⟨nv, RN, rfl, hrn, hsC⟩
  clear hs
  have hsD := hsC.newCells #[.int .i64 8] 3
  have hrd := hrn.reads hsD.tail
  obtain ⟨na, nc, rfl⟩ := Ch.RowA.slice hrn
  have hsi := same_ints _ (.slice (some ⟨w12.heap.size, 0, none⟩) 1 1) [8] [8] _ hrd (reads_cells hsD m0 _ _ _ rfl) (by simp) (by simp)
  have HSI := Lib.hid hsi
  clear hrd hsi hrn
  go_wp2_with fail
  refine HSI.out.mono ?_; rintro r w13 ⟨rfl, hi, hb⟩
  have hs := (bel hi hb hsD).tail.right
  clear HSI hi hb hsC hsD
  have cz : w13.cell? ⟨zp, 1, none⟩ = some (.int .i64 (1 + 1)) := hs.cell M7.out 1
  rw [← HZP.out] at cz
  go_wp2_with fail
  refine (code_mem M4.out (HG.out _ (HWW.out _ hs)) hs).mono ?_; rintro r wq ⟨rfl, hs'⟩
  clear hs
  have hs := hs'
  clear hs'
  clear cz
  go_wp2_with fail
  refine (wisdown_in (k := 1) (d := false) hA (HWA.out _ hs) rfl).mono ?_; rintro r wq ⟨rfl, rfl⟩
  go_wp2_with fail
  refine (wisdown_out (n := -1) (by omega)).mono ?_; rintro r wq ⟨rfl, rfl⟩
  go_wp2_with fail
  refine (code_mem M5.out (HG.out _ (HWW.out _ hs)) hs).mono ?_; rintro r wq ⟨rfl, hs'⟩
  clear hs
  have hs := hs'
  clear hs'
  go_wp2_with fail
  refine (code_mem M6.out (HG.out _ (HWW.out _ hs)) hs).mono ?_; rintro r wq ⟨rfl, hs'⟩
  clear hs
  have hs := hs'
  clear hs'
  go_wp2_with fail
  refine (wdead_any hA (HWA.out _ hs)).mono ?_; rintro r wq ⟨rfl, rfl⟩
  go_wp2_with fail
  go_ret
  exact ⟨rfl, HB.out _ (HWW.out _ hs)⟩
end Go.Proofs.YtekbbpfnkbanjaaGreatDoor.Ch
