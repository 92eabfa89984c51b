/-
  ChunkPuts, walked.
-/
import Derived.Test.YtdkhgkkdnjejmaaPuG
import Derived.Deep.DeepCutAuto
import Derived.Deep.CutBlock
namespace Go.Proofs.Ytdkhgkkdnjejmaa.Ch
set_option linter.unusedSimpArgs false
open Go Go.RowKit Go.Sl Go.BigFrame
set_option linter.unusedVariables false

set_option maxRecDepth 100000 in
set_option maxHeartbeats 16000000 in
theorem puts_walk (a : Option Addr) (c : Nat) (xs : List ActR) (W : World) (ha : Acts8 W a xs) :
    Calls Try.prog 8 #[.slice a xs.length c] W fun e w' => e = .returned (.bool true) ∧ Below W.heap.size W w' := by
  have hs0 := allOf_sat W
  have HN := Lib.hid (fun w L (hs : Sat W w L) => platter_new 96 W w L (by omega) (by omega) hs)
  have hB : ∀ w', Sat W w' (allOf W) → Below W.heap.size W w' := fun w' h => below_of h
  have HB := Lib.hid hB
  have HRK := Lib.hid (fun y (h : Sat W y (allOf W)) v n xs (hr : Reads W v n xs) => reads_below hr (hB y h))
  have HA0 := Lib.hid ha
  clear hB ha
  generalize allOf W = aW at *
  go_enter Try.func8, Try.ntmps8
  go_wp2_with fail
  refine (HN.out _ _ hs0).mono ?_; rintro r w1 ⟨bp, A, rfl, hA, hs1⟩
  clear hs0 HN
  go_wp2_with fail
  refine (known_any W _ _ hs1).mono ?_; rintro r w2 ⟨rfl, hs2⟩
  clear hs1
  go_wp2_with fail
  refine (ref_new W _ _ hs2).mono ?_; rintro r w3 ⟨br, A2, rfl, hA2, hs3⟩
  clear hs2
  have hs4 : Sat W w3 (A ++ (A2 ++ aW)) := hs3.use (by intro x; simp only [cnt_append, cnt_cons, cnt_nil]; omega)
  clear hs3
  go_wp2_with fail
  go_loopw [5] (fun iv wr => ∃ (i : Nat) (q : Pt) (r : Rt) (A A2 : List Atom), iv = .int .i64 i ∧ i ≤ 40 ∧ PtA bp q A ∧ RtA br r A2 ∧ Ps q r i ∧ Sat W wr (A ++ (A2 ++ aW))) (fun iv _ => (40 - (intOf iv).toNat))
  case atStart => exact ⟨0, _, _, A, A2, rfl, by omega, hA, hA2, Ps.start, hs4⟩
  case round =>
    clear hs4 hA hA2
    obtain ⟨i, q, r, A, A2, rfl, hi, hA, hA2, hst, hs⟩ := hrel
    have HST := Lib.hid hst
    have HA := Lib.hid hA
    have HA2 := Lib.hid hA2
    clear hst hA hA2
    have i0 : (0 : Int) ≤ i := by omega
    by_cases hin : i < xs.length
    case neg =>
      have i1 : ¬ (i : Int) < xs.length := by omega
      go_wp2_with fail
      go_ret
      exact ⟨rfl, HB.out _ hs.right.right⟩
    case pos =>
    have i1 : (i : Int) < xs.length := by omega
    by_cases hi40 : i < 40
    case neg =>
      have i2 : ¬ (i : Int) < 40 := by omega
      go_wp2_with fail
      go_ret
      exact ⟨rfl, HB.out _ hs.right.right⟩
    case pos =>
    have i2 : (i : Int) < 40 := by omega
    obtain ⟨x, hx⟩ : ∃ x, xs[i]? = some x := ⟨_, List.getElem?_eq_getElem hin⟩
    obtain ⟨b, o, ka, kn, kc, ra, rn, rc, rfl, h0, h1, h2, h3, h4, h5, hbnd, h6, h7, c8, c9⟩ := HA0.out i x hx
    have key : ∀ {p : Addr} {v : Value}, W.cell? p = some v → wr.cell? p = some v := fun {p v} hc => by
      rw [(HB.out wr hs.right.right).cell (World.block_lt_of_cell? _ _ hc), hc]
    have c0 := key h0
    have c1 := key h1
    have c2 := key h2
    have c3 := key h3
    have c4 := key h4
    have c5 := key h5
    have c6 := key h6
    have c7 := key h7
    obtain ⟨p0, p1⟩ := handPick_bounds x.what 9 (by omega)
    have hpk := fun w => hand_pick x.what 9 w (by omega) (by omega)
    have hkr : ∀ y, Sat W y aW → Reads y (.slice ka kn kc) x.keep.length (intsC x.keep) := fun y hy => HRK.out y hy _ _ _ c8
    obtain ⟨m, hm⟩ : ∃ m, m = handPick x.what 9 := ⟨_, rfl⟩
    rw [← hm] at hpk p0 p1
    obtain ⟨x0, x1, x2, x3, x4, x5, x6⟩ := x
    simp only at c0 c1 c2 c3 c4 c5 c6 c7 c8 c9 hpk hkr hbnd
    have hs1 := hs.newCells #[.int .i64 x0, .int .i64 x1, .int .i64 x2, .int .i64 x3, .int .i64 x4, .int .i64 x5, .slice ka kn kc, .slice ra rn rc] 68
    have HPK := Lib.hid hpk
    have HKR := Lib.hid hkr
    have HK9 := Lib.hid c9
    clear hpk hkr hm hx c8 c9 key h0 h1 h2 h3 h4 h5 h6 h7
    go_wp2_with fail
    refine (HPK.out _).mono ?_; rintro r2 w2 ⟨rfl, rfl⟩
    clear HPK
    obtain ⟨LL, hLL⟩ : ∃ LL, LL = cellsA wr.heap.size #[.int .i64 x0, .int .i64 x1, .int .i64 x2, .int .i64 x3, .int .i64 x4, .int .i64 x5, .slice ka kn kc, .slice ra rn rc] 68 :: aW := ⟨_, rfl⟩
    have hs2 : Sat W (wr.alloc (.cells #[.int .i64 x0, .int .i64 x1, .int .i64 x2, .int .i64 x3, .int .i64 x4, .int .i64 x5, .slice ka kn kc, .slice ra rn rc] 68)) (A ++ (A2 ++ LL)) := by rw [hLL]; exact hs1.use (by intro x; simp only [cnt_append, cnt_cons, cnt_nil]; omega)
    clear hs hs1 c0 c1 c2 c3 c4 c5 c6 c7
    generalize wr.heap.size = z6 at *
    refine with_sat hs2 ?_
    clear hs2
    intro w1 hs1
    have hm6 : cellsA z6 #[.int .i64 x0, .int .i64 x1, .int .i64 x2, .int .i64 x3, .int .i64 x4, .int .i64 x5, .slice ka kn kc, .slice ra rn rc] 68 ∈ LL := by rw [hLL]; exact m0
    have HLL := Lib.hid hLL
    have HM6 := Lib.hid hm6
    have hmm := List.mem_append_right A (List.mem_append_right A2 hm6)
    have c1 : w1.cell? ⟨z6, 1, none⟩ = some (.int .i64 x1) := hs1.cell hmm 1
    have c2 : w1.cell? ⟨z6, 2, none⟩ = some (.int .i64 x2) := hs1.cell hmm 2
    have c3 : w1.cell? ⟨z6, 3, none⟩ = some (.int .i64 x3) := hs1.cell hmm 3
    have c4 : w1.cell? ⟨z6, 4, none⟩ = some (.int .i64 x4) := hs1.cell hmm 4
    have c5 : w1.cell? ⟨z6, 5, none⟩ = some (.int .i64 x5) := hs1.cell hmm 5
    have c6 : w1.cell? ⟨z6, 6, none⟩ = some (.slice ka kn kc) := hs1.cell hmm 6
    clear hLL hm6 hmm
    go_upto_block 2 with fail
    go_cut [] (fun wx => ∃ (q2 : Pt) (r2 : Rt) (A A2 : List Atom), PtA bp q2 A ∧ RtA br r2 A2 ∧ Ps q2 r2 (i + 1) ∧ Sat W wx (A ++ (A2 ++ aW)))
    case first =>
      by_cases hm6 : m = 6
      · subst hm6
        have hfl := flush_any bp q A W w1 _ HA.out hs1 (by rw [HST.out.len]; decide)
        have HFL := Lib.hid hfl
        clear hfl
        go_wp2_with fail
        refine HFL.out.mono ?_; rintro r2 w2 ⟨A', rfl, hA', hs2⟩
        have hfl := ref_flush br r A2 W w2 (A' ++ LL) HA2.out (hs2.use (by intro x; simp only [cnt_append, cnt_cons, cnt_nil]; omega)) (by rw [HST.out.alike.done, HST.out.dlen]; decide) (by rw [HST.out.alike.pend]; have := HST.out.pend; omega) (by rw [HST.out.alike.pend, HST.out.alike.done, HST.out.dlen]; exact fun x hx => (HST.out.pok x hx).1)
        have HFL2 := Lib.hid hfl
        clear hfl c1 c2 c3 c4 c5 c6 hs1
        go_wp2_with fail
        refine HFL2.out.mono ?_; rintro r2 w3 ⟨A2', rfl, hA2', hs3⟩
        go_wp2_with fail
        go_meet
        rw [HLL.out] at hs3
        exact ⟨q.fl, r.fl, A', A2', hA', hA2', HST.out.fl.next, hs3.use (by intro x; simp only [cnt_append, cnt_cons, cnt_nil]; omega)⟩
      by_cases hm7 : m = 7
      · subst hm7
        have hcr := crash_any bp q A (.slice ka kn kc) x6 W w1 _ HA.out hs1 (fun y hy => HKR.out y (by have := hy.right; rw [HLL.out] at this; exact this.tail)) (lt_of_max HK9.out) (by rw [HST.out.dlen]; decide) (by rw [HST.out.dlen]; decide) (by rw [HST.out.dlen]; exact fun x hx => (HST.out.pok x hx).1) (by have := HST.out.pend; omega)
        have HCR := Lib.hid hcr
        clear hcr
        go_wp2_with fail
        refine HCR.out.mono ?_; rintro r2 w2 ⟨A', rfl, hA', hs2⟩
        have hcr := ref_crash br r A2 (.slice ka kn kc) x6 W w2 (A' ++ LL) HA2.out (hs2.use (by intro x; simp only [cnt_append, cnt_cons, cnt_nil]; omega)) (fun y hy => HKR.out y (by have := hy.right; rw [HLL.out] at this; exact this.tail)) (lt_of_max HK9.out) (by rw [HST.out.alike.done, HST.out.dlen]; decide) (by rw [HST.out.alike.pend]; have := HST.out.pend; omega) (by rw [HST.out.alike.pend, HST.out.alike.done, HST.out.dlen]; exact fun x hx => (HST.out.pok x hx).1)
        have HCR2 := Lib.hid hcr
        have c6' : w2.cell? ⟨z6, 6, none⟩ = some (.slice ka kn kc) := hs2.cell (List.mem_append_right A' (List.mem_append_right A2 HM6.out)) 6
        clear hcr c1 c2 c3 c4 c5 c6 hs1
        go_wp2_with fail
        refine HCR2.out.mono ?_; rintro r2 w3 ⟨A2', rfl, hA2', hs3⟩
        go_wp2_with fail
        go_meet
        rw [HLL.out] at hs3
        exact ⟨q.crash x6, r.crash x6, A', A2', hA', hA2', (HST.out.crash x6).next, hs3.use (by intro x; simp only [cnt_append, cnt_cons, cnt_nil]; omega)⟩
      by_cases hm8 : m = 8
      · subst hm8
        have hright := piece0_right x1 x2 x3 x4
        have hpc := hand_piece x1 x2 x3 x4 0 W w1 _ hs1 (by decide) (by decide)
        generalize handPiece x1 x2 x3 x4 0 = p at *
        have HPC := Lib.hid hpc
        have HR := Lib.hid hright
        have HLEN := Lib.hid (layB_length p hright.2.2.2.2.2.2)
        clear hpc hright
        go_wp2_with fail
        refine HPC.out.mono ?_; rintro r2 w2 ⟨v2, R2, rfl, hr2, hs2⟩
        obtain ⟨a2, k2, rfl⟩ := Ch.RowA.slice hr2
        have HLAY := Lib.hid (ref_lay p a2 k2 W w2 _ hs2 (fun y hy => hr2.reads hy) HR.out)
        go_wp2_with fail
        refine HLAY.out.mono ?_; rintro r2 w3 ⟨v3, R3, rfl, hr3, hs3⟩
        obtain ⟨a3, k3, rfl⟩ := Ch.RowA.slice hr3
        clear HLAY HPC hs1 hs2
        have c5' : w3.cell? ⟨z6, 5, none⟩ = some (.int .i64 x5) := hs3.cell (List.mem_append_right R3 (List.mem_append_right R2 (List.mem_append_right A (List.mem_append_right A2 HM6.out)))) 5
        obtain ⟨e0, e1⟩ := handPick_bounds x5 10 (by omega)
        have hpk2 := fun w => hand_pick x5 10 w (by omega) (by omega)
        obtain ⟨kk, hkk⟩ : ∃ kk : Nat, handPick x5 10 = kk := ⟨(handPick x5 10).toNat, by omega⟩
        rw [hkk] at hpk2 e0 e1
        have HPK := Lib.hid hpk2
        clear hpk2 c1 c2 c3 c4 c5 c6 hkk
        generalize layB p = l at *
        go_wp2_with fail
        refine (HPK.out _).mono ?_; rintro r2 w4 ⟨rfl, rfl⟩
        have hwr := write_in bp q A kk (.slice a3 l.length k3) l W w3 (R3 ++ (R2 ++ (A2 ++ LL))) HA.out (hs3.use (by intro x; simp only [cnt_append, cnt_cons, cnt_nil]; omega)) (by rw [HST.out.len]; omega) HLEN.out (hr3.reads hs3) (by have := HST.out.pend; omega) HST.out.w0 (by have := HST.out.w1; omega)
        have HWR := Lib.hid hwr
        clear hwr hs3 c5'
        go_wp2_with fail
        refine HWR.out.mono ?_; rintro r2 w5 ⟨A', rfl, hA', hs5⟩
        have hwr := ref_write br r A2 kk (.slice a3 l.length k3) l W w5 (R3 ++ (R2 ++ (A' ++ LL))) HA2.out (hs5.use (by intro x; simp only [cnt_append, cnt_cons, cnt_nil]; omega)) (by rw [HST.out.alike.done, HST.out.dlen]; omega) HLEN.out (fun y hy => hr3.reads (F := R2 ++ (A' ++ LL)) hy.right) (by rw [HST.out.alike.pend]; have := HST.out.pend; omega) (by rw [HST.out.alike.writes]; exact HST.out.w0) (by rw [HST.out.alike.writes]; have := HST.out.w1; omega)
        have HWR2 := Lib.hid hwr
        clear hwr hs5
        go_wp2_with fail
        refine HWR2.out.mono ?_; rintro r2 w6 ⟨A2', rfl, hA2', hs6⟩
        go_wp2_with fail
        go_meet
        rw [HLL.out] at hs6
        exact ⟨q.wr kk l, r.wr kk l, A', A2', hA', hA2', HST.out.wr kk l (by omega) (by rw [HLEN.out]; decide), hs6.use (by intro x; simp only [cnt_append, cnt_cons, cnt_nil]; omega)⟩
      have q6 : (m == 6) = false := by simpa using hm6
      have q7 : (m == 7) = false := by simpa using hm7
      have q8 : (m == 8) = false := by simpa using hm8
      clear hm6 hm7 hm8
      have hpc := hand_piece (x1.tmod 5) x2 x3 x4 x5 W w1 _ hs1 hbnd.1 hbnd.2
      generalize handPiece (x1.tmod 5) x2 x3 x4 x5 = p at *
      have HPC := Lib.hid hpc
      clear hpc
      go_wp2_with fail
      refine HPC.out.mono ?_; rintro r2 w2 ⟨v2, R2, rfl, hr2, hs2⟩
      obtain ⟨a2, k2, rfl⟩ := Ch.RowA.slice hr2
      clear HPC hs1 c1 c2 c3 c4 c5 c6
      obtain ⟨ps, pg, pi, pd⟩ := p
      unfold pcV
      simp only at hr2 ⊢
      have hs3 := hs2.newCells #[.int .i64 ps, .int .i64 pg, .int .i64 pi, .slice a2 pd.length k2] 45
      clear hs2
      by_cases hright : rightP ⟨ps, pg, pi, pd⟩
      · have HR := Lib.hid hright
        have HLEN := Lib.hid (layB_length _ hright.2.2.2.2.2.2)
        have hlay := ref_lay ⟨ps, pg, pi, pd⟩ a2 k2 W _ _ hs3 (fun y hy => hr2.reads hy.tail) hright
        have g0 := hright.1
        have g1 := hright.2.1
        have g2 := hright.2.2.1
        simp only at g0 g1 g2
        have hpl := placeI_bounds ps pg g0 g1
        have hrp := fun w => ref_place ps pg w g0 (by omega) (by omega)
        obtain ⟨K, hK⟩ : ∃ K, K = placeN ps pg := ⟨_, rfl⟩
        have hKI : placeI ps pg = K := by rw [hK]; unfold placeN; omega
        rw [hKI] at hrp hpl
        have HKK := Lib.hid hK
        unfold pcV at hlay
        simp only at hlay
        generalize hl : layB ⟨ps, pg, pi, pd⟩ = l at *
        have HLE := Lib.hid hl
        clear hl
        have HLAY := Lib.hid hlay
        have HRP := Lib.hid hrp
        clear hlay hright hrp hK hKI
        go_wp2_with fail
        refine HLAY.out.mono ?_; rintro r2 w3 ⟨v3, R3, rfl, hr3, hs4⟩
        obtain ⟨a3, k3, rfl⟩ := Ch.RowA.slice hr3
        clear HLAY hs3
        generalize w2.heap.size = z10 at *
        have hm10 := fun {M : List Atom} => List.mem_append_right M (m0 : cellsA z10 #[.int .i64 ps, .int .i64 pg, .int .i64 pi, .slice a2 pd.length k2] 45 ∈ cellsA z10 #[.int .i64 ps, .int .i64 pg, .int .i64 pi, .slice a2 pd.length k2] 45 :: (R2 ++ (A ++ (A2 ++ LL))))
        have e0 : w3.cell? ⟨z10, 0, none⟩ = some (.int .i64 ps) := hs4.cell hm10 0
        have e1 : w3.cell? ⟨z10, 1, none⟩ = some (.int .i64 pg) := hs4.cell hm10 1
        clear hm10
        have hwr := ref_write br r A2 K (.slice a3 l.length k3) l W w3 (R3 ++ (cellsA z10 #[.int .i64 ps, .int .i64 pg, .int .i64 pi, .slice a2 pd.length k2] 45 :: (R2 ++ (A ++ LL)))) HA2.out (hs4.use (by intro x; simp only [cnt_append, cnt_cons, cnt_nil]; omega)) (by rw [HST.out.alike.done, HST.out.dlen]; omega) HLEN.out (fun y hy => hr3.reads (F := cellsA z10 #[.int .i64 ps, .int .i64 pg, .int .i64 pi, .slice a2 pd.length k2] 45 :: (R2 ++ (A ++ LL))) hy.right) (by rw [HST.out.alike.pend]; have := HST.out.pend; omega) (by rw [HST.out.alike.writes]; exact HST.out.w0) (by rw [HST.out.alike.writes]; have := HST.out.w1; omega)
        have HWR := Lib.hid hwr
        clear hwr hs4
        go_wp2_with fail
        refine (HRP.out _).mono ?_; rintro r2 w4 ⟨rfl, rfl⟩
        go_wp2_with fail
        refine HWR.out.mono ?_; rintro r2 w5 ⟨A2', rfl, hA2', hs5⟩
        have hs6 := Sat.use (M := A ++ (cellsA z10 #[.int .i64 ps, .int .i64 pg, .int .i64 pi, .slice a2 pd.length k2] 45 :: (R2 ++ (A2' ++ LL)))) hs5 (by intro x; simp only [cnt_append, cnt_cons, cnt_nil]; omega)
        have e0 : w5.cell? ⟨z10, 0, none⟩ = some (.int .i64 ps) := hs6.cell (List.mem_append_right A m0) 0
        have e1 : w5.cell? ⟨z10, 1, none⟩ = some (.int .i64 pg) := hs6.cell (List.mem_append_right A m0) 1
        have e2 : w5.cell? ⟨z10, 2, none⟩ = some (.int .i64 pi) := hs6.cell (List.mem_append_right A m0) 2
        have e3 : w5.cell? ⟨z10, 3, none⟩ = some (.slice a2 pd.length k2) := hs6.cell (List.mem_append_right A m0) 3
        have hpu := put_any bp q A ⟨ps, pg, pi, pd⟩ a2 k2 W w5 _ HA.out hs6 (fun y hy => hr2.reads (F := A2' ++ LL) hy.right.tail) HR.out (by rw [HST.out.len]; decide) (by have := HST.out.pend; omega) HST.out.w0 (by have := HST.out.w1; omega)
        have HPU := Lib.hid hpu
        clear hpu hs5 hs6
        go_wp2_with fail
        refine HPU.out.mono ?_; rintro r2 w6 ⟨A', rfl, hA', hs7⟩
        clear e0 e1 e2 e3
        go_wp2_with fail
        go_meet
        rw [HLL.out] at hs7
        rw [HLE.out] at hA'
        try simp only at hA'
        rw [← HKK.out] at hA'
        exact ⟨q.wr K l, r.wr K l, A', A2', hA', hA2', HST.out.wr K l (by omega) (by rw [HLEN.out]; decide), hs7.use (by intro x; simp only [cnt_append, cnt_cons, cnt_nil]; omega)⟩
      · have hlay := ref_lay_bad ⟨ps, pg, pi, pd⟩ a2 k2 W _ _ hs3 hright
        unfold pcV at hlay
        simp only at hlay
        have HLAY := Lib.hid hlay
        have HR := Lib.hid hright
        clear hlay hright
        go_wp2_with fail
        refine HLAY.out.mono ?_; rintro r2 w3 ⟨rfl, hs4⟩
        clear HLAY hs3
        generalize w2.heap.size = z10 at *
        have e0 : w3.cell? ⟨z10, 0, none⟩ = some (.int .i64 ps) := hs4.cell m0 0
        have e1 : w3.cell? ⟨z10, 1, none⟩ = some (.int .i64 pg) := hs4.cell m0 1
        have e2 : w3.cell? ⟨z10, 2, none⟩ = some (.int .i64 pi) := hs4.cell m0 2
        have e3 : w3.cell? ⟨z10, 3, none⟩ = some (.slice a2 pd.length k2) := hs4.cell m0 3
        have hs5 := Sat.use (M := A ++ (A2 ++ LL)) hs4 (by intro x; simp only [cnt_append, cnt_cons, cnt_nil]; omega)
        have hpu := put_bad (.pointer (some ⟨bp, 0, none⟩)) ⟨ps, pg, pi, pd⟩ a2 k2 W w3 _ hs5 HR.out (.inr ⟨bp, q, A, A2 ++ LL, rfl, HA.out, rfl⟩)
        unfold pcV at hpu
        simp only at hpu
        have HPU := Lib.hid hpu
        clear hpu hs5 hs4
        go_wp2_with fail
        refine HPU.out.mono ?_; rintro r2 w6 ⟨rfl, hs7⟩
        clear e0 e1 e2 e3
        go_wp2_with fail
        go_meet
        rw [HLL.out] at hs7
        exact ⟨q, r, A, A2, HA.out, HA2.out, HST.out.next, hs7.use (by intro x; simp only [cnt_append, cnt_cons, cnt_nil]; omega)⟩
    case rest =>
      clear hs1 c1 c2 c3 c4 c5 c6 HLL HM6 HKR HK9 HST HA HA2
      obtain ⟨q2, r2, A, A2, hA, hA2, hst, hs⟩ := hcut
      have HST := Lib.hid hst
      have HA := Lib.hid hA
      have HA2 := Lib.hid hA2
      clear hst hA hA2
      go_wp2_with fail
      go_loopw [14] (fun sv wr => ∃ s : Int, sv = .int .i64 s ∧ -1 ≤ s ∧ s ≤ 7 ∧ Sat W wr (A ++ (A2 ++ aW))) (fun sv _ => (7 - intOf sv).toNat)
      case atStart => exact ⟨-1, rfl, by omega, by omega, hs⟩
      case round =>
        clear hs
        obtain ⟨s, rfl, s0, s1, hs⟩ := hrel
        by_cases hs7 : s < 7
        · have hg := get_all bp q2 A s W wr _ HA.out hs (by omega) (by rw [HST.out.len]; decide) HST.out.small
          have HG := Lib.hid hg
          clear hg
          have hzl := getZ_len q2 s
          have HZL := Lib.hid hzl
          clear hzl
          go_wp2_with fail
          refine HG.out.mono ?_; rintro r3 w2 ⟨v2, xs2, R2, B2, rfl, hr2, hx2, hb2, hs2⟩
          have hp := pieces_all br q2 r2 A2 s W w2 (R2 ++ (B2 ++ (A ++ aW))) HA2.out HST.out.alike (hs2.use (by intro x; simp only [cnt_append, cnt_cons, cnt_nil]; omega)) (by omega) (by rw [HST.out.len]; decide) HST.out.small (by rw [HST.out.alike.pend]; have := HST.out.pend; omega)
          have HP := Lib.hid hp
          clear hp hs2
          go_wp2_with fail
          refine HP.out.mono ?_; rintro r3 w3 ⟨v3, xs3, R3, B3, rfl, hr3, hx3, hb3, hs3⟩
          have hsm := same_pieces xs2 xs3 v2 v3 R2 R3 (B2 ++ (B3 ++ (A ++ (A2 ++ aW)))) B2 B3 W w3 hr2 hr3 (hs3.use (by intro x; simp only [cnt_append, cnt_cons, cnt_nil]; omega)) (hx2.trans hx3.symm) hb2 hb3 (fun x hx => List.mem_append_left _ hx) (fun x hx => List.mem_append_right _ (List.mem_append_left _ hx)) (by have := congrArg List.length hx2; rw [List.length_map] at this; have := HZL.out; omega)
          have HSM := Lib.hid hsm
          clear hsm hs3 hx2 hx3 hb2 hb3 hr2 hr3
          go_wp2_with fail
          refine HSM.out.mono ?_; rintro r3 w4 ⟨rfl, hs4⟩
          go_wp2_with fail
          refine ⟨⟨s + 1, rfl, by omega, by omega, hs4.right.right.right.right⟩, ?_⟩
          simp [intOf]
          omega
        · have e : s = 7 := by omega
          subst e
          go_wp2_with fail
          refine ⟨⟨i + 1, q2, r2, A, A2, by simp, by omega, HA.out, HA2.out, HST.out, hs⟩, ?_⟩
          simp [intOf]
          omega
end Go.Proofs.Ytdkhgkkdnjejmaa.Ch
