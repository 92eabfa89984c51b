/-
  NodeKnown, walked.
-/
import Derived.Test.YtdkhgkkdnjejmaaNkA
import Derived.Test.YtdkhgkkdnjejmaaLpA
namespace Go.Proofs.Ytdkhgkkdnjejmaa.Ch
set_option linter.unusedSimpArgs false
open Go Go.RowKit Go.Sl Go.BigFrame
set_option linter.unusedVariables false

set_option maxRecDepth 100000 in
set_option maxHeartbeats 16000000 in
theorem nkn_walk (W : World) :
    Calls Try.prog 12 #[] W fun e w' => e = .returned (.bool true) ∧ Below W.heap.size W w' := by
  have hs0 := allOf_sat W
  have hB : ∀ w', Sat W w' (allOf W) → Below W.heap.size W w' := fun w' h => below_of h
  have HB := Lib.hid hB
  clear hB
  generalize allOf W = aW at *
  have HN := Lib.hid (node_new W W aW hs0)
  clear hs0
  have hf0 := rep_f0
  go_enter Try.func12, Try.ntmps12
  go_wp2_with fail
  refine HN.out.mono ?_; rintro r w1 ⟨b, A0, rfl, hA0, hs1⟩
  clear HN
  go_wp2_with fail
  refine (known10_any W _ _ hs1).mono ?_; rintro r w2 ⟨rfl, hs2⟩
  clear hs1
  have hA1 : NodA b nd0 A0 := hA0
  obtain ⟨bp0, br0, Aq0, Ag0, hq0, hg0, hAe⟩ := hA0
  rw [hAe] at hA1 hs2
  generalize hA00 : cellsA b #[.pointer (some ⟨bp0, 0, none⟩), .pointer (some ⟨br0, 0, none⟩), .int .i64 (⟨q0, openRg q0, 1⟩ : Nd).boot] 132 :: (Aq0 ++ Ag0) = A1 at *
  have hs2c := hs2
  rw [← hA00] at hs2c
  have HPL := Lib.hid (node_platter b bp0 br0 ⟨q0, openRg q0, 1⟩ [] W w2 _ hs2c)
  have HRG := Lib.hid (node_ring b bp0 br0 ⟨q0, openRg q0, 1⟩ [] W w2 _ hs2c)
  clear hs2c hA00 hAe hq0 hg0
  go_wp2_with fail
  refine HPL.out.mono ?_; rintro r w3 ⟨rfl, rfl⟩
  go_wp2_with fail
  refine HRG.out.mono ?_; rintro r w3 ⟨rfl, rfl⟩
  clear HPL HRG
  have hb0 : nd0.boot = 1 := rfl
  have HS0 := Lib.hid nd0_slots
  have HX0 := Lib.hid nd0_next
  have HOK0 := Lib.hid NdOk.start
  have HSM := Lib.hid (show ∀ x ∈ List.replicate 16 sl0, x.i.data.length < 1000000 from fun x hx => by rw [(List.mem_replicate.1 hx).2]; decide)
  generalize hn0 : nd0 = n0 at *
  have HN0 := Lib.hid hn0
  clear hn0
  have hd := do_get_bad b n0 A1 40 0 0 none 0 0 W w2 aW hA1 hs2 (by omega)
  rw [hb0] at hd
  have HD := Lib.hid hd
  clear hd hA1 hs2
  go_wp2_with fail
  refine HD.out.mono ?_; rintro r w4 ⟨A4, rfl, hA4, hs4'⟩
  clear HD
  unfold repV
  have hs4a := hs4'.newCells #[.int .i64 1, .int .i64 1, .slice none 0 0, .slice none 0 0] 80
  have hs4 := Sat.use (M := A4 ++ (cellsA w4.heap.size #[.int .i64 1, .int .i64 1, .slice none 0 0, .slice none 0 0] 80 :: aW)) hs4a (by intro x; simp only [cnt_append, cnt_cons, cnt_nil]; omega)
  clear hs4a hs4'
  have hd := do_none b n0 A4 9 0 0 0 none 0 0 W (w4.alloc (.cells #[.int .i64 1, .int .i64 1, .slice none 0 0, .slice none 0 0] 80)) (cellsA w4.heap.size #[.int .i64 1, .int .i64 1, .slice none 0 0, .slice none 0 0] 80 :: aW) hA4 hs4 (by omega)
  rw [hb0] at hd
  have HD := Lib.hid hd
  clear hd hA4 hs4
  go_wp2_with fail
  refine HD.out.mono ?_; rintro r w5 ⟨A5, rfl, hA5, hs5'⟩
  clear HD
  unfold repV
  have hs5a := hs5'.newCells #[.int .i64 1, .int .i64 1, .slice none 0 0, .slice none 0 0] 80
  have hs5 := Sat.use (M := A5 ++ (cellsA w5.heap.size #[.int .i64 1, .int .i64 1, .slice none 0 0, .slice none 0 0] 80 :: (cellsA w4.heap.size #[.int .i64 1, .int .i64 1, .slice none 0 0, .slice none 0 0] 80 :: aW))) hs5a (by intro x; simp only [cnt_append, cnt_cons, cnt_nil]; omega)
  clear hs5a hs5'
  have hd := do_put_bad b n0 A5 ⟨0, 1, 0, []⟩ none 0 W (w5.alloc (.cells #[.int .i64 1, .int .i64 1, .slice none 0 0, .slice none 0 0] 80)) (cellsA w5.heap.size #[.int .i64 1, .int .i64 1, .slice none 0 0, .slice none 0 0] 80 :: (cellsA w4.heap.size #[.int .i64 1, .int .i64 1, .slice none 0 0, .slice none 0 0] 80 :: aW)) hA5 hs5 (fun h => absurd h.2.2.2.2.2.2 (by decide))
  rw [hb0] at hd
  have HD := Lib.hid hd
  clear hd hA5 hs5
  go_wp2_with fail
  refine HD.out.mono ?_; rintro r w6 ⟨A6, rfl, hA6, hs6'⟩
  clear HD
  unfold repV
  have hs6a := hs6'.newCells #[.int .i64 1, .int .i64 1, .slice none 0 0, .slice none 0 0] 80
  have hs6 := Sat.use (M := A6 ++ (cellsA w6.heap.size #[.int .i64 1, .int .i64 1, .slice none 0 0, .slice none 0 0] 80 :: (cellsA w5.heap.size #[.int .i64 1, .int .i64 1, .slice none 0 0, .slice none 0 0] 80 :: (cellsA w4.heap.size #[.int .i64 1, .int .i64 1, .slice none 0 0, .slice none 0 0] 80 :: aW)))) hs6a (by intro x; simp only [cnt_append, cnt_cons, cnt_nil]; omega)
  clear hs6a hs6'
  have hby := bytes_of 1 128 W (w6.alloc (.cells #[.int .i64 1, .int .i64 1, .slice none 0 0, .slice none 0 0] 80)) _ (by omega) hs6
  have HBY := Lib.hid hby
  clear hby hs6
  go_wp2_with fail
  refine HBY.out.mono ?_; rintro r w7 ⟨vD, RD, rfl, hrD, hs7'⟩
  clear HBY
  have hDl := bytesOf_length 1 128
  generalize bytesOf 1 128 = D at *
  have hrD' : RowA 5 1 vD D.length (bts D) RD := by rw [hDl]; exact hrD
  obtain ⟨aD, cD, rfl⟩ := Ch.RowA.slice hrD
  have hpi : rightI (iK D) := ⟨by show (0 : Int) ≤ 0; omega, by show (0 : Int) < 40; omega, by show (1 : Int) ≤ 1; omega, by show (1 : Int) ≤ 1099511627776; omega, hDl⟩
  have HDL := Lib.hid hDl
  have HRD := Lib.hid hrD'
  clear hrD hrD' hDl
  have hs7 := Sat.use (M := A6 ++ (RD ++ (cellsA w6.heap.size #[.int .i64 1, .int .i64 1, .slice none 0 0, .slice none 0 0] 80 :: (cellsA w5.heap.size #[.int .i64 1, .int .i64 1, .slice none 0 0, .slice none 0 0] 80 :: (cellsA w4.heap.size #[.int .i64 1, .int .i64 1, .slice none 0 0, .slice none 0 0] 80 :: aW))))) hs7' (by intro x; simp only [cnt_append, cnt_cons, cnt_nil]; omega)
  clear hs7'
  have hd := do_log_ok b 0 0 n0 A6 (iK D) 0 aD cD W w7 (RD ++ (cellsA w6.heap.size #[.int .i64 1, .int .i64 1, .slice none 0 0, .slice none 0 0] 80 :: (cellsA w5.heap.size #[.int .i64 1, .int .i64 1, .slice none 0 0, .slice none 0 0] 80 :: (cellsA w4.heap.size #[.int .i64 1, .int .i64 1, .slice none 0 0, .slice none 0 0] 80 :: aW)))) hA6 hs7 (fun y hy => by have h := HRD.out.reads hy; rw [HDL.out] at h; show Reads y (.slice aD D.length cD) D.length (bts D); rw [HDL.out]; exact h) hpi (by rw [HS0.out]; rfl) (by rw [HS0.out]; exact HSM.out) (by rw [HS0.out]; rintro ⟨x, hx, h1, _⟩; rw [(List.mem_replicate.1 hx).2] at h1; cases h1) (by rw [HS0.out]; rfl) (by omega) (by rw [HX0.out]; omega) (by rw [HX0.out]; omega) HOK0.out (by omega)
  rw [hb0, HX0.out, HS0.out] at hd
  obtain ⟨n1, hn1⟩ : ∃ n1 : Nd, n1 = ⟨n0.q.wr (80 + 0) (layI 1 (iK D)), ⟨(List.replicate 16 sl0).set 0 ⟨true, 1, iK D⟩, 1 + 1⟩, 1⟩ := ⟨_, rfl⟩
  rw [← hn1] at hd
  have hb1 : n1.boot = 1 := by rw [hn1]
  have HS1 := Lib.hid (show n1.g.slots = ⟨true, 1, iK D⟩ :: List.replicate 15 sl0 by rw [hn1]; rfl)
  have HSM1 := Lib.hid (show ∀ x ∈ (⟨true, 1, iK D⟩ : Sl5) :: List.replicate 15 sl0, x.i.data.length < 1000000 from fun x hx => by
    rcases List.mem_cons.1 hx with rfl | hx
    · show D.length < 1000000
      rw [HDL.out]; decide
    · rw [(List.mem_replicate.1 hx).2]; decide)
  have HOK1 := Lib.hid (show NdOk ⟨n1.q, n0.g, n0.boot⟩ 1 by rw [hn1]; exact HOK0.out.wr 80 _ (by omega) (by rw [layI_length _ _ HDL.out]; decide))
  have HQ1 := Lib.hid (show n1.q = n0.q.wr 80 (layI 1 (iK D)) by rw [hn1])
  rw [show (iK D).stripe = 0 from rfl, show (iK D).gen = 1 from rfl, show (iK D).data = D from rfl, HDL.out] at hd
  have HD := Lib.hid hd
  clear hd hn1 hA6 hs7
  go_wp2_with fail
  refine HD.out.mono ?_; rintro r w8 ⟨A8, rfl, hA8, hs8'⟩
  clear HD
  unfold repV
  have hs8a := hs8'.newCells #[.int .i64 0, .int .i64 1, .slice none 0 0, .slice none 0 0] 80
  have hs8 := Sat.use (M := A8 ++ (cellsA w8.heap.size #[.int .i64 0, .int .i64 1, .slice none 0 0, .slice none 0 0] 80 :: (RD ++ (cellsA w6.heap.size #[.int .i64 1, .int .i64 1, .slice none 0 0, .slice none 0 0] 80 :: (cellsA w5.heap.size #[.int .i64 1, .int .i64 1, .slice none 0 0, .slice none 0 0] 80 :: (cellsA w4.heap.size #[.int .i64 1, .int .i64 1, .slice none 0 0, .slice none 0 0] 80 :: aW)))))) hs8a (by intro x; simp only [cnt_append, cnt_cons, cnt_nil]; omega)
  clear hs8a hs8'
  have hd := do_live b n1 A8 0 0 0 none 0 0 W (w8.alloc (.cells #[.int .i64 0, .int .i64 1, .slice none 0 0, .slice none 0 0] 80)) (cellsA w8.heap.size #[.int .i64 0, .int .i64 1, .slice none 0 0, .slice none 0 0] 80 :: (RD ++ (cellsA w6.heap.size #[.int .i64 1, .int .i64 1, .slice none 0 0, .slice none 0 0] 80 :: (cellsA w5.heap.size #[.int .i64 1, .int .i64 1, .slice none 0 0, .slice none 0 0] 80 :: (cellsA w4.heap.size #[.int .i64 1, .int .i64 1, .slice none 0 0, .slice none 0 0] 80 :: aW))))) hA8 hs8 (by rw [HS1.out]; rfl) (by rw [HS1.out]; exact HSM1.out) 1 (by rw [HS1.out]; exact live_one D 15) (by omega)
  rw [hb1] at hd
  have HD := Lib.hid hd
  clear hd hA8 hs8
  go_wp2_with fail
  refine HD.out.mono ?_; rintro r w9 ⟨A9, ia9, ic9, R9, rfl, hA9, hs9'⟩
  clear HD
  unfold repV
  have hs9a := hs9'.newCells #[.int .i64 0, .int .i64 1, .slice none 0 0, .slice ia9 1 ic9] 80
  have hs9 := Sat.use (M := A9 ++ (cellsA w9.heap.size #[.int .i64 0, .int .i64 1, .slice none 0 0, .slice ia9 1 ic9] 80 :: (cellsA w8.heap.size #[.int .i64 0, .int .i64 1, .slice none 0 0, .slice none 0 0] 80 :: (RD ++ (cellsA w6.heap.size #[.int .i64 1, .int .i64 1, .slice none 0 0, .slice none 0 0] 80 :: (cellsA w5.heap.size #[.int .i64 1, .int .i64 1, .slice none 0 0, .slice none 0 0] 80 :: (cellsA w4.heap.size #[.int .i64 1, .int .i64 1, .slice none 0 0, .slice none 0 0] 80 :: aW))))))) hs9a (by intro x; simp only [cnt_append, cnt_cons, cnt_nil]; omega)
  clear hs9a hs9'
  have hd := do_rel b n1 A9 0 1 0 none 0 0 W (w9.alloc (.cells #[.int .i64 0, .int .i64 1, .slice none 0 0, .slice ia9 1 ic9] 80)) (cellsA w9.heap.size #[.int .i64 0, .int .i64 1, .slice none 0 0, .slice ia9 1 ic9] 80 :: (cellsA w8.heap.size #[.int .i64 0, .int .i64 1, .slice none 0 0, .slice none 0 0] 80 :: (RD ++ (cellsA w6.heap.size #[.int .i64 1, .int .i64 1, .slice none 0 0, .slice none 0 0] 80 :: (cellsA w5.heap.size #[.int .i64 1, .int .i64 1, .slice none 0 0, .slice none 0 0] 80 :: (cellsA w4.heap.size #[.int .i64 1, .int .i64 1, .slice none 0 0, .slice none 0 0] 80 :: aW)))))) hA9 hs9 (by rw [HS1.out]; rfl)
  rw [hb1] at hd
  obtain ⟨n2, hn2⟩ : ∃ n2 : Nd, n2 = ⟨n1.q, ⟨relS n1.g.slots 0 1, n1.g.next⟩, 1⟩ := ⟨_, rfl⟩
  rw [← hn2] at hd
  have hb2 : n2.boot = 1 := by rw [hn2]
  have HS2 := Lib.hid (show n2.g.slots = List.replicate 16 sl0 by
    rw [hn2]
    show relS n1.g.slots 0 1 = _
    rw [HS1.out]
    have e1 : (if (⟨true, 1, iK D⟩ : Sl5).live = true ∧ (⟨true, 1, iK D⟩ : Sl5).i.stripe = 0 ∧ (⟨true, 1, iK D⟩ : Sl5).i.gen = 1 then sl0 else (⟨true, 1, iK D⟩ : Sl5)) = sl0 := if_pos ⟨rfl, rfl, rfl⟩
    have e2 : (if sl0.live = true ∧ sl0.i.stripe = 0 ∧ sl0.i.gen = 1 then sl0 else sl0) = sl0 := by split <;> rfl
    unfold relS
    rw [List.map_cons, e1, List.map_replicate, e2]
    rfl)
  have HOK2 := Lib.hid (show NdOk n2 1 by rw [hn2]; have h := HOK1.out; exact ⟨h.len, h.dlen, h.small, h.dsmall, h.pend, h.pok, h.w0, h.w1, by show (1 : Int) ≤ 1; omega, by show (1 : Int) ≤ 1 + 1; omega⟩)
  have HQ2 := Lib.hid (show n2.q = n0.q.wr 80 (layI 1 (iK D)) by rw [hn2]; exact HQ1.out)
  have HD := Lib.hid hd
  clear hd hn2 hA9 hs9
  go_wp2_with fail
  refine HD.out.mono ?_; rintro r w10 ⟨A10, rfl, hA10, hs10'⟩
  clear HD
  unfold repV
  have hs10 := Sat.use (M := A10 ++ (cellsA w9.heap.size #[.int .i64 0, .int .i64 1, .slice none 0 0, .slice ia9 1 ic9] 80 :: (cellsA w8.heap.size #[.int .i64 0, .int .i64 1, .slice none 0 0, .slice none 0 0] 80 :: (RD ++ (cellsA w6.heap.size #[.int .i64 1, .int .i64 1, .slice none 0 0, .slice none 0 0] 80 :: (cellsA w5.heap.size #[.int .i64 1, .int .i64 1, .slice none 0 0, .slice none 0 0] 80 :: (cellsA w4.heap.size #[.int .i64 1, .int .i64 1, .slice none 0 0, .slice none 0 0] 80 :: aW))))))) hs10' (by intro x; simp only [cnt_append, cnt_cons, cnt_nil]; omega)
  clear hs10'
  have hd := do_live b n2 A10 0 0 0 none 0 0 W w10 (cellsA w9.heap.size #[.int .i64 0, .int .i64 1, .slice none 0 0, .slice ia9 1 ic9] 80 :: (cellsA w8.heap.size #[.int .i64 0, .int .i64 1, .slice none 0 0, .slice none 0 0] 80 :: (RD ++ (cellsA w6.heap.size #[.int .i64 1, .int .i64 1, .slice none 0 0, .slice none 0 0] 80 :: (cellsA w5.heap.size #[.int .i64 1, .int .i64 1, .slice none 0 0, .slice none 0 0] 80 :: (cellsA w4.heap.size #[.int .i64 1, .int .i64 1, .slice none 0 0, .slice none 0 0] 80 :: aW)))))) hA10 hs10 (by rw [HS2.out]; rfl) (by rw [HS2.out]; exact HSM.out) 0 (by rw [HS2.out]; exact by rw [live_rep]; rfl) (by omega)
  rw [hb2] at hd
  have HD := Lib.hid hd
  clear hd hA10 hs10
  go_wp2_with fail
  refine HD.out.mono ?_; rintro r w11 ⟨A11, ia11, ic11, R11, rfl, hA11, hs11'⟩
  clear HD
  unfold repV
  have hs11a := hs11'.newCells #[.int .i64 0, .int .i64 1, .slice none 0 0, .slice ia11 0 ic11] 80
  have hs11 := Sat.use (M := A11 ++ (cellsA w11.heap.size #[.int .i64 0, .int .i64 1, .slice none 0 0, .slice ia11 0 ic11] 80 :: (cellsA w9.heap.size #[.int .i64 0, .int .i64 1, .slice none 0 0, .slice ia9 1 ic9] 80 :: (cellsA w8.heap.size #[.int .i64 0, .int .i64 1, .slice none 0 0, .slice none 0 0] 80 :: (RD ++ (cellsA w6.heap.size #[.int .i64 1, .int .i64 1, .slice none 0 0, .slice none 0 0] 80 :: (cellsA w5.heap.size #[.int .i64 1, .int .i64 1, .slice none 0 0, .slice none 0 0] 80 :: (cellsA w4.heap.size #[.int .i64 1, .int .i64 1, .slice none 0 0, .slice none 0 0] 80 :: aW)))))))) hs11a (by intro x; simp only [cnt_append, cnt_cons, cnt_nil]; omega)
  clear hs11a hs11'
  have hd := do_flush b 1 n2 A11 0 0 0 none 0 0 W (w11.alloc (.cells #[.int .i64 0, .int .i64 1, .slice none 0 0, .slice ia11 0 ic11] 80)) (cellsA w11.heap.size #[.int .i64 0, .int .i64 1, .slice none 0 0, .slice ia11 0 ic11] 80 :: (cellsA w9.heap.size #[.int .i64 0, .int .i64 1, .slice none 0 0, .slice ia9 1 ic9] 80 :: (cellsA w8.heap.size #[.int .i64 0, .int .i64 1, .slice none 0 0, .slice none 0 0] 80 :: (RD ++ (cellsA w6.heap.size #[.int .i64 1, .int .i64 1, .slice none 0 0, .slice none 0 0] 80 :: (cellsA w5.heap.size #[.int .i64 1, .int .i64 1, .slice none 0 0, .slice none 0 0] 80 :: (cellsA w4.heap.size #[.int .i64 1, .int .i64 1, .slice none 0 0, .slice none 0 0] 80 :: aW))))))) hA11 hs11 HOK2.out
  rw [hb2] at hd
  obtain ⟨n3, hn3⟩ : ∃ n3 : Nd, n3 = ⟨n2.q.fl, n2.g, 1⟩ := ⟨_, rfl⟩
  rw [← hn3] at hd
  have HOK3 := Lib.hid (show NdOk n3 1 by rw [hn3]; have h := HOK2.out.fl; rw [hb2] at h; exact h)
  have HQ3 := Lib.hid (show n3.q = (n0.q.wr 80 (layI 1 (iK D))).fl by rw [hn3]; show n2.q.fl = _; rw [HQ2.out])
  have hb3 : n3.boot = 1 := by rw [hn3]
  have HD := Lib.hid hd
  clear hd hn3 hA11 hs11
  go_wp2_with fail
  refine HD.out.mono ?_; rintro r w12 ⟨A12, rfl, hA12, hs12'⟩
  clear HD
  unfold repV
  have hs12 := Sat.use (M := A12 ++ (cellsA w11.heap.size #[.int .i64 0, .int .i64 1, .slice none 0 0, .slice ia11 0 ic11] 80 :: (cellsA w9.heap.size #[.int .i64 0, .int .i64 1, .slice none 0 0, .slice ia9 1 ic9] 80 :: (cellsA w8.heap.size #[.int .i64 0, .int .i64 1, .slice none 0 0, .slice none 0 0] 80 :: (RD ++ (cellsA w6.heap.size #[.int .i64 1, .int .i64 1, .slice none 0 0, .slice none 0 0] 80 :: (cellsA w5.heap.size #[.int .i64 1, .int .i64 1, .slice none 0 0, .slice none 0 0] 80 :: (cellsA w4.heap.size #[.int .i64 1, .int .i64 1, .slice none 0 0, .slice none 0 0] 80 :: aW)))))))) hs12' (by intro x; simp only [cnt_append, cnt_cons, cnt_nil]; omega)
  clear hs12'
  have hd := node_crash b 1 n3 A12 (.slice none 0 0) [] W w12 (cellsA w11.heap.size #[.int .i64 0, .int .i64 1, .slice none 0 0, .slice ia11 0 ic11] 80 :: (cellsA w9.heap.size #[.int .i64 0, .int .i64 1, .slice none 0 0, .slice ia9 1 ic9] 80 :: (cellsA w8.heap.size #[.int .i64 0, .int .i64 1, .slice none 0 0, .slice none 0 0] 80 :: (RD ++ (cellsA w6.heap.size #[.int .i64 1, .int .i64 1, .slice none 0 0, .slice none 0 0] 80 :: (cellsA w5.heap.size #[.int .i64 1, .int .i64 1, .slice none 0 0, .slice none 0 0] 80 :: (cellsA w4.heap.size #[.int .i64 1, .int .i64 1, .slice none 0 0, .slice none 0 0] 80 :: aW))))))) hA12 hs12 (fun y hy => .inl ⟨rfl, rfl, rfl⟩) (by decide) HOK3.out (by omega)
  obtain ⟨n4, hn4⟩ : ∃ n4 : Nd, n4 = n3.crash [] := ⟨_, rfl⟩
  rw [← hn4] at hd
  have HOK4 := Lib.hid (show NdOk n4 2 by rw [hn4]; exact HOK3.out.crash [])
  have hb4 : n4.boot = 2 := by rw [hn4]; show n3.boot + 1 = 2; rw [hb3]; rfl
  have HS4 := Lib.hid (show n4.g.slots = ⟨true, 1, iK D⟩ :: List.replicate 15 sl0 by
    rw [hn4]
    show opSl (n3.q.crash []) 16 = _
    rw [HQ3.out, ← HN0.out]
    exact sl_log D HDL.out _ _ _)
  have HD := Lib.hid hd
  clear hd hn4 hA12 hs12
  go_wp2_with fail
  refine HD.out.mono ?_; rintro r w13 ⟨A13, rfl, hA13, hs13'⟩
  clear HD
  have hs13 := Sat.use (M := A13 ++ (cellsA w11.heap.size #[.int .i64 0, .int .i64 1, .slice none 0 0, .slice ia11 0 ic11] 80 :: (cellsA w9.heap.size #[.int .i64 0, .int .i64 1, .slice none 0 0, .slice ia9 1 ic9] 80 :: (cellsA w8.heap.size #[.int .i64 0, .int .i64 1, .slice none 0 0, .slice none 0 0] 80 :: (RD ++ (cellsA w6.heap.size #[.int .i64 1, .int .i64 1, .slice none 0 0, .slice none 0 0] 80 :: (cellsA w5.heap.size #[.int .i64 1, .int .i64 1, .slice none 0 0, .slice none 0 0] 80 :: (cellsA w4.heap.size #[.int .i64 1, .int .i64 1, .slice none 0 0, .slice none 0 0] 80 :: aW)))))))) hs13' (by intro x; simp only [cnt_append, cnt_cons, cnt_nil]; omega)
  clear hs13'
  have hd := do_live b n4 A13 0 0 0 none 0 0 W w13 (cellsA w11.heap.size #[.int .i64 0, .int .i64 1, .slice none 0 0, .slice ia11 0 ic11] 80 :: (cellsA w9.heap.size #[.int .i64 0, .int .i64 1, .slice none 0 0, .slice ia9 1 ic9] 80 :: (cellsA w8.heap.size #[.int .i64 0, .int .i64 1, .slice none 0 0, .slice none 0 0] 80 :: (RD ++ (cellsA w6.heap.size #[.int .i64 1, .int .i64 1, .slice none 0 0, .slice none 0 0] 80 :: (cellsA w5.heap.size #[.int .i64 1, .int .i64 1, .slice none 0 0, .slice none 0 0] 80 :: (cellsA w4.heap.size #[.int .i64 1, .int .i64 1, .slice none 0 0, .slice none 0 0] 80 :: aW))))))) hA13 hs13 (by rw [HS4.out]; rfl) (by rw [HS4.out]; exact HSM1.out) 1 (by rw [HS4.out]; exact live_one D 15) (by omega)
  rw [hb4] at hd
  have HD := Lib.hid hd
  clear hd hA13 hs13
  go_wp2_with fail
  refine HD.out.mono ?_; rintro r w14 ⟨A14, ia14, ic14, R14, rfl, hA14, hs14'⟩
  clear HD
  unfold repV
  have hs14a := hs14'.newCells #[.int .i64 0, .int .i64 2, .slice none 0 0, .slice ia14 1 ic14] 80
  have hs14 := Sat.use (M := A14 ++ (cellsA w14.heap.size #[.int .i64 0, .int .i64 2, .slice none 0 0, .slice ia14 1 ic14] 80 :: (cellsA w11.heap.size #[.int .i64 0, .int .i64 1, .slice none 0 0, .slice ia11 0 ic11] 80 :: (cellsA w9.heap.size #[.int .i64 0, .int .i64 1, .slice none 0 0, .slice ia9 1 ic9] 80 :: (cellsA w8.heap.size #[.int .i64 0, .int .i64 1, .slice none 0 0, .slice none 0 0] 80 :: (RD ++ (cellsA w6.heap.size #[.int .i64 1, .int .i64 1, .slice none 0 0, .slice none 0 0] 80 :: (cellsA w5.heap.size #[.int .i64 1, .int .i64 1, .slice none 0 0, .slice none 0 0] 80 :: (cellsA w4.heap.size #[.int .i64 1, .int .i64 1, .slice none 0 0, .slice none 0 0] 80 :: aW))))))))) hs14a (by intro x; simp only [cnt_append, cnt_cons, cnt_nil]; omega)
  clear hs14a hs14'
  have hd := node_lose b 2 n4 A14 W (w14.alloc (.cells #[.int .i64 0, .int .i64 2, .slice none 0 0, .slice ia14 1 ic14] 80)) (cellsA w14.heap.size #[.int .i64 0, .int .i64 2, .slice none 0 0, .slice ia14 1 ic14] 80 :: (cellsA w11.heap.size #[.int .i64 0, .int .i64 1, .slice none 0 0, .slice ia11 0 ic11] 80 :: (cellsA w9.heap.size #[.int .i64 0, .int .i64 1, .slice none 0 0, .slice ia9 1 ic9] 80 :: (cellsA w8.heap.size #[.int .i64 0, .int .i64 1, .slice none 0 0, .slice none 0 0] 80 :: (RD ++ (cellsA w6.heap.size #[.int .i64 1, .int .i64 1, .slice none 0 0, .slice none 0 0] 80 :: (cellsA w5.heap.size #[.int .i64 1, .int .i64 1, .slice none 0 0, .slice none 0 0] 80 :: (cellsA w4.heap.size #[.int .i64 1, .int .i64 1, .slice none 0 0, .slice none 0 0] 80 :: aW)))))))) hA14 hs14 HOK4.out (by omega)
  obtain ⟨n5, hn5⟩ : ∃ n5 : Nd, n5 = n4.lose := ⟨_, rfl⟩
  rw [← hn5] at hd
  have HOK5 := Lib.hid (show NdOk n5 3 by rw [hn5]; exact HOK4.out.lose)
  have hb5 : n5.boot = 3 := by rw [hn5]; show n4.boot + 1 = 3; rw [hb4]; rfl
  have HS5 := Lib.hid (show n5.g.slots = List.replicate 16 sl0 by
    rw [hn5]
    show opSl ⟨List.replicate n4.q.now.length zero160, List.replicate n4.q.now.length zero160, [], _⟩ 16 = _
    rw [HOK4.out.len]
    exact sl_blank _ _ _)
  have HD := Lib.hid hd
  clear hd hn5 hA14 hs14
  go_wp2_with fail
  refine HD.out.mono ?_; rintro r w15 ⟨A15, rfl, hA15, hs15'⟩
  clear HD
  have hs15 := Sat.use (M := A15 ++ (cellsA w14.heap.size #[.int .i64 0, .int .i64 2, .slice none 0 0, .slice ia14 1 ic14] 80 :: (cellsA w11.heap.size #[.int .i64 0, .int .i64 1, .slice none 0 0, .slice ia11 0 ic11] 80 :: (cellsA w9.heap.size #[.int .i64 0, .int .i64 1, .slice none 0 0, .slice ia9 1 ic9] 80 :: (cellsA w8.heap.size #[.int .i64 0, .int .i64 1, .slice none 0 0, .slice none 0 0] 80 :: (RD ++ (cellsA w6.heap.size #[.int .i64 1, .int .i64 1, .slice none 0 0, .slice none 0 0] 80 :: (cellsA w5.heap.size #[.int .i64 1, .int .i64 1, .slice none 0 0, .slice none 0 0] 80 :: (cellsA w4.heap.size #[.int .i64 1, .int .i64 1, .slice none 0 0, .slice none 0 0] 80 :: aW))))))))) hs15' (by intro x; simp only [cnt_append, cnt_cons, cnt_nil]; omega)
  clear hs15'
  have hd := do_live b n5 A15 0 0 0 none 0 0 W w15 (cellsA w14.heap.size #[.int .i64 0, .int .i64 2, .slice none 0 0, .slice ia14 1 ic14] 80 :: (cellsA w11.heap.size #[.int .i64 0, .int .i64 1, .slice none 0 0, .slice ia11 0 ic11] 80 :: (cellsA w9.heap.size #[.int .i64 0, .int .i64 1, .slice none 0 0, .slice ia9 1 ic9] 80 :: (cellsA w8.heap.size #[.int .i64 0, .int .i64 1, .slice none 0 0, .slice none 0 0] 80 :: (RD ++ (cellsA w6.heap.size #[.int .i64 1, .int .i64 1, .slice none 0 0, .slice none 0 0] 80 :: (cellsA w5.heap.size #[.int .i64 1, .int .i64 1, .slice none 0 0, .slice none 0 0] 80 :: (cellsA w4.heap.size #[.int .i64 1, .int .i64 1, .slice none 0 0, .slice none 0 0] 80 :: aW)))))))) hA15 hs15 (by rw [HS5.out]; rfl) (by rw [HS5.out]; exact HSM.out) 0 (by rw [HS5.out]; exact by rw [live_rep]; rfl) (by omega)
  rw [hb5] at hd
  have HD := Lib.hid hd
  clear hd hA15 hs15
  go_wp2_with fail
  refine HD.out.mono ?_; rintro r w16 ⟨A16, ia16, ic16, R16, rfl, hA16, hs16'⟩
  clear HD
  unfold repV
  have hs16a := hs16'.newCells #[.int .i64 0, .int .i64 3, .slice none 0 0, .slice ia16 0 ic16] 80
  have hs16 := Sat.use (M := A16 ++ (cellsA w16.heap.size #[.int .i64 0, .int .i64 3, .slice none 0 0, .slice ia16 0 ic16] 80 :: (cellsA w14.heap.size #[.int .i64 0, .int .i64 2, .slice none 0 0, .slice ia14 1 ic14] 80 :: (cellsA w11.heap.size #[.int .i64 0, .int .i64 1, .slice none 0 0, .slice ia11 0 ic11] 80 :: (cellsA w9.heap.size #[.int .i64 0, .int .i64 1, .slice none 0 0, .slice ia9 1 ic9] 80 :: (cellsA w8.heap.size #[.int .i64 0, .int .i64 1, .slice none 0 0, .slice none 0 0] 80 :: (RD ++ (cellsA w6.heap.size #[.int .i64 1, .int .i64 1, .slice none 0 0, .slice none 0 0] 80 :: (cellsA w5.heap.size #[.int .i64 1, .int .i64 1, .slice none 0 0, .slice none 0 0] 80 :: (cellsA w4.heap.size #[.int .i64 1, .int .i64 1, .slice none 0 0, .slice none 0 0] 80 :: aW)))))))))) hs16a (by intro x; simp only [cnt_append, cnt_cons, cnt_nil]; omega)
  clear hs16a hs16'
  have hAe := hA16
  obtain ⟨bp5, br5, Aq5, Ag5, hq5, hg5, hAe5⟩ := hAe
  have hbt := node_boot b n5 A16 W (w16.alloc (.cells #[.int .i64 0, .int .i64 3, .slice none 0 0, .slice ia16 0 ic16] 80)) (cellsA w16.heap.size #[.int .i64 0, .int .i64 3, .slice none 0 0, .slice ia16 0 ic16] 80 :: (cellsA w14.heap.size #[.int .i64 0, .int .i64 2, .slice none 0 0, .slice ia14 1 ic14] 80 :: (cellsA w11.heap.size #[.int .i64 0, .int .i64 1, .slice none 0 0, .slice ia11 0 ic11] 80 :: (cellsA w9.heap.size #[.int .i64 0, .int .i64 1, .slice none 0 0, .slice ia9 1 ic9] 80 :: (cellsA w8.heap.size #[.int .i64 0, .int .i64 1, .slice none 0 0, .slice none 0 0] 80 :: (RD ++ (cellsA w6.heap.size #[.int .i64 1, .int .i64 1, .slice none 0 0, .slice none 0 0] 80 :: (cellsA w5.heap.size #[.int .i64 1, .int .i64 1, .slice none 0 0, .slice none 0 0] 80 :: (cellsA w4.heap.size #[.int .i64 1, .int .i64 1, .slice none 0 0, .slice none 0 0] 80 :: aW))))))))) hA16 hs16
  rw [hb5] at hbt
  have hsc := hs16
  rw [hAe5] at hsc
  have hpl := node_platter b bp5 br5 n5 [] W (w16.alloc (.cells #[.int .i64 0, .int .i64 3, .slice none 0 0, .slice ia16 0 ic16] 80)) _ hsc
  have hbl := blocks_any bp5 n5.q Aq5 W (w16.alloc (.cells #[.int .i64 0, .int .i64 3, .slice none 0 0, .slice ia16 0 ic16] 80)) _ hq5 (hsc.use (M := Aq5 ++ (cellsA w16.heap.size #[.int .i64 0, .int .i64 3, .slice none 0 0, .slice ia16 0 ic16] 80 :: (cellsA w14.heap.size #[.int .i64 0, .int .i64 2, .slice none 0 0, .slice ia14 1 ic14] 80 :: (cellsA w11.heap.size #[.int .i64 0, .int .i64 1, .slice none 0 0, .slice ia11 0 ic11] 80 :: (cellsA w9.heap.size #[.int .i64 0, .int .i64 1, .slice none 0 0, .slice ia9 1 ic9] 80 :: (cellsA w8.heap.size #[.int .i64 0, .int .i64 1, .slice none 0 0, .slice none 0 0] 80 :: (RD ++ (cellsA w6.heap.size #[.int .i64 1, .int .i64 1, .slice none 0 0, .slice none 0 0] 80 :: (cellsA w5.heap.size #[.int .i64 1, .int .i64 1, .slice none 0 0, .slice none 0 0] 80 :: (cellsA w4.heap.size #[.int .i64 1, .int .i64 1, .slice none 0 0, .slice none 0 0] 80 :: aW)))))))))) (by intro x; simp only [cnt_append, cnt_cons, cnt_nil]; omega))
  rw [HOK5.out.len] at hbl
  have HBT := Lib.hid hbt
  have HPL := Lib.hid hpl
  have HBL := Lib.hid hbl
  have HFIN := Lib.hid (HB.out _ (Sat.use (M := aW) hs16 (by intro x; simp only [cnt_append, cnt_cons, cnt_nil]; omega)))
  obtain ⟨FF, hFF⟩ : ∃ FF, FF = (cellsA w16.heap.size #[.int .i64 0, .int .i64 3, .slice none 0 0, .slice ia16 0 ic16] 80 :: (cellsA w14.heap.size #[.int .i64 0, .int .i64 2, .slice none 0 0, .slice ia14 1 ic14] 80 :: (cellsA w11.heap.size #[.int .i64 0, .int .i64 1, .slice none 0 0, .slice ia11 0 ic11] 80 :: (cellsA w9.heap.size #[.int .i64 0, .int .i64 1, .slice none 0 0, .slice ia9 1 ic9] 80 :: (cellsA w8.heap.size #[.int .i64 0, .int .i64 1, .slice none 0 0, .slice none 0 0] 80 :: (RD ++ (cellsA w6.heap.size #[.int .i64 1, .int .i64 1, .slice none 0 0, .slice none 0 0] 80 :: (cellsA w5.heap.size #[.int .i64 1, .int .i64 1, .slice none 0 0, .slice none 0 0] 80 :: (cellsA w4.heap.size #[.int .i64 1, .int .i64 1, .slice none 0 0, .slice none 0 0] 80 :: aW))))))))) := ⟨_, rfl⟩
  have hm0 : cellsA w4.heap.size #[.int .i64 1, .int .i64 1, .slice none 0 0, .slice none 0 0] 80 ∈ FF := by rw [hFF]; simp
  have hm1 : cellsA w5.heap.size #[.int .i64 1, .int .i64 1, .slice none 0 0, .slice none 0 0] 80 ∈ FF := by rw [hFF]; simp
  have hm2 : cellsA w6.heap.size #[.int .i64 1, .int .i64 1, .slice none 0 0, .slice none 0 0] 80 ∈ FF := by rw [hFF]; simp
  have hm3 : cellsA w8.heap.size #[.int .i64 0, .int .i64 1, .slice none 0 0, .slice none 0 0] 80 ∈ FF := by rw [hFF]; simp
  have hm4 : cellsA w9.heap.size #[.int .i64 0, .int .i64 1, .slice none 0 0, .slice ia9 1 ic9] 80 ∈ FF := by rw [hFF]; simp
  have hm5 : cellsA w11.heap.size #[.int .i64 0, .int .i64 1, .slice none 0 0, .slice ia11 0 ic11] 80 ∈ FF := by rw [hFF]; simp
  have hm6 : cellsA w14.heap.size #[.int .i64 0, .int .i64 2, .slice none 0 0, .slice ia14 1 ic14] 80 ∈ FF := by rw [hFF]; simp
  have hm7 : cellsA w16.heap.size #[.int .i64 0, .int .i64 3, .slice none 0 0, .slice ia16 0 ic16] 80 ∈ FF := by rw [hFF]; simp
  have c00 : (w16.alloc (.cells #[.int .i64 0, .int .i64 3, .slice none 0 0, .slice ia16 0 ic16] 80)).cell? ⟨w4.heap.size, 0, none⟩ = some (.int .i64 1) := by have h := hs16; rw [← hFF] at h; exact h.cell (List.mem_append_right _ hm0) 0
  have c01 : (w16.alloc (.cells #[.int .i64 0, .int .i64 3, .slice none 0 0, .slice ia16 0 ic16] 80)).cell? ⟨w4.heap.size, 1, none⟩ = some (.int .i64 1) := by have h := hs16; rw [← hFF] at h; exact h.cell (List.mem_append_right _ hm0) 1
  have c03 : (w16.alloc (.cells #[.int .i64 0, .int .i64 3, .slice none 0 0, .slice ia16 0 ic16] 80)).cell? ⟨w4.heap.size, 3, none⟩ = some (.slice none 0 0) := by have h := hs16; rw [← hFF] at h; exact h.cell (List.mem_append_right _ hm0) 3
  have c10 : (w16.alloc (.cells #[.int .i64 0, .int .i64 3, .slice none 0 0, .slice ia16 0 ic16] 80)).cell? ⟨w5.heap.size, 0, none⟩ = some (.int .i64 1) := by have h := hs16; rw [← hFF] at h; exact h.cell (List.mem_append_right _ hm1) 0
  have c11 : (w16.alloc (.cells #[.int .i64 0, .int .i64 3, .slice none 0 0, .slice ia16 0 ic16] 80)).cell? ⟨w5.heap.size, 1, none⟩ = some (.int .i64 1) := by have h := hs16; rw [← hFF] at h; exact h.cell (List.mem_append_right _ hm1) 1
  have c13 : (w16.alloc (.cells #[.int .i64 0, .int .i64 3, .slice none 0 0, .slice ia16 0 ic16] 80)).cell? ⟨w5.heap.size, 3, none⟩ = some (.slice none 0 0) := by have h := hs16; rw [← hFF] at h; exact h.cell (List.mem_append_right _ hm1) 3
  have c20 : (w16.alloc (.cells #[.int .i64 0, .int .i64 3, .slice none 0 0, .slice ia16 0 ic16] 80)).cell? ⟨w6.heap.size, 0, none⟩ = some (.int .i64 1) := by have h := hs16; rw [← hFF] at h; exact h.cell (List.mem_append_right _ hm2) 0
  have c21 : (w16.alloc (.cells #[.int .i64 0, .int .i64 3, .slice none 0 0, .slice ia16 0 ic16] 80)).cell? ⟨w6.heap.size, 1, none⟩ = some (.int .i64 1) := by have h := hs16; rw [← hFF] at h; exact h.cell (List.mem_append_right _ hm2) 1
  have c23 : (w16.alloc (.cells #[.int .i64 0, .int .i64 3, .slice none 0 0, .slice ia16 0 ic16] 80)).cell? ⟨w6.heap.size, 3, none⟩ = some (.slice none 0 0) := by have h := hs16; rw [← hFF] at h; exact h.cell (List.mem_append_right _ hm2) 3
  have c30 : (w16.alloc (.cells #[.int .i64 0, .int .i64 3, .slice none 0 0, .slice ia16 0 ic16] 80)).cell? ⟨w8.heap.size, 0, none⟩ = some (.int .i64 0) := by have h := hs16; rw [← hFF] at h; exact h.cell (List.mem_append_right _ hm3) 0
  have c31 : (w16.alloc (.cells #[.int .i64 0, .int .i64 3, .slice none 0 0, .slice ia16 0 ic16] 80)).cell? ⟨w8.heap.size, 1, none⟩ = some (.int .i64 1) := by have h := hs16; rw [← hFF] at h; exact h.cell (List.mem_append_right _ hm3) 1
  have c33 : (w16.alloc (.cells #[.int .i64 0, .int .i64 3, .slice none 0 0, .slice ia16 0 ic16] 80)).cell? ⟨w8.heap.size, 3, none⟩ = some (.slice none 0 0) := by have h := hs16; rw [← hFF] at h; exact h.cell (List.mem_append_right _ hm3) 3
  have c40 : (w16.alloc (.cells #[.int .i64 0, .int .i64 3, .slice none 0 0, .slice ia16 0 ic16] 80)).cell? ⟨w9.heap.size, 0, none⟩ = some (.int .i64 0) := by have h := hs16; rw [← hFF] at h; exact h.cell (List.mem_append_right _ hm4) 0
  have c41 : (w16.alloc (.cells #[.int .i64 0, .int .i64 3, .slice none 0 0, .slice ia16 0 ic16] 80)).cell? ⟨w9.heap.size, 1, none⟩ = some (.int .i64 1) := by have h := hs16; rw [← hFF] at h; exact h.cell (List.mem_append_right _ hm4) 1
  have c43 : (w16.alloc (.cells #[.int .i64 0, .int .i64 3, .slice none 0 0, .slice ia16 0 ic16] 80)).cell? ⟨w9.heap.size, 3, none⟩ = some (.slice ia9 1 ic9) := by have h := hs16; rw [← hFF] at h; exact h.cell (List.mem_append_right _ hm4) 3
  have c50 : (w16.alloc (.cells #[.int .i64 0, .int .i64 3, .slice none 0 0, .slice ia16 0 ic16] 80)).cell? ⟨w11.heap.size, 0, none⟩ = some (.int .i64 0) := by have h := hs16; rw [← hFF] at h; exact h.cell (List.mem_append_right _ hm5) 0
  have c51 : (w16.alloc (.cells #[.int .i64 0, .int .i64 3, .slice none 0 0, .slice ia16 0 ic16] 80)).cell? ⟨w11.heap.size, 1, none⟩ = some (.int .i64 1) := by have h := hs16; rw [← hFF] at h; exact h.cell (List.mem_append_right _ hm5) 1
  have c53 : (w16.alloc (.cells #[.int .i64 0, .int .i64 3, .slice none 0 0, .slice ia16 0 ic16] 80)).cell? ⟨w11.heap.size, 3, none⟩ = some (.slice ia11 0 ic11) := by have h := hs16; rw [← hFF] at h; exact h.cell (List.mem_append_right _ hm5) 3
  have c60 : (w16.alloc (.cells #[.int .i64 0, .int .i64 3, .slice none 0 0, .slice ia16 0 ic16] 80)).cell? ⟨w14.heap.size, 0, none⟩ = some (.int .i64 0) := by have h := hs16; rw [← hFF] at h; exact h.cell (List.mem_append_right _ hm6) 0
  have c61 : (w16.alloc (.cells #[.int .i64 0, .int .i64 3, .slice none 0 0, .slice ia16 0 ic16] 80)).cell? ⟨w14.heap.size, 1, none⟩ = some (.int .i64 2) := by have h := hs16; rw [← hFF] at h; exact h.cell (List.mem_append_right _ hm6) 1
  have c63 : (w16.alloc (.cells #[.int .i64 0, .int .i64 3, .slice none 0 0, .slice ia16 0 ic16] 80)).cell? ⟨w14.heap.size, 3, none⟩ = some (.slice ia14 1 ic14) := by have h := hs16; rw [← hFF] at h; exact h.cell (List.mem_append_right _ hm6) 3
  have c70 : (w16.alloc (.cells #[.int .i64 0, .int .i64 3, .slice none 0 0, .slice ia16 0 ic16] 80)).cell? ⟨w16.heap.size, 0, none⟩ = some (.int .i64 0) := by have h := hs16; rw [← hFF] at h; exact h.cell (List.mem_append_right _ hm7) 0
  have c71 : (w16.alloc (.cells #[.int .i64 0, .int .i64 3, .slice none 0 0, .slice ia16 0 ic16] 80)).cell? ⟨w16.heap.size, 1, none⟩ = some (.int .i64 3) := by have h := hs16; rw [← hFF] at h; exact h.cell (List.mem_append_right _ hm7) 1
  have c73 : (w16.alloc (.cells #[.int .i64 0, .int .i64 3, .slice none 0 0, .slice ia16 0 ic16] 80)).cell? ⟨w16.heap.size, 3, none⟩ = some (.slice ia16 0 ic16) := by have h := hs16; rw [← hFF] at h; exact h.cell (List.mem_append_right _ hm7) 3
  clear hFF hm0 hm1 hm2 hm3 hm4 hm5 hm6 hm7 hsc hAe5 hq5 hg5 hbt hpl hbl hs16 hA16
  go_wp2_with fail
  refine HBT.out.mono ?_; rintro r wz ⟨rfl, rfl⟩
  go_wp2_with fail
  refine HPL.out.mono ?_; rintro r wz ⟨rfl, rfl⟩
  go_wp2_with fail
  refine HBL.out.mono ?_; rintro r wz ⟨rfl, rfl⟩
  go_wp2_with fail
  go_ret
  exact ⟨rfl, HFIN.out⟩
end Go.Proofs.Ytdkhgkkdnjejmaa.Ch
