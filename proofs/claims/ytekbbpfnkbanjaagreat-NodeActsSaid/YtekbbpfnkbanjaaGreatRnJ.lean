
/-
  The document's node: Do at Put and Log.
-/
import Derived.Test.YtekbbpfnkbanjaaGreatRnI
namespace Go.Proofs.YtekbbpfnkbanjaaGreat.Ch
open Go Go.RowKit Go.Sl Go.BigFrame
set_option linter.unusedVariables false
set_option linter.unusedSimpArgs false

set_option maxRecDepth 100000 in
set_option maxHeartbeats 8000000 in
theorem rdo_put_bad (b bp br : Nat) (r : Rt) (Ap Ag : List Atom) (boot s g i : Int) (d : List UInt8) (da : Option Addr) (dn dc : Nat) (W w : World) (L : List Atom) (hdn : dn = d.length) (hp : ¬ rightP ⟨s, g, i, d⟩)
    (hs : Sat W w ((dnAt b bp br boot :: (Ap ++ Ag)) ++ L)) :
    Calls Tryz.prog 15 #[.pointer (some ⟨b, 0, none⟩), .agg #[.int .i64 2, .int .i64 s, .int .i64 g, .int .i64 i, .slice da dn dc]] w fun e w' => e = .returned (repV 1 boot (.slice none 0 0) (.slice none 0 0)) ∧ Sat W w' ((dnAt b bp br boot :: (Ap ++ Ag)) ++ L) := by
  have HDN := Lib.hid hdn
  clear hdn
  have hb2 : w.cell? ⟨b, 2, none⟩ = some (.int .i64 boot) := hs.cell m0 2
  have hbw : b < w.heap.size := hs.lt m0
  have hsq := hs.newCells #[.int .i64 2, .int .i64 s, .int .i64 g, .int .i64 i, .slice da dn dc] 37
  have hsr := hsq.newCells #[.int .i64 0, .int .i64 0, .slice none 0 0, .slice none 0 0] 44
  have hsp := hsr.newCells #[.int .i64 0, .int .i64 boot, .slice none 0 0, .slice none 0 0] 44
  have hsz : (w.alloc (.cells #[.int .i64 2, .int .i64 s, .int .i64 g, .int .i64 i, .slice da dn dc] 37)).heap.size = w.heap.size + 1 := by simp
  have hsz2 : ((w.alloc (.cells #[.int .i64 2, .int .i64 s, .int .i64 g, .int .i64 i, .slice da dn dc] 37)).alloc (.cells #[.int .i64 0, .int .i64 0, .slice none 0 0, .slice none 0 0] 44)).heap.size = w.heap.size + 2 := by simp
  rw [hsz2, hsz] at hsp
  clear hsz hsz2 hsq hsr hs
  go_enter Tryz.func15, Tryz.ntmps15
  go_upto_region 2 with fail
  refine with_sat hsp ?_
  clear hsp hb2
  intro w1 hs1
  generalize w.heap.size = z at *
  change Sat W w1 (repAt (z + 2) 0 boot (.slice none 0 0) (.slice none 0 0) :: (repAt (z + 1) 0 0 (.slice none 0 0) (.slice none 0 0) :: (reqAt z 2 s g i (.slice da dn dc) :: _))) at hs1
  have r0 : w1.cell? ⟨z, 0, none⟩ = some (.int .i64 2) := hs1.cell m2 0
  have r1 : w1.cell? ⟨z, 1, none⟩ = some (.int .i64 s) := hs1.cell m2 1
  have r2 : w1.cell? ⟨z, 2, none⟩ = some (.int .i64 g) := hs1.cell m2 2
  have r3 : w1.cell? ⟨z, 3, none⟩ = some (.int .i64 i) := hs1.cell m2 3
  have r4 : w1.cell? ⟨z, 4, none⟩ = some (.slice da dn dc) := hs1.cell m2 4
  have b0 : w1.cell? ⟨b, 0, none⟩ = some (.pointer (some ⟨bp, 0, none⟩)) := hs1.cell (.tail _ (.tail _ (.tail _ (.head _)))) 0
  have b1 : w1.cell? ⟨b, 1, none⟩ = some (.pointer (some ⟨br, 0, none⟩)) := hs1.cell (.tail _ (.tail _ (.tail _ (.head _)))) 1
  have hs2 := hs1.newCells #[.int .i64 s, .int .i64 g, .int .i64 i, .slice da dn dc] 72
  have hly := ref_lay_bad ⟨s, g, i, d⟩ da dc W _ _ hs2 hp
  unfold pcV at hly
  simp only at hly
  rw [← HDN.out] at hly
  have HF := Lib.hid hly
  clear hly hs1 hp hs2
  go_wp2_with fail
  refine HF.out.mono ?_; rintro r9 w2 ⟨rfl, hs3⟩
  have hs4 := hs3.tail
  have k0 := hs4.cell m0 0
  have k1 := hs4.free m0 0
  have hs5 := Sat.setCell hs4 0 (.int .i64 1)
  simp only [List.setIfInBounds_toArray, List.set_cons_zero, List.set_cons_succ] at hs5
  clear hs3 hs4 HF r0 r1 r2 r3 r4 b0 b1
  go_upto_region 22 with fail
  refine with_sat hs5 ?_
  clear hs5 k0 k1
  intro w3 hs5
  have g0 := hs5.cell m0 0
  have g1 := hs5.cell m0 1
  have g2 := hs5.cell m0 2
  have g3 := hs5.cell m0 3
  have h0 := hs5.cell m1 0
  have h1 := hs5.cell m1 1
  have h2 := hs5.cell m1 2
  have h3 := hs5.cell m1 3
  have j0 := hs5.free m1 0
  have j1 := hs5.free m1 1
  have j2 := hs5.free m1 2
  have j3 := hs5.free m1 3
  have hy1 := Sat.swap hs5
  have hy := Sat.setCell (Sat.setCell (Sat.setCell (Sat.setCell hy1 0 (.int .i64 1)) 1 (.int .i64 boot)) 2 (.slice none 0 0)) 3 (.slice none 0 0)
  clear hy1
  go_wp2_with fail
  refine bodyPost_ret (v := repV 1 boot (.slice none 0 0) (.slice none 0 0)) (by simp [results, Tryz.results15, go_sem, repV, *]) rfl ?_
  replace hy := hy.tail.tail
  exact ⟨rfl, hy.tail.use (by intro x; simp only [cnt_append, cnt_cons, cnt_nil]; omega)⟩

set_option maxRecDepth 100000 in
set_option maxHeartbeats 8000000 in
theorem rdo_put (b bp br : Nat) (r : Rt) (Ap Ag : List Atom) (boot s g i : Int) (d : List UInt8) (da : Option Addr) (dn dc : Nat) (W w : World) (L : List Atom) (hdn : dn = d.length) (hin : ∀ y, Sat W y L → Reads y (.slice da dn dc) d.length (bts d)) (hq : RtA bp r Ap) (hp : rightP ⟨s, g, i, d⟩) (h80 : 80 ≤ r.done.length) (hpl : r.pend.length < 900000) (hw0 : 0 ≤ r.writes) (hw1 : r.writes < 1000000000)
    (hs : Sat W w ((dnAt b bp br boot :: (Ap ++ Ag)) ++ L)) :
    Calls Tryz.prog 15 #[.pointer (some ⟨b, 0, none⟩), .agg #[.int .i64 2, .int .i64 s, .int .i64 g, .int .i64 i, .slice da dn dc]] w fun e w' => ∃ Ap', e = .returned (repV 0 boot (.slice none 0 0) (.slice none 0 0)) ∧ RtA bp (r.wr (placeN s g) (layB ⟨s, g, i, d⟩)) Ap' ∧ Sat W w' ((dnAt b bp br boot :: (Ap' ++ Ag)) ++ L) := by
  have hpb := placeI_bounds s g hp.1 hp.2.1
  have hpn : ((placeN s g : Nat) : Int) = placeI s g := by unfold placeN; omega
  have hpl2 := fun w => ref_place s g w hp.1 (by have := hp.2.1; simp only at this; omega) (by have := hp.2.2.1; simp only at this; omega)
  rw [← hpn] at hpl2
  have HPN := Lib.hid (show placeN s g < 80 by unfold placeN; omega)
  generalize placeN s g = P at *
  have HPL := Lib.hid hpl2
  have HLL := Lib.hid (layB_length ⟨s, g, i, d⟩ hp.2.2.2.2.2.2)
  generalize hle : layB ⟨s, g, i, d⟩ = l at *
  have HLE := Lib.hid hle
  clear hpn hpb hpl2 hle
  have HDN := Lib.hid hdn
  clear hdn
  have hb2 : w.cell? ⟨b, 2, none⟩ = some (.int .i64 boot) := hs.cell m0 2
  have hbw : b < w.heap.size := hs.lt m0
  have hsq := hs.newCells #[.int .i64 2, .int .i64 s, .int .i64 g, .int .i64 i, .slice da dn dc] 37
  have hsr := hsq.newCells #[.int .i64 0, .int .i64 0, .slice none 0 0, .slice none 0 0] 44
  have hsp := hsr.newCells #[.int .i64 0, .int .i64 boot, .slice none 0 0, .slice none 0 0] 44
  have hsz : (w.alloc (.cells #[.int .i64 2, .int .i64 s, .int .i64 g, .int .i64 i, .slice da dn dc] 37)).heap.size = w.heap.size + 1 := by simp
  have hsz2 : ((w.alloc (.cells #[.int .i64 2, .int .i64 s, .int .i64 g, .int .i64 i, .slice da dn dc] 37)).alloc (.cells #[.int .i64 0, .int .i64 0, .slice none 0 0, .slice none 0 0] 44)).heap.size = w.heap.size + 2 := by simp
  rw [hsz2, hsz] at hsp
  clear hsz hsz2 hsq hsr hs
  go_enter Tryz.func15, Tryz.ntmps15
  go_upto_region 2 with fail
  refine with_sat hsp ?_
  clear hsp hb2
  intro w1 hs1
  generalize w.heap.size = z at *
  change Sat W w1 (repAt (z + 2) 0 boot (.slice none 0 0) (.slice none 0 0) :: (repAt (z + 1) 0 0 (.slice none 0 0) (.slice none 0 0) :: (reqAt z 2 s g i (.slice da dn dc) :: _))) at hs1
  have r0 : w1.cell? ⟨z, 0, none⟩ = some (.int .i64 2) := hs1.cell m2 0
  have r1 : w1.cell? ⟨z, 1, none⟩ = some (.int .i64 s) := hs1.cell m2 1
  have r2 : w1.cell? ⟨z, 2, none⟩ = some (.int .i64 g) := hs1.cell m2 2
  have r3 : w1.cell? ⟨z, 3, none⟩ = some (.int .i64 i) := hs1.cell m2 3
  have r4 : w1.cell? ⟨z, 4, none⟩ = some (.slice da dn dc) := hs1.cell m2 4
  have b0 : w1.cell? ⟨b, 0, none⟩ = some (.pointer (some ⟨bp, 0, none⟩)) := hs1.cell (.tail _ (.tail _ (.tail _ (.head _)))) 0
  have b1 : w1.cell? ⟨b, 1, none⟩ = some (.pointer (some ⟨br, 0, none⟩)) := hs1.cell (.tail _ (.tail _ (.tail _ (.head _)))) 1
  have hs2 := hs1.newCells #[.int .i64 s, .int .i64 g, .int .i64 i, .slice da dn dc] 72
  have hly := ref_lay ⟨s, g, i, d⟩ da dc W _ _ hs2 (fun y hy => by have h := hin y hy.tail.tail.tail.tail.right; rw [HDN.out] at h; exact h) hp
  unfold pcV at hly
  simp only at hly
  rw [← HDN.out] at hly
  rw [HLE.out] at hly
  have HF := Lib.hid hly
  have HQ := Lib.hid hq
  clear hly hs1 hp hs2 hin hq
  go_wp2_with fail
  refine HF.out.mono ?_; rintro r9 w2 ⟨bv, R, rfl, hr, hs3⟩
  obtain ⟨ab, cb, rfl⟩ := Ch.RowA.slice hr
  generalize w1.heap.size = zp at *
  have hs4 := hs3.right.tail
  clear HF r0 r1 r2 r3 r4 b0 b1
  have r1 : w2.cell? ⟨z, 1, none⟩ = some (.int .i64 s) := hs4.cell m2 1
  have r2 : w2.cell? ⟨z, 2, none⟩ = some (.int .i64 g) := hs4.cell m2 2
  have b0 : w2.cell? ⟨b, 0, none⟩ = some (.pointer (some ⟨bp, 0, none⟩)) := hs4.cell (.tail _ (.tail _ (.tail _ (.head _)))) 0
  have hs5 := Sat.use (M := Ap ++ (R ++ (repAt (z + 2) 0 boot (.slice none 0 0) (.slice none 0 0) :: (repAt (z + 1) 0 0 (.slice none 0 0) (.slice none 0 0) :: (dnAt b bp br boot :: (Ag ++ L)))))) hs3.drew (by intro x; simp only [cnt_append, cnt_cons, cnt_nil]; omega)
  have hwr := ref_write bp r Ap P (.slice ab l.length cb) l W w2.drew _ HQ.out hs5 (by have := HPN.out; omega) HLL.out (fun y hy => hr.reads (F := L) (hy.use (by intro x; simp only [cnt_append, cnt_cons, cnt_nil]; omega))) hpl hw0 hw1
  have HW := Lib.hid hwr
  obtain ⟨ln, hln⟩ : ∃ ln, ln = l.length := ⟨_, rfl⟩
  rw [← hln] at HW ⊢
  clear hwr hs5 hs4 hs3 hr hln
  go_wp2_with fail
  refine wp_region_one [10] [] [] [] [0, 1, 2, 3, 4, 5, 6, 7, 8, 9, 10] (by kernel_rfl) (by kernel_rfl) ?_
  repeat (first | (refine can_pu1 rfl rfl rfl rfl rfl rfl (fun K hK => ?_); go_big_quiet_op; refine hK _ ?_; clear hK K) | (refine can_st1 rfl rfl rfl rfl rfl rfl (fun K hK => ?_); go_big_quiet_op; refine hK _ ?_; clear hK K) | (refine can_early1 rfl rfl rfl rfl rfl (fun K hK => ?_); go_big_quiet_op; refine hK _ ?_; clear hK K) | (refine can_skip rfl rfl rfl ?_; simp only [Act.put, List.setIfInBounds_toArray, List.set_cons_zero, List.set_cons_succ]))
  refine can_call1 rfl rfl rfl rfl (by (intro w; go_simp); (try (repeat' apply And.intro)); all_goals rfl) ((HPL.out _).mono fun e w' h => ⟨h.1, h.2.symm⟩) ?_; simp only [Act.put, List.setIfInBounds_toArray, List.set_cons_zero, List.set_cons_succ]
  repeat (first | (refine can_pu1 rfl rfl rfl rfl rfl rfl (fun K hK => ?_); go_big_quiet_op; refine hK _ ?_; clear hK K) | (refine can_st1 rfl rfl rfl rfl rfl rfl (fun K hK => ?_); go_big_quiet_op; refine hK _ ?_; clear hK K) | (refine can_early1 rfl rfl rfl rfl rfl (fun K hK => ?_); go_big_quiet_op; refine hK _ ?_; clear hK K) | (refine can_skip rfl rfl rfl ?_; simp only [Act.put, List.setIfInBounds_toArray, List.set_cons_zero, List.set_cons_succ]))
  refine can_act1 rfl rfl rfl (fun K hK => ?_)
  go_wp2_with fail
  refine HW.out.mono ?_; rintro r9 w3 ⟨Ap', rfl, hA', hs6⟩
  apply hK
  clear hK HW r1 r2 b0
  refine can_end1 ?_; (try simp only [Exit.then])
  have hs7 := Sat.use (M := repAt (z + 2) 0 boot (.slice none 0 0) (.slice none 0 0) :: (repAt (z + 1) 0 0 (.slice none 0 0) (.slice none 0 0) :: (dnAt b bp br boot :: (Ap' ++ (Ag ++ L))))) hs6 (by intro x; simp only [cnt_append, cnt_cons, cnt_nil]; omega)
  clear hs6
  have g0 := hs7.cell m0 0
  have g1 := hs7.cell m0 1
  have g2 := hs7.cell m0 2
  have g3 := hs7.cell m0 3
  have h0 := hs7.cell m1 0
  have h1 := hs7.cell m1 1
  have h2 := hs7.cell m1 2
  have h3 := hs7.cell m1 3
  have j0 := hs7.free m1 0
  have j1 := hs7.free m1 1
  have j2 := hs7.free m1 2
  have j3 := hs7.free m1 3
  have hy1 := Sat.swap hs7
  have hy := Sat.setCell (Sat.setCell (Sat.setCell (Sat.setCell hy1 0 (.int .i64 0)) 1 (.int .i64 boot)) 2 (.slice none 0 0)) 3 (.slice none 0 0)
  clear hy1
  go_wp2_with fail
  refine bodyPost_ret (v := repV 0 boot (.slice none 0 0) (.slice none 0 0)) (by simp [results, Tryz.results15, go_sem, repV, *]) rfl ?_
  replace hy := hy.tail.tail
  exact ⟨Ap', rfl, hA', hy.use (by intro x; simp only [cnt_append, cnt_cons, cnt_nil]; omega)⟩

set_option maxRecDepth 100000 in
set_option maxHeartbeats 8000000 in
theorem rdo_log (b bp br : Nat) (r : Rt) (Ap : List Atom) (xs : List (Sl5 × Value)) (nx : Int) (B : List Atom) (boot s g i : Int) (d : List UInt8) (da : Option Addr) (dn dc : Nat) (W w : World) (L : List Atom) (hdn : dn = d.length) (hin : ∀ y, Sat W y L → Reads y (.slice da dn dc) d.length (bts d)) (hq : RtA bp r Ap) (hri : RowsIn B xs) (hxl : xs.length = 16) (hok : ∀ x ∈ xs, SlOk x.1) (n0 : 1 ≤ nx) (n1 : nx ≤ 281474976710656) (h96 : r.done.length = 96) (hpl : r.pend.length < 900000) (hw0 : 0 ≤ r.writes) (hw1 : r.writes < 1000000000)
    (hs : Sat W w ((dnAt b bp br boot :: (Ap ++ (cellsA br (rringC bp xs nx) 96 :: B))) ++ L)) :
    Calls Tryz.prog 15 #[.pointer (some ⟨b, 0, none⟩), .agg #[.int .i64 3, .int .i64 s, .int .i64 g, .int .i64 i, .slice da dn dc]] w fun e w' => ∃ code xs' nx' r' B' Ap', e = .returned (repV code boot (.slice none 0 0) (.slice none 0 0)) ∧ RowsIn B' xs' ∧ RtA bp r' Ap' ∧ LogX ⟨s, g, d⟩ xs nx r xs' nx' r' code ∧ Sat W w' ((dnAt b bp br boot :: (Ap' ++ (cellsA br (rringC bp xs' nx') 96 :: B'))) ++ L) := by
  have HDN := Lib.hid hdn
  clear hdn
  have hb2 : w.cell? ⟨b, 2, none⟩ = some (.int .i64 boot) := hs.cell m0 2
  have hbw : b < w.heap.size := hs.lt m0
  have hsq := hs.newCells #[.int .i64 3, .int .i64 s, .int .i64 g, .int .i64 i, .slice da dn dc] 37
  have hsr := hsq.newCells #[.int .i64 0, .int .i64 0, .slice none 0 0, .slice none 0 0] 44
  have hsp := hsr.newCells #[.int .i64 0, .int .i64 boot, .slice none 0 0, .slice none 0 0] 44
  have hsz : (w.alloc (.cells #[.int .i64 3, .int .i64 s, .int .i64 g, .int .i64 i, .slice da dn dc] 37)).heap.size = w.heap.size + 1 := by simp
  have hsz2 : ((w.alloc (.cells #[.int .i64 3, .int .i64 s, .int .i64 g, .int .i64 i, .slice da dn dc] 37)).alloc (.cells #[.int .i64 0, .int .i64 0, .slice none 0 0, .slice none 0 0] 44)).heap.size = w.heap.size + 2 := by simp
  rw [hsz2, hsz] at hsp
  clear hsz hsz2 hsq hsr hs
  go_enter Tryz.func15, Tryz.ntmps15
  go_upto_region 2 with fail
  refine with_sat hsp ?_
  clear hsp hb2
  intro w1 hs1
  generalize w.heap.size = z at *
  change Sat W w1 (repAt (z + 2) 0 boot (.slice none 0 0) (.slice none 0 0) :: (repAt (z + 1) 0 0 (.slice none 0 0) (.slice none 0 0) :: (reqAt z 3 s g i (.slice da dn dc) :: _))) at hs1
  have r0 : w1.cell? ⟨z, 0, none⟩ = some (.int .i64 3) := hs1.cell m2 0
  have r1 : w1.cell? ⟨z, 1, none⟩ = some (.int .i64 s) := hs1.cell m2 1
  have r2 : w1.cell? ⟨z, 2, none⟩ = some (.int .i64 g) := hs1.cell m2 2
  have r3 : w1.cell? ⟨z, 3, none⟩ = some (.int .i64 i) := hs1.cell m2 3
  have r4 : w1.cell? ⟨z, 4, none⟩ = some (.slice da dn dc) := hs1.cell m2 4
  have b0 : w1.cell? ⟨b, 0, none⟩ = some (.pointer (some ⟨bp, 0, none⟩)) := hs1.cell (.tail _ (.tail _ (.tail _ (.head _)))) 0
  have b1 : w1.cell? ⟨b, 1, none⟩ = some (.pointer (some ⟨br, 0, none⟩)) := hs1.cell (.tail _ (.tail _ (.tail _ (.head _)))) 1
  have hlg := ref_log br bp r Ap xs nx B ⟨s, g, d⟩ da dc W w1.drew (repAt (z + 2) 0 boot (.slice none 0 0) (.slice none 0 0) :: (repAt (z + 1) 0 0 (.slice none 0 0) (.slice none 0 0) :: (dnAt b bp br boot :: L))) hq hri hxl hok n0 n1 (hs1.drew.use (by intro x; simp only [cnt_append, cnt_cons, cnt_nil]; omega)) (fun y hy => by have h := hin y hy.tail.tail.tail; rw [HDN.out] at h; exact h) h96 hpl hw0 hw1
  unfold itV at hlg
  simp only at hlg
  rw [← HDN.out] at hlg
  have HF := Lib.hid hlg
  clear hlg hs1 hin hq hri hxl hok
  go_wp2_with fail
  refine wp_region_one [11, 13] [] [] [] [0, 1, 2, 3, 4, 5, 6, 7, 8, 9, 10, 11, 12, 13] (by kernel_rfl) (by kernel_rfl) ?_
  repeat (first | (refine can_pu1 rfl rfl rfl rfl rfl rfl (fun K hK => ?_); go_big_quiet_op; refine hK _ ?_; clear hK K) | (refine can_st1 rfl rfl rfl rfl rfl rfl (fun K hK => ?_); go_big_quiet_op; refine hK _ ?_; clear hK K) | (refine can_early1 rfl rfl rfl rfl rfl (fun K hK => ?_); go_big_quiet_op; refine hK _ ?_; clear hK K) | (refine can_skip rfl rfl rfl ?_; simp only [Act.put, List.setIfInBounds_toArray, List.set_cons_zero, List.set_cons_succ]))
  refine can_act1 rfl rfl rfl (fun K hK => ?_)
  go_wp2_with fail
  refine HF.out.mono ?_; rintro r9 w2 ⟨code, xs', nx', r', B', Ap', rfl, hri, hA', hx, hs2⟩
  apply hK
  clear hK HF r0 r1 r2 r3 r4 b0 b1
  have hs3 := Sat.use (M := repAt (z + 2) 0 boot (.slice none 0 0) (.slice none 0 0) :: (repAt (z + 1) 0 0 (.slice none 0 0) (.slice none 0 0) :: (dnAt b bp br boot :: (Ap' ++ (cellsA br (rringC bp xs' nx') 96 :: (B' ++ L)))))) hs2 (by intro x; simp only [cnt_append, cnt_cons, cnt_nil]; omega)
  have k3 := hs3.cell m0 0
  have k4 := hs3.free m0 0
  have hs4 := Sat.setCell hs3 0 (.int .i64 code)
  simp only [List.setIfInBounds_toArray, List.set_cons_zero, List.set_cons_succ] at hs4
  clear hs2 hs3
  repeat (first | (refine can_pu1 rfl rfl rfl rfl rfl rfl (fun K hK => ?_); go_big_quiet_op; refine hK _ ?_; clear hK K) | (refine can_st1 rfl rfl rfl rfl rfl rfl (fun K hK => ?_); go_big_quiet_op; refine hK _ ?_; clear hK K) | (refine can_early1 rfl rfl rfl rfl rfl (fun K hK => ?_); go_big_quiet_op; refine hK _ ?_; clear hK K) | (refine can_skip rfl rfl rfl ?_; simp only [Act.put, List.setIfInBounds_toArray, List.set_cons_zero, List.set_cons_succ]))
  refine can_act1 rfl rfl rfl (fun K hK => ?_)
  go_wp2_with fail
  refine can_end1 ?_; (try simp only [Exit.then])
  refine with_sat hs4 ?_
  clear hs4 k3 k4
  intro w3 hs4
  have g0 := hs4.cell m0 0
  have g1 := hs4.cell m0 1
  have g2 := hs4.cell m0 2
  have g3 := hs4.cell m0 3
  have h0 := hs4.cell m1 0
  have h1 := hs4.cell m1 1
  have h2 := hs4.cell m1 2
  have h3 := hs4.cell m1 3
  have j0 := hs4.free m1 0
  have j1 := hs4.free m1 1
  have j2 := hs4.free m1 2
  have j3 := hs4.free m1 3
  have hy1 := Sat.swap hs4
  have hy := Sat.setCell (Sat.setCell (Sat.setCell (Sat.setCell hy1 0 (.int .i64 code)) 1 (.int .i64 boot)) 2 (.slice none 0 0)) 3 (.slice none 0 0)
  clear hy1
  go_wp2_with fail
  refine bodyPost_ret (v := repV code boot (.slice none 0 0) (.slice none 0 0)) (by simp [results, Tryz.results15, go_sem, repV, *]) rfl ?_
  replace hy := hy.tail.tail
  first
    | exact ⟨code, xs', nx', r', B', Ap', rfl, hri, hA', hx, hy.use (by intro x; simp only [cnt_append, cnt_cons, cnt_nil]; omega)⟩
    | exact ⟨code, rfl, xs', nx', r', B', hri, Ap', hA', hx, hy.use (by intro x; simp only [cnt_append, cnt_cons, cnt_nil]; omega)⟩
    | exact ⟨code, rfl, xs', nx', r', B', Ap', hri, hA', hx, hy.use (by intro x; simp only [cnt_append, cnt_cons, cnt_nil]; omega)⟩
end Go.Proofs.YtekbbpfnkbanjaaGreat.Ch
