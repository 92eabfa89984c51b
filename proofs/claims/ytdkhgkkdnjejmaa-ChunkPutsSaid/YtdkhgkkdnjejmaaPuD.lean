/-
  The document's platter: Write.
-/
import Derived.Test.YtdkhgkkdnjejmaaPuC
import Derived.Test.YtdkhgkkdnjejmaaSlTree
namespace Go.Proofs.Ytdkhgkkdnjejmaa.Ch
set_option linter.unusedSimpArgs false
open Go Go.RowKit Go.Sl Go.BigFrame
set_option linter.unusedVariables false

set_option maxRecDepth 100000 in
set_option maxHeartbeats 8000000 in
theorem ref_write (b : Nat) (r : Rt) (A : List Atom) (k : Nat) (bv : Value) (l : List UInt8) (W w : World) (L : List Atom) (hp : RtA b r A) (hs : Sat W w (A ++ L)) (hk : k < r.done.length) (hl : l.length = 160) (hin : ∀ y, Sat W y (A ++ L) → Reads y bv l.length (bts l)) (hpl : r.pend.length < 900000) (hw0 : 0 ≤ r.writes) (hw1 : r.writes < 1000000000) :
    Calls Try.prog 48 #[.pointer (some ⟨b, 0, none⟩), .int .i64 k, bv] w fun e w' => ∃ A', e = .returned (.bool true) ∧ RtA b (r.wr k l) A' ∧ Sat W w' (A' ++ L) := by
  obtain ⟨d, pe, ws⟩ := r
  obtain ⟨vd, vp, Rd, Rp, rfl, hrd, hrp⟩ := hp
  obtain ⟨ab, cb, rfl⟩ := reads_shape (hin w hs)
  simp only at hrd hrp hpl hk hw0 hw1
  obtain ⟨ad, cd, rfl⟩ := Ch.RowA.slice hrd
  obtain ⟨ap, cp, rfl⟩ := Ch.RowA.slice hrp
  obtain ⟨LL, hLL⟩ : ∃ LL, LL = cellsA b #[.slice ad d.length cd, .slice ap pe.length cp, .int .i64 ws] 126 :: (Rd ++ Rp) ++ L := ⟨_, rfl⟩
  have hm : cellsA b #[.slice ad d.length cd, .slice ap pe.length cp, .int .i64 ws] 126 ∈ LL := by rw [hLL]; exact m0
  have hfin : ∀ v (R3 : List Atom), RowA 129 2 v (pe.length + 1) (pendC (pe.map Prod.fst) (strs (pe.map Prod.snd)) ++ [.int .i64 k, .string (bsOf l)]) R3 → RtA b (Rt.wr ⟨d, pe, ws⟩ k l) (cellsA b #[.slice ad d.length cd, v, .int .i64 (Rt.wr ⟨d, pe, ws⟩ k l).writes] 126 :: (Rd ++ R3)) := fun v R3 h => by
    refine ⟨_, v, Rd, R3, rfl, hrd, ?_⟩
    rw [pendC_snoc _ _ _ _ (by simp [strs])] at h
    simp only [Rt.wr, List.length_append, List.length_cons, List.length_nil, List.map_append, List.map_cons, List.map_nil, strs_append, Nat.zero_add]
    exact h
  have hcv : ∀ y : Of W LL, (convert 32 9 (.slice ab 160 cb)).run Try.prog y.v = .ok (.string (bsOf l)) y.v := fun y => by
    have h := str_of _ l y.v (hin y.v ((congrArg (Sat W y.v) hLL).mp y.s))
    rw [hl] at h
    exact h
  have hrc : ∀ y, Sat W y LL → Reads y (.slice ap pe.length cp) pe.length (pendC (pe.map Prod.fst) (strs (pe.map Prod.snd))) := fun y hy => by
    rw [hLL] at hy
    exact hrp.reads (F := cellsA b #[.slice ad d.length cd, .slice ap pe.length cp, .int .i64 ws] 126 :: (Rd ++ L)) (hy.use (by intro x; simp only [cnt_append, cnt_cons, cnt_nil]; omega))
  have hpcl : (pendC (pe.map Prod.fst) (strs (pe.map Prod.snd))).length = pe.length * 2 := by rw [pendC_length _ _ (by simp [strs])]; simp
  have hp1 : ∀ u ∈ pendC (pe.map Prod.fst) (strs (pe.map Prod.snd)), u.oneCell' = true := pend_one _ _
  have c1 : ∀ y : Of W LL, y.v.cell? ⟨b, 1, none⟩ = some (.slice ap pe.length cp) := fun y => y.s.cell hm 1
  have d0 : w.cell? ⟨b, 0, none⟩ = some (.slice ad d.length cd) := hs.cell m0 0
  rw [← hLL] at hs
  have HLL := Lib.hid hLL
  have HFIN := Lib.hid hfin
  have HRD := Lib.hid hrc
  have HPL := Lib.hid hpcl
  have HP1 := Lib.hid hp1
  have HCV := Lib.hid hcv
  have hkn : ¬ (d.length : Int) ≤ k := by omega
  have k0 : ¬ (k : Int) < 0 := by omega
  have h160 : ((l.length : Int) != 160) = false := by simp; omega
  clear hLL hfin hrc hpcl hp1 hcv hm hin hrd hrp
  generalize bsOf l = sb at *
  generalize pendC (pe.map Prod.fst) (strs (pe.map Prod.snd)) = PC at *
  go_enter Try.func48, Try.ntmps48
  go_wp2_with fail
  refine wp_region_plan [1, 6, 11, 12, 15] [0, 2, 3, 4, 5, 7, 8, 9, 10] [0, 2, 3, 4, 7, 8, 10] [1, 6, 11] [0, 2, 3, 4, 5, 7, 8, 9, 10] (.two [1] (.two [6, 11, 12, 13, 14, 15] .nil [11, 6, 12, 13, 14, 15] .nil) [11, 1, 6, 12, 13, 14, 15] .nil) (Held W LL) (by kernel_rfl) (by kernel_rfl) ?_ ?_
  · exact Held.mk hs.drew
  have hne : Nonempty (Of W LL) := ⟨⟨_, hs⟩⟩
  have hsT := hs.drew
  generalize w.drew = wt at *
  repeat (first | (refine can_pu1 rfl rfl rfl rfl rfl rfl (fun K hK => ?_); go_big_quiet_op; refine hK _ ?_; clear hK K) | (refine can_st1 rfl rfl rfl rfl rfl rfl (fun K hK => ?_); go_big_quiet_op; refine hK _ ?_; clear hK K) | (refine can_early1 rfl rfl rfl rfl rfl (fun K hK => ?_); go_big_quiet_op; refine hK _ ?_; clear hK K) | (refine can_skip rfl rfl rfl ?_; simp only [Act.put, List.setIfInBounds_toArray, List.set_cons_zero, List.set_cons_succ]))
  refine can_st1 rfl rfl rfl rfl rfl rfl (fun K hK => ?_)
  refine quiet_cv rfl rfl (fun y hy => by obtain ⟨q, rfl⟩ := hy; exact HCV.out q) ?_
  refine hK _ ?_
  clear hK K
  simp only [Act.put, List.setIfInBounds_toArray, List.set_cons_zero, List.set_cons_succ]
  repeat (first | (refine can_pu1 rfl rfl rfl rfl rfl rfl (fun K hK => ?_); go_big_quiet_op; refine hK _ ?_; clear hK K) | (refine can_st1 rfl rfl rfl rfl rfl rfl (fun K hK => ?_); go_big_quiet_op; refine hK _ ?_; clear hK K) | (refine can_early1 rfl rfl rfl rfl rfl (fun K hK => ?_); go_big_quiet_op; refine hK _ ?_; clear hK K) | (refine can_skip rfl rfl rfl ?_; simp only [Act.put, List.setIfInBounds_toArray, List.set_cons_zero, List.set_cons_succ]))
  refine can_two ?_ ?_
  · skip
    refine can_actS rfl rfl rfl rfl (fun K hK => ?_)
    go_wp2_with fail
    have hsA := none_satT hsT 129 2
    refine ⟨Held.mk hsA.tail, ?_⟩
    generalize (wt).heap.size = z1 at *
    refine with_sat hsA ?_
    clear hsA
    intro w1 hsA
    repeat (first | (refine can_pu1 rfl rfl rfl rfl rfl rfl (fun K hK => ?_); go_big_quiet_op; refine hK _ ?_; clear hK K) | (refine can_st1 rfl rfl rfl rfl rfl rfl (fun K hK => ?_); go_big_quiet_op; refine hK _ ?_; clear hK K) | (refine can_early1 rfl rfl rfl rfl rfl (fun K hK => ?_); go_big_quiet_op; refine hK _ ?_; clear hK K) | (refine can_skip rfl rfl rfl ?_; simp only [Act.put, List.setIfInBounds_toArray, List.set_cons_zero, List.set_cons_succ]))
    refine can_two ?_ ?_
    · skip
      refine can_actS rfl rfl rfl rfl (fun K hK => ?_)
      refine wp_append_g Try.underlying124 infoRw rfl (by decide) (by decide) rfl rfl rfl (none_rowT _ 2 z1) hsA (HRD.out _ (Sat.use (M := LL) hsA (by intro x; simp only [cnt_append, cnt_cons, cnt_nil]; omega))) (by rw [HPL.out]) HP1.out (by omega) (fun v2 w6 R2 hr2 hsC => ?_)
      simp only [Act.put, List.setIfInBounds_toArray, List.set_cons_zero, List.set_cons_succ]
      apply hK
      refine ⟨Held.mk (Sat.use hsC (by intro x; simp only [cnt_append, cnt_cons, cnt_nil]; omega)), ?_⟩
      clear hK
      rw [Nat.zero_add, List.nil_append] at hr2
      repeat (first | (refine can_pu1 rfl rfl rfl rfl rfl rfl (fun K hK => ?_); go_big_quiet_op; refine hK _ ?_; clear hK K) | (refine can_st1 rfl rfl rfl rfl rfl rfl (fun K hK => ?_); go_big_quiet_op; refine hK _ ?_; clear hK K) | (refine can_early1 rfl rfl rfl rfl rfl (fun K hK => ?_); go_big_quiet_op; refine hK _ ?_; clear hK K) | (refine can_skip rfl rfl rfl ?_; simp only [Act.put, List.setIfInBounds_toArray, List.set_cons_zero, List.set_cons_succ]))
      refine can_actS rfl rfl rfl rfl (fun K hK => ?_)
      go_wp2_with fail
      have hsB := Sat.newCells hsC #[.int .i64 k, .string sb] 129
      refine ⟨Held.mk hsB.tail.right, ?_⟩
      generalize (w6).heap.size = z11 at *
      refine with_sat hsB ?_
      clear hsB
      intro w11 hsB
      repeat (first | (refine can_pu1 rfl rfl rfl rfl rfl rfl (fun K hK => ?_); go_big_quiet_op; refine hK _ ?_; clear hK K) | (refine can_st1 rfl rfl rfl rfl rfl rfl (fun K hK => ?_); go_big_quiet_op; refine hK _ ?_; clear hK K) | (refine can_early1 rfl rfl rfl rfl rfl (fun K hK => ?_); go_big_quiet_op; refine hK _ ?_; clear hK K) | (refine can_skip rfl rfl rfl ?_; simp only [Act.put, List.setIfInBounds_toArray, List.set_cons_zero, List.set_cons_succ]))
      have hsD := Sat.use (M := R2 ++ (cellsA z11 #[.int .i64 k, .string sb] 129 :: LL)) hsB (by intro x; simp only [cnt_append, cnt_cons, cnt_nil]; omega)
      have hsrc := reads_cells hsD (List.mem_append_right _ m0) 1 1 [.int .i64 k, .string sb] rfl
      refine can_actF rfl rfl rfl rfl (fun K hK => ?_)
      refine wp_append_g Try.underlying124 infoRw rfl (by decide) (by decide) rfl rfl rfl hr2 hsD hsrc rfl (by intro u hu; simp at hu; rcases hu with rfl | rfl <;> rfl) (by omega) (fun v3 w12 R3 hr3 hsE => ?_)
      simp only [Act.put, List.setIfInBounds_toArray, List.set_cons_zero, List.set_cons_succ]
      refine hK _ _ ?_
      clear hK
      obtain ⟨a3, c3, rfl⟩ := Ch.RowA.slice hr3
      rw [HLL.out] at hsE
      have hsF := Sat.use (M := cellsA b #[.slice ad d.length cd, .slice ap pe.length cp, .int .i64 ws] 126 :: (R3 ++ (Rd ++ L))) hsE (by intro x; simp only [cnt_append, cnt_cons, cnt_nil]; omega)
      clear hsD hsrc hsE
      have f0 := hsF.cell m0 1
      have f1 := hsF.free m0 1
      have f2 := hsF.cell m0 2
      have f3 := hsF.free m0 2
      have hsG := Sat.setCell hsF 1 (.slice a3 (pe.length + 1) c3)
      have f4 := hsG.cell m0 2
      have f5 := hsG.free m0 2
      have hsH := Sat.setCell hsG 2 (.int .i64 (ws + 1))
      repeat (first | (refine can_pu1 rfl rfl rfl rfl rfl rfl (fun K hK => ?_); go_big_quiet_op; refine hK _ ?_; clear hK K) | (refine can_st1 rfl rfl rfl rfl rfl rfl (fun K hK => ?_); go_big_quiet_op; refine hK _ ?_; clear hK K) | (refine can_early1 rfl rfl rfl rfl rfl (fun K hK => ?_); go_big_quiet_op; refine hK _ ?_; clear hK K) | (refine can_skip rfl rfl rfl ?_; simp only [Act.put, List.setIfInBounds_toArray, List.set_cons_zero, List.set_cons_succ]))
      refine can_actF rfl rfl rfl rfl (fun K hK => ?_)
      go_wp2_with fail
      refine can_end1 ?_; (try simp only [Exit.then])
      go_wp2_with fail
      go_ret
      simp only [List.setIfInBounds_toArray, List.set_cons_zero, List.set_cons_succ] at hsH
      have hsI : Sat W _ (cellsA b #[.slice ad d.length cd, .slice a3 (pe.length + 1) c3, .int .i64 (Rt.wr ⟨d, pe, ws⟩ k l).writes] 126 :: (R3 ++ (Rd ++ L))) := hsH
      first | exact ⟨rfl, _, HFIN.out _ _ hr3, hsI.use (by intro x; simp only [cnt_append, cnt_cons, cnt_nil]; omega)⟩ | exact ⟨_, rfl, HFIN.out _ _ hr3, hsI.use (by intro x; simp only [cnt_append, cnt_cons, cnt_nil]; omega)⟩
    · skip
      refine can_actS rfl rfl rfl rfl (fun K hK => ?_)
      go_wp2_with fail
      have hsB := Sat.newCells hsA #[.int .i64 k, .string sb] 129
      refine ⟨Held.mk hsB.tail.tail, ?_⟩
      generalize (w1).heap.size = z11 at *
      refine with_sat hsB ?_
      clear hsB
      intro w11 hsB
      repeat (first | (refine can_pu1 rfl rfl rfl rfl rfl rfl (fun K hK => ?_); go_big_quiet_op; refine hK _ ?_; clear hK K) | (refine can_st1 rfl rfl rfl rfl rfl rfl (fun K hK => ?_); go_big_quiet_op; refine hK _ ?_; clear hK K) | (refine can_early1 rfl rfl rfl rfl rfl (fun K hK => ?_); go_big_quiet_op; refine hK _ ?_; clear hK K) | (refine can_skip rfl rfl rfl ?_; simp only [Act.put, List.setIfInBounds_toArray, List.set_cons_zero, List.set_cons_succ]))
      have hsB2 := Sat.use (M := [(z1, rowP 129 0 (0 * 2) [])] ++ (cellsA z11 #[.int .i64 k, .string sb] 129 :: LL)) hsB (by intro x; simp only [cnt_append, cnt_cons, cnt_nil]; omega)
      refine can_actS rfl rfl rfl rfl (fun K hK => ?_)
      refine wp_append_g Try.underlying124 infoRw rfl (by decide) (by decide) rfl rfl rfl (none_rowT _ 2 z1) hsB2 (HRD.out _ (Sat.use (M := LL) hsB2 (by intro x; simp only [cnt_append, cnt_cons, cnt_nil]; omega))) (by rw [HPL.out]) HP1.out (by omega) (fun v2 w6 R2 hr2 hsC => ?_)
      simp only [Act.put, List.setIfInBounds_toArray, List.set_cons_zero, List.set_cons_succ]
      apply hK
      refine ⟨Held.mk (Sat.use hsC (by intro x; simp only [cnt_append, cnt_cons, cnt_nil]; omega)), ?_⟩
      clear hK
      rw [Nat.zero_add, List.nil_append] at hr2
      repeat (first | (refine can_pu1 rfl rfl rfl rfl rfl rfl (fun K hK => ?_); go_big_quiet_op; refine hK _ ?_; clear hK K) | (refine can_st1 rfl rfl rfl rfl rfl rfl (fun K hK => ?_); go_big_quiet_op; refine hK _ ?_; clear hK K) | (refine can_early1 rfl rfl rfl rfl rfl (fun K hK => ?_); go_big_quiet_op; refine hK _ ?_; clear hK K) | (refine can_skip rfl rfl rfl ?_; simp only [Act.put, List.setIfInBounds_toArray, List.set_cons_zero, List.set_cons_succ]))
      have hsD := Sat.use (M := R2 ++ (cellsA z11 #[.int .i64 k, .string sb] 129 :: LL)) hsC (by intro x; simp only [cnt_append, cnt_cons, cnt_nil]; omega)
      have hsrc := reads_cells hsD (List.mem_append_right _ m0) 1 1 [.int .i64 k, .string sb] rfl
      refine can_actF rfl rfl rfl rfl (fun K hK => ?_)
      refine wp_append_g Try.underlying124 infoRw rfl (by decide) (by decide) rfl rfl rfl hr2 hsD hsrc rfl (by intro u hu; simp at hu; rcases hu with rfl | rfl <;> rfl) (by omega) (fun v3 w12 R3 hr3 hsE => ?_)
      simp only [Act.put, List.setIfInBounds_toArray, List.set_cons_zero, List.set_cons_succ]
      refine hK _ _ ?_
      clear hK
      obtain ⟨a3, c3, rfl⟩ := Ch.RowA.slice hr3
      rw [HLL.out] at hsE
      have hsF := Sat.use (M := cellsA b #[.slice ad d.length cd, .slice ap pe.length cp, .int .i64 ws] 126 :: (R3 ++ (Rd ++ L))) hsE (by intro x; simp only [cnt_append, cnt_cons, cnt_nil]; omega)
      clear hsD hsrc hsE
      have f0 := hsF.cell m0 1
      have f1 := hsF.free m0 1
      have f2 := hsF.cell m0 2
      have f3 := hsF.free m0 2
      have hsG := Sat.setCell hsF 1 (.slice a3 (pe.length + 1) c3)
      have f4 := hsG.cell m0 2
      have f5 := hsG.free m0 2
      have hsH := Sat.setCell hsG 2 (.int .i64 (ws + 1))
      repeat (first | (refine can_pu1 rfl rfl rfl rfl rfl rfl (fun K hK => ?_); go_big_quiet_op; refine hK _ ?_; clear hK K) | (refine can_st1 rfl rfl rfl rfl rfl rfl (fun K hK => ?_); go_big_quiet_op; refine hK _ ?_; clear hK K) | (refine can_early1 rfl rfl rfl rfl rfl (fun K hK => ?_); go_big_quiet_op; refine hK _ ?_; clear hK K) | (refine can_skip rfl rfl rfl ?_; simp only [Act.put, List.setIfInBounds_toArray, List.set_cons_zero, List.set_cons_succ]))
      refine can_actF rfl rfl rfl rfl (fun K hK => ?_)
      go_wp2_with fail
      refine can_end1 ?_; (try simp only [Exit.then])
      go_wp2_with fail
      go_ret
      simp only [List.setIfInBounds_toArray, List.set_cons_zero, List.set_cons_succ] at hsH
      have hsI : Sat W _ (cellsA b #[.slice ad d.length cd, .slice a3 (pe.length + 1) c3, .int .i64 (Rt.wr ⟨d, pe, ws⟩ k l).writes] 126 :: (R3 ++ (Rd ++ L))) := hsH
      first | exact ⟨rfl, _, HFIN.out _ _ hr3, hsI.use (by intro x; simp only [cnt_append, cnt_cons, cnt_nil]; omega)⟩ | exact ⟨_, rfl, HFIN.out _ _ hr3, hsI.use (by intro x; simp only [cnt_append, cnt_cons, cnt_nil]; omega)⟩
  · skip
    refine can_actS rfl rfl rfl rfl (fun K hK => ?_)
    go_wp2_with fail
    have hsB := Sat.newCells hsT #[.int .i64 k, .string sb] 129
    refine ⟨Held.mk hsB.tail, ?_⟩
    generalize (wt).heap.size = z11 at *
    refine with_sat hsB ?_
    clear hsB
    intro w11 hsB
    repeat (first | (refine can_pu1 rfl rfl rfl rfl rfl rfl (fun K hK => ?_); go_big_quiet_op; refine hK _ ?_; clear hK K) | (refine can_st1 rfl rfl rfl rfl rfl rfl (fun K hK => ?_); go_big_quiet_op; refine hK _ ?_; clear hK K) | (refine can_early1 rfl rfl rfl rfl rfl (fun K hK => ?_); go_big_quiet_op; refine hK _ ?_; clear hK K) | (refine can_skip rfl rfl rfl ?_; simp only [Act.put, List.setIfInBounds_toArray, List.set_cons_zero, List.set_cons_succ]))
    refine can_actS rfl rfl rfl rfl (fun K hK => ?_)
    go_wp2_with fail
    have hsA := none_satT hsB 129 2
    refine ⟨Held.mk hsA.tail.tail, ?_⟩
    generalize (w11).heap.size = z1 at *
    refine with_sat hsA ?_
    clear hsA
    intro w1 hsA
    repeat (first | (refine can_pu1 rfl rfl rfl rfl rfl rfl (fun K hK => ?_); go_big_quiet_op; refine hK _ ?_; clear hK K) | (refine can_st1 rfl rfl rfl rfl rfl rfl (fun K hK => ?_); go_big_quiet_op; refine hK _ ?_; clear hK K) | (refine can_early1 rfl rfl rfl rfl rfl (fun K hK => ?_); go_big_quiet_op; refine hK _ ?_; clear hK K) | (refine can_skip rfl rfl rfl ?_; simp only [Act.put, List.setIfInBounds_toArray, List.set_cons_zero, List.set_cons_succ]))
    refine can_actS rfl rfl rfl rfl (fun K hK => ?_)
    refine wp_append_g Try.underlying124 infoRw rfl (by decide) (by decide) rfl rfl rfl (none_rowT _ 2 z1) hsA (HRD.out _ (Sat.use (M := LL) hsA (by intro x; simp only [cnt_append, cnt_cons, cnt_nil]; omega))) (by rw [HPL.out]) HP1.out (by omega) (fun v2 w6 R2 hr2 hsC => ?_)
    simp only [Act.put, List.setIfInBounds_toArray, List.set_cons_zero, List.set_cons_succ]
    apply hK
    refine ⟨Held.mk (Sat.use hsC (by intro x; simp only [cnt_append, cnt_cons, cnt_nil]; omega)), ?_⟩
    clear hK
    rw [Nat.zero_add, List.nil_append] at hr2
    repeat (first | (refine can_pu1 rfl rfl rfl rfl rfl rfl (fun K hK => ?_); go_big_quiet_op; refine hK _ ?_; clear hK K) | (refine can_st1 rfl rfl rfl rfl rfl rfl (fun K hK => ?_); go_big_quiet_op; refine hK _ ?_; clear hK K) | (refine can_early1 rfl rfl rfl rfl rfl (fun K hK => ?_); go_big_quiet_op; refine hK _ ?_; clear hK K) | (refine can_skip rfl rfl rfl ?_; simp only [Act.put, List.setIfInBounds_toArray, List.set_cons_zero, List.set_cons_succ]))
    have hsD := Sat.use (M := R2 ++ (cellsA z11 #[.int .i64 k, .string sb] 129 :: LL)) hsC (by intro x; simp only [cnt_append, cnt_cons, cnt_nil]; omega)
    have hsrc := reads_cells hsD (List.mem_append_right _ m0) 1 1 [.int .i64 k, .string sb] rfl
    refine can_actF rfl rfl rfl rfl (fun K hK => ?_)
    refine wp_append_g Try.underlying124 infoRw rfl (by decide) (by decide) rfl rfl rfl hr2 hsD hsrc rfl (by intro u hu; simp at hu; rcases hu with rfl | rfl <;> rfl) (by omega) (fun v3 w12 R3 hr3 hsE => ?_)
    simp only [Act.put, List.setIfInBounds_toArray, List.set_cons_zero, List.set_cons_succ]
    refine hK _ _ ?_
    clear hK
    obtain ⟨a3, c3, rfl⟩ := Ch.RowA.slice hr3
    rw [HLL.out] at hsE
    have hsF := Sat.use (M := cellsA b #[.slice ad d.length cd, .slice ap pe.length cp, .int .i64 ws] 126 :: (R3 ++ (Rd ++ L))) hsE (by intro x; simp only [cnt_append, cnt_cons, cnt_nil]; omega)
    clear hsD hsrc hsE
    have f0 := hsF.cell m0 1
    have f1 := hsF.free m0 1
    have f2 := hsF.cell m0 2
    have f3 := hsF.free m0 2
    have hsG := Sat.setCell hsF 1 (.slice a3 (pe.length + 1) c3)
    have f4 := hsG.cell m0 2
    have f5 := hsG.free m0 2
    have hsH := Sat.setCell hsG 2 (.int .i64 (ws + 1))
    repeat (first | (refine can_pu1 rfl rfl rfl rfl rfl rfl (fun K hK => ?_); go_big_quiet_op; refine hK _ ?_; clear hK K) | (refine can_st1 rfl rfl rfl rfl rfl rfl (fun K hK => ?_); go_big_quiet_op; refine hK _ ?_; clear hK K) | (refine can_early1 rfl rfl rfl rfl rfl (fun K hK => ?_); go_big_quiet_op; refine hK _ ?_; clear hK K) | (refine can_skip rfl rfl rfl ?_; simp only [Act.put, List.setIfInBounds_toArray, List.set_cons_zero, List.set_cons_succ]))
    refine can_actF rfl rfl rfl rfl (fun K hK => ?_)
    go_wp2_with fail
    refine can_end1 ?_; (try simp only [Exit.then])
    go_wp2_with fail
    go_ret
    simp only [List.setIfInBounds_toArray, List.set_cons_zero, List.set_cons_succ] at hsH
    have hsI : Sat W _ (cellsA b #[.slice ad d.length cd, .slice a3 (pe.length + 1) c3, .int .i64 (Rt.wr ⟨d, pe, ws⟩ k l).writes] 126 :: (R3 ++ (Rd ++ L))) := hsH
    first | exact ⟨rfl, _, HFIN.out _ _ hr3, hsI.use (by intro x; simp only [cnt_append, cnt_cons, cnt_nil]; omega)⟩ | exact ⟨_, rfl, HFIN.out _ _ hr3, hsI.use (by intro x; simp only [cnt_append, cnt_cons, cnt_nil]; omega)⟩
end Go.Proofs.Ytdkhgkkdnjejmaa.Ch
