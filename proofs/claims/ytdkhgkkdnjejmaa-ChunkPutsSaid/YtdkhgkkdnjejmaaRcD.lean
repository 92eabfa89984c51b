/-
  The document's pieceBytes, LayPiece.
-/
import Derived.Test.YtdkhgkkdnjejmaaRcC
namespace Go.Proofs.Ytdkhgkkdnjejmaa.Ch
set_option linter.unusedSimpArgs false
open Go Go.RowKit Go.Sl Go.BigFrame
set_option linter.unusedVariables false

set_option maxRecDepth 100000 in
set_option maxHeartbeats 4000000 in
theorem ref_bytes (p : Pc) (a : Option Addr) (c : Nat) (W w : World) (L : List Atom) (hs : Sat W w L) (hin : ∀ y, Sat W y L → Reads y (.slice a p.data.length c) p.data.length (bts p.data)) (hp : rightP p) :
    Calls Try.prog 77 #[pcV p (.slice a p.data.length c)] w fun e w' => ∃ v R, e = .returned v ∧ RowA 5 1 v (pieceB p).length (bts (pieceB p)) R ∧ Sat W w' (R ++ L) := by
  obtain ⟨s, g, i, d⟩ := p
  obtain ⟨h1, h2, h3, h4, h5, h6, h7⟩ := hp
  have hPB : pieceB ⟨s, g, i, d⟩ = bytesB s 1 ++ bytesB g 6 ++ [byteAt i 0] ++ d := by
    unfold pieceB
    simp [bytesB]
  obtain ⟨B, hB⟩ : ∃ B, B = pieceB ⟨s, g, i, d⟩ := ⟨_, rfl⟩
  rw [← hB] at hPB ⊢
  have HPB := Lib.hid hPB
  have hi0 : ((byteAt i 0).toNat : Int) = i := by
    have := byteAt_val i 0
    simp only at h5 h6
    omega
  unfold pcV at *
  simp only at *
  have hs2 := hs.newCells #[.int .i64 s, .int .i64 g, .int .i64 i, .slice a d.length c] 45
  obtain ⟨L1, hL1⟩ : ∃ L1, L1 = cellsA w.heap.size #[.int .i64 s, .int .i64 g, .int .i64 i, .slice a d.length c] 45 :: L := ⟨_, rfl⟩
  have HL1 := Lib.hid hL1
  have hm1 : cellsA w.heap.size #[.int .i64 s, .int .i64 g, .int .i64 i, .slice a d.length c] 45 ∈ L1 := by rw [hL1]; exact m0
  rw [← hL1] at hs2
  have hin1 : ∀ y, Sat W y L1 → Reads y (.slice a d.length c) d.length (bts d) := fun y hy => hin y (by rw [hL1] at hy; exact hy.tail)
  have HIN := Lib.hid hin1
  have HM := Lib.hid hm1
  have H7 := Lib.hid h7
  have HI0 := Lib.hid hi0
  have c0 : ∀ y : Of W L1, y.v.cell? ⟨w.heap.size, 0, none⟩ = some (.int .i64 s) := fun y => y.s.cell hm1 0
  have c1 : ∀ y : Of W L1, y.v.cell? ⟨w.heap.size, 1, none⟩ = some (.int .i64 g) := fun y => y.s.cell hm1 1
  have d0 : (w.alloc (.cells #[.int .i64 s, .int .i64 g, .int .i64 i, .slice a d.length c] 45)).cell? ⟨w.heap.size, 0, none⟩ = some (.int .i64 s) := c0 ⟨_, hs2⟩
  clear hL1 hs hin hin1 hm1 hPB hB h7 hi0
  go_enter Try.func77, Try.ntmps77
  go_wp2_with fail
  refine wp_region_held1 [2, 5, 6] [3, 4] [3] [2] [0, 1, 3, 4, 2, 5, 6, 7] (Held W L1) (by kernel_rfl) (by kernel_rfl) ?_ ?_
  · exact Held.mk hs2.drew
  have hne : Nonempty (Of W L1) := ⟨⟨_, hs2⟩⟩
  have hs3 := hs2.drew
  repeat (first | (refine can_pu1 rfl rfl rfl rfl rfl rfl (fun K hK => ?_); go_big_quiet_op; refine hK _ ?_; clear hK K) | (refine can_st1 rfl rfl rfl rfl rfl rfl (fun K hK => ?_); go_big_quiet_op; refine hK _ ?_; clear hK K) | (refine can_early1 rfl rfl rfl rfl rfl (fun K hK => ?_); go_big_quiet_op; refine hK _ ?_; clear hK K) | (refine can_skip rfl rfl rfl ?_; simp only [Act.put, List.setIfInBounds_toArray, List.set_cons_zero, List.set_cons_succ]))
  generalize w.heap.size = z at *
  refine with_sat hs3 ?_
  clear hs3 hs2 c0 c1 d0 hne
  intro w3 hs3
  refine can_actS rfl rfl rfl rfl (fun K hK => ?_)
  go_wp2_with fail
  refine (ref_big s 1 W _ _ (by omega) (by omega) (by omega) hs3).mono ?_; rintro r w4 ⟨v1, R1, rfl, hr1, hs4⟩
  apply hK
  refine ⟨Held.mk hs4.right, ?_⟩
  clear hK hs3
  obtain ⟨a1, k1, rfl⟩ := Ch.RowA.slice hr1
  repeat (first | (refine can_pu1 rfl rfl rfl rfl rfl rfl (fun K hK => ?_); go_big_quiet_op; refine hK _ ?_; clear hK K) | (refine can_st1 rfl rfl rfl rfl rfl rfl (fun K hK => ?_); go_big_quiet_op; refine hK _ ?_; clear hK K) | (refine can_early1 rfl rfl rfl rfl rfl (fun K hK => ?_); go_big_quiet_op; refine hK _ ?_; clear hK K) | (refine can_skip rfl rfl rfl ?_; simp only [Act.put, List.setIfInBounds_toArray, List.set_cons_zero, List.set_cons_succ]))
  refine can_actF rfl rfl rfl rfl (fun K hK => ?_)
  go_wp2_with fail
  refine (ref_big g 6 W _ _ (by omega) (by omega) (by omega) hs4).mono ?_; rintro r w5 ⟨v2, R2, rfl, hr2, hs5⟩
  apply hK
  clear hK hs4
  obtain ⟨a2, k2, rfl⟩ := Ch.RowA.slice hr2
  have hs6 : Sat W w5 (R1 ++ (R2 ++ L1)) := hs5.use (by intro x; simp only [cnt_append, cnt_cons, cnt_nil]; omega)
  have hsrc := hr2.reads hs5
  have l1 := bytesB_length s 1
  have l6 := bytesB_length g 6
  generalize bytesB s 1 = B1 at *
  generalize bytesB g 6 = B6 at *
  have HL1' := Lib.hid l1
  have HL6' := Lib.hid l6
  clear l1 l6 hs5
  refine can_actF rfl rfl rfl rfl (fun K hK => ?_)
  refine wp_append_u8 rfl B1 B6 rfl rfl hr1 hs6 hsrc (by rw [HL1'.out, HL6'.out]; decide) (fun v3 w6 R3 hr3 hs7 => ?_)
  simp only [Act.put, List.setIfInBounds_toArray, List.set_cons_zero, List.set_cons_succ]
  refine hK _ _ ?_
  clear hK hr1 hr2 hs6 hsrc
  obtain ⟨a3, k3, rfl⟩ := Ch.RowA.slice hr3
  repeat (first | (refine can_pu1 rfl rfl rfl rfl rfl rfl (fun K hK => ?_); go_big_quiet_op; refine hK _ ?_; clear hK K) | (refine can_st1 rfl rfl rfl rfl rfl rfl (fun K hK => ?_); go_big_quiet_op; refine hK _ ?_; clear hK K) | (refine can_early1 rfl rfl rfl rfl rfl (fun K hK => ?_); go_big_quiet_op; refine hK _ ?_; clear hK K) | (refine can_skip rfl rfl rfl ?_; simp only [Act.put, List.setIfInBounds_toArray, List.set_cons_zero, List.set_cons_succ]))
  refine can_end1 ?_; (try simp only [Exit.then])
  have hm6 : cellsA z #[.int .i64 s, .int .i64 g, .int .i64 i, .slice a d.length c] 45 ∈ R3 ++ (R2 ++ L1) := List.mem_append_right _ (List.mem_append_right _ HM.out)
  have e2 := hs7.cell hm6 2
  have i0 : (0 : Int) ≤ i := by omega
  have i6 : i < 6 := by omega
  have hl3 : (B1 ++ B6).length = 7 := by rw [List.length_append, HL1'.out, HL6'.out]
  generalize B1 ++ B6 = B7 at *
  have HL7 := Lib.hid hl3
  have hpar : ∀ y, Sat W y (R3 ++ (R2 ++ L1)) → Reads y (.slice a d.length c) d.length (bts d) := fun y hy => HIN.out y hy.right.right
  have hsb : Sat W (w6.alloc (.cells #[.int .u8 i] 5)) (R3 ++ (cellsA w6.heap.size #[.int .u8 i] 5 :: (R2 ++ L1))) := (hs7.newCells _ _).use (by intro x; simp only [cnt_append, cnt_cons, cnt_nil]; omega)
  clear hl3 hm6
  go_wp2_with (at_builtin; first | (refine wpList_plain rfl (fun K hK => ?_); refine wp_append_u8 rfl B7 [byteAt i 0] rfl rfl hr3 hsb (reads_new w6 _ _ _ _ _ (by simp [bts]; exact HI0.out.symm)) (by rw [HL7.out]; show 7 + 1 < 1000000; omega) (fun v4 w7 R4 hr4 hs8 => ?_); refine hK _ _ ?_; simp only [Act.put, List.setIfInBounds_toArray, List.set_cons_zero, List.set_cons_succ]; clear hK; obtain ⟨a4, k4, rfl⟩ := Ch.RowA.slice hr4; have e3 := hs8.cell (b := z) (T := 45) (List.mem_append_right _ (.tail _ (List.mem_append_right _ HM.out))) 3; have hl8 : (B7 ++ [byteAt i 0]).length = 8 := (by rw [List.length_append, HL7.out]; rfl); generalize B7 ++ [byteAt i 0] = B8 at *; have HL8 := Lib.hid hl8; clear hl8) | (refine wpList_plain rfl (fun K hK => ?_); refine wp_append_u8 rfl B8 d rfl rfl hr4 hs8 (HIN.out _ hs8.right.tail.right) (by rw [HL8.out, H7.out]; decide) (fun v5 w8 R5 hr5 hs9 => ?_); refine hK _ _ ?_; simp only [Act.put, List.setIfInBounds_toArray, List.set_cons_zero, List.set_cons_succ]; clear hK; obtain ⟨a5, k5, rfl⟩ := Ch.RowA.slice hr5))
  have hs9' := hs9
  rw [HL1.out] at hs9'
  rw [HPB.out]
  exact bodyPost_ret (v := .slice a5 (B8 ++ d).length k5) (by simp [results, Try.results77, go_sem, *]) rfl ⟨_, R5, rfl, hr5, hs9'.use (by intro x; simp only [cnt_append, cnt_cons, cnt_nil]; omega)⟩
end Go.Proofs.Ytdkhgkkdnjejmaa.Ch
