
/-
  The document's RightIntent, LayIntent.
-/
import Derived.Test.YtekbbpfnkbanjaaGreatMG
import Derived.Test.YtekbbpfnkbanjaaGreatMR
namespace Go.Proofs.YtekbbpfnkbanjaaGreat.Ch
set_option linter.unusedSimpArgs false
open Go Go.RowKit Go.Sl Go.BigFrame
set_option linter.unusedVariables false

theorem ref_iright (p : It) (a : Option Addr) (c : Nat) (w : World) :
    Calls Tryz.prog 62 #[itV p (.slice a p.data.length c)] w fun e w' => e = .returned (.bool (decide (rightI p))) ∧ Ext w w' := by
  obtain ⟨s, g, d⟩ := p
  unfold itV
  simp only []
  by_cases hr : rightI ⟨s, g, d⟩
  · rw [decide_eq_true hr]
    obtain ⟨h1, h2, h3, h4, h7⟩ := hr
    simp only at h1 h2 h3 h4 h7
    rw [h7]
    go_enter Tryz.func62, Tryz.ntmps62
    go_wp2_with fail
    go_ret
    refine ⟨?_, ?_⟩
    · rfl
    · exact Ext.alloc _ _
  · rw [decide_eq_false hr]
    have HR := Lib.hid hr
    clear hr
    by_cases h1 : 0 ≤ s
    case neg =>
      go_enter Tryz.func62, Tryz.ntmps62
      go_wp2_with fail
      go_ret
      refine ⟨?_, ?_⟩
      · rfl
      · exact Ext.alloc _ _
    by_cases h2 : s < 40
    case neg =>
      go_enter Tryz.func62, Tryz.ntmps62
      go_wp2_with fail
      go_ret
      refine ⟨?_, ?_⟩
      · rfl
      · exact Ext.alloc _ _
    by_cases h3 : 1 ≤ g
    case neg =>
      go_enter Tryz.func62, Tryz.ntmps62
      go_wp2_with fail
      go_ret
      refine ⟨?_, ?_⟩
      · rfl
      · exact Ext.alloc _ _
    by_cases h4 : g ≤ 1099511627776
    case neg =>
      go_enter Tryz.func62, Tryz.ntmps62
      go_wp2_with fail
      go_ret
      refine ⟨?_, ?_⟩
      · rfl
      · exact Ext.alloc _ _
    have h7 : ¬ (d.length : Int) = 128 := fun h => HR.out ⟨h1, h2, h3, h4, by simpa using (by omega : d.length = 128)⟩
    have h8 : ((d.length : Int) == 128) = false := by simpa using h7
    go_enter Tryz.func62, Tryz.ntmps62
    go_wp2_with fail
    go_ret
    refine ⟨?_, ?_⟩
    · rfl
    · exact Ext.alloc _ _

theorem bytesB_one (s : Int) : bytesB s 1 = [byteAt s 0] := by simp [bytesB]
set_option maxRecDepth 100000 in
set_option maxHeartbeats 4000000 in
theorem ref_layI (no : Int) (p : It) (a : Option Addr) (c : Nat) (W w : World) (L : List Atom) (hs : Sat W w L) (hin : ∀ y, Sat W y L → Reads y (.slice a p.data.length c) p.data.length (bts p.data)) (hp : rightI p) (n0 : 0 ≤ no) (n1 : no < 281474976710656) :
    Calls Tryz.prog 63 #[.int .i64 no, itV p (.slice a p.data.length c)] w fun e w' => ∃ v R, e = .returned v ∧ RowA 5 1 v (layI no p).length (bts (layI no p)) R ∧ Sat W w' (R ++ L) := by
  obtain ⟨s, g, d⟩ := p
  obtain ⟨h1, h2, h3, h4, h7⟩ := hp
  simp only at h1 h2 h3 h4 h7 hin
  obtain ⟨B, hB⟩ : ∃ B, B = layI no ⟨s, g, d⟩ := ⟨_, rfl⟩
  have hPB : B = sealB 2 (bytesB no 6 ++ bytesB s 1 ++ bytesB g 6 ++ d) := by
    rw [hB]
    unfold layI intB
    rw [bytesB_one]
    simp only [List.append_assoc]
  rw [← hB]
  have HPB := Lib.hid hPB
  unfold itV
  simp only []
  have hs2 := hs.newCells #[.int .i64 s, .int .i64 g, .slice a d.length c] 77
  obtain ⟨L1, hL1⟩ : ∃ L1, L1 = cellsA w.heap.size #[.int .i64 s, .int .i64 g, .slice a d.length c] 77 :: L := ⟨_, rfl⟩
  have HL1 := Lib.hid hL1
  have hm1 : cellsA w.heap.size #[.int .i64 s, .int .i64 g, .slice a d.length c] 77 ∈ L1 := by rw [hL1]; exact m0
  rw [← hL1] at hs2
  have hin1 : ∀ y, Sat W y L1 → Reads y (.slice a d.length c) d.length (bts d) := fun y hy => hin y (by rw [hL1] at hy; exact hy.tail)
  have HIN := Lib.hid hin1
  have HM := Lib.hid hm1
  have H7 := Lib.hid h7
  have c0 : ∀ y : Of W L1, y.v.cell? ⟨w.heap.size, 0, none⟩ = some (.int .i64 s) := fun y => y.s.cell hm1 0
  clear hL1 hs hin hin1 hm1 hPB hB h7
  go_enter Tryz.func63, Tryz.ntmps63
  go_wp2_with fail
  refine wp_region_held1 [1, 4, 5] [2, 3] [2] [1] [0, 2, 3, 1, 4, 5, 6] (Held W L1) (by kernel_rfl) (by kernel_rfl) ?_ ?_
  · exact Held.mk hs2.drew
  have hne : Nonempty (Of W L1) := ⟨⟨_, hs2⟩⟩
  have hs3 := hs2.drew
  repeat (first | (refine can_pu1 rfl rfl rfl rfl rfl rfl (fun K hK => ?_); go_big_quiet_op; refine hK _ ?_; clear hK K) | (refine can_st1 rfl rfl rfl rfl rfl rfl (fun K hK => ?_); go_big_quiet_op; refine hK _ ?_; clear hK K) | (refine can_early1 rfl rfl rfl rfl rfl (fun K hK => ?_); go_big_quiet_op; refine hK _ ?_; clear hK K) | (refine can_skip rfl rfl rfl ?_; simp only [Act.put, List.setIfInBounds_toArray, List.set_cons_zero, List.set_cons_succ]))
  generalize w.heap.size = z at *
  refine with_sat hs3 ?_
  clear hs3 hs2 c0 hne
  intro w3 hs3
  refine can_actS rfl rfl rfl rfl (fun K hK => ?_)
  go_wp2_with fail
  refine (ref_big no 6 W _ _ (by omega) (by omega) (by omega) hs3).mono ?_; rintro r w4 ⟨v1, R1, rfl, hr1, hs4⟩
  apply hK
  refine ⟨Held.mk hs4.right, ?_⟩
  clear hK hs3
  obtain ⟨a1, k1, rfl⟩ := Ch.RowA.slice hr1
  repeat (first | (refine can_pu1 rfl rfl rfl rfl rfl rfl (fun K hK => ?_); go_big_quiet_op; refine hK _ ?_; clear hK K) | (refine can_st1 rfl rfl rfl rfl rfl rfl (fun K hK => ?_); go_big_quiet_op; refine hK _ ?_; clear hK K) | (refine can_early1 rfl rfl rfl rfl rfl (fun K hK => ?_); go_big_quiet_op; refine hK _ ?_; clear hK K) | (refine can_skip rfl rfl rfl ?_; simp only [Act.put, List.setIfInBounds_toArray, List.set_cons_zero, List.set_cons_succ]))
  refine can_actF rfl rfl rfl rfl (fun K hK => ?_)
  go_wp2_with fail
  refine (ref_big s 1 W _ _ (by omega) (by omega) (by omega) hs4).mono ?_; rintro r w5 ⟨v2, R2, rfl, hr2, hs5⟩
  apply hK
  clear hK hs4
  obtain ⟨a2, k2, rfl⟩ := Ch.RowA.slice hr2
  have hs6 : Sat W w5 (R1 ++ (R2 ++ L1)) := hs5.use (by intro x; simp only [cnt_append, cnt_cons, cnt_nil]; omega)
  have hsrc := hr2.reads hs5
  have l1 := bytesB_length no 6
  have l6 := bytesB_length s 1
  have l9 := bytesB_length g 6
  generalize bytesB no 6 = B1 at *
  generalize bytesB s 1 = B6 at *
  have HL1' := Lib.hid l1
  have HL6' := Lib.hid l6
  have HL9' := Lib.hid l9
  clear l1 l6 l9 hs5
  refine can_actF rfl rfl rfl rfl (fun K hK => ?_)
  refine wp_append_u8 rfl B1 B6 rfl rfl hr1 hs6 hsrc (by rw [HL1'.out, HL6'.out]; decide) (fun v3 w6 R3 hr3 hs7 => ?_)
  simp only [Act.put, List.setIfInBounds_toArray, List.set_cons_zero, List.set_cons_succ]
  refine hK _ _ ?_
  clear hK hr1 hr2 hs6 hsrc
  obtain ⟨a3, k3, rfl⟩ := Ch.RowA.slice hr3
  repeat (first | (refine can_pu1 rfl rfl rfl rfl rfl rfl (fun K hK => ?_); go_big_quiet_op; refine hK _ ?_; clear hK K) | (refine can_st1 rfl rfl rfl rfl rfl rfl (fun K hK => ?_); go_big_quiet_op; refine hK _ ?_; clear hK K) | (refine can_early1 rfl rfl rfl rfl rfl (fun K hK => ?_); go_big_quiet_op; refine hK _ ?_; clear hK K) | (refine can_skip rfl rfl rfl ?_; simp only [Act.put, List.setIfInBounds_toArray, List.set_cons_zero, List.set_cons_succ]))
  refine can_end1 ?_; (try simp only [Exit.then])
  have hm6 : cellsA z #[.int .i64 s, .int .i64 g, .slice a d.length c] 77 ∈ R3 ++ (R2 ++ L1) := List.mem_append_right _ (List.mem_append_right _ HM.out)
  have e1 := hs7.cell hm6 1
  have hl3 : (B1 ++ B6).length = 7 := by rw [List.length_append, HL1'.out, HL6'.out]
  generalize B1 ++ B6 = B7 at *
  have HL7 := Lib.hid hl3
  clear hl3 hm6
  go_wp2_with fail
  refine (ref_big g 6 W _ _ (by omega) (by omega) (by omega) hs7).mono ?_; rintro r w7 ⟨v4, R4, rfl, hr4, hs8⟩
  obtain ⟨a4, k4, rfl⟩ := Ch.RowA.slice hr4
  have hsb := Sat.use (M := R3 ++ (R4 ++ (R2 ++ L1))) hs8 (by intro x; simp only [cnt_append, cnt_cons, cnt_nil]; omega)
  have hsrc := hr4.reads hs8
  generalize bytesB g 6 = B9 at *
  clear e1 hs7 hs8
  go_wp2_with (at_builtin; first | (refine wpList_plain rfl (fun K hK => ?_); refine wp_append_u8 rfl B7 B9 rfl rfl hr3 hsb hsrc (by rw [HL7.out, HL9'.out]; decide) (fun v5 w8 R5 hr5 hs9 => ?_); refine hK _ _ ?_; simp only [Act.put, List.setIfInBounds_toArray, List.set_cons_zero, List.set_cons_succ]; clear hK; obtain ⟨a5, k5, rfl⟩ := Ch.RowA.slice hr5; have e2 := hs9.cell (b := z) (T := 77) (List.mem_append_right _ (List.mem_append_right _ (List.mem_append_right _ HM.out))) 2; have hl8 : (B7 ++ B9).length = 13 := (by rw [List.length_append, HL7.out, HL9'.out]); generalize B7 ++ B9 = B13 at *; have HL8 := Lib.hid hl8; clear hl8) | (refine wpList_plain rfl (fun K hK => ?_); refine wp_append_u8 rfl B13 d rfl rfl hr5 hs9 (HIN.out _ hs9.right.right.right) (by rw [HL8.out, H7.out]; decide) (fun v6 w9 R6 hr6 hsA => ?_); refine hK _ _ ?_; simp only [Act.put, List.setIfInBounds_toArray, List.set_cons_zero, List.set_cons_succ]; clear hK; obtain ⟨a6, k6, rfl⟩ := Ch.RowA.slice hr6; have hlM : (B13 ++ d).length ≤ 153 := (by rw [List.length_append, HL8.out, H7.out]; decide); generalize B13 ++ d = M at *; have HLM := Lib.hid hlM; clear hlM))
  refine (ref_seal 2 _ M W _ _ (by omega) (by omega) HLM.out hsA (fun y hy => hr6.reads (hsA.below hy))).mono ?_
  rintro r w10 ⟨v7, R7, rfl, hr7, hsB⟩
  rw [← HPB.out] at hr7
  have hsC := hsB
  rw [HL1.out] at hsC
  clear hr6 hsA hsB hr5 hs9 hr3 hsb hsrc e2 hr4
  go_wp2_with fail
  go_ret
  first
    | exact ⟨v7, R7, rfl, hr7, hsC.use (by intro x; simp only [cnt_append, cnt_cons, cnt_nil]; omega)⟩
    | exact ⟨v7, rfl, R7, hr7, hsC.use (by intro x; simp only [cnt_append, cnt_cons, cnt_nil]; omega)⟩
end Go.Proofs.YtekbbpfnkbanjaaGreat.Ch
