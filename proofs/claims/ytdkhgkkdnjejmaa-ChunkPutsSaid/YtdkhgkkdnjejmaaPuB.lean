/-
  The document's platter: NewPlatter, set.
-/
import Derived.Test.YtdkhgkkdnjejmaaPuA
namespace Go.Proofs.Ytdkhgkkdnjejmaa.Ch
set_option linter.unusedSimpArgs false
open Go Go.RowKit Go.Sl Go.BigFrame
set_option linter.unusedVariables false

theorem infoSt : (Try.prog.info? 9).map (fun i => (i.zero, i.size, i.bytes)) = some (some (.string ⟨#[]⟩), 1, 16) := by kernel_rfl
theorem infoRw : (Try.prog.info? 129).map (fun i => (i.zero, i.size, i.bytes)) = some (some (.agg #[.int .i64 0, .string ⟨#[]⟩]), 2, 24) := by kernel_rfl

theorem replicate_snoc {α : Type} (k : Nat) (x : α) : List.replicate k x ++ [x] = List.replicate (k + 1) x := List.replicate_succ'.symm
set_option maxRecDepth 100000 in
set_option maxHeartbeats 4000000 in
theorem ref_new (W w : World) (L : List Atom) (hs : Sat W w L) :
    Calls Try.prog 44 #[.int .i64 96] w fun e w' => ∃ b A, e = .returned (.pointer (some ⟨b, 0, none⟩)) ∧ RtA b ⟨List.replicate 96 zero160, [], 0⟩ A ∧ Sat W w' (A ++ L) := by
  have hmk : ∀ w : World, (Instr.makeSlice 32 (.int .i64 160) (.int .i64 160)).run Try.prog w = .ok (.slice (some ⟨w.heap.size, 0, none⟩) 160 160) (w.alloc (.cells (madeCells #[.int .u8 0] 160) 5)) := run_make_row' (P := Try.prog) 32 5 (.int .u8 0) 1 (by kernel_rfl) (by kernel_rfl) rfl .i64 .i64 160 (by omega) (by omega)
  obtain ⟨Z, hZ⟩ : ∃ Z, Z = madeCells #[.int .u8 0] 160 := ⟨_, rfl⟩
  rw [← hZ] at hmk
  have hZl : Z.toList = bts zero160 := by rw [hZ, toList_madeCells_one]; simp [bts, zero160]
  have hz160 : zero160.length = 160 := by simp [zero160]
  have hcv : ∀ w : World, (convert 32 9 (.slice (some ⟨w.heap.size, 0, none⟩) 160 160)).run Try.prog (w.alloc (.cells Z 5)) = .ok (.string (bsOf zero160)) (w.alloc (.cells Z 5)) := fun w => by
    have h := str_of (.slice (some ⟨w.heap.size, 0, none⟩) 160 160) zero160 (w.alloc (.cells Z 5)) (by rw [hz160]; exact reads_new w Z _ _ _ _ hZl)
    exact h
  have HCV := Lib.hid hcv
  clear hZ hZl hz160 hcv
  generalize hz : bsOf zero160 = zs at *
  have HZS := Lib.hid hz
  clear hz
  go_enter Try.func44, Try.ntmps44
  go_wp2_with fail
  have hs1 := hs.newCells #[.slice none 0 0, .slice none 0 0, .int .i64 0] 126
  generalize w.heap.size = z at *
  generalize w.alloc _ = w0 at *
  clear hs
  go_loopw [4] (fun kv wr => ∃ (k : Nat) (vd : Value) (R : List Atom), kv = .int .i64 k ∧ k ≤ 96 ∧ RowA 9 1 vd k (strs (List.replicate k zero160)) R ∧ Sat W wr (cellsA z #[vd, .slice none 0 0, .int .i64 0] 126 :: (R ++ L))) (fun kv _ => (96 - (intOf kv).toNat))
  case atStart => exact ⟨0, _, [], rfl, Nat.zero_le _, RowA.nil _ _, hs1⟩
  case round =>
    clear hs1
    obtain ⟨k, vd, R, rfl, hk, hr, hs⟩ := hrel
    have k0 : (0 : Int) ≤ k := by omega
    obtain ⟨a3, c3, rfl⟩ := Ch.RowA.slice hr
    by_cases hkn : k < 96
    · have k1 : (k : Int) < 96 := by omega
      obtain ⟨LL, hLL⟩ : ∃ LL, LL = cellsA z #[.slice a3 k c3, .slice none 0 0, .int .i64 0] 126 :: (R ++ L) := ⟨_, rfl⟩
      rw [← hLL] at hs
      have hm : cellsA z #[.slice a3 k c3, .slice none 0 0, .int .i64 0] 126 ∈ LL := by rw [hLL]; exact m0
      have c0 : ∀ y : Of W LL, y.v.cell? ⟨z, 0, none⟩ = some (.slice a3 k c3) := fun y => y.s.cell hm 0
      have HLL := Lib.hid hLL
      clear hLL
      go_wp2_with fail
      refine wp_region_held1 [5, 7, 8, 11] [0, 1, 2, 3, 4] [0, 1, 2, 3] [5, 7] [0, 1, 2, 3, 4, 5, 6, 7, 8, 9, 10, 11] (Held W LL) (by kernel_rfl) (by kernel_rfl) ?_ ?_
      · exact Held.mk hs.drew
      have hne : Nonempty (Of W LL) := ⟨⟨_, hs⟩⟩
      have d0 := c0 ⟨_, hs⟩
      have hsT := hs.drew
      repeat (first | (refine can_pu1 rfl rfl rfl rfl rfl rfl (fun K hK => ?_); go_big_quiet_op; refine hK _ ?_; clear hK K) | (refine can_st1 rfl rfl rfl rfl rfl rfl (fun K hK => ?_); go_big_quiet_op; refine hK _ ?_; clear hK K) | (refine can_early1 rfl rfl rfl rfl rfl (fun K hK => ?_); go_big_quiet_op; refine hK _ ?_; clear hK K) | (refine can_skip rfl rfl rfl ?_; simp only [Act.put, List.setIfInBounds_toArray, List.set_cons_zero, List.set_cons_succ]))
      clear hne d0 hs
      generalize wr.drew = wt at *
      refine can_actS rfl rfl rfl rfl (fun K hK => ?_)
      go_wp2_with fail
      refine ⟨Held.mk (Sat.alloc hsT _), ?_⟩
      repeat (first | (refine can_pu1 rfl rfl rfl rfl rfl rfl (fun K hK => ?_); go_big_quiet_op; refine hK _ ?_; clear hK K) | (refine can_st1 rfl rfl rfl rfl rfl rfl (fun K hK => ?_); go_big_quiet_op; refine hK _ ?_; clear hK K) | (refine can_early1 rfl rfl rfl rfl rfl (fun K hK => ?_); go_big_quiet_op; refine hK _ ?_; clear hK K) | (refine can_skip rfl rfl rfl ?_; simp only [Act.put, List.setIfInBounds_toArray, List.set_cons_zero, List.set_cons_succ]))
      refine can_early1 rfl rfl rfl rfl rfl (fun K hK => ?_)
      refine quiet_cv rfl rfl (fun y hy => by subst hy; exact HCV.out wt) ?_
      refine hK _ ?_
      clear hK K
      simp only [Act.put, List.setIfInBounds_toArray, List.set_cons_zero, List.set_cons_succ]
      repeat (first | (refine can_pu1 rfl rfl rfl rfl rfl rfl (fun K hK => ?_); go_big_quiet_op; refine hK _ ?_; clear hK K) | (refine can_st1 rfl rfl rfl rfl rfl rfl (fun K hK => ?_); go_big_quiet_op; refine hK _ ?_; clear hK K) | (refine can_early1 rfl rfl rfl rfl rfl (fun K hK => ?_); go_big_quiet_op; refine hK _ ?_; clear hK K) | (refine can_skip rfl rfl rfl ?_; simp only [Act.put, List.setIfInBounds_toArray, List.set_cons_zero, List.set_cons_succ]))
      refine can_actS rfl rfl rfl rfl (fun K hK => ?_)
      go_wp2_with fail
      have hsU := hsT.alloc (.cells Z 5)
      have hsV := hsU.newCells #[.string zs] 9
      have hsz : (wt.alloc (.cells Z 5)).heap.size = wt.heap.size + 1 := by simp
      refine ⟨Held.mk hsV.tail, ?_⟩
      repeat (first | (refine can_pu1 rfl rfl rfl rfl rfl rfl (fun K hK => ?_); go_big_quiet_op; refine hK _ ?_; clear hK K) | (refine can_st1 rfl rfl rfl rfl rfl rfl (fun K hK => ?_); go_big_quiet_op; refine hK _ ?_; clear hK K) | (refine can_early1 rfl rfl rfl rfl rfl (fun K hK => ?_); go_big_quiet_op; refine hK _ ?_; clear hK K) | (refine can_skip rfl rfl rfl ?_; simp only [Act.put, List.setIfInBounds_toArray, List.set_cons_zero, List.set_cons_succ]))
      have hsrc := reads_new (wt.alloc (.cells Z 5)) #[.string zs] 9 1 1 [.string zs] rfl
      rw [hsz] at hsV hsrc
      rw [HLL.out] at hsV
      have hsW := Sat.use (M := R ++ (cellsA (wt.heap.size + 1) #[.string zs] 9 :: cellsA z #[.slice a3 k c3, .slice none 0 0, .int .i64 0] 126 :: L)) hsV (by intro x; simp only [cnt_append, cnt_cons, cnt_nil]; omega)
      clear hsV hsU hsT c0
      refine can_actF rfl rfl rfl rfl (fun K hK => ?_)
      refine wp_append_g Try.underlying123 infoSt rfl (by decide) (by decide) rfl rfl rfl hr hsW hsrc rfl (by intro u hu; simp at hu; subst hu; rfl) (by omega) (fun v2 w3 R2 hr2 hs4 => ?_)
      simp only [Act.put, List.setIfInBounds_toArray, List.set_cons_zero, List.set_cons_succ]
      refine hK _ _ ?_
      clear hK hsW hsrc
      obtain ⟨a2, c2, rfl⟩ := Ch.RowA.slice hr2
      have hs5 := Sat.use (M := cellsA z #[.slice a3 k c3, .slice none 0 0, .int .i64 0] 126 :: (R2 ++ L)) hs4 (by intro x; simp only [cnt_append, cnt_cons, cnt_nil]; omega)
      have e0 := hs5.cell m0 0
      have e1 := hs5.free m0 0
      have hs6 := Sat.setCell hs5 0 (.slice a2 (k + 1) c2)
      clear hs4 hs5
      repeat (first | (refine can_pu1 rfl rfl rfl rfl rfl rfl (fun K hK => ?_); go_big_quiet_op; refine hK _ ?_; clear hK K) | (refine can_st1 rfl rfl rfl rfl rfl rfl (fun K hK => ?_); go_big_quiet_op; refine hK _ ?_; clear hK K) | (refine can_early1 rfl rfl rfl rfl rfl (fun K hK => ?_); go_big_quiet_op; refine hK _ ?_; clear hK K) | (refine can_skip rfl rfl rfl ?_; simp only [Act.put, List.setIfInBounds_toArray, List.set_cons_zero, List.set_cons_succ]))
      refine can_actF rfl rfl rfl rfl (fun K hK => ?_)
      go_wp2_with fail
      refine can_end1 ?_; (try simp only [Exit.then])
      go_wp2_with fail
      simp only [List.setIfInBounds_toArray, List.set_cons_zero, List.set_cons_succ] at hs6
      refine ⟨⟨k + 1, _, R2, by simp, by omega, ?_, hs6⟩, ?_⟩
      · rw [show strs (List.replicate (k + 1) zero160) = strs (List.replicate k zero160) ++ [.string zs] by rw [← HZS.out, ← replicate_snoc, strs_append]; rfl]
        exact hr2
      · simp [intOf]
        omega
    · have e : k = 96 := by omega
      subst e
      clear hmk
      go_wp2_with fail
      go_ret
      exact ⟨z, _, rfl, ⟨_, _, R, [], rfl, by rw [List.length_replicate]; exact hr, RowA.nil _ _⟩, hs.use (by intro x; simp only [cnt_append, cnt_cons, cnt_nil]; omega)⟩

set_option maxRecDepth 100000 in
set_option maxHeartbeats 4000000 in
theorem ref_set (b : Nat) (r : Rt) (A : List Atom) (k : Nat) (l : List UInt8) (W w : World) (L : List Atom) (hp : RtA b r A) (hs : Sat W w (A ++ L)) (hk : k < r.done.length) (hdl : r.done.length < 900000) :
    Calls Try.prog 81 #[.pointer (some ⟨b, 0, none⟩), .agg #[.int .i64 k, .string (bsOf l)]] w fun e w' => ∃ A', e = .returned (.tuple #[]) ∧ RtA b ⟨r.done.set k l, r.pend, r.writes⟩ A' ∧ Sat W w' (A' ++ L) := by
  obtain ⟨vd, vp, Rd, Rp, rfl, hrd, hrp⟩ := hp
  obtain ⟨ad, cd, rfl⟩ := Ch.RowA.slice hrd
  obtain ⟨ap, cp, rfl⟩ := Ch.RowA.slice hrp
  generalize hz : bsOf l = sv at *
  have HSV := Lib.hid hz
  clear hz
  have hs1 := hs.newCells #[.int .i64 k, .string sv] 129
  have d0 : w.cell? ⟨b, 0, none⟩ = some (.slice ad r.done.length cd) := hs.cell m0 0
  have hbw : b < w.heap.size := hs.lt m0
  have hrc := (hrd.reads (F := Rp ++ (cellsA b #[.slice ad r.done.length cd, .slice ap r.pend.length cp, .int .i64 r.writes] 126 :: L)) (hs.use (by intro x; simp only [cnt_append, cnt_cons, cnt_nil]; omega))).grown (((Below.refl _ w).alloc (Nat.le_refl _) (.cells #[.int .i64 k, .string sv] 129)).alloc (by simp) (.cells #[] 9))
  have hsz : (w.alloc (.cells #[.int .i64 k, .string sv] 129)).heap.size = w.heap.size + 1 := by simp
  have hs2 := none_satT hs1 9 1
  rw [hsz] at hs2
  clear hs1 hsz
  have HRD := Lib.hid hrd
  have HRP := Lib.hid hrp
  clear hs hrd hrp
  go_enter Try.func81, Try.ntmps81
  have k0 : (0 : Int) ≤ k := by omega
  have k1 : (k : Int) < r.done.length := by omega
  go_wp2_with (at_builtin; go_loud (refine wpList_plain rfl (fun K hK => ?_); refine wp_append_g Try.underlying123 infoSt rfl (by decide) (by decide) rfl rfl rfl (none_rowT _ 1 _) hs2 hrc (by rw [strs_length]; omega) (strs_one _) (by omega) (fun v2 w3 R2 hr2 hs4 => ?_); rw [Nat.zero_add, List.nil_append] at hr2; obtain ⟨g, off, cap, rfl, hc1, hc2, rfl⟩ := Ch.RowA.some_of hr2 (by omega); have hs5 := Sat.use (M := (g, rowP 9 off (cap * 1) (strs r.done)) :: (cellsA w.heap.size #[.int .i64 k, .string sv] 129 :: (cellsA b #[.slice ad r.done.length cd, .slice ap r.pend.length cp, .int .i64 r.writes] 126 :: (Rp ++ L)))) hs4 (by intro x; simp only [cnt_append, cnt_cons, cnt_nil]; omega); have e0 := hs5.cell m1 0; have e1 := hs5.cell m1 1; obtain ⟨e2, e3⟩ := row_cell hs5 k _ (List.getElem?_eq_getElem (by rw [strs_length]; omega)); have hs6 := row_store hs5 k (by rw [strs_length]; omega) (.string sv); have e4 := hs6.cell m2 0; have e5 := hs6.free m2 0; have hs7 := Sat.setCell (Sat.use (M := cellsA b #[.slice ad r.done.length cd, .slice ap r.pend.length cp, .int .i64 r.writes] 126 :: ((g, rowP 9 off (cap * 1) ((strs r.done).set k (.string sv))) :: (Rp ++ L))) hs6 (by intro x; simp only [cnt_append, cnt_cons, cnt_nil]; omega)) 0 (.slice (some ⟨g, off, none⟩) r.done.length cap); clear hs4 hs5 hs6 hrc hs2; refine hK _ _ ?_; simp only [Act.put, List.setIfInBounds_toArray, List.set_cons_zero, List.set_cons_succ]; clear hK))
  go_end0
  simp only [List.setIfInBounds_toArray, List.set_cons_zero, List.set_cons_succ] at hs7
  have hss : (strs r.done).set k (.string sv) = strs (r.done.set k l) := by rw [← HSV.out, strs_set]
  rw [hss] at hs7
  have hs8 : Sat W _ (cellsA b #[.slice (some ⟨g, off, none⟩) r.done.length cap, .slice ap r.pend.length cp, .int .i64 (Rt.writes ⟨r.done.set k l, r.pend, r.writes⟩)] 126 :: ((g, rowP 9 off (cap * 1) (strs (r.done.set k l))) :: (Rp ++ L))) := hs7
  refine ⟨_, rfl, ⟨.slice (some ⟨g, off, none⟩) r.done.length cap, .slice ap r.pend.length cp, [(g, rowP 9 off (cap * 1) (strs (r.done.set k l)))], Rp, rfl, ⟨by rw [strs_length]; omega, .inr ⟨g, off, cap, by rw [List.length_set], by rw [List.length_set]; exact hc1, hc2, rfl⟩⟩, HRP.out⟩, hs8.use (by intro x; simp only [cnt_append, cnt_cons, cnt_nil]; omega)⟩
end Go.Proofs.Ytdkhgkkdnjejmaa.Ch
