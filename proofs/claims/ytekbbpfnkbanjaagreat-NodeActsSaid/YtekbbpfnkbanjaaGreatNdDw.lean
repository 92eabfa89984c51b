
/-
  platter.Wipe, and a node that is lost.
-/
import Derived.Test.YtekbbpfnkbanjaaGreatMD
import Derived.Test.YtekbbpfnkbanjaaGreatMC
namespace Go.Proofs.YtekbbpfnkbanjaaGreat.Ch
set_option linter.unusedSimpArgs false
open Go Go.RowKit Go.Sl Go.BigFrame
set_option linter.unusedVariables false

set_option maxRecDepth 100000 in
set_option maxHeartbeats 4000000 in
theorem wipe_any (b : Nat) (p : Pt) (A : List Atom) (W w : World) (L : List Atom) (hp : PtA b p A) (hs : Sat W w (A ++ L)) (hl : p.now.length ≤ 1000) :
    Calls Tryz.prog 28 #[.pointer (some ⟨b, 0, none⟩)] w fun e w' => ∃ A', e = .returned (.tuple #[]) ∧ PtA b p.wipe A' ∧ Sat W w' (A' ++ L) := by
  obtain ⟨vd, vn, vp, Rd, Rn, Rp, B, cd, cn, cp, rfl, hr⟩ := hp
  obtain ⟨an, cn', rfl⟩ := Ch.RowA.slice hr.n
  obtain ⟨ad, cd', rfl⟩ := Ch.RowA.slice hr.d
  obtain ⟨ap, cp', rfl⟩ := Ch.RowA.slice hr.pr
  obtain ⟨n, hn⟩ : ∃ n, n = p.now.length := ⟨_, rfl⟩
  rw [← hn] at hs hl
  have hs0 : Sat W w (cellsA b #[.slice ad p.done.length cd', .slice an n cn', .slice ap p.pend.length cp', .int .i64 p.writes] 82 :: L) := hs.use (by intro x; simp only [cnt_append, cnt_cons, cnt_nil]; omega)
  obtain ⟨LL, hLL⟩ : ∃ LL, LL = cellsA b #[.slice ad p.done.length cd', .slice an n cn', .slice ap p.pend.length cp', .int .i64 p.writes] 82 :: L := ⟨_, rfl⟩
  have hm : cellsA b #[.slice ad p.done.length cd', .slice an n cn', .slice ap p.pend.length cp', .int .i64 p.writes] 82 ∈ LL := by rw [hLL]; exact m0
  rw [← hLL] at hs0
  have c1 : ∀ y : Of W LL, y.v.cell? ⟨b, 1, none⟩ = some (.slice an n cn') := fun y => y.s.cell hm 1
  have hbl := fun w L hs => blank_any n W w L hl hs
  have HBL := Lib.hid hbl
  have HLL := Lib.hid hLL
  have HN := Lib.hid hn
  have HM := Lib.hid hm
  clear hs hr hbl hLL hn hm
  go_enter Tryz.func28, Tryz.ntmps28
  go_wp2_with fail
  refine wp_region_held1 [8, 14, 17, 20, 23] [0, 1, 2, 9, 10, 11, 12, 13] [0, 1, 2, 9, 10, 11] [8] [0, 1, 2, 3, 4, 5, 6, 7, 9, 10, 11, 12, 13, 8, 14, 15, 16, 17, 18, 19, 20, 21, 22, 23] (Held W LL) (by kernel_rfl) (by kernel_rfl) ?_ ?_
  · exact Held.mk hs0.drew
  have hne : Nonempty (Of W LL) := ⟨⟨_, hs0⟩⟩
  have d0 := c1 ⟨_, hs0⟩
  have hsT := hs0.drew
  repeat (first | (refine can_pu1 rfl rfl rfl rfl rfl rfl (fun K hK => ?_); go_big_quiet_op; refine hK _ ?_; clear hK K) | (refine can_st1 rfl rfl rfl rfl rfl rfl (fun K hK => ?_); go_big_quiet_op; refine hK _ ?_; clear hK K) | (refine can_early1 rfl rfl rfl rfl rfl (fun K hK => ?_); go_big_quiet_op; refine hK _ ?_; clear hK K) | (refine can_skip rfl rfl rfl ?_; simp only [Act.put, List.setIfInBounds_toArray, List.set_cons_zero, List.set_cons_succ]))
  clear hs0 d0
  generalize w.drew = wt at *
  refine can_actS rfl rfl rfl rfl (fun K hK => ?_)
  go_wp2_with fail
  refine (HBL.out _ _ hsT).mono ?_; rintro r w2 ⟨v, vs, R, B1, rfl, hr, hbk, hs2⟩
  apply hK
  refine ⟨Held.mk hs2.right.right, ?_⟩
  clear hK hsT
  obtain ⟨a1, c1', rfl⟩ := Ch.RowA.slice hr
  repeat (first | (refine can_pu1 rfl rfl rfl rfl rfl rfl (fun K hK => ?_); go_big_quiet_op; refine hK _ ?_; clear hK K) | (refine can_st1 rfl rfl rfl rfl rfl rfl (fun K hK => ?_); go_big_quiet_op; refine hK _ ?_; clear hK K) | (refine can_early1 rfl rfl rfl rfl rfl (fun K hK => ?_); go_big_quiet_op; refine hK _ ?_; clear hK K) | (refine can_skip rfl rfl rfl ?_; simp only [Act.put, List.setIfInBounds_toArray, List.set_cons_zero, List.set_cons_succ]))
  refine can_actF rfl rfl rfl rfl (fun K hK => ?_)
  go_wp2_with fail
  refine (HBL.out _ _ hs2).mono ?_; rintro r w3 ⟨v2, vs2, R2, B2, rfl, hr2, hbk2, hs3⟩
  apply hK
  clear hK hs2
  obtain ⟨a2, c2', rfl⟩ := Ch.RowA.slice hr2
  rw [HLL.out] at hs3
  have hs4 := Sat.use (M := cellsA b #[.slice ad p.done.length cd', .slice an n cn', .slice ap p.pend.length cp', .int .i64 p.writes] 82 :: (R ++ (R2 ++ ((B1 ++ B2) ++ L)))) hs3 (by intro x; simp only [cnt_append, cnt_cons, cnt_nil]; omega)
  clear hs3 c1
  have e0 := hs4.cell m0 0
  have f0 := hs4.free m0 0
  have hs5 := Sat.setCell hs4 0 (.slice a1 n c1')
  have e1 := hs5.cell m0 1
  have f1 := hs5.free m0 1
  have hs6 := Sat.setCell hs5 1 (.slice a2 n c2')
  have e2 := hs6.cell m0 2
  have f2 := hs6.free m0 2
  have hs7 := Sat.setCell hs6 2 (.slice none 0 0)
  repeat (first | (refine can_pu1 rfl rfl rfl rfl rfl rfl (fun K hK => ?_); go_big_quiet_op; refine hK _ ?_; clear hK K) | (refine can_st1 rfl rfl rfl rfl rfl rfl (fun K hK => ?_); go_big_quiet_op; refine hK _ ?_; clear hK K) | (refine can_early1 rfl rfl rfl rfl rfl (fun K hK => ?_); go_big_quiet_op; refine hK _ ?_; clear hK K) | (refine can_skip rfl rfl rfl ?_; simp only [Act.put, List.setIfInBounds_toArray, List.set_cons_zero, List.set_cons_succ]))
  refine can_actF rfl rfl rfl rfl (fun K hK => ?_)
  go_wp2_with fail
  repeat (first | (refine can_pu1 rfl rfl rfl rfl rfl rfl (fun K hK => ?_); go_big_quiet_op; refine hK _ ?_; clear hK K) | (refine can_st1 rfl rfl rfl rfl rfl rfl (fun K hK => ?_); go_big_quiet_op; refine hK _ ?_; clear hK K) | (refine can_early1 rfl rfl rfl rfl rfl (fun K hK => ?_); go_big_quiet_op; refine hK _ ?_; clear hK K) | (refine can_skip rfl rfl rfl ?_; simp only [Act.put, List.setIfInBounds_toArray, List.set_cons_zero, List.set_cons_succ]))
  refine can_actF rfl rfl rfl rfl (fun K hK => ?_)
  go_wp2_with fail
  repeat (first | (refine can_pu1 rfl rfl rfl rfl rfl rfl (fun K hK => ?_); go_big_quiet_op; refine hK _ ?_; clear hK K) | (refine can_st1 rfl rfl rfl rfl rfl rfl (fun K hK => ?_); go_big_quiet_op; refine hK _ ?_; clear hK K) | (refine can_early1 rfl rfl rfl rfl rfl (fun K hK => ?_); go_big_quiet_op; refine hK _ ?_; clear hK K) | (refine can_skip rfl rfl rfl ?_; simp only [Act.put, List.setIfInBounds_toArray, List.set_cons_zero, List.set_cons_succ]))
  refine can_actF rfl rfl rfl rfl (fun K hK => ?_)
  go_wp2_with fail
  refine can_end1 ?_; (try simp only [Exit.then])
  go_wp2_with fail
  go_end0
  simp only [List.setIfInBounds_toArray, List.set_cons_zero, List.set_cons_succ] at hs7
  have hlw : p.wipe.done.length = n := by rw [HN.out]; exact List.length_replicate
  have hlw2 : p.wipe.now.length = n := by rw [HN.out]; exact List.length_replicate
  have hs8 : Sat W _ (cellsA b #[.slice a1 n c1', .slice a2 n c2', .slice none 0 0, .int .i64 p.wipe.writes] 82 :: (R ++ (R2 ++ ((B1 ++ B2) ++ L)))) := hs7
  refine ⟨_, rfl, ⟨.slice a1 n c1', .slice a2 n c2', .slice none 0 0, R, R2, [], B1 ++ B2, vs, vs2, [], rfl, ⟨by rw [hlw]; exact hr, ?_, by rw [hlw2]; exact hr2, ?_, RowA.nil _ _, Blks.nil _⟩⟩, hs8.use (by intro x; simp only [cnt_append, cnt_cons, cnt_nil]; omega)⟩
  · have h := hbk.mono (B' := B1 ++ B2) fun x hx => List.mem_append_left _ hx
    rw [HN.out] at h
    exact h
  · have h := hbk2.mono (B' := B1 ++ B2) fun x hx => List.mem_append_right _ hx
    rw [HN.out] at h
    exact h

set_option maxRecDepth 100000 in
set_option maxHeartbeats 4000000 in
theorem node_lose (b i : Nat) (n : Nd) (A : List Atom) (W w : World) (L : List Atom) (hn : NodA b n A) (hs : Sat W w (A ++ L)) (hok : NdOk n i) (hi : i < 900000) :
    Calls Tryz.prog 10 #[.pointer (some ⟨b, 0, none⟩)] w fun e w' => ∃ A', e = .returned (.tuple #[]) ∧ NodA b n.lose A' ∧ Sat W w' (A' ++ L) := by
  obtain ⟨bp, br, Aq, Ag, hq, hg, rfl⟩ := hn
  have e0 : w.cell? ⟨b, 0, none⟩ = some (.pointer (some ⟨bp, 0, none⟩)) := hs.cell m0 0
  have hcr := wipe_any bp n.q Aq W w (cellsA b #[.pointer (some ⟨bp, 0, none⟩), .pointer (some ⟨br, 0, none⟩), .int .i64 n.boot] 64 :: L) hq (hs.use (by intro x; simp only [cnt_append, cnt_cons, cnt_nil]; omega)) (by rw [hok.len]; decide)
  have HCR := Lib.hid hcr
  have HOK := Lib.hid hok
  clear hcr hs hok
  go_enter Tryz.func10, Tryz.ntmps10
  go_wp2_with fail
  refine HCR.out.mono ?_; rintro r w2 ⟨A', rfl, hA', hs2⟩
  have hl : n.q.wipe.now.length = 96 := by show (List.replicate _ _).length = 96; rw [List.length_replicate, HOK.out.len]
  have hsm : ∀ l ∈ n.q.wipe.now, l.length < 1000000 := fun l hl => by
    rw [(List.mem_replicate.1 hl).2]
    simp [zero160]
  have hst := start_any b bp (some ⟨br, 0, none⟩) n.boot n.q.wipe A' W w2 L hA' (hs2.use (by intro x; simp only [cnt_append, cnt_cons, cnt_nil]; omega)) hl hsm (by have := HOK.out.b0; omega) (by have := HOK.out.b1; omega)
  have HST := Lib.hid hst
  clear hst hs2 hl hsm HCR
  go_wp2_with fail
  refine HST.out.mono ?_; rintro r w3 ⟨A2, rfl, hA2, hs4⟩
  go_wp2_with fail
  go_end0
  exact ⟨A2, rfl, hA2, hs4⟩
end Go.Proofs.YtekbbpfnkbanjaaGreat.Ch
