/-
  chunk.Lay.
-/
import Derived.Test.YtdkhgkkdnjejmaaChJ
import Derived.Test.YtdkhgkkdnjejmaaSlTree
namespace Go.Proofs.Ytdkhgkkdnjejmaa.Ch
set_option linter.unusedSimpArgs false
open Go Go.RowKit Go.Sl Go.BigFrame
set_option linter.unusedVariables false

/-- A piece's bytes; its block. -/
def pieceB (p : Pc) : List UInt8 := [bytesB p.stripe 1, bytesB p.gen 6, bytesB p.index 1, p.data].flatten
def layB (p : Pc) : List UInt8 := sealB 1 (pieceB p)
theorem pieceB_length (p : Pc) : (pieceB p).length = 8 + p.data.length := by
  simp [pieceB, bytesB_length]; omega
theorem layB_length (p : Pc) (h : p.data.length = 32) : (layB p).length = 160 := sealB_length _ _ (by rw [pieceB_length]; omega)
theorem reads_cells {W w : World} {L : List Atom} {b : Nat} {cs : Array Value} {T : TypeId} (hs : Sat W w L) (hm : cellsA b cs T ∈ L) (n c : Nat) (xs : List Value) (h : cs.toList = xs) : Reads w (.slice (some ⟨b, 0, none⟩) n c) n xs := by
  refine .inr ⟨_, _, rfl, fun j u hu => ?_⟩
  rw [add_row, hs.cell hm, ← h] at *
  simpa using hu

theorem lay_bad (p : Pc) (a : Option Addr) (c : Nat) (W w : World) (L : List Atom) (hs : Sat W w L) (hp : ¬ rightP p) :
    Calls Try.prog 28 #[pcV p (.slice a p.data.length c)] w fun e w' => e = .returned (.tuple #[.slice none 0 0, .int .i64 1]) ∧ Sat W w' L := by
  obtain ⟨s, g, i, d⟩ := p
  unfold pcV
  simp only []
  have hr := right_any ⟨s, g, i, d⟩ a c
  rw [decide_eq_false hp] at hr
  unfold pcV at hr
  simp only at hr
  have HR := Lib.hid hr
  clear hr
  go_enter Try.func28, Try.ntmps28
  go_wp2_with fail
  refine (HR.out _).mono ?_; rintro r w2 ⟨rfl, hx⟩
  have hs2 : Sat W w2 L := (hs.alloc _).below hx
  go_wp2_with fail
  go_ret2
  exact ⟨rfl, hs2⟩

set_option maxRecDepth 100000 in
set_option maxHeartbeats 4000000 in
theorem lay_any (p : Pc) (a : Option Addr) (c : Nat) (W w : World) (L : List Atom) (hs : Sat W w L) (hin : ∀ y, Sat W y L → Reads y (.slice a p.data.length c) p.data.length (bts p.data)) (hp : rightP p) :
    Calls Try.prog 28 #[pcV p (.slice a p.data.length c)] w fun e w' => ∃ bv R, e = .returned (.tuple #[bv, .int .i64 0]) ∧ RowA 5 1 bv (layB p).length (bts (layB p)) R ∧ Sat W w' (R ++ L) := by
  obtain ⟨s, g, i, d⟩ := p
  have hr := right_any ⟨s, g, i, d⟩ a c
  rw [decide_eq_true hp] at hr
  have hpl := pieceB_length ⟨s, g, i, d⟩
  obtain ⟨h1, h2, h3, h4, h5, h6, h7⟩ := hp
  obtain ⟨B, hB⟩ : ∃ B, B = layB ⟨s, g, i, d⟩ := ⟨_, rfl⟩
  have HB := Lib.hid hB
  rw [← hB]
  clear hB
  have HPL := Lib.hid hpl
  have H7 := Lib.hid h7
  clear hpl h7
  unfold pcV at *
  simp only at *
  have HR := Lib.hid hr
  have HIN := Lib.hid hin
  clear hr hin
  go_enter Try.func28, Try.ntmps28
  go_wp2_with fail
  refine (HR.out _).mono ?_; rintro r w2 ⟨rfl, hx⟩
  have hs2 : Sat W w2 (cellsA w.heap.size #[.int .i64 s, .int .i64 g, .int .i64 i, .slice a d.length c] 45 :: L) := (hs.newCells _ _).below hx
  obtain ⟨L1, hL1⟩ : ∃ L1, L1 = cellsA w.heap.size #[.int .i64 s, .int .i64 g, .int .i64 i, .slice a d.length c] 45 :: L := ⟨_, rfl⟩
  have HL1 := Lib.hid hL1
  have hm1 : cellsA w.heap.size #[.int .i64 s, .int .i64 g, .int .i64 i, .slice a d.length c] 45 ∈ L1 := by rw [hL1]; exact m0
  rw [← hL1] at hs2
  clear hL1 hs hx
  have c0 : ∀ y : Of W L1, y.v.cell? ⟨w.heap.size, 0, none⟩ = some (.int .i64 s) := fun y => y.s.cell hm1 0
  have c1 : ∀ y : Of W L1, y.v.cell? ⟨w.heap.size, 1, none⟩ = some (.int .i64 g) := fun y => y.s.cell hm1 1
  have c2 : ∀ y : Of W L1, y.v.cell? ⟨w.heap.size, 2, none⟩ = some (.int .i64 i) := fun y => y.s.cell hm1 2
  have c3 : ∀ y : Of W L1, y.v.cell? ⟨w.heap.size, 3, none⟩ = some (.slice a d.length c) := fun y => y.s.cell hm1 3
  have d0 : w2.cell? ⟨w.heap.size, 0, none⟩ = some (.int .i64 s) := c0 ⟨_, hs2⟩
  generalize w.heap.size = z at *
  go_wp2_with fail
  refine wp_region_held1 [2, 5, 8, 11, 12, 13] [3, 4, 6, 7, 9, 10] [3, 6, 9] [2, 5, 8] [0, 1, 3, 4, 6, 7, 9, 10, 2, 5, 8, 11, 12, 13, 14, 15, 16, 17] (Held W L1) (by kernel_rfl) (by kernel_rfl) ?_ ?_
  · exact Held.mk hs2.drew
  have hne : Nonempty (Of W L1) := ⟨⟨_, hs2⟩⟩
  have hs3 : Sat W w2.drew L1 := hs2.drew
  clear hs2
  repeat (first | (refine can_pu1 rfl rfl rfl rfl rfl rfl (fun K hK => ?_); go_big_quiet_op; refine hK _ ?_; clear hK K) | (refine can_st1 rfl rfl rfl rfl rfl rfl (fun K hK => ?_); go_big_quiet_op; refine hK _ ?_; clear hK K) | (refine can_early1 rfl rfl rfl rfl rfl (fun K hK => ?_); go_big_quiet_op; refine hK _ ?_; clear hK K) | (refine can_skip rfl rfl rfl ?_; simp only [Act.put, List.setIfInBounds_toArray, List.set_cons_zero, List.set_cons_succ]))
  clear c0 c1 c2 c3 d0 hne
  refine can_actS rfl rfl rfl rfl (fun K hK => ?_)
  go_wp2_with fail
  refine (bytes_any s 1 W _ _ (by omega) (by omega) (by omega) hs3).mono ?_; rintro r w4 ⟨v1, R1, rfl, hr1, hs4⟩
  apply hK
  refine ⟨Held.mk hs4.right, ?_⟩
  clear hK hs3
  obtain ⟨a1, k1, rfl⟩ := Ch.RowA.slice hr1
  refine can_actS rfl rfl rfl rfl (fun K hK => ?_)
  go_wp2_with fail
  refine (bytes_any g 6 W _ _ (by omega) (by omega) (by omega) hs4).mono ?_; rintro r w5 ⟨v2, R2, rfl, hr2, hs5⟩
  apply hK
  refine ⟨Held.mk hs5.right.right, ?_⟩
  clear hK hs4
  obtain ⟨a2, k2, rfl⟩ := Ch.RowA.slice hr2
  refine can_actS rfl rfl rfl rfl (fun K hK => ?_)
  go_wp2_with fail
  refine (bytes_any i 1 W _ _ (by omega) (by omega) (by omega) hs5).mono ?_; rintro r w6 ⟨v3, R3, rfl, hr3, hs6⟩
  apply hK
  refine ⟨Held.mk hs6.right.right.right, ?_⟩
  clear hK hs5
  obtain ⟨a3, k3, rfl⟩ := Ch.RowA.slice hr3
  refine can_actF rfl rfl rfl rfl (fun K hK => ?_)
  go_wp2_with fail
  refine can_actF rfl rfl rfl rfl (fun K hK => ?_)
  go_wp2_with fail
  have hs7 := hs6.newCells #[.slice a1 (bytesB s 1).length k1, .slice a2 (bytesB g 6).length k2, .slice a3 (bytesB i 1).length k3, .slice a d.length c] 32
  refine (concat_any W _ _ _ [.slice a1 (bytesB s 1).length k1, .slice a2 (bytesB g 6).length k2, .slice a3 (bytesB i 1).length k3, .slice a d.length c] [bytesB s 1, bytesB g 6, bytesB i 1, d] hs7 (fun y hy => reads_cells hy m0 _ _ _ rfl) (fun y hy => ?_) ?_ (by simp)).mono ?_
  · have hy2 := hy.tail
    exact ⟨hr1.reads hy2.right.right, hr2.reads hy2.right, hr3.reads hy2, HIN.out y (by have := hy2.right.right.right; rw [HL1.out] at this; exact this.tail), trivial⟩
  · have := HPL.out
    have e : pieceB ⟨s, g, i, d⟩ = [bytesB s 1, bytesB g 6, bytesB i 1, d].flatten := rfl
    rw [← e, this]
    have := H7.out
    omega
  rintro r w7 ⟨v4, R4, rfl, hr4, hs8⟩
  have hE : B = sealB 1 ([bytesB s 1, bytesB g 6, bytesB i 1, d].flatten) := HB.out
  have HE := Lib.hid hE
  clear hE
  have hlen : ([bytesB s 1, bytesB g 6, bytesB i 1, d].flatten).length ≤ 153 := by
    have := HPL.out
    have e : pieceB ⟨s, g, i, d⟩ = [bytesB s 1, bytesB g 6, bytesB i 1, d].flatten := rfl
    rw [← e, this]
    have := H7.out
    omega
  generalize [bytesB s 1, bytesB g 6, bytesB i 1, d].flatten = M at *
  clear hs7 hs6
  go_wp2_with fail
  refine can_actF rfl rfl rfl rfl (fun K hK => ?_)
  go_wp2_with fail
  refine (seal_any 1 v4 M W _ _ (by omega) (by omega) hlen (hr4.reads hs8) hs8).mono ?_
  rintro r w8 ⟨v5, R5, rfl, hr5, hs9⟩
  rw [← HE.out] at hr5
  clear hlen
  go_wp2_with fail
  repeat (first | (refine can_pu1 rfl rfl rfl rfl rfl rfl (fun K hK => ?_); go_big_quiet_op; refine hK _ ?_; clear hK K) | (refine can_st1 rfl rfl rfl rfl rfl rfl (fun K hK => ?_); go_big_quiet_op; refine hK _ ?_; clear hK K) | (refine can_early1 rfl rfl rfl rfl rfl (fun K hK => ?_); go_big_quiet_op; refine hK _ ?_; clear hK K) | (refine can_skip rfl rfl rfl ?_; simp only [Act.put, List.setIfInBounds_toArray, List.set_cons_zero, List.set_cons_succ]))
  refine can_end1 ?_; (try simp only [Exit.then])
  go_wp2_with fail
  go_ret2
  refine ⟨v5, R5, rfl, hr5, ?_⟩
  rw [HL1.out] at hs9
  exact hs9.use (by intro x; simp only [cnt_append, cnt_cons, cnt_nil]; omega)
end Go.Proofs.Ytdkhgkkdnjejmaa.Ch
