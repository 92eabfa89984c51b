/-
  corbellaw8.known.
-/
import Derived.Test.YtdkhgkkdnjejmaaChW
namespace Go.Proofs.Ytdkhgkkdnjejmaa.Ch
set_option linter.unusedSimpArgs false
open Go Go.RowKit Go.Sl Go.BigFrame
set_option linter.unusedVariables false

theorem pk_len (g : Int) : (pk g).data.length = 32 := bytesOf_length g 32
/-- The cells of a row of pieces. -/
theorem pcs_cells {W w : World} {L : List Atom} {xs : List (Pc × Value)} {v : Value} {R : List Atom} (hr : RowA 45 4 v xs.length (pcsC xs) R) (hs : Sat W w (R ++ L)) (h : 0 < xs.length) : ∃ g off cap, v = .slice (some ⟨g, off, none⟩) xs.length cap ∧ xs.length ≤ cap ∧ R = [(g, rowP 45 off (cap * 4) (pcsC xs))] := by
  obtain ⟨g, off, cap, h1, h2, _, h3⟩ := Ch.RowA.some_of hr h
  exact ⟨g, off, cap, h1, h2, h3⟩

set_option maxRecDepth 100000 in
set_option maxHeartbeats 4000000 in
theorem known_any (W w : World) (L : List Atom) (hs : Sat W w L) :
    Calls Try.prog 25 #[] w fun e w' => e = .returned (.bool true) ∧ Sat W w' L := by
  have HN := Lib.hid (platter_new 96 W w L (by omega) (by omega) hs)
  go_enter Try.func25, Try.ntmps25
  go_wp2_with fail
  refine HN.out.mono ?_; rintro r w2 ⟨b, A, rfl, hA, hs2⟩
  clear hs HN
  go_wp2_with fail
  go_loopw [2] (fun gv wr => ∃ (k : Nat) (A : List Atom), gv = .int .i64 ((k : Int) + 1) ∧ k ≤ 3 ∧ PtA b (qk k) A ∧ Sat W wr (A ++ L)) (fun gv _ => (4 - (intOf gv).toNat))
  case atStart => exact ⟨0, A, rfl, by omega, hA, hs2⟩
  case round =>
    clear hA hs2
    obtain ⟨k, A, rfl, hk, hA, hs⟩ := hrel
    have k0 : (0 : Int) ≤ k := by omega
    obtain ⟨f1, f2, f3, f4⟩ := qk_facts k
    by_cases hk3 : k < 3
    · have k1 : (k : Int) + 1 < 4 := by omega
      have k2 : (0 : Int) ≤ (k : Int) + 1 := by omega
      have ho := one_any 5 ((k : Int) + 1) 2 ((k : Int) + 1) W wr _ hs
      have HO := Lib.hid ho
      have HA := Lib.hid hA
      clear ho hA hs
      go_wp2_with fail
      refine HO.out.mono ?_; rintro r w3 ⟨v, R, rfl, hv, hs3⟩
      obtain ⟨av, cv, rfl⟩ := Ch.RowA.slice hv
      have hpu := put_any b (qk k) A (pk ((k : Int) + 1)) av cv W w3 (R ++ L) HA.out (hs3.use (by intro x; simp only [cnt_append, cnt_cons, cnt_nil]; omega)) (fun y hy => hv.reads (F := A ++ L) (hy.use (by intro x; simp only [cnt_append, cnt_cons, cnt_nil]; omega))) (pk_right _ (by omega) (by omega)) (by omega) (by omega) (by omega) (by omega)
      have HPU := Lib.hid hpu
      clear hpu hs3
      go_wp2_with fail
      refine HPU.out.mono ?_; rintro r w4 ⟨A', rfl, hA', hs4⟩
      go_wp2_with fail
      refine ⟨⟨k + 1, A', by simp, by omega, ?_, hs4.use (by intro x; simp only [cnt_append, cnt_cons, cnt_nil]; omega)⟩, ?_⟩
      · exact hA'
      · simp [intOf]
        omega
    · have e : k = 3 := by omega
      subst e
      have hg := get_any b (qk 3) A 5 W wr L hA hs (by omega) (by omega) (by omega) f4
      have HG := Lib.hid hg
      clear hg hA hs f1 f2 f3 f4
      go_wp2_with fail
      refine HG.out.mono ?_; rintro r w3 ⟨v, xs, R, B, rfl, hr, hxs, hxb, hs3⟩
      rw [known_get] at hxs
      rcases xs with _ | ⟨⟨x, vx⟩, _ | ⟨⟨y, vy⟩, _ | ⟨z, xs⟩⟩⟩
      · simp at hxs
      · simp at hxs
      rotate_left
      · simp at hxs
      obtain ⟨rfl, rfl⟩ : x = pk 3 ∧ y = pk 2 := by
        simp only [List.map_cons, List.map_nil, List.cons.injEq, and_true] at hxs
        exact hxs
      obtain ⟨hbx, _⟩ := hxb (pk 3, vx) (by simp)
      obtain ⟨hby, _⟩ := hxb (pk 2, vy) (by simp)
      simp only at hbx hby
      obtain ⟨g, off, cap, rfl, hc1, hR⟩ := pcs_cells hr hs3 (by simp)
      rw [hR] at hs3
      simp only [List.length_cons, List.length_nil, Nat.zero_add] at hc1
      have hc2 : (2 : Int) ≤ cap := by omega
      obtain ⟨LL, hLL⟩ : ∃ LL, LL = [(g, rowP 45 off (cap * 4) (pcsC [(pk 3, vx), (pk 2, vy)]))] ++ (B ++ (A ++ L)) := ⟨_, rfl⟩
      have hBL : ∀ x ∈ B, x ∈ LL := fun x hx => by rw [hLL]; simp [hx]
      have hcell : ∀ y, Sat W y LL → ∀ j u, (pcsC [(pk 3, vx), (pk 2, vy)])[j]? = some u → y.cell? ⟨g, off + j, none⟩ = some u := fun y hy j u hu => by
        rw [hLL] at hy
        exact (row_cell (G := B ++ (A ++ L)) hy j u hu).1
      rw [← hLL] at hs3
      have hrx : ∀ y, Sat W y LL → Reads y vx (pk 3).data.length (bts (pk 3).data) := fun y hy => hbx.reads hy hBL
      have hry : ∀ y, Sat W y LL → Reads y vy (pk 2).data.length (bts (pk 2).data) := fun y hy => hby.reads hy hBL
      have HRX := Lib.hid hrx
      have HRY := Lib.hid hry
      have HLL := Lib.hid hLL
      clear hrx hry hxb hxs
      obtain ⟨gx, ox, kx, rfl, _, _⟩ := hbx
      obtain ⟨gy, oy, ky, rfl, _, _⟩ := hby
      have c0 : ∀ y : Of W LL, y.v.cell? ⟨g, off, none⟩ = some (.int .i64 5) := fun y => hcell y.v y.s 0 _ rfl
      have c1 : ∀ y : Of W LL, y.v.cell? ⟨g, off + 1, none⟩ = some (.int .i64 3) := fun y => hcell y.v y.s 1 _ rfl
      have c2 : ∀ y : Of W LL, y.v.cell? ⟨g, off + 2, none⟩ = some (.int .i64 2) := fun y => hcell y.v y.s 2 _ rfl
      have c3 : ∀ y : Of W LL, y.v.cell? ⟨g, off + 3, none⟩ = some (.slice (some ⟨gx, ox, none⟩) (pk 3).data.length kx) := fun y => hcell y.v y.s 3 _ rfl
      have c4 : ∀ y : Of W LL, y.v.cell? ⟨g, off + 4, none⟩ = some (.int .i64 5) := fun y => hcell y.v y.s 4 _ rfl
      have c5 : ∀ y : Of W LL, y.v.cell? ⟨g, off + 5, none⟩ = some (.int .i64 2) := fun y => hcell y.v y.s 5 _ rfl
      have c6 : ∀ y : Of W LL, y.v.cell? ⟨g, off + 6, none⟩ = some (.int .i64 2) := fun y => hcell y.v y.s 6 _ rfl
      have c7 : ∀ y : Of W LL, y.v.cell? ⟨g, off + 7, none⟩ = some (.slice (some ⟨gy, oy, none⟩) (pk 2).data.length ky) := fun y => hcell y.v y.s 7 _ rfl
      clear hcell hLL hr hR hBL
      simp only [List.length_cons, List.length_nil, Nat.zero_add]
      go_wp2_with fail
      refine wp_region_held1 [7, 8, 14, 15] [4, 5, 6, 11, 12, 13] [4, 5, 11, 12] [7, 8, 14] [0, 1, 2, 3, 4, 5, 6, 7, 8, 9, 10, 11, 12, 13, 14, 15, 16, 17] (Held W LL) (by kernel_rfl) (by kernel_rfl) ?_ ?_
      · exact Held.mk hs3.drew
      have hne : Nonempty (Of W LL) := ⟨⟨_, hs3⟩⟩
      have hs4 : Sat W w3.drew LL := hs3.drew
      clear hs3
      repeat (first | (refine can_pu1 rfl rfl rfl rfl rfl rfl (fun K hK => ?_); go_big_quiet_op; refine hK _ ?_; clear hK K) | (refine can_st1 rfl rfl rfl rfl rfl rfl (fun K hK => ?_); go_big_quiet_op; refine hK _ ?_; clear hK K) | (refine can_early1 rfl rfl rfl rfl rfl (fun K hK => ?_); go_big_quiet_op; refine hK _ ?_; clear hK K) | (refine can_skip rfl rfl rfl ?_; simp only [Act.put, List.setIfInBounds_toArray, List.set_cons_zero, List.set_cons_succ]))
      refine can_actS rfl rfl rfl rfl (fun K hK => ?_)
      go_wp2_with fail
      refine (one_any 5 3 2 3 W _ _ hs4).mono ?_; rintro r w5 ⟨v5, R5, rfl, hv5, hs5⟩
      apply hK
      refine ⟨Held.mk hs5.right, ?_⟩
      clear hK
      obtain ⟨a5, k5, rfl⟩ := Ch.RowA.slice hv5
      unfold pcV
      refine can_actS rfl rfl rfl rfl (fun K hK => ?_)
      go_wp2_with fail
      refine (same_any (pk 3) (pk 3) (.slice (some ⟨gx, ox, none⟩) (pk 3).data.length kx) (.slice a5 (bytesOf 3 32).length k5) W w5 _ hs5 (fun y hy => HRX.out y hy.right) (fun y hy => hv5.reads hy) (by rw [pk_len]; omega) (by rw [pk_len]; omega)).mono ?_
      rintro r w6 ⟨rfl, hs6⟩
      rw [decide_eq_true rfl]
      apply hK
      refine ⟨Held.mk hs6.right, ?_⟩
      clear hK hs5
      have hs7 := hs6.right
      repeat (first | (refine can_pu1 rfl rfl rfl rfl rfl rfl (fun K hK => ?_); go_big_quiet_op; refine hK _ ?_; clear hK K) | (refine can_st1 rfl rfl rfl rfl rfl rfl (fun K hK => ?_); go_big_quiet_op; refine hK _ ?_; clear hK K) | (refine can_early1 rfl rfl rfl rfl rfl (fun K hK => ?_); go_big_quiet_op; refine hK _ ?_; clear hK K) | (refine can_skip rfl rfl rfl ?_; simp only [Act.put, List.setIfInBounds_toArray, List.set_cons_zero, List.set_cons_succ]))
      refine can_actS rfl rfl rfl rfl (fun K hK => ?_)
      go_wp2_with fail
      refine (one_any 5 2 2 2 W _ _ hs7).mono ?_; rintro r w8 ⟨v8, R8, rfl, hv8, hs8⟩
      apply hK
      refine ⟨Held.mk hs8.right, ?_⟩
      clear hK
      obtain ⟨a8, k8, rfl⟩ := Ch.RowA.slice hv8
      unfold pcV
      refine can_actF rfl rfl rfl rfl (fun K hK => ?_)
      go_wp2_with fail
      refine (same_any (pk 2) (pk 2) (.slice (some ⟨gy, oy, none⟩) (pk 2).data.length ky) (.slice a8 (bytesOf 2 32).length k8) W w8 _ hs8 (fun y hy => HRY.out y hy.right) (fun y hy => hv8.reads hy) (by rw [pk_len]; omega) (by rw [pk_len]; omega)).mono ?_
      rintro r w9 ⟨rfl, hs9⟩
      rw [decide_eq_true rfl]
      apply hK
      clear hK c0 c1 c2 c3 c4 c5 c6 c7 hne
      repeat (first | (refine can_pu1 rfl rfl rfl rfl rfl rfl (fun K hK => ?_); go_big_quiet_op; refine hK _ ?_; clear hK K) | (refine can_st1 rfl rfl rfl rfl rfl rfl (fun K hK => ?_); go_big_quiet_op; refine hK _ ?_; clear hK K) | (refine can_early1 rfl rfl rfl rfl rfl (fun K hK => ?_); go_big_quiet_op; refine hK _ ?_; clear hK K) | (refine can_skip rfl rfl rfl ?_; simp only [Act.put, List.setIfInBounds_toArray, List.set_cons_zero, List.set_cons_succ]))
      refine can_end1 ?_; (try simp only [Exit.then])
      go_wp2_with fail
      go_ret
      have hs10 := hs9.right
      rw [HLL.out] at hs10
      exact ⟨rfl, hs10.right.right.right⟩
end Go.Proofs.Ytdkhgkkdnjejmaa.Ch
