/-
  Chapter 1's laws: grow, the walk.
-/
import Derived.Test.YtoknokbbggnmjaaDoorCaV1
import Derived.Test.YtoknokbbggnmjaaDoorCaV2
import Derived.Test.YtoknokbbggnmjaaDoorCaV3
import Derived.Test.YtoknokbbggnmjaaDoorCaV4
import Derived.Test.YtoknokbbggnmjaaDoorCaV5
import Derived.Deep.CutBlock
import Derived.Deep.DeepCutAuto
namespace Go.Proofs.YtoknokbbggnmjaaDoor.Ca
set_option linter.unusedSimpArgs false
open Go Go.RowKit Go.Sl Go.Extern.Stop Go.Stop Go.Extern
set_option linter.unusedVariables false

set_option maxRecDepth 100000 in
theorem act_cases {gl : Option Addr} {cl z i : Nat} {ls : List (Int × Int)} {a : Act} {ev sv : Value} (h : FrameOk (.slice gl ls.length cl) z a ev sv i) :
    ∃ u : Nat → Value, a = ⟨#[.slice gl ls.length cl, u 1, .nilIface, .pointer (some ⟨z, 0, none⟩), ev, sv, .int .i64 i, u 7, u 8, u 9, u 10, u 11, u 12, u 13, u 14, u 15, u 16, u 17, u 18, u 19, u 20, u 21, u 22, u 23, u 24, u 25, u 26, u 27, u 28, u 29, u 30, u 31, u 32, u 33, u 34, u 35, u 36, u 37, u 38, u 39, u 40, u 41, u 42, u 43, u 44, u 45, u 46, u 47, u 48, u 49, u 50, u 51, u 52, u 53, u 54, u 55, u 56, u 57, u 58, u 59, u 60, u 61, u 62, u 63, u 64, u 65, u 66, u 67, u 68, u 69, u 70, u 71, u 72, u 73, u 74, u 75, u 76, u 77, u 78, u 79, u 80, u 81, u 82, u 83, u 84, u 85, u 86, u 87, u 88, u 89, u 90, u 91, u 92, u 93, u 94, u 95, u 96, u 97, u 98, u 99, u 100, u 101, u 102, u 103, u 104, u 105, u 106, u 107, u 108, u 109, u 110, u 111, u 112, u 113, u 114, u 115, u 116, u 117, u 118, u 119, u 120, u 121, u 122, u 123, u 124, u 125, u 126, u 127, u 128, u 129, u 130, u 131, u 132, u 133, u 134, u 135, u 136, u 137, u 138, u 139, u 140, u 141, u 142, u 143, u 144, u 145, u 146, u 147, u 148, u 149, u 150, u 151, u 152, u 153, u 154, u 155, u 156, u 157, u 158, u 159, u 160, u 161, u 162, u 163, u 164, u 165, u 166, u 167, u 168, u 169, u 170, u 171, u 172, u 173, u 174, u 175, u 176, u 177, u 178, u 179, u 180, u 181, u 182, u 183, u 184, u 185, u 186, u 187, u 188, u 189, u 190, u 191, u 192, u 193, u 194, u 195, u 196, u 197, u 198, u 199, u 200, u 201, u 202, u 203, u 204, u 205, u 206, u 207, u 208, u 209, u 210, u 211, u 212, u 213, u 214, u 215, u 216, u 217, u 218, u 219, u 220, u 221, u 222, u 223, u 224, u 225, u 226, u 227, u 228, u 229, u 230, u 231, u 232, u 233, u 234, u 235, u 236, u 237], []⟩ := by
  obtain ⟨t, d⟩ := a
  obtain ⟨h1, h2, h3, h4, h5, h6, h7, h8⟩ := h
  simp only at h1 h2 h3 h4 h5 h6 h7 h8
  refine ⟨fun k => t.getD k undef, ?_⟩
  rw [h1]
  have e := arr_list t 238 h2
  rw [← h3, ← h4, ← h5, ← h6, ← h7, ← h8]
  exact congrArg (fun t => (⟨t, []⟩ : Act)) e
def GI (W : World) (F : List Atom) (n : Nat) (lv : Value) (z : Nat) (a : Act) (w : World) : Prop := ∃ ev sv i P Re Rs T, FrameOk lv z a ev sv i ∧ GrowAt W F n i ev sv w P Re Rs T
def gmu (a : Act) (_ : World) : Nat := 25 - (intOf (a.tmps.getD 6 undef)).toNat

set_option maxRecDepth 100000 in
set_option maxHeartbeats 40000000 in
theorem grow_any (lv : Value) (ls : List (Int × Int)) (W w0 : World) (hlv : RawsAt W lv ls) (L0 : List Atom) (hs0 : Sat W w0 (L0 ++ allOf W)) :
    Calls Tryd.prog 19 #[lv] w0 fun r w' => Grown W (L0 ++ allOf W) r w' := by
  obtain ⟨gl, cl, rfl, hll, hl⟩ := hlv
  unfold maxLen at hll
  obtain ⟨lf, hl1⟩ : ∃ lf : Nat → Int × Int, ∀ w, Below W.heap.size W w → ∀ j, j < ls.length → ∃ b o, gl = some ⟨b, o, none⟩ ∧ w.cell? ⟨b, o + j * 2, none⟩ = some (.int .i64 (lf j).1) ∧ w.cell? ⟨b, o + j * 2 + 1, none⟩ = some (.int .i64 (lf j).2) := ⟨_, hl⟩
  clear hl
  obtain ⟨z, hz⟩ : ∃ z, z = w0.heap.size := ⟨_, rfl⟩
  have hs1 : Sat W (w0.alloc (.cells zeroSaid 43)) (cellsA z zeroSaid 43 :: (L0 ++ allOf W)) := by rw [hz]; exact hs0.newCells _ _
  clear hs0
  go_enter Tryd.func19, Tryd.ntmps19
  go_wp2_with fail
  rw [← hz]
  clear hz
  obtain ⟨F, hF⟩ : ∃ F, F = cellsA z zeroSaid 43 :: (L0 ++ allOf W) := ⟨_, rfl⟩
  rw [← hF] at hs1
  have HF := Lib.hid hF
  clear hF
  refine wp_loop (GI W F ls.length (.slice gl ls.length cl) z) gmu ⟨_, _, 0, [], [], [], [], ⟨rfl, rfl, rfl, rfl, rfl, rfl, rfl, rfl⟩, ⟨Nat.zero_le _, Nat.zero_le _, RowA.nil _ _, RowA.nil _ _, Nat.le_refl _, Nat.le_refl _, (fun p h => nomatch h), hs1⟩⟩ ?_
  clear hs1
  rintro a wr ⟨ev, sv, i, P, Re, Rs, T, hfr, hg⟩
  obtain ⟨u, rfl⟩ := act_cases hfr
  clear hfr
  have hend : ∀ (a' : Act) (w' : World) (ev' sv' : Value) (P' : List PT) (Re' Rs' T' : List Atom), i < 25 → FrameOk (.slice gl ls.length cl) z a' ev' sv' (i + 1) → GrowAt W F ls.length (i + 1) ev' sv' w' P' Re' Rs' T' → GI W F ls.length (.slice gl ls.length cl) z a' w' ∧ gmu a' w' < gmu ⟨#[.slice gl ls.length cl, u 1, .nilIface, .pointer (some ⟨z, 0, none⟩), ev, sv, .int .i64 i, u 7, u 8, u 9, u 10, u 11, u 12, u 13, u 14, u 15, u 16, u 17, u 18, u 19, u 20, u 21, u 22, u 23, u 24, u 25, u 26, u 27, u 28, u 29, u 30, u 31, u 32, u 33, u 34, u 35, u 36, u 37, u 38, u 39, u 40, u 41, u 42, u 43, u 44, u 45, u 46, u 47, u 48, u 49, u 50, u 51, u 52, u 53, u 54, u 55, u 56, u 57, u 58, u 59, u 60, u 61, u 62, u 63, u 64, u 65, u 66, u 67, u 68, u 69, u 70, u 71, u 72, u 73, u 74, u 75, u 76, u 77, u 78, u 79, u 80, u 81, u 82, u 83, u 84, u 85, u 86, u 87, u 88, u 89, u 90, u 91, u 92, u 93, u 94, u 95, u 96, u 97, u 98, u 99, u 100, u 101, u 102, u 103, u 104, u 105, u 106, u 107, u 108, u 109, u 110, u 111, u 112, u 113, u 114, u 115, u 116, u 117, u 118, u 119, u 120, u 121, u 122, u 123, u 124, u 125, u 126, u 127, u 128, u 129, u 130, u 131, u 132, u 133, u 134, u 135, u 136, u 137, u 138, u 139, u 140, u 141, u 142, u 143, u 144, u 145, u 146, u 147, u 148, u 149, u 150, u 151, u 152, u 153, u 154, u 155, u 156, u 157, u 158, u 159, u 160, u 161, u 162, u 163, u 164, u 165, u 166, u 167, u 168, u 169, u 170, u 171, u 172, u 173, u 174, u 175, u 176, u 177, u 178, u 179, u 180, u 181, u 182, u 183, u 184, u 185, u 186, u 187, u 188, u 189, u 190, u 191, u 192, u 193, u 194, u 195, u 196, u 197, u 198, u 199, u 200, u 201, u 202, u 203, u 204, u 205, u 206, u 207, u 208, u 209, u 210, u 211, u 212, u 213, u 214, u 215, u 216, u 217, u 218, u 219, u 220, u 221, u 222, u 223, u 224, u 225, u 226, u 227, u 228, u 229, u 230, u 231, u 232, u 233, u 234, u 235, u 236, u 237], []⟩ wr := fun a' w' ev' sv' P' Re' Rs' T' hi hf hg' => ⟨⟨ev', sv', i + 1, P', Re', Rs', T', hf, hg'⟩, by
    unfold gmu
    rw [hf.s6]
    simp [intOf]
    omega⟩
  have b0 : (0 : Int) ≤ i := by omega
  by_cases hin1 : i < ls.length ∧ i < 25
  · obtain ⟨hi1, hi2⟩ := hin1
    have hend' := fun a' w' ev' sv' P' Re' Rs' T' => hend a' w' ev' sv' P' Re' Rs' T' hi2
    have hmx : ls.length ≤ maxLen := by unfold maxLen; exact hll
    by_cases h3 : handPick (lf i).1 7 < 3
    · exact grow_code3 hmx hl1 HF hi1 hi2 hg hend' h3
    · by_cases hP : P = []
      · exact grow_code0 hmx hl1 HF hi1 hi2 hg hend' h3 hP
      · obtain ⟨k1, k2⟩ := handPick_bounds (lf i).1 7 (by omega)
        by_cases h4 : handPick (lf i).1 7 = 3
        · exact grow_other hmx hl1 HF hi1 hi2 hg hend' h4 hP
        · by_cases h5 : handPick (lf i).1 7 = 4
          · exact grow_on hmx hl1 HF hi1 hi2 hg hend' h5 hP
          · by_cases h6 : handPick (lf i).1 7 = 5
            · exact grow_of hmx hl1 HF hi1 hi2 hg hend' h6 hP
            · exact grow_join hmx hl1 HF hi1 hi2 hg hend' (by omega) hP
  · clear hend
    obtain ⟨aE, cE, rfl⟩ := Ca.RowA.slice hg.row
    obtain ⟨aS, cS, rfl⟩ := Ca.RowA.slice hg.rowS
    have hPl := hg.len
    have hx : ls.length ≤ i ∨ 25 ≤ i := by omega
    have hsZ : Sat W wr (cellsA z zeroSaid 43 :: (Re ++ (Rs ++ (T ++ (L0 ++ allOf W))))) := by
      have h := hg.sat
      rw [HF.out] at h
      exact h.use (by intro x; simp only [cnt_append, cnt_cons, cnt_nil]; omega)
    have c0 : wr.cell? ⟨z, 0, none⟩ = some (.int .i64 0) := hsZ.cell m0 0
    have c1 : wr.cell? ⟨z, 1, none⟩ = some (.slice none 0 0) := hsZ.cell m0 1
    have c2 : wr.cell? ⟨z, 2, none⟩ = some (.int .i64 0) := hsZ.cell m0 2
    have c3 : wr.cell? ⟨z, 3, none⟩ = some (.bool false) := hsZ.cell m0 3
    have c4 : wr.cell? ⟨z, 4, none⟩ = some (.string ⟨#[]⟩) := hsZ.cell m0 4
    have d0 : wr.frozen? ⟨z, 0, none⟩ = false := hsZ.free m0 0
    have d1 : wr.frozen? ⟨z, 1, none⟩ = false := hsZ.free m0 1
    have d2 : wr.frozen? ⟨z, 2, none⟩ = false := hsZ.free m0 2
    have d3 : wr.frozen? ⟨z, 3, none⟩ = false := hsZ.free m0 3
    have d4 : wr.frozen? ⟨z, 4, none⟩ = false := hsZ.free m0 4
    by_cases hP : P = []
    · subst hP
      by_cases hx1 : i < ls.length
      · have q1 : (i : Int) < ls.length := by omega
        have q2 : (25 : Int) ≤ i := by omega
        go_wp2_with fail
        refine bodyPost_ret (v := .tuple #[.nilIface, .agg #[.int .i64 0, .slice none 0 0, .int .i64 0, .bool false, .string ⟨#[]⟩]]) (by simp [results, Tryd.results19, go_sem, *]) rfl (.inl ⟨rfl, ?_⟩)
        exact Sat.use (Sat.setCell (Sat.setCell (Sat.setCell (Sat.setCell (Sat.setCell hsZ 0 _) 1 _) 2 _) 3 _) 4 _) (by intro x; simp only [cnt_append, cnt_cons, cnt_nil]; omega)
      · have q1 : (ls.length : Int) ≤ i := by omega
        go_wp2_with fail
        refine bodyPost_ret (v := .tuple #[.nilIface, .agg #[.int .i64 0, .slice none 0 0, .int .i64 0, .bool false, .string ⟨#[]⟩]]) (by simp [results, Tryd.results19, go_sem, *]) rfl (.inl ⟨rfl, ?_⟩)
        exact Sat.use (Sat.setCell (Sat.setCell (Sat.setCell (Sat.setCell (Sat.setCell hsZ 0 _) 1 _) 2 _) 3 _) 4 _) (by intro x; simp only [cnt_append, cnt_cons, cnt_nil]; omega)
    · obtain ⟨Q, q, rfl⟩ : ∃ Q q, P = Q ++ [q] := ⟨P.dropLast, P.getLast hP, (List.dropLast_concat_getLast hP).symm⟩
      have hlq : (Q ++ [q]).length = Q.length + 1 := by simp
      have hre0 := hg.row
      have hrs0 := hg.rowS
      have hlim := hg.lim
      rw [hlq] at hPl hre0 hrs0 ⊢
      clear hP hlq
      have hsat0 := hg.sat
      rcases hre0.2 with ⟨_, hz, _⟩ | ⟨gE, oE, _, e1, hcE, hcE2, rfl⟩
      · omega
      simp only [Value.slice.injEq] at e1
      obtain ⟨rfl, _, rfl⟩ := e1
      rcases hrs0.2 with ⟨_, hz, _⟩ | ⟨gS, oS, _, e1, hcS, hcS2, rfl⟩
      · omega
      simp only [Value.slice.injEq] at e1
      obtain ⟨rfl, _, rfl⟩ := e1
      have hsat : Sat W wr (rowE gE oE cE (vals Q ++ [val q.1]) ++ (rowS gS oS cS (flatP Q ++ cells5 q) ++ (T ++ F))) := by
        rw [vals_append, flatP_append, flatP_one] at hsat0
        exact hsat0
      have hsS : Sat W wr (rowS gS oS cS (flatP Q ++ cells5 q) ++ (rowE gE oE cE (vals Q ++ [val q.1]) ++ (T ++ F))) := hsat.use (by intro x; simp only [cnt_append, cnt_cons, cnt_nil]; omega)
      have x00 : wr.cell? ⟨gE, oE + Q.length, none⟩ = some (val q.1) := (row_cell hsat Q.length _ (vals_at Q _)).1
      obtain ⟨aq, nq, cq, hq2⟩ := (hg.tells q (by simp)).nodes.slice
      have x0 : wr.cell? ⟨gS, oS + Q.length * 5, none⟩ = some (.int .i64 (code0 q.1)) := (row_cell hsS (Q.length * 5 + 0) _ (flat_at Q _ 0)).1
      have x1 : wr.cell? ⟨gS, oS + Q.length * 5 + 1, none⟩ = some (.slice aq nq cq) := by rw [← hq2]; exact (row_cell hsS (Q.length * 5 + 1) _ (flat_at Q _ 1)).1
      have x2 : wr.cell? ⟨gS, oS + Q.length * 5 + 2, none⟩ = some (.int .i64 (stripeO (of1 q.1))) := (row_cell hsS (Q.length * 5 + 2) _ (flat_at Q _ 2)).1
      have x3 : wr.cell? ⟨gS, oS + Q.length * 5 + 3, none⟩ = some (.bool (of1 q.1).isSome) := (row_cell hsS (Q.length * 5 + 3) _ (flat_at Q _ 3)).1
      have x4 : wr.cell? ⟨gS, oS + Q.length * 5 + 4, none⟩ = some (str (textE q.1)) := (row_cell hsS (Q.length * 5 + 4) _ (flat_at Q _ 4)).1
      have htx : (textE q.1).length < 300 := by
        have h2 := span_mem (P := Q ++ [q]) (p := q) (by simp)
        have h3 := hg.span
        omega
      have HQ2 := Lib.hid hq2
      clear hq2
      by_cases hx1 : i < ls.length
      · have q1 : (i : Int) < ls.length := by omega
        have q2 : (25 : Int) ≤ i := by omega
        go_wp2_with fail
        refine wp_region_one [13] [] [] [] [0, 1, 2, 3, 4, 5, 6, 7, 8, 9, 10, 11, 12, 13] (by kernel_rfl) (by kernel_rfl) ?_
        repeat (first | (refine can_pu1 rfl rfl rfl rfl rfl rfl (fun K hK => ?_); go_big_quiet_op; refine hK _ ?_; clear hK K) | (refine can_st1 rfl rfl rfl rfl rfl rfl (fun K hK => ?_); go_big_quiet_op; refine hK _ ?_; clear hK K) | (refine can_early1 rfl rfl rfl rfl rfl (fun K hK => ?_); go_big_quiet_op; refine hK _ ?_; clear hK K) | (refine can_skip rfl rfl rfl ?_; simp only [Act.put, List.setIfInBounds_toArray, List.set_cons_zero, List.set_cons_succ]))
        refine can_act1 rfl rfl rfl (fun K hK => ?_)
        go_wp2_with fail
        refine can_end1 ?_; (try simp only [Exit.then])
        go_wp2_with fail
        refine bodyPost_ret (v := .tuple #[val q.1, .agg #[.int .i64 (code0 q.1), .slice aq nq cq, .int .i64 (stripeO (of1 q.1)), .bool (of1 q.1).isSome, str (textE q.1)]]) (by simp [results, Tryd.results19, go_sem, *]) rfl (.inr ⟨q, T, ?_, hg.tells q (by simp), htx, ?_⟩)
        · unfold cells5
          rw [HQ2.out]
        · have h := (Sat.setCell (Sat.setCell (Sat.setCell (Sat.setCell (Sat.setCell hsZ 0 (.int .i64 (code0 q.1))) 1 (.slice aq nq cq)) 2 (.int .i64 (stripeO (of1 q.1)))) 3 (.bool (of1 q.1).isSome)) 4 (str (textE q.1))).drew
          exact Sat.use h (by intro x; simp only [cnt_append, cnt_cons, cnt_nil]; omega)
      · have q1 : (ls.length : Int) ≤ i := by omega
        go_wp2_with fail
        refine wp_region_one [13] [] [] [] [0, 1, 2, 3, 4, 5, 6, 7, 8, 9, 10, 11, 12, 13] (by kernel_rfl) (by kernel_rfl) ?_
        repeat (first | (refine can_pu1 rfl rfl rfl rfl rfl rfl (fun K hK => ?_); go_big_quiet_op; refine hK _ ?_; clear hK K) | (refine can_st1 rfl rfl rfl rfl rfl rfl (fun K hK => ?_); go_big_quiet_op; refine hK _ ?_; clear hK K) | (refine can_early1 rfl rfl rfl rfl rfl (fun K hK => ?_); go_big_quiet_op; refine hK _ ?_; clear hK K) | (refine can_skip rfl rfl rfl ?_; simp only [Act.put, List.setIfInBounds_toArray, List.set_cons_zero, List.set_cons_succ]))
        refine can_act1 rfl rfl rfl (fun K hK => ?_)
        go_wp2_with fail
        refine can_end1 ?_; (try simp only [Exit.then])
        go_wp2_with fail
        refine bodyPost_ret (v := .tuple #[val q.1, .agg #[.int .i64 (code0 q.1), .slice aq nq cq, .int .i64 (stripeO (of1 q.1)), .bool (of1 q.1).isSome, str (textE q.1)]]) (by simp [results, Tryd.results19, go_sem, *]) rfl (.inr ⟨q, T, ?_, hg.tells q (by simp), htx, ?_⟩)
        · unfold cells5
          rw [HQ2.out]
        · have h := (Sat.setCell (Sat.setCell (Sat.setCell (Sat.setCell (Sat.setCell hsZ 0 (.int .i64 (code0 q.1))) 1 (.slice aq nq cq)) 2 (.int .i64 (stripeO (of1 q.1)))) 3 (.bool (of1 q.1).isSome)) 4 (str (textE q.1))).drew
          exact Sat.use h (by intro x; simp only [cnt_append, cnt_cons, cnt_nil]; omega)
end Go.Proofs.YtoknokbbggnmjaaDoor.Ca
