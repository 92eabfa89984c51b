
/-
  The document's node: Do.
-/
import Derived.Test.YtekbbpfnkbanjaaGreatRnH
namespace Go.Proofs.YtekbbpfnkbanjaaGreat.Ch
open Go Go.RowKit Go.Sl Go.BigFrame
set_option linter.unusedVariables false
set_option linter.unusedSimpArgs false

abbrev repAt (z : Nat) (c bo : Int) (p i : Value) : Atom := cellsA z #[.int .i64 c, .int .i64 bo, p, i] 44
abbrev reqAt (z : Nat) (k s g i : Int) (v : Value) : Atom := cellsA z #[.int .i64 k, .int .i64 s, .int .i64 g, .int .i64 i, v] 37
abbrev dnAt (b bp br : Nat) (boot : Int) : Atom := cellsA b #[.pointer (some ⟨bp, 0, none⟩), .pointer (some ⟨br, 0, none⟩), .int .i64 boot] 50
theorem Sat.swap {W w : World} {a c : Atom} {L : List Atom} (h : Sat W w (a :: c :: L)) : Sat W w (c :: a :: L) := h.use (by intro x; simp only [cnt_append, cnt_cons, cnt_nil]; omega)
set_option maxRecDepth 100000 in
set_option maxHeartbeats 4000000 in
theorem rdo_none (b bp br : Nat) (Ap Ag : List Atom) (boot k s g i : Int) (da : Option Addr) (dn dc : Nat) (W w : World) (L : List Atom) (hk : k < 1 ∨ 6 < k)
    (hs : Sat W w ((cellsA b #[.pointer (some ⟨bp, 0, none⟩), .pointer (some ⟨br, 0, none⟩), .int .i64 boot] 50 :: (Ap ++ Ag)) ++ L)) :
    Calls Tryz.prog 15 #[.pointer (some ⟨b, 0, none⟩), .agg #[.int .i64 k, .int .i64 s, .int .i64 g, .int .i64 i, .slice da dn dc]] w fun e w' => e = .returned (repV 1 boot (.slice none 0 0) (.slice none 0 0)) ∧ Sat W w' ((cellsA b #[.pointer (some ⟨bp, 0, none⟩), .pointer (some ⟨br, 0, none⟩), .int .i64 boot] 50 :: (Ap ++ Ag)) ++ L) := by
  have hb2 : w.cell? ⟨b, 2, none⟩ = some (.int .i64 boot) := hs.cell m0 2
  have hbw : b < w.heap.size := hs.lt m0
  have hsq := hs.newCells #[.int .i64 k, .int .i64 s, .int .i64 g, .int .i64 i, .slice da dn dc] 37
  have hsr := hsq.newCells #[.int .i64 0, .int .i64 0, .slice none 0 0, .slice none 0 0] 44
  have hsp := hsr.newCells #[.int .i64 0, .int .i64 boot, .slice none 0 0, .slice none 0 0] 44
  have hsz : (w.alloc (.cells #[.int .i64 k, .int .i64 s, .int .i64 g, .int .i64 i, .slice da dn dc] 37)).heap.size = w.heap.size + 1 := by simp
  have hsz2 : ((w.alloc (.cells #[.int .i64 k, .int .i64 s, .int .i64 g, .int .i64 i, .slice da dn dc] 37)).alloc (.cells #[.int .i64 0, .int .i64 0, .slice none 0 0, .slice none 0 0] 44)).heap.size = w.heap.size + 2 := by simp
  rw [hsz2, hsz] at hsp
  clear hsz hsz2 hsq hsr hs
  go_enter Tryz.func15, Tryz.ntmps15
  go_upto_region 2 with fail
  refine with_sat hsp ?_
  clear hsp hb2
  intro w1 hs1
  generalize w.heap.size = z at *
  change Sat W w1 (repAt (z + 2) 0 boot (.slice none 0 0) (.slice none 0 0) :: (repAt (z + 1) 0 0 (.slice none 0 0) (.slice none 0 0) :: (reqAt z k s g i (.slice da dn dc) :: _))) at hs1
  have r0 : w1.cell? ⟨z, 0, none⟩ = some (.int .i64 k) := hs1.cell m2 0
  have r1 : w1.cell? ⟨z, 1, none⟩ = some (.int .i64 s) := hs1.cell m2 1
  have r2 : w1.cell? ⟨z, 2, none⟩ = some (.int .i64 g) := hs1.cell m2 2
  have r3 : w1.cell? ⟨z, 3, none⟩ = some (.int .i64 i) := hs1.cell m2 3
  have r4 : w1.cell? ⟨z, 4, none⟩ = some (.slice da dn dc) := hs1.cell m2 4
  have b0 : w1.cell? ⟨b, 0, none⟩ = some (.pointer (some ⟨bp, 0, none⟩)) := hs1.cell (.tail _ (.tail _ (.tail _ (.head _)))) 0
  have b1 : w1.cell? ⟨b, 1, none⟩ = some (.pointer (some ⟨br, 0, none⟩)) := hs1.cell (.tail _ (.tail _ (.tail _ (.head _)))) 1
  have k1 : (k == 1) = false := by simp; omega
  have k2 : (k == 2) = false := by simp; omega
  have k3 : (k == 3) = false := by simp; omega
  have k4 : (k == 4) = false := by simp; omega
  have k5 : (k == 5) = false := by simp; omega
  have k6 : (k == 6) = false := by simp; omega
  have k0 := hs1.cell m0 0
  have k1 := hs1.free m0 0
  have hs2 := Sat.setCell hs1 0 (.int .i64 1)
  simp only [List.setIfInBounds_toArray, List.set_cons_zero, List.set_cons_succ] at hs2
  clear hs1
  go_upto_region 22 with fail
  refine with_sat hs2 ?_
  clear hs2 k0 k1 r0 r1 r2 r3 r4 b0 b1
  intro w2 hs2
  have g0 := hs2.cell m0 0
  have g1 := hs2.cell m0 1
  have g2 := hs2.cell m0 2
  have g3 := hs2.cell m0 3
  have h0 := hs2.cell m1 0
  have h1 := hs2.cell m1 1
  have h2 := hs2.cell m1 2
  have h3 := hs2.cell m1 3
  have j0 := hs2.free m1 0
  have j1 := hs2.free m1 1
  have j2 := hs2.free m1 2
  have j3 := hs2.free m1 3
  have hy1 := Sat.swap hs2
  have hy := Sat.setCell (Sat.setCell (Sat.setCell (Sat.setCell hy1 0 (.int .i64 1)) 1 (.int .i64 boot)) 2 (.slice none 0 0)) 3 (.slice none 0 0)
  clear hy1
  go_wp2_with fail
  refine bodyPost_ret (v := repV 1 boot (.slice none 0 0) (.slice none 0 0)) (by simp [results, Tryz.results15, go_sem, repV, *]) rfl ?_
  replace hy := hy.tail.tail
  exact ⟨rfl, hy.tail⟩
set_option maxRecDepth 100000 in
set_option maxHeartbeats 8000000 in
theorem rdo_flush (b bp br : Nat) (r : Rt) (Ap Ag : List Atom) (boot s g i : Int) (da : Option Addr) (dn dc : Nat) (W w : World) (L : List Atom) (hq : RtA bp r Ap) (hdl : r.done.length < 900000) (hpl : r.pend.length < 900000) (hok : ∀ x ∈ r.pend, x.1 < r.done.length)
    (hs : Sat W w ((dnAt b bp br boot :: (Ap ++ Ag)) ++ L)) :
    Calls Tryz.prog 15 #[.pointer (some ⟨b, 0, none⟩), .agg #[.int .i64 4, .int .i64 s, .int .i64 g, .int .i64 i, .slice da dn dc]] w fun e w' => ∃ Ap', e = .returned (repV 0 boot (.slice none 0 0) (.slice none 0 0)) ∧ RtA bp r.fl Ap' ∧ Sat W w' ((dnAt b bp br boot :: (Ap' ++ Ag)) ++ L) := by
  have hb2 : w.cell? ⟨b, 2, none⟩ = some (.int .i64 boot) := hs.cell m0 2
  have hbw : b < w.heap.size := hs.lt m0
  have hsq := hs.newCells #[.int .i64 4, .int .i64 s, .int .i64 g, .int .i64 i, .slice da dn dc] 37
  have hsr := hsq.newCells #[.int .i64 0, .int .i64 0, .slice none 0 0, .slice none 0 0] 44
  have hsp := hsr.newCells #[.int .i64 0, .int .i64 boot, .slice none 0 0, .slice none 0 0] 44
  have hsz : (w.alloc (.cells #[.int .i64 4, .int .i64 s, .int .i64 g, .int .i64 i, .slice da dn dc] 37)).heap.size = w.heap.size + 1 := by simp
  have hsz2 : ((w.alloc (.cells #[.int .i64 4, .int .i64 s, .int .i64 g, .int .i64 i, .slice da dn dc] 37)).alloc (.cells #[.int .i64 0, .int .i64 0, .slice none 0 0, .slice none 0 0] 44)).heap.size = w.heap.size + 2 := by simp
  rw [hsz2, hsz] at hsp
  clear hsz hsz2 hsq hsr hs
  go_enter Tryz.func15, Tryz.ntmps15
  go_upto_region 2 with fail
  refine with_sat hsp ?_
  clear hsp hb2
  intro w1 hs1
  generalize w.heap.size = z at *
  change Sat W w1 (repAt (z + 2) 0 boot (.slice none 0 0) (.slice none 0 0) :: (repAt (z + 1) 0 0 (.slice none 0 0) (.slice none 0 0) :: (reqAt z 4 s g i (.slice da dn dc) :: _))) at hs1
  have r0 : w1.cell? ⟨z, 0, none⟩ = some (.int .i64 4) := hs1.cell m2 0
  have r1 : w1.cell? ⟨z, 1, none⟩ = some (.int .i64 s) := hs1.cell m2 1
  have r2 : w1.cell? ⟨z, 2, none⟩ = some (.int .i64 g) := hs1.cell m2 2
  have r3 : w1.cell? ⟨z, 3, none⟩ = some (.int .i64 i) := hs1.cell m2 3
  have r4 : w1.cell? ⟨z, 4, none⟩ = some (.slice da dn dc) := hs1.cell m2 4
  have b0 : w1.cell? ⟨b, 0, none⟩ = some (.pointer (some ⟨bp, 0, none⟩)) := hs1.cell (.tail _ (.tail _ (.tail _ (.head _)))) 0
  have b1 : w1.cell? ⟨b, 1, none⟩ = some (.pointer (some ⟨br, 0, none⟩)) := hs1.cell (.tail _ (.tail _ (.tail _ (.head _)))) 1
  have hfl := ref_flush bp r Ap W w1 (repAt (z + 2) 0 boot (.slice none 0 0) (.slice none 0 0) :: (repAt (z + 1) 0 0 (.slice none 0 0) (.slice none 0 0) :: (reqAt z 4 s g i (.slice da dn dc) :: (dnAt b bp br boot :: (Ag ++ L))))) hq (hs1.use (by intro x; simp only [cnt_append, cnt_cons, cnt_nil]; omega)) hdl hpl hok
  have HF := Lib.hid hfl
  clear hfl hs1
  go_wp2_with fail
  refine HF.out.mono ?_; rintro r9 w2 h9
  first
    | obtain ⟨Ap', rfl, hA', hs2⟩ := h9
    | obtain ⟨rfl, Ap', hA', hs2⟩ := h9
  clear HF r0 r1 r2 r3 r4 b0 b1
  have hs3 := Sat.use (M := repAt (z + 2) 0 boot (.slice none 0 0) (.slice none 0 0) :: (repAt (z + 1) 0 0 (.slice none 0 0) (.slice none 0 0) :: (dnAt b bp br boot :: (Ap' ++ (Ag ++ L))))) hs2 (by intro x; simp only [cnt_append, cnt_cons, cnt_nil]; omega)
  have g0 := hs3.cell m0 0
  have g1 := hs3.cell m0 1
  have g2 := hs3.cell m0 2
  have g3 := hs3.cell m0 3
  have h0 := hs3.cell m1 0
  have h1 := hs3.cell m1 1
  have h2 := hs3.cell m1 2
  have h3 := hs3.cell m1 3
  have j0 := hs3.free m1 0
  have j1 := hs3.free m1 1
  have j2 := hs3.free m1 2
  have j3 := hs3.free m1 3
  have hy1 := Sat.swap hs3
  have hy := Sat.setCell (Sat.setCell (Sat.setCell (Sat.setCell hy1 0 (.int .i64 0)) 1 (.int .i64 boot)) 2 (.slice none 0 0)) 3 (.slice none 0 0)
  clear hy1
  go_wp2_with fail
  refine bodyPost_ret (v := repV 0 boot (.slice none 0 0) (.slice none 0 0)) (by simp [results, Tryz.results15, go_sem, repV, *]) rfl ?_
  replace hy := hy.tail.tail
  first | exact ⟨Ap', rfl, hA', hy.use (by intro x; simp only [cnt_append, cnt_cons, cnt_nil]; omega)⟩ | exact ⟨rfl, Ap', hA', hy.use (by intro x; simp only [cnt_append, cnt_cons, cnt_nil]; omega)⟩

set_option maxRecDepth 100000 in
set_option maxHeartbeats 8000000 in
theorem rdo_live (b bp br : Nat) (Ap : List Atom) (xs : List (Sl5 × Value)) (nx : Int) (B : List Atom) (boot s g i : Int) (da : Option Addr) (dn dc : Nat) (W w : World) (L : List Atom) (hri : RowsIn B xs) (hxl : xs.length = 16) (hok : ∀ x ∈ xs, SlOk x.1)
    (hs : Sat W w ((dnAt b bp br boot :: (Ap ++ (cellsA br (rringC bp xs nx) 96 :: B))) ++ L)) :
    Calls Tryz.prog 15 #[.pointer (some ⟨b, 0, none⟩), .agg #[.int .i64 5, .int .i64 s, .int .i64 g, .int .i64 i, .slice da dn dc]] w fun e w' => ∃ ia ic ys, ∃ zs : List (Sl5 × Value), ∃ R, e = .returned (repV 0 boot (.slice none 0 0) (.slice ia ys.length ic)) ∧ RowA 77 3 (.slice ia ys.length ic) ys.length (itsC ys) R ∧ zs.Perm (liveOf xs) ∧ zs.Pairwise numLe ∧ ys.map Prod.fst = zs.map (fun x => x.1.i) ∧ ItsIn B ys ∧ Sat W w' ((dnAt b bp br boot :: (Ap ++ (cellsA br (rringC bp xs nx) 96 :: B))) ++ (R ++ L)) := by
  have hb2 : w.cell? ⟨b, 2, none⟩ = some (.int .i64 boot) := hs.cell m0 2
  have hbw : b < w.heap.size := hs.lt m0
  have hsq := hs.newCells #[.int .i64 5, .int .i64 s, .int .i64 g, .int .i64 i, .slice da dn dc] 37
  have hsr := hsq.newCells #[.int .i64 0, .int .i64 0, .slice none 0 0, .slice none 0 0] 44
  have hsp := hsr.newCells #[.int .i64 0, .int .i64 boot, .slice none 0 0, .slice none 0 0] 44
  have hsz : (w.alloc (.cells #[.int .i64 5, .int .i64 s, .int .i64 g, .int .i64 i, .slice da dn dc] 37)).heap.size = w.heap.size + 1 := by simp
  have hsz2 : ((w.alloc (.cells #[.int .i64 5, .int .i64 s, .int .i64 g, .int .i64 i, .slice da dn dc] 37)).alloc (.cells #[.int .i64 0, .int .i64 0, .slice none 0 0, .slice none 0 0] 44)).heap.size = w.heap.size + 2 := by simp
  rw [hsz2, hsz] at hsp
  clear hsz hsz2 hsq hsr hs
  go_enter Tryz.func15, Tryz.ntmps15
  go_upto_region 2 with fail
  refine with_sat hsp ?_
  clear hsp hb2
  intro w1 hs1
  generalize w.heap.size = z at *
  change Sat W w1 (repAt (z + 2) 0 boot (.slice none 0 0) (.slice none 0 0) :: (repAt (z + 1) 0 0 (.slice none 0 0) (.slice none 0 0) :: (reqAt z 5 s g i (.slice da dn dc) :: _))) at hs1
  have r0 : w1.cell? ⟨z, 0, none⟩ = some (.int .i64 5) := hs1.cell m2 0
  have r1 : w1.cell? ⟨z, 1, none⟩ = some (.int .i64 s) := hs1.cell m2 1
  have r2 : w1.cell? ⟨z, 2, none⟩ = some (.int .i64 g) := hs1.cell m2 2
  have r3 : w1.cell? ⟨z, 3, none⟩ = some (.int .i64 i) := hs1.cell m2 3
  have r4 : w1.cell? ⟨z, 4, none⟩ = some (.slice da dn dc) := hs1.cell m2 4
  have b0 : w1.cell? ⟨b, 0, none⟩ = some (.pointer (some ⟨bp, 0, none⟩)) := hs1.cell (.tail _ (.tail _ (.tail _ (.head _)))) 0
  have b1 : w1.cell? ⟨b, 1, none⟩ = some (.pointer (some ⟨br, 0, none⟩)) := hs1.cell (.tail _ (.tail _ (.tail _ (.head _)))) 1
  have hlv := ref_live br bp xs nx B W w1 (repAt (z + 2) 0 boot (.slice none 0 0) (.slice none 0 0) :: (repAt (z + 1) 0 0 (.slice none 0 0) (.slice none 0 0) :: (reqAt z 5 s g i (.slice da dn dc) :: (dnAt b bp br boot :: (Ap ++ L))))) hri hxl hok (hs1.use (by intro x; simp only [cnt_append, cnt_cons, cnt_nil]; omega))
  have HF := Lib.hid hlv
  clear hlv hs1
  go_wp2_with fail
  refine HF.out.mono ?_; rintro r9 w2 ⟨v, ys, zs, R, rfl, hr, hp, hpw, hy, hi, hs2⟩
  obtain ⟨ia, ic, rfl⟩ := Ch.RowA.slice hr
  clear HF r0 r1 r2 r3 r4 b0 b1
  have hs3 := Sat.use (M := repAt (z + 2) 0 boot (.slice none 0 0) (.slice none 0 0) :: (repAt (z + 1) 0 0 (.slice none 0 0) (.slice none 0 0) :: (dnAt b bp br boot :: (Ap ++ (cellsA br (rringC bp xs nx) 96 :: (B ++ (R ++ L))))))) hs2 (by intro x; simp only [cnt_append, cnt_cons, cnt_nil]; omega)
  have k3 := hs3.cell m0 3
  have k4 := hs3.free m0 3
  have hs4 := Sat.setCell hs3 3 (.slice ia ys.length ic)
  simp only [List.setIfInBounds_toArray, List.set_cons_zero, List.set_cons_succ] at hs4
  obtain ⟨m, hm⟩ : ∃ m, m = ys.length := ⟨_, rfl⟩
  have HM := Lib.hid hm
  have HR := Lib.hid hr
  have HP := Lib.hid (show _ ∧ _ ∧ _ ∧ _ from ⟨hp, hpw, hy, hi⟩)
  rw [← hm] at hs4 ⊢
  clear hs3 hs2 hm hr hp hpw hy hi
  go_upto_region 22 with fail
  refine with_sat hs4 ?_
  clear hs4 k3 k4
  intro w3 hs4
  have g0 := hs4.cell m0 0
  have g1 := hs4.cell m0 1
  have g2 := hs4.cell m0 2
  have g3 := hs4.cell m0 3
  have h0 := hs4.cell m1 0
  have h1 := hs4.cell m1 1
  have h2 := hs4.cell m1 2
  have h3 := hs4.cell m1 3
  have j0 := hs4.free m1 0
  have j1 := hs4.free m1 1
  have j2 := hs4.free m1 2
  have j3 := hs4.free m1 3
  have hy1 := Sat.swap hs4
  have hy := Sat.setCell (Sat.setCell (Sat.setCell (Sat.setCell hy1 0 (.int .i64 0)) 1 (.int .i64 boot)) 2 (.slice none 0 0)) 3 (.slice ia m ic)
  clear hy1
  go_wp2_with fail
  refine bodyPost_ret (v := repV 0 boot (.slice none 0 0) (.slice ia m ic)) (by simp [results, Tryz.results15, go_sem, repV, *]) rfl ?_
  replace hy := hy.tail.tail
  rw [HM.out] at *
  obtain ⟨h1, h2, h3, h4⟩ := HP.out
  exact ⟨ia, ic, ys, zs, R, rfl, HR.out, h1, h2, h3, h4, hy.use (by intro x; simp only [cnt_append, cnt_cons, cnt_nil]; omega)⟩

set_option maxRecDepth 100000 in
set_option maxHeartbeats 8000000 in
theorem rdo_rel (b bp br : Nat) (Ap : List Atom) (xs : List (Sl5 × Value)) (nx : Int) (B : List Atom) (boot s g i : Int) (da : Option Addr) (dn dc : Nat) (W w : World) (L : List Atom) (hxl : xs.length = 16) (hok : ∀ x ∈ xs, SlOk x.1)
    (hs : Sat W w ((dnAt b bp br boot :: (Ap ++ (cellsA br (rringC bp xs nx) 96 :: B))) ++ L)) :
    Calls Tryz.prog 15 #[.pointer (some ⟨b, 0, none⟩), .agg #[.int .i64 6, .int .i64 s, .int .i64 g, .int .i64 i, .slice da dn dc]] w fun e w' => e = .returned (repV 0 boot (.slice none 0 0) (.slice none 0 0)) ∧ Sat W w' ((dnAt b bp br boot :: (Ap ++ (cellsA br (rringC bp (relX xs s g 16) nx) 96 :: B))) ++ L) := by
  have hb2 : w.cell? ⟨b, 2, none⟩ = some (.int .i64 boot) := hs.cell m0 2
  have hbw : b < w.heap.size := hs.lt m0
  have hsq := hs.newCells #[.int .i64 6, .int .i64 s, .int .i64 g, .int .i64 i, .slice da dn dc] 37
  have hsr := hsq.newCells #[.int .i64 0, .int .i64 0, .slice none 0 0, .slice none 0 0] 44
  have hsp := hsr.newCells #[.int .i64 0, .int .i64 boot, .slice none 0 0, .slice none 0 0] 44
  have hsz : (w.alloc (.cells #[.int .i64 6, .int .i64 s, .int .i64 g, .int .i64 i, .slice da dn dc] 37)).heap.size = w.heap.size + 1 := by simp
  have hsz2 : ((w.alloc (.cells #[.int .i64 6, .int .i64 s, .int .i64 g, .int .i64 i, .slice da dn dc] 37)).alloc (.cells #[.int .i64 0, .int .i64 0, .slice none 0 0, .slice none 0 0] 44)).heap.size = w.heap.size + 2 := by simp
  rw [hsz2, hsz] at hsp
  clear hsz hsz2 hsq hsr hs
  go_enter Tryz.func15, Tryz.ntmps15
  go_upto_region 2 with fail
  refine with_sat hsp ?_
  clear hsp hb2
  intro w1 hs1
  generalize w.heap.size = z at *
  change Sat W w1 (repAt (z + 2) 0 boot (.slice none 0 0) (.slice none 0 0) :: (repAt (z + 1) 0 0 (.slice none 0 0) (.slice none 0 0) :: (reqAt z 6 s g i (.slice da dn dc) :: _))) at hs1
  have r0 : w1.cell? ⟨z, 0, none⟩ = some (.int .i64 6) := hs1.cell m2 0
  have r1 : w1.cell? ⟨z, 1, none⟩ = some (.int .i64 s) := hs1.cell m2 1
  have r2 : w1.cell? ⟨z, 2, none⟩ = some (.int .i64 g) := hs1.cell m2 2
  have r3 : w1.cell? ⟨z, 3, none⟩ = some (.int .i64 i) := hs1.cell m2 3
  have r4 : w1.cell? ⟨z, 4, none⟩ = some (.slice da dn dc) := hs1.cell m2 4
  have b0 : w1.cell? ⟨b, 0, none⟩ = some (.pointer (some ⟨bp, 0, none⟩)) := hs1.cell (.tail _ (.tail _ (.tail _ (.head _)))) 0
  have b1 : w1.cell? ⟨b, 1, none⟩ = some (.pointer (some ⟨br, 0, none⟩)) := hs1.cell (.tail _ (.tail _ (.tail _ (.head _)))) 1
  have hrl := ref_release br bp xs nx B s g W w1.drew (repAt (z + 2) 0 boot (.slice none 0 0) (.slice none 0 0) :: (repAt (z + 1) 0 0 (.slice none 0 0) (.slice none 0 0) :: (reqAt z 6 s g i (.slice da dn dc) :: (dnAt b bp br boot :: (Ap ++ (B ++ L)))))) hxl hok (hs1.drew.use (by intro x; simp only [cnt_append, cnt_cons, cnt_nil]; omega))
  have HF := Lib.hid hrl
  clear hrl hs1
  go_wp2_with fail
  refine wp_region_one [8] [] [] [] [0, 1, 2, 3, 4, 5, 6, 7, 8] (by kernel_rfl) (by kernel_rfl) ?_
  repeat (first | (refine can_pu1 rfl rfl rfl rfl rfl rfl (fun K hK => ?_); go_big_quiet_op; refine hK _ ?_; clear hK K) | (refine can_st1 rfl rfl rfl rfl rfl rfl (fun K hK => ?_); go_big_quiet_op; refine hK _ ?_; clear hK K) | (refine can_early1 rfl rfl rfl rfl rfl (fun K hK => ?_); go_big_quiet_op; refine hK _ ?_; clear hK K) | (refine can_skip rfl rfl rfl ?_; simp only [Act.put, List.setIfInBounds_toArray, List.set_cons_zero, List.set_cons_succ]))
  refine can_act1 rfl rfl rfl (fun K hK => ?_)
  go_wp2_with fail
  refine HF.out.mono ?_; rintro r9 w2 ⟨n9, rfl, hs2⟩
  apply hK
  clear hK HF r0 r1 r2 r3 r4 b0 b1
  refine can_end1 ?_; (try simp only [Exit.then])
  have hs3 := Sat.use (M := repAt (z + 2) 0 boot (.slice none 0 0) (.slice none 0 0) :: (repAt (z + 1) 0 0 (.slice none 0 0) (.slice none 0 0) :: (dnAt b bp br boot :: (Ap ++ (cellsA br (rringC bp (relX xs s g 16) nx) 96 :: (B ++ L)))))) hs2 (by intro x; simp only [cnt_append, cnt_cons, cnt_nil]; omega)
  have g0 := hs3.cell m0 0
  have g1 := hs3.cell m0 1
  have g2 := hs3.cell m0 2
  have g3 := hs3.cell m0 3
  have h0 := hs3.cell m1 0
  have h1 := hs3.cell m1 1
  have h2 := hs3.cell m1 2
  have h3 := hs3.cell m1 3
  have j0 := hs3.free m1 0
  have j1 := hs3.free m1 1
  have j2 := hs3.free m1 2
  have j3 := hs3.free m1 3
  have hy1 := Sat.swap hs3
  have hy := Sat.setCell (Sat.setCell (Sat.setCell (Sat.setCell hy1 0 (.int .i64 0)) 1 (.int .i64 boot)) 2 (.slice none 0 0)) 3 (.slice none 0 0)
  clear hy1
  go_wp2_with fail
  refine bodyPost_ret (v := repV 0 boot (.slice none 0 0) (.slice none 0 0)) (by simp [results, Tryz.results15, go_sem, repV, *]) rfl ?_
  replace hy := hy.tail.tail
  exact ⟨rfl, hy.use (by intro x; simp only [cnt_append, cnt_cons, cnt_nil]; omega)⟩

set_option maxRecDepth 100000 in
set_option maxHeartbeats 8000000 in
theorem rdo_get_out (b bp br : Nat) (r : Rt) (Ap Ag : List Atom) (boot s g i : Int) (da : Option Addr) (dn dc : Nat) (W w : World) (L : List Atom) (hk : s < 0 ∨ 40 ≤ s)
    (hs : Sat W w ((dnAt b bp br boot :: (Ap ++ Ag)) ++ L)) :
    Calls Tryz.prog 15 #[.pointer (some ⟨b, 0, none⟩), .agg #[.int .i64 1, .int .i64 s, .int .i64 g, .int .i64 i, .slice da dn dc]] w fun e w' => e = .returned (repV 1 boot (.slice none 0 0) (.slice none 0 0)) ∧ Sat W w' ((dnAt b bp br boot :: (Ap ++ Ag)) ++ L) := by
  have hb2 : w.cell? ⟨b, 2, none⟩ = some (.int .i64 boot) := hs.cell m0 2
  have hbw : b < w.heap.size := hs.lt m0
  have hsq := hs.newCells #[.int .i64 1, .int .i64 s, .int .i64 g, .int .i64 i, .slice da dn dc] 37
  have hsr := hsq.newCells #[.int .i64 0, .int .i64 0, .slice none 0 0, .slice none 0 0] 44
  have hsp := hsr.newCells #[.int .i64 0, .int .i64 boot, .slice none 0 0, .slice none 0 0] 44
  have hsz : (w.alloc (.cells #[.int .i64 1, .int .i64 s, .int .i64 g, .int .i64 i, .slice da dn dc] 37)).heap.size = w.heap.size + 1 := by simp
  have hsz2 : ((w.alloc (.cells #[.int .i64 1, .int .i64 s, .int .i64 g, .int .i64 i, .slice da dn dc] 37)).alloc (.cells #[.int .i64 0, .int .i64 0, .slice none 0 0, .slice none 0 0] 44)).heap.size = w.heap.size + 2 := by simp
  rw [hsz2, hsz] at hsp
  clear hsz hsz2 hsq hsr hs
  go_enter Tryz.func15, Tryz.ntmps15
  go_upto_region 2 with fail
  refine with_sat hsp ?_
  clear hsp hb2
  intro w1 hs1
  generalize w.heap.size = z at *
  change Sat W w1 (repAt (z + 2) 0 boot (.slice none 0 0) (.slice none 0 0) :: (repAt (z + 1) 0 0 (.slice none 0 0) (.slice none 0 0) :: (reqAt z 1 s g i (.slice da dn dc) :: _))) at hs1
  have r0 : w1.cell? ⟨z, 0, none⟩ = some (.int .i64 1) := hs1.cell m2 0
  have r1 : w1.cell? ⟨z, 1, none⟩ = some (.int .i64 s) := hs1.cell m2 1
  have r2 : w1.cell? ⟨z, 2, none⟩ = some (.int .i64 g) := hs1.cell m2 2
  have r3 : w1.cell? ⟨z, 3, none⟩ = some (.int .i64 i) := hs1.cell m2 3
  have r4 : w1.cell? ⟨z, 4, none⟩ = some (.slice da dn dc) := hs1.cell m2 4
  have b0 : w1.cell? ⟨b, 0, none⟩ = some (.pointer (some ⟨bp, 0, none⟩)) := hs1.cell (.tail _ (.tail _ (.tail _ (.head _)))) 0
  have b1 : w1.cell? ⟨b, 1, none⟩ = some (.pointer (some ⟨br, 0, none⟩)) := hs1.cell (.tail _ (.tail _ (.tail _ (.head _)))) 1
  by_cases hk0 : s < 0
  · skip
    have k0 := hs1.cell m0 0
    have k1 := hs1.free m0 0
    have hs2 := Sat.setCell hs1 0 (.int .i64 1)
    simp only [List.setIfInBounds_toArray, List.set_cons_zero, List.set_cons_succ] at hs2
    clear hs1
    go_upto_region 22 with fail
    refine with_sat hs2 ?_
    clear hs2 k0 k1 r0 r1 r2 r3 r4 b0 b1
    intro w2 hs2
    have g0 := hs2.cell m0 0
    have g1 := hs2.cell m0 1
    have g2 := hs2.cell m0 2
    have g3 := hs2.cell m0 3
    have h0 := hs2.cell m1 0
    have h1 := hs2.cell m1 1
    have h2 := hs2.cell m1 2
    have h3 := hs2.cell m1 3
    have j0 := hs2.free m1 0
    have j1 := hs2.free m1 1
    have j2 := hs2.free m1 2
    have j3 := hs2.free m1 3
    have hy1 := Sat.swap hs2
    have hy := Sat.setCell (Sat.setCell (Sat.setCell (Sat.setCell hy1 0 (.int .i64 1)) 1 (.int .i64 boot)) 2 (.slice none 0 0)) 3 (.slice none 0 0)
    clear hy1
    go_wp2_with fail
    refine bodyPost_ret (v := repV 1 boot (.slice none 0 0) (.slice none 0 0)) (by simp [results, Tryz.results15, go_sem, repV, *]) rfl ?_
    replace hy := hy.tail.tail
    exact ⟨rfl, hy.tail.use (by intro x; simp only [cnt_append, cnt_cons, cnt_nil]; omega)⟩
  · have hk1 : 40 ≤ s := by omega
    have k0 := hs1.cell m0 0
    have k1 := hs1.free m0 0
    have hs2 := Sat.setCell hs1 0 (.int .i64 1)
    simp only [List.setIfInBounds_toArray, List.set_cons_zero, List.set_cons_succ] at hs2
    clear hs1
    go_upto_region 22 with fail
    refine with_sat hs2 ?_
    clear hs2 k0 k1 r0 r1 r2 r3 r4 b0 b1
    intro w2 hs2
    have g0 := hs2.cell m0 0
    have g1 := hs2.cell m0 1
    have g2 := hs2.cell m0 2
    have g3 := hs2.cell m0 3
    have h0 := hs2.cell m1 0
    have h1 := hs2.cell m1 1
    have h2 := hs2.cell m1 2
    have h3 := hs2.cell m1 3
    have j0 := hs2.free m1 0
    have j1 := hs2.free m1 1
    have j2 := hs2.free m1 2
    have j3 := hs2.free m1 3
    have hy1 := Sat.swap hs2
    have hy := Sat.setCell (Sat.setCell (Sat.setCell (Sat.setCell hy1 0 (.int .i64 1)) 1 (.int .i64 boot)) 2 (.slice none 0 0)) 3 (.slice none 0 0)
    clear hy1
    go_wp2_with fail
    refine bodyPost_ret (v := repV 1 boot (.slice none 0 0) (.slice none 0 0)) (by simp [results, Tryz.results15, go_sem, repV, *]) rfl ?_
    replace hy := hy.tail.tail
    exact ⟨rfl, hy.tail.use (by intro x; simp only [cnt_append, cnt_cons, cnt_nil]; omega)⟩

set_option maxRecDepth 100000 in
set_option maxHeartbeats 8000000 in
theorem rdo_get (b bp br : Nat) (r : Rt) (Ap Ag : List Atom) (boot s g i : Int) (da : Option Addr) (dn dc : Nat) (W w : World) (L : List Atom) (q : Pt) (hq : RtA bp r Ap) (ha : Alike q r) (h0 : 0 ≤ s) (h1 : s < 40) (h80 : 80 ≤ q.now.length) (hl : ∀ l ∈ q.now, l.length < 1000000) (hpl : r.pend.length < 900000)
    (hs : Sat W w ((dnAt b bp br boot :: (Ap ++ Ag)) ++ L)) :
    Calls Tryz.prog 15 #[.pointer (some ⟨b, 0, none⟩), .agg #[.int .i64 1, .int .i64 s, .int .i64 g, .int .i64 i, .slice da dn dc]] w fun e w' => ∃ pa pc xs R B, e = .returned (repV 0 boot (.slice pa xs.length pc) (.slice none 0 0)) ∧ RowA 72 4 (.slice pa xs.length pc) xs.length (pcsC xs) R ∧ xs.map Prod.fst = getL q s ∧ PcBl B xs ∧ Sat W w' ((dnAt b bp br boot :: (Ap ++ Ag)) ++ (R ++ (B ++ L))) := by
  have hb2 : w.cell? ⟨b, 2, none⟩ = some (.int .i64 boot) := hs.cell m0 2
  have hbw : b < w.heap.size := hs.lt m0
  have hsq := hs.newCells #[.int .i64 1, .int .i64 s, .int .i64 g, .int .i64 i, .slice da dn dc] 37
  have hsr := hsq.newCells #[.int .i64 0, .int .i64 0, .slice none 0 0, .slice none 0 0] 44
  have hsp := hsr.newCells #[.int .i64 0, .int .i64 boot, .slice none 0 0, .slice none 0 0] 44
  have hsz : (w.alloc (.cells #[.int .i64 1, .int .i64 s, .int .i64 g, .int .i64 i, .slice da dn dc] 37)).heap.size = w.heap.size + 1 := by simp
  have hsz2 : ((w.alloc (.cells #[.int .i64 1, .int .i64 s, .int .i64 g, .int .i64 i, .slice da dn dc] 37)).alloc (.cells #[.int .i64 0, .int .i64 0, .slice none 0 0, .slice none 0 0] 44)).heap.size = w.heap.size + 2 := by simp
  rw [hsz2, hsz] at hsp
  clear hsz hsz2 hsq hsr hs
  go_enter Tryz.func15, Tryz.ntmps15
  go_upto_region 2 with fail
  refine with_sat hsp ?_
  clear hsp hb2
  intro w1 hs1
  generalize w.heap.size = z at *
  change Sat W w1 (repAt (z + 2) 0 boot (.slice none 0 0) (.slice none 0 0) :: (repAt (z + 1) 0 0 (.slice none 0 0) (.slice none 0 0) :: (reqAt z 1 s g i (.slice da dn dc) :: _))) at hs1
  have r0 : w1.cell? ⟨z, 0, none⟩ = some (.int .i64 1) := hs1.cell m2 0
  have r1 : w1.cell? ⟨z, 1, none⟩ = some (.int .i64 s) := hs1.cell m2 1
  have r2 : w1.cell? ⟨z, 2, none⟩ = some (.int .i64 g) := hs1.cell m2 2
  have r3 : w1.cell? ⟨z, 3, none⟩ = some (.int .i64 i) := hs1.cell m2 3
  have r4 : w1.cell? ⟨z, 4, none⟩ = some (.slice da dn dc) := hs1.cell m2 4
  have b0 : w1.cell? ⟨b, 0, none⟩ = some (.pointer (some ⟨bp, 0, none⟩)) := hs1.cell (.tail _ (.tail _ (.tail _ (.head _)))) 0
  have b1 : w1.cell? ⟨b, 1, none⟩ = some (.pointer (some ⟨br, 0, none⟩)) := hs1.cell (.tail _ (.tail _ (.tail _ (.head _)))) 1
  have hgt := ref_pieces bp q r Ap s W w1.drew (repAt (z + 2) 0 boot (.slice none 0 0) (.slice none 0 0) :: (repAt (z + 1) 0 0 (.slice none 0 0) (.slice none 0 0) :: (reqAt z 1 s g i (.slice da dn dc) :: (dnAt b bp br boot :: (Ag ++ L))))) hq ha (hs1.drew.use (by intro x; simp only [cnt_append, cnt_cons, cnt_nil]; omega)) h0 h1 h80 hl hpl
  have HF := Lib.hid hgt
  have n0 : ¬ s < 0 := by omega
  have n1 : ¬ 40 ≤ s := by omega
  clear hgt hs1 hl h80
  go_wp2_with fail
  refine wp_region_one [6, 8] [] [] [] [0, 1, 2, 3, 4, 5, 6, 7, 8] (by kernel_rfl) (by kernel_rfl) ?_
  repeat (first | (refine can_pu1 rfl rfl rfl rfl rfl rfl (fun K hK => ?_); go_big_quiet_op; refine hK _ ?_; clear hK K) | (refine can_st1 rfl rfl rfl rfl rfl rfl (fun K hK => ?_); go_big_quiet_op; refine hK _ ?_; clear hK K) | (refine can_early1 rfl rfl rfl rfl rfl (fun K hK => ?_); go_big_quiet_op; refine hK _ ?_; clear hK K) | (refine can_skip rfl rfl rfl ?_; simp only [Act.put, List.setIfInBounds_toArray, List.set_cons_zero, List.set_cons_succ]))
  refine can_act1 rfl rfl rfl (fun K hK => ?_)
  go_wp2_with fail
  refine HF.out.mono ?_; rintro r9 w2 ⟨v, xs, R, B, rfl, hr, hx, hb, hs2⟩
  obtain ⟨pa, pc, rfl⟩ := Ch.RowA.slice hr
  apply hK
  clear hK HF r0 r1 r2 r3 r4 b0 b1
  have hs3 := Sat.use (M := repAt (z + 2) 0 boot (.slice none 0 0) (.slice none 0 0) :: (repAt (z + 1) 0 0 (.slice none 0 0) (.slice none 0 0) :: (dnAt b bp br boot :: (Ap ++ (Ag ++ (R ++ (B ++ L))))))) hs2 (by intro x; simp only [cnt_append, cnt_cons, cnt_nil]; omega)
  have k3 := hs3.cell m0 2
  have k4 := hs3.free m0 2
  have hs4 := Sat.setCell hs3 2 (.slice pa xs.length pc)
  simp only [List.setIfInBounds_toArray, List.set_cons_zero, List.set_cons_succ] at hs4
  clear hs2 hs3
  repeat (first | (refine can_pu1 rfl rfl rfl rfl rfl rfl (fun K hK => ?_); go_big_quiet_op; refine hK _ ?_; clear hK K) | (refine can_st1 rfl rfl rfl rfl rfl rfl (fun K hK => ?_); go_big_quiet_op; refine hK _ ?_; clear hK K) | (refine can_early1 rfl rfl rfl rfl rfl (fun K hK => ?_); go_big_quiet_op; refine hK _ ?_; clear hK K) | (refine can_skip rfl rfl rfl ?_; simp only [Act.put, List.setIfInBounds_toArray, List.set_cons_zero, List.set_cons_succ]))
  refine can_act1 rfl rfl rfl (fun K hK => ?_)
  go_wp2_with fail
  refine can_end1 ?_; (try simp only [Exit.then])
  refine with_sat hs4 ?_
  clear hs4 k3 k4
  intro w3 hs4
  have g0 := hs4.cell m0 0
  have g1 := hs4.cell m0 1
  have g2 := hs4.cell m0 2
  have g3 := hs4.cell m0 3
  have h0 := hs4.cell m1 0
  have h1 := hs4.cell m1 1
  have h2 := hs4.cell m1 2
  have h3 := hs4.cell m1 3
  have j0 := hs4.free m1 0
  have j1 := hs4.free m1 1
  have j2 := hs4.free m1 2
  have j3 := hs4.free m1 3
  have hy1 := Sat.swap hs4
  have hy := Sat.setCell (Sat.setCell (Sat.setCell (Sat.setCell hy1 0 (.int .i64 0)) 1 (.int .i64 boot)) 2 (.slice pa xs.length pc)) 3 (.slice none 0 0)
  clear hy1
  go_wp2_with fail
  refine bodyPost_ret (v := repV 0 boot (.slice pa xs.length pc) (.slice none 0 0)) (by simp [results, Tryz.results15, go_sem, repV, *]) rfl ?_
  replace hy := hy.tail.tail
  exact ⟨pa, pc, xs, R, B, rfl, hr, hx, hb, hy.use (by intro x; simp only [cnt_append, cnt_cons, cnt_nil]; omega)⟩

end Go.Proofs.YtekbbpfnkbanjaaGreat.Ch
