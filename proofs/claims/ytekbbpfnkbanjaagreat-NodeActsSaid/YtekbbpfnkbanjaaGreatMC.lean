
/-
  chunk.Put.
  slices.SortFunc at no more than two pieces.
  chunk.Get.
  Laws of blocks and pieces: what is laid is read.
  corbellaw8.one and known.
-/
import Derived.Test.YtekbbpfnkbanjaaGreatMB
namespace Go.Proofs.YtekbbpfnkbanjaaGreat.Ch
set_option linter.unusedSimpArgs false
open Go Go.RowKit Go.Sl Go.BigFrame
set_option linter.unusedVariables false

theorem placeI_bounds (s g : Int) (h0 : 0 ≤ s) (h1 : s < 40) : 0 ≤ placeI s g ∧ placeI s g < 80 := by
  have b1 : 0 ≤ g % 2 := Int.emod_nonneg _ (by decide)
  have b2 : g % 2 < 2 := Int.emod_lt_of_pos _ (by decide)
  unfold placeI
  omega
def placeN (s g : Int) : Nat := (placeI s g).toNat

/-- A piece that may not be is refused. -/
theorem put_bad (dv : Value) (p : Pc) (a : Option Addr) (c : Nat) (W w : World) (L : List Atom) (hs : Sat W w L) (hp : ¬ rightP p) (hd : dv = .pointer none ∨ ∃ b q A F, dv = .pointer (some ⟨b, 0, none⟩) ∧ PtA b q A ∧ L = A ++ F) :
    Calls Tryz.prog 53 #[dv, pcV p (.slice a p.data.length c)] w fun e w' => e = .returned (.int .i64 1) ∧ Sat W w' L := by
  obtain ⟨s, g, i, d⟩ := p
  have hl := lay_bad ⟨s, g, i, d⟩ a c W (w.alloc (.cells #[.int .i64 s, .int .i64 g, .int .i64 i, .slice a d.length c] 72)) L (hs.alloc _) hp
  unfold pcV at *
  simp only at hl ⊢
  have HLB := Lib.hid hl
  clear hl hp
  rcases hd with rfl | ⟨b, q, A, F, rfl, hq, rfl⟩
  · go_enter Tryz.func53, Tryz.ntmps53
    go_wp2_with fail
    refine HLB.out.mono ?_; rintro r w2 ⟨rfl, hs2⟩
    go_wp2_with fail
    go_ret
    exact ⟨rfl, hs2⟩
  · go_enter Tryz.func53, Tryz.ntmps53
    go_wp2_with fail
    refine HLB.out.mono ?_; rintro r w2 ⟨rfl, hs2⟩
    go_wp2_with fail
    refine (blocks_any b q A W w2 F hq hs2).mono ?_; rintro r w3 ⟨rfl, rfl⟩
    by_cases h80 : (q.now.length : Int) < 80
    · go_wp2_with fail
      go_ret
      exact ⟨rfl, hs2⟩
    · go_wp2_with fail
      go_ret
      exact ⟨rfl, hs2⟩

/-- No platter, or one that is too small. -/
theorem put_small (dv : Value) (p : Pc) (a : Option Addr) (c : Nat) (W w : World) (L : List Atom) (hs : Sat W w L) (hin : ∀ y, Sat W y L → Reads y (.slice a p.data.length c) p.data.length (bts p.data)) (hd : dv = .pointer none ∨ ∃ b q A F, dv = .pointer (some ⟨b, 0, none⟩) ∧ PtA b q A ∧ L = A ++ F ∧ q.now.length < 80) :
    Calls Tryz.prog 53 #[dv, pcV p (.slice a p.data.length c)] w fun e w' => e = .returned (.int .i64 1) ∧ Sat W w' L := by
  by_cases hp : rightP p
  case neg => exact put_bad dv p a c W w L hs hp (hd.imp id fun ⟨b, q, A, F, h1, h2, h3, _⟩ => ⟨b, q, A, F, h1, h2, h3⟩)
  obtain ⟨s, g, i, d⟩ := p
  have hs1 := hs.newCells #[.int .i64 s, .int .i64 g, .int .i64 i, .slice a d.length c] 72
  have hl := lay_any ⟨s, g, i, d⟩ a c W _ L hs1.tail hin hp
  unfold pcV at *
  simp only at hl ⊢
  have HLB := Lib.hid hl
  clear hl hp hs1 hin
  rcases hd with rfl | ⟨b, q, A, F, rfl, hq, rfl, h80⟩
  · go_enter Tryz.func53, Tryz.ntmps53
    go_wp2_with fail
    refine HLB.out.mono ?_; rintro r w2 ⟨bv, R, rfl, hbr, hs2⟩
    go_wp2_with fail
    go_ret
    exact ⟨rfl, hs2.right⟩
  · have h80' : (q.now.length : Int) < 80 := by omega
    go_enter Tryz.func53, Tryz.ntmps53
    go_wp2_with fail
    refine HLB.out.mono ?_; rintro r w2 ⟨bv, R, rfl, hbr, hs2⟩
    go_wp2_with fail
    refine (blocks_any b q A W w2 (F ++ R) hq (hs2.use (by intro x; simp only [cnt_append, cnt_cons, cnt_nil]; omega))).mono ?_; rintro r w3 ⟨rfl, rfl⟩
    go_wp2_with fail
    go_ret
    exact ⟨rfl, hs2.right⟩

set_option maxRecDepth 100000 in
set_option maxHeartbeats 2000000 in
theorem put_any (b : Nat) (q : Pt) (A : List Atom) (p : Pc) (a : Option Addr) (c : Nat) (W w : World) (L : List Atom) (hq : PtA b q A) (hs : Sat W w (A ++ L)) (hin : ∀ y, Sat W y (A ++ L) → Reads y (.slice a p.data.length c) p.data.length (bts p.data)) (hp : rightP p) (h80 : 80 ≤ q.now.length) (hpl : q.pend.length < 900000) (hw0 : 0 ≤ q.writes) (hw1 : q.writes < 1000000000) :
    Calls Tryz.prog 53 #[.pointer (some ⟨b, 0, none⟩), pcV p (.slice a p.data.length c)] w fun e w' => ∃ A', e = .returned (.int .i64 0) ∧ PtA b (q.wr (placeN p.stripe p.gen) (layB p)) A' ∧ Sat W w' (A' ++ L) := by
  obtain ⟨s, g, i, d⟩ := p
  have hs1 := hs.newCells #[.int .i64 s, .int .i64 g, .int .i64 i, .slice a d.length c] 72
  have hl := lay_any ⟨s, g, i, d⟩ a c W _ _ hs1 (fun y hy => hin y hy.tail) hp
  have hlen := layB_length _ hp.2.2.2.2.2.2
  have hpb := placeI_bounds s g hp.1 hp.2.1
  have hp1 := hp.1
  have hp2 := hp.2.1
  obtain ⟨N, hN⟩ : ∃ N, N = placeN s g := ⟨_, rfl⟩
  have hNI : placeI s g = N := by rw [hN]; unfold placeN; omega
  generalize layB ⟨s, g, i, d⟩ = B at *
  simp only at hp1 hp2
  unfold pcV at *
  simp only at hl ⊢
  rw [← hN]
  have h80' : ¬ (q.now.length : Int) < 80 := by omega
  have HLB := Lib.hid hl
  have HLEN := Lib.hid hlen
  have HNI := Lib.hid hNI
  clear hl hp hs1 hin hs hlen hN hNI
  go_enter Tryz.func53, Tryz.ntmps53
  go_wp2_with fail
  refine HLB.out.mono ?_; rintro r w2 ⟨bv, R, rfl, hbr, hs2⟩
  generalize w.heap.size = z at *
  obtain ⟨ab, cb, rfl⟩ := Ch.RowA.slice hbr
  have hs3 : Sat W w2 (cellsA z #[.int .i64 s, .int .i64 g, .int .i64 i, .slice a d.length c] 72 :: (A ++ (R ++ L))) := hs2.use (by intro x; simp only [cnt_append, cnt_cons, cnt_nil]; omega)
  have hs4 : Sat W w2 (A ++ (R ++ L)) := hs3.tail
  have c0 := hs3.cell m0 0
  have c1 := hs3.cell m0 1
  clear hs2 hs3
  go_wp2_with fail
  refine (blocks_any b q A W w2 _ hq hs4).mono ?_; rintro r w3 ⟨rfl, rfl⟩
  go_wp2_with fail
  refine (place_any s g w2 hp1 (by omega)).mono ?_; rintro r w3 ⟨rfl, rfl⟩
  rw [HNI.out]
  rw [HNI.out] at hpb
  have hw := write_in b q A N _ B W w2 _ hq hs4 (by omega) HLEN.out (hbr.reads (F := A ++ L) (hs4.use (by intro x; simp only [cnt_append, cnt_cons, cnt_nil]; omega))) hpl hw0 hw1
  have HW := Lib.hid hw
  clear hw
  go_wp2_with fail
  refine HW.out.mono ?_; rintro r w4 ⟨A', rfl, hA', hs5⟩
  go_wp2_with fail
  go_ret
  exact ⟨A', rfl, hA', hs5.use (by intro x; simp only [cnt_append, cnt_cons, cnt_nil]; omega)⟩
end Go.Proofs.YtekbbpfnkbanjaaGreat.Ch

namespace Go.Proofs.YtekbbpfnkbanjaaGreat.Ch
set_option linter.unusedSimpArgs false
open Go Go.RowKit Go.Sl Go.BigFrame
set_option linter.unusedVariables false

set_option maxRecDepth 100000 in
theorem len_small (n : Nat) (h : n ≤ 2) (w : World) :
    Calls Tryz.prog 95 #[.int .u64 n] w fun e w' => ∃ m : Int, e = .returned (.int .i64 m) ∧ w = w' := by
  have h64 : Calls Tryz.prog 110 #[.int .u64 n] w fun e w' => ∃ m : Int, e = .returned (.int .i64 m) ∧ w = w' := by
    rcases (by omega : n = 0 ∨ n = 1 ∨ n = 2) with rfl | rfl | rfl
    all_goals
      go_enter Tryz.func110, Tryz.ntmps110
      go_wp2_with fail
      go_ret
      exact ⟨_, rfl, rfl⟩
  obtain ⟨x, hx⟩ : ∃ x : Int, x = n := ⟨_, rfl⟩
  rw [← hx] at h64 ⊢
  clear hx
  go_enter Tryz.func95, Tryz.ntmps95
  go_wp2_with fail
  refine h64.mono ?_; rintro r w2 ⟨m, rfl, rfl⟩
  go_wp2_with fail
  go_ret
  exact ⟨m, rfl, rfl⟩

def pcsC (xs : List (Pc × Value)) : List Value := (xs.map fun x => pcCells x.1 x.2).flatten
theorem pcsC_length (xs : List (Pc × Value)) : (pcsC xs).length = xs.length * 4 := by
  induction xs with
  | nil => rfl
  | cons x xs ih =>
    simp only [pcsC, List.map_cons, List.flatten_cons, List.length_append, List.length_cons] at *
    rw [ih]
    simp [pcCells]
    omega
theorem pcsC_append (xs ys : List (Pc × Value)) : pcsC (xs ++ ys) = pcsC xs ++ pcsC ys := by simp [pcsC]
noncomputable def sort2 : List (Pc × Value) → List (Pc × Value)
  | [x, y] => if x.1.gen < y.1.gen then [y, x] else [x, y]
  | l => l

theorem cmp_any (s g i s2 g2 i2 : Int) (v v2 : Value) (hv : ∃ a n c, v = .slice a n c) (hv2 : ∃ a n c, v2 = .slice a n c) (w : World) (h1 : 0 ≤ g) (h2 : g ≤ 1099511627776) (h3 : 0 ≤ g2) (h4 : g2 ≤ 1099511627776) :
    Calls Tryz.prog 73 #[.agg #[.int .i64 s, .int .i64 g, .int .i64 i, v], .agg #[.int .i64 s2, .int .i64 g2, .int .i64 i2, v2]] w fun e w' => e = .returned (.int .i64 (g2 - g)) ∧ Ext w w' := by
  obtain ⟨a, n, c, rfl⟩ := hv
  obtain ⟨a2, n2, c2, rfl⟩ := hv2
  go_enter Tryz.func73, Tryz.ntmps73
  go_wp2_with fail
  go_ret
  exact ⟨rfl, (Ext.alloc _ _).trans (Ext.alloc _ _)⟩

theorem ins_small (v : Value) (n : Nat) (hn : n ≤ 1) (fv : Value) (w : World) :
    Calls Tryz.prog 101 #[v, .int .i64 0, .int .i64 n, .func (.func 73) #[] #[]] w fun e w' => e = .returned (.tuple #[]) ∧ w = w' := by
  obtain ⟨x, hx⟩ : ∃ x : Int, x = n := ⟨_, rfl⟩
  have h1 : ¬ (1 : Int) < x := by omega
  rw [← hx]
  clear hx hn
  go_enter Tryz.func101, Tryz.ntmps101
  go_wp2_with fail
  refine wp_loop_rounds 1 ?_
  rw [rounds_succ]
  go_wp2_with fail
  go_end0
  exact ⟨rfl, rfl⟩

set_option maxRecDepth 100000 in
theorem ins_two (g off cap : Nat) (p q : Pc) (v1 v2 : Value) (W w : World) (L : List Atom) (hv1 : ∃ a n c, v1 = .slice a n c) (hv2 : ∃ a n c, v2 = .slice a n c) (h1 : 0 ≤ p.gen) (h2 : p.gen ≤ 1099511627776) (h3 : 0 ≤ q.gen) (h4 : q.gen ≤ 1099511627776) (hc : 2 ≤ cap)
    (hs : Sat W w ((g, rowP 72 off (cap * 4) (pcsC [(p, v1), (q, v2)])) :: L)) :
    Calls Tryz.prog 101 #[.slice (some ⟨g, off, none⟩) 2 cap, .int .i64 0, .int .i64 2, .func (.func 73) #[] #[]] w fun e w' => e = .returned (.tuple #[]) ∧ Sat W w' ((g, rowP 72 off (cap * 4) (pcsC (sort2 [(p, v1), (q, v2)]))) :: L) := by
  obtain ⟨s, gn, i, d⟩ := p
  obtain ⟨s2, gn2, i2, d2⟩ := q
  simp only at h1 h2 h3 h4
  have hcell : ∀ y, Sat W y ((g, rowP 72 off (cap * 4) (pcsC [(⟨s, gn, i, d⟩, v1), (⟨s2, gn2, i2, d2⟩, v2)])) :: L) → ∀ j u, (pcsC [(⟨s, gn, i, d⟩, v1), (⟨s2, gn2, i2, d2⟩, v2)])[j]? = some u → y.cell? ⟨g, off + j, none⟩ = some u ∧ y.frozen? ⟨g, off + j, none⟩ = false := fun y hy j u hu => row_cell (G := L) hy j u hu
  obtain ⟨a1, n1, k1', rfl⟩ := hv1
  obtain ⟨a2, n2, k2', rfl⟩ := hv2
  have c0 := (hcell w hs 0 _ rfl).1
  have c1 := (hcell w hs 1 _ rfl).1
  have c2 := (hcell w hs 2 _ rfl).1
  have c3 := (hcell w hs 3 _ rfl).1
  have c4 := (hcell w hs 4 _ rfl).1
  have c5 := (hcell w hs 5 _ rfl).1
  have c6 := (hcell w hs 6 _ rfl).1
  have c7 := (hcell w hs 7 _ rfl).1
  rw [Nat.add_zero] at c0
  go_enter Tryz.func101, Tryz.ntmps101
  go_wp2_with fail
  refine wp_loop_rounds 2 ?_
  rw [rounds_succ]
  go_wp2_with fail
  refine wp_loop_rounds 2 ?_
  rw [rounds_succ]
  go_wp2_with fail
  refine wp_region_one [14] [] [] [] [0, 1, 2, 3, 4, 5, 6, 7, 8, 9, 10, 11, 12, 13, 14, 15, 16] (by kernel_rfl) (by kernel_rfl) ?_
  repeat (first | (refine can_pu1 rfl rfl rfl rfl rfl rfl (fun K hK => ?_); go_big_quiet_op; refine hK _ ?_; clear hK K) | (refine can_st1 rfl rfl rfl rfl rfl rfl (fun K hK => ?_); go_big_quiet_op; refine hK _ ?_; clear hK K) | (refine can_early1 rfl rfl rfl rfl rfl (fun K hK => ?_); go_big_quiet_op; refine hK _ ?_; clear hK K) | (refine can_skip rfl rfl rfl ?_; simp only [Act.put, List.setIfInBounds_toArray, List.set_cons_zero, List.set_cons_succ]))
  refine can_act1 rfl rfl rfl (fun K hK => ?_)
  go_wp2_with fail
  refine (cmp_any s2 gn2 i2 s gn i _ _ ⟨_, _, _, rfl⟩ ⟨_, _, _, rfl⟩ _ h3 h4 h1 h2).mono ?_; rintro r w5 ⟨rfl, hx⟩
  apply hK
  clear hK
  have hs5 := hs.drew.below hx
  by_cases hlt : gn < gn2
  · have b1 : gn - gn2 < 0 := by omega
    have hso : sort2 [((⟨s, gn, i, d⟩ : Pc), Value.slice a1 n1 k1'), (⟨s2, gn2, i2, d2⟩, .slice a2 n2 k2')] = [(⟨s2, gn2, i2, d2⟩, .slice a2 n2 k2'), (⟨s, gn, i, d⟩, .slice a1 n1 k1')] := by
      simp only [sort2]
      rw [if_pos hlt]
    have HSO := Lib.hid hso
    clear hso hlt c0 c1 c2 c3 c4 c5 c6 c7 hx hs
    have c0 := (hcell _ hs5 0 _ rfl).1
    have c1 := (hcell _ hs5 1 _ rfl).1
    have c2 := (hcell _ hs5 2 _ rfl).1
    have c3 := (hcell _ hs5 3 _ rfl).1
    have c4 := (hcell _ hs5 4 _ rfl).1
    have c5 := (hcell _ hs5 5 _ rfl).1
    have c6 := (hcell _ hs5 6 _ rfl).1
    have c7 := (hcell _ hs5 7 _ rfl).1
    have f0 := (hcell _ hs5 0 _ rfl).2
    have f1 := (hcell _ hs5 1 _ rfl).2
    have f2 := (hcell _ hs5 2 _ rfl).2
    have f3 := (hcell _ hs5 3 _ rfl).2
    have f4 := (hcell _ hs5 4 _ rfl).2
    have f5 := (hcell _ hs5 5 _ rfl).2
    have f6 := (hcell _ hs5 6 _ rfl).2
    have f7 := (hcell _ hs5 7 _ rfl).2
    rw [Nat.add_zero] at c0 f0
    repeat (first | (refine can_pu1 rfl rfl rfl rfl rfl rfl (fun K hK => ?_); go_big_quiet_op; refine hK _ ?_; clear hK K) | (refine can_st1 rfl rfl rfl rfl rfl rfl (fun K hK => ?_); go_big_quiet_op; refine hK _ ?_; clear hK K) | (refine can_early1 rfl rfl rfl rfl rfl (fun K hK => ?_); go_big_quiet_op; refine hK _ ?_; clear hK K) | (refine can_skip rfl rfl rfl ?_; simp only [Act.put, List.setIfInBounds_toArray, List.set_cons_zero, List.set_cons_succ]))
    refine can_end1 ?_; (try simp only [Exit.then])
    go_wp2_with fail
    refine wp_region_one [15, 17] [2, 3, 4] [2, 3, 4] [] [0, 1, 2, 3, 4, 5, 6, 7, 8, 9, 10, 11, 12, 13, 14, 15, 16, 17] (by kernel_rfl) (by kernel_rfl) ?_
    repeat (first | (refine can_pu1 rfl rfl rfl rfl rfl rfl (fun K hK => ?_); go_big_quiet_op; refine hK _ ?_; clear hK K) | (refine can_st1 rfl rfl rfl rfl rfl rfl (fun K hK => ?_); go_big_quiet_op; refine hK _ ?_; clear hK K) | (refine can_early1 rfl rfl rfl rfl rfl (fun K hK => ?_); go_big_quiet_op; refine hK _ ?_; clear hK K) | (refine can_skip rfl rfl rfl ?_; simp only [Act.put, List.setIfInBounds_toArray, List.set_cons_zero, List.set_cons_succ]))
    have k1 := row_store hs5.drew 4 (by simp [pcsC, pcCells]) (.int .i64 s)
    have k2 := row_store k1 5 (by simp [pcsC, pcCells]) (.int .i64 gn)
    have k3 := row_store k2 6 (by simp [pcsC, pcCells]) (.int .i64 i)
    have k4 := row_store k3 7 (by simp [pcsC, pcCells]) (.slice a1 n1 k1')
    simp only [pcsC, pcCells, List.map_cons, List.map_nil, List.flatten_cons, List.flatten_nil, List.append_nil, List.cons_append, List.nil_append, List.set_cons_zero, List.set_cons_succ] at k4
    refine can_act1 rfl rfl rfl (fun K hK => ?_)
    go_wp2_with fail
    refine with_sat k4 ?_
    clear k4 k3 k2 k1 hs5 c0 c1 c2 c3 c4 c5 c6 c7 f0 f1 f2 f3 f4 f5 f6 f7
    intro w6 hs6
    obtain ⟨c0, f0⟩ := row_cell (G := L) hs6 0 _ rfl
    obtain ⟨c1, f1⟩ := row_cell (G := L) hs6 1 _ rfl
    obtain ⟨c2, f2⟩ := row_cell (G := L) hs6 2 _ rfl
    obtain ⟨c3, f3⟩ := row_cell (G := L) hs6 3 _ rfl
    rw [Nat.add_zero] at c0 f0
    repeat (first | (refine can_pu1 rfl rfl rfl rfl rfl rfl (fun K hK => ?_); go_big_quiet_op; refine hK _ ?_; clear hK K) | (refine can_st1 rfl rfl rfl rfl rfl rfl (fun K hK => ?_); go_big_quiet_op; refine hK _ ?_; clear hK K) | (refine can_early1 rfl rfl rfl rfl rfl (fun K hK => ?_); go_big_quiet_op; refine hK _ ?_; clear hK K) | (refine can_skip rfl rfl rfl ?_; simp only [Act.put, List.setIfInBounds_toArray, List.set_cons_zero, List.set_cons_succ]))
    have k1 := row_store hs6 0 (by simp) (.int .i64 s2)
    have k2 := row_store k1 1 (by simp) (.int .i64 gn2)
    have k3 := row_store k2 2 (by simp) (.int .i64 i2)
    have k4 := row_store k3 3 (by simp) (.slice a2 n2 k2')
    simp only [List.set_cons_zero, List.set_cons_succ, Nat.add_zero] at k4
    refine can_act1 rfl rfl rfl (fun K hK => ?_)
    go_wp2_with fail
    refine with_sat k4 ?_
    clear k4 k3 k2 k1 hs6 c0 c1 c2 c3 f0 f1 f2 f3
    intro w7 hs7
    refine can_end1 ?_; (try simp only [Exit.then])
    go_wp2_with fail
    rw [rounds_succ]
    go_wp2_with fail
    refine wp_region_one [14] [] [] [] [0, 1, 2, 3, 4, 5, 6, 7, 8, 9, 10, 11, 12, 13, 14, 15, 16] (by kernel_rfl) (by kernel_rfl) ?_
    repeat (first | (refine can_pu1 rfl rfl rfl rfl rfl rfl (fun K hK => ?_); go_big_quiet_op; refine hK _ ?_; clear hK K) | (refine can_st1 rfl rfl rfl rfl rfl rfl (fun K hK => ?_); go_big_quiet_op; refine hK _ ?_; clear hK K) | (refine can_early1 rfl rfl rfl rfl rfl (fun K hK => ?_); go_big_quiet_op; refine hK _ ?_; clear hK K) | (refine can_skip rfl rfl rfl ?_; simp only [Act.put, List.setIfInBounds_toArray, List.set_cons_zero, List.set_cons_succ]))
    refine can_act_skip rfl rfl rfl (fun wz hx => ⟨(fun h => absurd h (by decide)), ?_⟩); obtain rfl : wz = w7.drew := hx
    repeat (first | (refine can_pu1 rfl rfl rfl rfl rfl rfl (fun K hK => ?_); go_big_quiet_op; refine hK _ ?_; clear hK K) | (refine can_st1 rfl rfl rfl rfl rfl rfl (fun K hK => ?_); go_big_quiet_op; refine hK _ ?_; clear hK K) | (refine can_early1 rfl rfl rfl rfl rfl (fun K hK => ?_); go_big_quiet_op; refine hK _ ?_; clear hK K) | (refine can_skip rfl rfl rfl ?_; simp only [Act.put, List.setIfInBounds_toArray, List.set_cons_zero, List.set_cons_succ]))
    refine can_end1 ?_; (try simp only [Exit.then])
    go_wp2_with fail
    rw [rounds_succ]
    go_wp2_with fail
    go_end0
    rw [HSO.out]
    exact ⟨rfl, hs7.drew⟩
  · have b1 : ¬ gn - gn2 < 0 := by omega
    have hso : sort2 [((⟨s, gn, i, d⟩ : Pc), Value.slice a1 n1 k1'), (⟨s2, gn2, i2, d2⟩, .slice a2 n2 k2')] = [((⟨s, gn, i, d⟩ : Pc), Value.slice a1 n1 k1'), (⟨s2, gn2, i2, d2⟩, .slice a2 n2 k2')] := by
      simp only [sort2]
      rw [if_neg hlt]
    have HSO := Lib.hid hso
    clear hso hlt c0 c1 c2 c3 c4 c5 c6 c7 hx hs
    repeat (first | (refine can_pu1 rfl rfl rfl rfl rfl rfl (fun K hK => ?_); go_big_quiet_op; refine hK _ ?_; clear hK K) | (refine can_st1 rfl rfl rfl rfl rfl rfl (fun K hK => ?_); go_big_quiet_op; refine hK _ ?_; clear hK K) | (refine can_early1 rfl rfl rfl rfl rfl (fun K hK => ?_); go_big_quiet_op; refine hK _ ?_; clear hK K) | (refine can_skip rfl rfl rfl ?_; simp only [Act.put, List.setIfInBounds_toArray, List.set_cons_zero, List.set_cons_succ]))
    refine can_end1 ?_; (try simp only [Exit.then])
    go_wp2_with fail
    rw [rounds_succ]
    go_wp2_with fail
    go_end0
    rw [HSO.out]
    exact ⟨rfl, hs5⟩

set_option maxRecDepth 100000 in
theorem sort_by (a : Option Addr) (cap n : Nat) (hn : n ≤ 2) (S : World → Prop) (w : World) (h : Calls Tryz.prog 101 #[.slice a n cap, .int .i64 0, .int .i64 n, .func (.func 73) #[] #[]] w fun e w' => e = .returned (.tuple #[]) ∧ S w') :
    Calls Tryz.prog 72 #[.slice a n cap, .func (.func 73) #[] #[]] w fun e w' => e = .returned (.tuple #[]) ∧ S w' := by
  have hp : ∀ m : Int, Calls Tryz.prog 94 #[.slice a n cap, .int .i64 0, .int .i64 n, .int .i64 m, .func (.func 73) #[] #[]] w fun e w' => e = .returned (.tuple #[]) ∧ S w' := fun m => by
    have h1 : (0 : Int) ≤ n := by omega
    have h2 : (n : Int) ≤ 2 := by omega
    have h3 : (n : Int) ≤ 12 := by omega
    go_enter Tryz.func94, Tryz.ntmps94
    go_wp2_with fail
    refine wp_loop_rounds 1 ?_
    rw [rounds_succ]
    go_wp2_with fail
    refine h.mono ?_; rintro r w2 ⟨rfl, hS⟩
    go_wp2_with fail
    refine bodyPost_ret (results_none rfl _ _ _) rfl ?_
    exact ⟨rfl, hS⟩
  have HP := Lib.hid hp
  have HL := Lib.hid (len_small n hn w)
  have h1 : (0 : Int) ≤ n := by omega
  have h2 : (n : Int) ≤ 2 := by omega
  clear h hp
  go_enter Tryz.func72, Tryz.ntmps72
  go_wp2_with fail
  refine HL.out.mono ?_; rintro r w2 ⟨m, rfl, rfl⟩
  go_wp2_with fail
  refine (HP.out m).mono ?_; rintro r w2 ⟨rfl, hS⟩
  go_wp2_with fail
  go_end0
  exact ⟨rfl, hS⟩

theorem sort_any (xs : List (Pc × Value)) (v : Value) (R : List Atom) (W w : World) (L : List Atom) (hn : xs.length ≤ 2) (hr : RowA 72 4 v xs.length (pcsC xs) R) (hs : Sat W w (R ++ L)) (hg : ∀ x ∈ xs, (0 ≤ x.1.gen ∧ x.1.gen ≤ 1099511627776) ∧ ∃ a n c, x.2 = .slice a n c) :
    Calls Tryz.prog 72 #[v, .func (.func 73) #[] #[]] w fun e w' => e = .returned (.tuple #[]) ∧ ∃ R', RowA 72 4 v (sort2 xs).length (pcsC (sort2 xs)) R' ∧ Sat W w' (R' ++ L) := by
  obtain ⟨a, c, rfl⟩ := Ch.RowA.slice hr
  refine sort_by a c xs.length hn _ w ?_
  rcases xs with _ | ⟨x, _ | ⟨y, _ | ⟨z, xs⟩⟩⟩
  · refine (ins_small _ 0 (by omega) (.int .i64 0) w).mono ?_
    rintro r w2 ⟨rfl, rfl⟩
    exact ⟨rfl, R, hr, hs⟩
  · refine (ins_small _ 1 (by omega) (.int .i64 0) w).mono ?_
    rintro r w2 ⟨rfl, rfl⟩
    exact ⟨rfl, R, hr, hs⟩
  · obtain ⟨⟨x1, x2⟩, x3⟩ := hg x (by simp)
    obtain ⟨⟨y1, y2⟩, y3⟩ := hg y (by simp)
    obtain ⟨g, off, cap, he, h1, h2, rfl⟩ := Ch.RowA.some_of hr (by simp)
    obtain ⟨rfl, rfl⟩ : a = some ⟨g, off, none⟩ ∧ c = cap := by
      cases he
      exact ⟨rfl, rfl⟩
    refine (ins_two g off c x.1 y.1 x.2 y.2 W w L x3 y3 x1 x2 y1 y2 h1 hs).mono ?_
    rintro r w2 ⟨rfl, hs2⟩
    have hlen : (sort2 [x, y]).length = 2 := by
      simp only [sort2]
      split <;> rfl
    refine ⟨rfl, [(g, rowP 72 off (c * 4) (pcsC (sort2 [(x.1, x.2), (y.1, y.2)])))], ?_, hs2⟩
    refine ⟨by rw [pcsC_length], .inr ⟨g, off, c, ?_, ?_, h2, rfl⟩⟩
    · rw [hlen]; rfl
    · rw [hlen]; exact h1
  · simp only [List.length_cons] at hn
    omega
end Go.Proofs.YtekbbpfnkbanjaaGreat.Ch

namespace Go.Proofs.YtekbbpfnkbanjaaGreat.Ch
set_option linter.unusedSimpArgs false
open Go Go.RowKit Go.Sl Go.BigFrame
set_option linter.unusedVariables false

theorem infoPc : (Tryz.prog.info? 72).map (fun i => (i.zero, i.size, i.bytes)) = some (some (.agg #[.int .i64 0, .int .i64 0, .int .i64 0, .slice none 0 0]), 4, 48) := by kernel_rfl

/-- The piece of a stripe in block k, if it is one. -/
noncomputable def getAt (q : Pt) (s : Int) (k : Nat) : Option Pc :=
  match q.now[k]? with
  | some b => match readB b with
    | some p => if p.stripe = s ∧ placeI s p.gen = k then some p else none
    | none => none
  | none => none
noncomputable def srt : List Pc → List Pc
  | [x, y] => if x.gen < y.gen then [y, x] else [x, y]
  | l => l
noncomputable def getN (q : Pt) (s : Int) (k : Nat) : List Pc := ((List.range k).map fun (j : Nat) => getAt q s (placeN s (j : Int))).filterMap id
/-- chunk.Get. -/
noncomputable def getL (q : Pt) (s : Int) : List Pc := srt (getN q s 2)
theorem getN_succ (q : Pt) (s : Int) (k : Nat) : getN q s (k + 1) = getN q s k ++ (getAt q s (placeN s k)).toList := by
  unfold getN
  rw [List.range_succ, List.map_append, List.filterMap_append]
  cases h : getAt q s (placeN s k) <;> simp [h]
theorem sort2_fst (xs : List (Pc × Value)) : (sort2 xs).map Prod.fst = srt (xs.map Prod.fst) := by
  rcases xs with _ | ⟨x, _ | ⟨y, _ | ⟨z, xs⟩⟩⟩
  · rfl
  · rfl
  · simp only [sort2, srt, List.map_cons, List.map_nil]
    split <;> rfl
  · rfl
theorem sort2_mem (xs : List (Pc × Value)) : ∀ x ∈ sort2 xs, x ∈ xs := by
  rcases xs with _ | ⟨x, _ | ⟨y, _ | ⟨z, xs⟩⟩⟩
  · exact fun x h => h
  · exact fun x h => h
  · intro z hz
    simp only [sort2] at hz
    split at hz
    · simp at hz ⊢
      exact hz.symm
    · simpa using hz
  · exact fun x h => h
theorem readB_right {b : List UInt8} {p : Pc} (h : readB b = some p) : rightP p := by
  unfold readB at h
  split at h
  · split at h
    · rename_i h2
      cases h
      exact h2
    · cases h
  · cases h

theorem get_none (dv : Value) (s : Int) (w : World) (h : dv = .pointer none ∨ (∃ b, dv = .pointer (some ⟨b, 0, none⟩)) ∧ (s < 0 ∨ 40 ≤ s)) :
    Calls Tryz.prog 52 #[dv, .int .i64 s] w fun e w' => e = .returned (.slice none 0 0) ∧ w = w' := by
  rcases h with rfl | ⟨⟨b, rfl⟩, h | h⟩
  · go_enter Tryz.func52, Tryz.ntmps52
    go_wp2_with fail
    go_ret
    exact ⟨rfl, rfl⟩
  · go_enter Tryz.func52, Tryz.ntmps52
    go_wp2_with fail
    go_ret
    exact ⟨rfl, rfl⟩
  · have h0 : ¬ s < 0 := by omega
    go_enter Tryz.func52, Tryz.ntmps52
    go_wp2_with fail
    go_ret
    exact ⟨rfl, rfl⟩

/-- The pieces' bytes are blocks among B. -/
def PcBl (B : List Atom) (xs : List (Pc × Value)) : Prop := ∀ x ∈ xs, BlkIn B x.2 x.1.data ∧ rightP x.1

set_option maxRecDepth 100000 in
set_option maxHeartbeats 4000000 in
theorem get_any (b : Nat) (q : Pt) (A : List Atom) (s : Int) (W w : World) (L : List Atom) (hq : PtA b q A) (hs : Sat W w (A ++ L)) (h0 : 0 ≤ s) (h1 : s < 40) (h80 : 80 ≤ q.now.length) (hl : ∀ l ∈ q.now, l.length < 1000000) :
    Calls Tryz.prog 52 #[.pointer (some ⟨b, 0, none⟩), .int .i64 s] w fun e w' => ∃ v xs R B, e = .returned v ∧ RowA 72 4 v xs.length (pcsC xs) R ∧ xs.map Prod.fst = getL q s ∧ PcBl B xs ∧ Sat W w' (R ++ (B ++ (A ++ L))) := by
  have n0 : ¬ s < 0 := by omega
  have n1 : ¬ 40 ≤ s := by omega
  have hp : ∀ j : Nat, j < 2 → placeI s j = (placeN s j : Nat) ∧ placeN s j < 80 := fun j hj => by
    have := placeI_bounds s j h0 h1
    unfold placeN
    omega
  have hp0 := (hp 0 (by omega)).1
  have hp1 := (hp 1 (by omega)).1
  have HP := Lib.hid hp
  have HQ := Lib.hid hq
  have HLQ := Lib.hid hl
  have HP0 := Lib.hid hp0
  have HP1 := Lib.hid hp1
  clear hp hq hl hp0 hp1
  obtain ⟨Z, hZ⟩ : ∃ Z, Z = getL q s := ⟨_, rfl⟩
  rw [← hZ]
  have HZ := Lib.hid hZ
  clear hZ
  go_enter Tryz.func52, Tryz.ntmps52
  go_wp2_with fail
  refine (place_any s 0 w h0 (by omega)).mono ?_; rintro r w3 ⟨rfl, rfl⟩
  rw [show placeI s 0 = _ from HP0.out]
  go_wp2_with fail
  refine (place_any s 1 w h0 (by omega)).mono ?_; rintro r w3 ⟨rfl, rfl⟩
  rw [show placeI s 1 = _ from HP1.out]
  have hs1 := hs.newCells #[.int .i64 (placeN s (0 : Nat)), .int .i64 (placeN s (1 : Nat))] 3
  clear hs
  obtain ⟨zk, hzk⟩ : ∃ zk, zk = w.heap.size := ⟨_, rfl⟩
  rw [← hzk] at hs1
  go_wp2_with fail
  rw [← hzk]
  clear hzk
  go_loopw [28, 5] (fun kv ov wr => ∃ (k : Nat) (xs : List (Pc × Value)) (R B : List Atom), kv = .int .i64 k ∧ k ≤ 2 ∧ xs.length ≤ k ∧ RowA 72 4 ov xs.length (pcsC xs) R ∧ xs.map Prod.fst = getN q s k ∧ PcBl B xs ∧ Sat W wr (R ++ (B ++ (cellsA zk #[.int .i64 (placeN s (0 : Nat)), .int .i64 (placeN s (1 : Nat))] 3 :: (A ++ L))))) (fun kv _ _ => (2 - (intOf kv).toNat))
  case atStart => exact ⟨0, [], [], [], rfl, by omega, by simp, RowA.nil _ _, rfl, (fun x hx => by simp at hx), hs1⟩
  case round =>
    clear hs1
    obtain ⟨k, xs, R, B, rfl, hk, hxl, hr, hxs, hxb, hs⟩ := hrel
    have k0 : (0 : Int) ≤ k := by omega
    have HXS := Lib.hid hxs
    have HXB := Lib.hid hxb
    clear hxs hxb
    obtain ⟨ao, co, rfl⟩ := Ch.RowA.slice hr
    by_cases hkn : k < 2
    · have k1 : (k : Int) < 2 := by omega
      obtain ⟨K, hK⟩ : ∃ K, K = placeN s (k : Nat) := ⟨_, rfl⟩
      have hKp := HP.out k hkn
      rw [← hK] at hKp
      have c0 : wr.cell? ⟨zk, k, none⟩ = some (.int .i64 K) := by
        rw [hs.cell (b := zk) (List.mem_append_right _ (List.mem_append_right _ m0)) k, hK]
        rcases (by omega : k = 0 ∨ k = 1) with rfl | rfl <;> rfl
      obtain ⟨l, hl⟩ : ∃ l, q.now[K]? = some l := ⟨_, List.getElem?_eq_getElem (by omega)⟩
      have hll := HLQ.out l (List.mem_of_getElem? hl)
      have hga : getAt q s K = match readB l with | some p => if p.stripe = s ∧ placeI s p.gen = K then some p else none | none => none := by
        unfold getAt
        rw [hl]
      have hgn : getN q s (k + 1) = getN q s k ++ (getAt q s K).toList := by rw [getN_succ, hK]
      have hrd := read_in b q A K l W wr (R ++ (B ++ (cellsA zk #[.int .i64 (placeN s (0 : Nat)), .int .i64 (placeN s (1 : Nat))] 3 :: L))) HQ.out (hs.use (by intro x; simp only [cnt_append, cnt_cons, cnt_nil]; omega)) hl hll
      have HRD := Lib.hid hrd
      have HGA := Lib.hid hga
      have HGN := Lib.hid hgn
      have HKP := Lib.hid hKp
      clear hrd hga hgn hl hK hKp hs
      go_wp2_with fail
      refine HRD.out.mono ?_; rintro r w4 ⟨v4, R4, rfl, hr4, hs4⟩
      have hcap4 : ∀ a n c, v4 = .slice a n c → n ≤ c := fun a n c h => by
        rcases hr4.2 with ⟨h1, h2, _⟩ | ⟨g, off, cap, h1, h2, _⟩
        · rw [h1] at h; cases h; exact Nat.le_refl _
        · rw [h1] at h; cases h; exact h2
      have hrb := read_any W w4 _ v4 l hs4 (fun y hy => hr4.reads hy) hll hcap4
      obtain ⟨a4, c4, rfl⟩ := Ch.RowA.slice hr4
      have HRB := Lib.hid hrb
      clear hrb hcap4
      go_wp2_with fail
      refine HRB.out.mono ?_; rintro r w5 ⟨bv, R5, rfl, hr5, hs5⟩
      obtain ⟨a5, c5, rfl⟩ := Ch.RowA.slice hr5
      have hga := HGA.out
      have hgn := HGN.out
      clear HRD HRB HGA HGN
      have hs6 : Sat W w5 (R ++ (B ++ (cellsA zk #[.int .i64 (placeN s (0 : Nat)), .int .i64 (placeN s (1 : Nat))] 3 :: (A ++ L)))) := hs5.use (by intro x; simp only [cnt_append, cnt_cons, cnt_nil]; omega)
      rcases hb : readB l with _ | p
      · have e1 : readP l = pc0 := by unfold readP; rw [hb]; rfl
        rw [hb] at hga
        simp only at hga
        rw [hga] at hgn
        have HGN := Lib.hid hgn
        rw [e1]
        unfold pcV pc0
        simp only [Option.isSome_none]
        clear hb e1 hga hgn hr5 hs5
        go_wp2_with fail
        refine ⟨⟨k + 1, xs, R, B, by simp, by omega, by omega, hr, ?_, HXB.out, hs6.alloc _⟩, ?_⟩
        · rw [HGN.out, Option.toList_none, List.append_nil]
          exact HXS.out
        · simp [intOf]
          omega
      · have e1 : readP l = p := by unfold readP; rw [hb]; rfl
        have hright := readB_right hb
        rw [hb] at hga
        simp only at hga
        rw [e1] at hr5 ⊢
        obtain ⟨ps, pg, pi, pd⟩ := p
        unfold pcV
        simp only [Option.isSome_some] at hr5 hga ⊢
        have HR := Lib.hid hright
        clear hb e1 hright
        by_cases hps : ps = s
        · subst hps
          by_cases hpl : placeI ps pg = K
          · rw [if_pos ⟨rfl, hpl⟩] at hga
            rw [hga] at hgn
            have HGN := Lib.hid hgn
            have HPL := Lib.hid hpl
            clear hga hgn hpl
            have hs7 := hs5.newCells #[.int .i64 ps, .int .i64 pg, .int .i64 pi, .slice a5 pd.length c5] 72
            have hs8 := hs7.newCells #[.int .i64 ps, .int .i64 pg, .int .i64 pi, .slice a5 pd.length c5] 72
            have hsz : (w5.alloc (.cells #[.int .i64 ps, .int .i64 pg, .int .i64 pi, .slice a5 pd.length c5] 72)).heap.size = w5.heap.size + 1 := by simp
            have hsrc := reads_cells hs8 m0 1 1 (pcCells ⟨ps, pg, pi, pd⟩ (.slice a5 pd.length c5)) rfl
            rw [hsz] at hs8 hsrc
            have hs9 := Sat.use (M := R ++ (R5 ++ (B ++ (cellsA zk #[.int .i64 (placeN ps (0 : Nat)), .int .i64 (placeN ps (1 : Nat))] 3 :: (A ++ L))))) hs8 (by intro x; simp only [cnt_append, cnt_cons, cnt_nil]; omega)
            clear hsz hs5 hs6 hs7 hs8
            go_wp2_with fail
            refine (place_any ps pg _ h0 (by omega)).mono ?_; rintro r w6 ⟨rfl, rfl⟩
            rw [HPL.out]
            go_wp2_with (at_builtin; go_loud (refine wpList_plain rfl (fun K hK => ?_); refine wp_append_g Tryz.underlying41 infoPc rfl (by decide) (by decide) rfl rfl rfl hr hs9 hsrc rfl (by intro u hu; simp only [pcCells, List.mem_cons, List.not_mem_nil, or_false] at hu; rcases hu with rfl | rfl | rfl | rfl <;> rfl) (by omega) (fun v2 w7 R2 hr2 hs10 => ?_); refine hK _ _ ?_; simp only [Act.put, List.setIfInBounds_toArray, List.set_cons_zero, List.set_cons_succ]; clear hK))
            have hp32 : 0 < pd.length := by
              have := HR.out.2.2.2.2.2.2
              simp only at this
              omega
            have hbi := (BlkIn.of_row hr5 hp32).mono (B' := R5 ++ B) (fun x hx => List.mem_append_left _ hx)
            refine ⟨⟨k + 1, xs ++ [(⟨ps, pg, pi, pd⟩, .slice a5 pd.length c5)], R2, R5 ++ B, by simp, by omega, by simp; omega, ?_, ?_, ?_, hs10.use (by intro x; simp only [cnt_append, cnt_cons, cnt_nil]; omega)⟩, ?_⟩
            · rw [pcsC_append]
              simp only [List.length_append, List.length_cons, List.length_nil]
              exact hr2
            · rw [HGN.out, List.map_append, HXS.out]
              rfl
            · intro x hx
              rcases List.mem_append.1 hx with h | h
              · obtain ⟨h1, h2⟩ := HXB.out x h
                exact ⟨h1.mono (fun y hy => List.mem_append_right _ hy), h2⟩
              · rw [List.mem_singleton] at h
                rw [h]
                exact ⟨hbi, HR.out⟩
            · simp [intOf]
              omega
          · rw [if_neg (fun h => hpl h.2)] at hga
            rw [hga] at hgn
            have HGN := Lib.hid hgn
            have q0 : (placeI ps pg == (K : Int)) = false := by simpa using hpl
            clear hga hgn hr5 hs5 hpl
            go_wp2_with fail
            refine (place_any ps pg _ h0 (by omega)).mono ?_; rintro r w6 ⟨rfl, rfl⟩
            go_wp2_with fail
            refine ⟨⟨k + 1, xs, R, B, by simp, by omega, by omega, hr, ?_, HXB.out, hs6.alloc _⟩, ?_⟩
            · rw [HGN.out, Option.toList_none, List.append_nil]
              exact HXS.out
            · simp [intOf]
              omega
        · rw [if_neg (fun h => hps h.1)] at hga
          rw [hga] at hgn
          have HGN := Lib.hid hgn
          have q0 : (ps == s) = false := by simpa using hps
          clear hga hgn hr5 hs5 hps
          go_wp2_with fail
          refine ⟨⟨k + 1, xs, R, B, by simp, by omega, by omega, hr, ?_, HXB.out, hs6.alloc _⟩, ?_⟩
          · rw [HGN.out, Option.toList_none, List.append_nil]
            exact HXS.out
          · simp [intOf]
            omega
    · have e : k = 2 := by omega
      subst e
      have hgen : ∀ x ∈ xs, (0 ≤ x.1.gen ∧ x.1.gen ≤ 1099511627776) ∧ ∃ a n c, x.2 = .slice a n c := fun x hx => by
        obtain ⟨⟨g, off, cap, h1, _, _⟩, h2⟩ := HXB.out x hx
        exact ⟨⟨by have := h2.2.2.1; omega, h2.2.2.2.1⟩, _, _, _, h1⟩
      have hst := sort_any xs _ R W wr _ hxl hr hs hgen
      have HST := Lib.hid hst
      clear hst hgen hs hr
      go_wp2_with fail
      refine HST.out.mono ?_; rintro r w5 ⟨rfl, R5, hr5, hs5⟩
      go_wp2_with fail
      go_ret
      refine ⟨_, sort2 xs, R5, B, rfl, hr5, ?_, fun x hx => HXB.out x (sort2_mem xs x hx), hs5.use (by intro x; simp only [cnt_append, cnt_cons, cnt_nil]; omega)⟩
      rw [HZ.out, sort2_fst, HXS.out]
      rfl
end Go.Proofs.YtekbbpfnkbanjaaGreat.Ch

namespace Go.Proofs.YtekbbpfnkbanjaaGreat.Ch
set_option linter.unusedSimpArgs false
open Go Go.RowKit Go.Sl Go.BigFrame
set_option linter.unusedVariables false

theorem foldl_num (l : List UInt8) : ∀ n : Int, l.foldl numStep n = n * 256 ^ l.length + numB l := by
  induction l with
  | nil => intro n; simp [numB]
  | cons d l ih =>
    intro n
    have h0 : numB (d :: l) = l.foldl numStep (numStep 0 d) := rfl
    rw [List.foldl_cons, ih, h0, ih, List.length_cons, Int.pow_succ]
    unfold numStep
    generalize (256 : Int) ^ l.length = P
    generalize numB l = N
    rw [Int.add_mul, Int.zero_mul, Int.zero_add, Int.mul_assoc n 256 P, Int.mul_comm 256 P]
    omega
theorem numB_cons (c : UInt8) (l : List UInt8) : numB (c :: l) = c.toNat * 256 ^ l.length + numB l := by
  have h0 : numB (c :: l) = l.foldl numStep (numStep 0 c) := rfl
  rw [h0, foldl_num]
  unfold numStep
  simp
theorem num_bytes (m : Nat) : ∀ k, numB (bytesB (m : Int) k) = ((m % 256 ^ k : Nat) : Int)
  | 0 => by
    simp only [bytesB, Nat.pow_zero, Nat.mod_one]
    rfl
  | k + 1 => by
    rw [bytesB, numB_cons, bytesB_length, byteAt_val, num_bytes m k, Nat.pow_succ, Nat.mod_mul]
    have e2 : (256 : Int) ^ k = ((256 ^ k : Nat) : Int) := (Int.natCast_pow 256 k).symm
    have e : (2 : Int) ^ (8 * k) = ((256 ^ k : Nat) : Int) := by
      rw [Int.pow_mul, ← e2]
      rfl
    rw [e, e2]
    generalize (256 ^ k : Nat) = P
    have e3 : ((m / P % 256 : Nat) : Int) = (m : Int) / P % 256 := by rw [Int.natCast_emod, Int.natCast_ediv]; rfl
    rw [← e3, Int.natCast_add, Int.natCast_mul, Int.mul_comm, Int.add_comm]
theorem num_bytes_of (n : Int) (k : Nat) (h0 : 0 ≤ n) (h1 : n < 256 ^ k) : numB (bytesB n k) = n := by
  obtain ⟨m, rfl⟩ : ∃ m : Nat, n = m := ⟨n.toNat, by omega⟩
  rw [num_bytes, Nat.mod_eq_of_lt]
  have e2 : (256 : Int) ^ k = ((256 ^ k : Nat) : Int) := (Int.natCast_pow 256 k).symm
  rw [e2] at h1
  exact Int.ofNat_lt.1 h1

theorem open_seal (kind : Int) (body : List UInt8) (h0 : 1 ≤ kind) (h1 : kind ≤ 255) (hb : body.length ≤ 153) : openB (sealB kind body) = (kind, body, 0) := by
  have hl := sealB_length kind body hb
  have hh := headB_length kind body hb
  have ht : (sealB kind body).take 156 = headB kind body := by unfold sealB; rw [List.take_append_of_le_length (by omega), List.take_of_length_le (by omega)]
  have hd : (sealB kind body).drop 156 = bytesB (sumB (headB kind body)) 4 := by unfold sealB; rw [List.drop_append_of_le_length (by omega), List.drop_of_length_le (by omega)]; rfl
  obtain ⟨q1, q2⟩ := sumB_bounds (headB kind body)
  have hn : numB (bytesB (sumB (headB kind body)) 4) = sumB (headB kind body) := num_bytes_of _ _ q1 (by
    have : (256 : Int) ^ 4 = 4294967296 := by decide
    omega)
  have g0 : (sealB kind body).getD 0 0 = byteAt kind 0 := rfl
  have g1 : (sealB kind body).getD 1 0 = byteAt body.length 1 := rfl
  have g2 : (sealB kind body).getD 2 0 = byteAt body.length 0 := rfl
  have hm0 : (byteAt (body.length : Int) 0 : UInt8).toNat = body.length := by
    have := byteAt_val (body.length : Int) 0
    omega
  have hm1 : (byteAt (body.length : Int) 1 : UInt8).toNat = 0 := by
    have := byteAt_val (body.length : Int) 1
    omega
  have hk0 : ((byteAt kind 0).toNat : Int) = kind := by
    have := byteAt_val kind 0
    omega
  have hbd : ((sealB kind body).drop 3).take body.length = body := by
    have : (sealB kind body).drop 3 = body ++ (List.replicate (153 - body.length) 0 ++ bytesB (sumB (headB kind body)) 4) := by
      unfold sealB headB
      simp
    rw [this, List.take_append_of_le_length (Nat.le_refl _), List.take_of_length_le (Nat.le_refl _)]
  unfold openB
  rw [if_neg (by omega), ht, hd, hn, if_neg (by simp), g0, g1, g2, hm0, hm1, hk0, Nat.zero_mul, Nat.zero_add, Nat.min_eq_left hb]
  dsimp only
  rw [hbd, if_neg]
  rintro (h | h)
  · omega
  · exact h rfl

theorem pieceOf_piece (p : Pc) (h : rightP p) : pieceOf (pieceB p) = p := by
  obtain ⟨s, g, i, d⟩ := p
  obtain ⟨h1, h2, h3, h4, h5, h6, h7⟩ := h
  simp only at h1 h2 h3 h4 h5 h6 h7
  have e1 : bytesB s 1 = [byteAt s 0] := rfl
  have e2 : bytesB i 1 = [byteAt i 0] := rfl
  have l6 := bytesB_length g 6
  have hp : pieceB ⟨s, g, i, d⟩ = byteAt s 0 :: (bytesB g 6 ++ (byteAt i 0 :: d)) := by
    unfold pieceB
    rw [e1, e2]
    simp
  have hs0 : ((byteAt s 0).toNat : Int) = s := by
    have := byteAt_val s 0
    omega
  have hi0 : ((byteAt i 0).toNat : Int) = i := by
    have := byteAt_val i 0
    omega
  have hg : numB (bytesB g 6) = g := num_bytes_of _ _ (by omega) (by
    have : (256 : Int) ^ 6 = 281474976710656 := by decide
    omega)
  have k7 : (byteAt s 0 :: (bytesB g 6 ++ (byteAt i 0 :: d))).getD 7 0 = byteAt i 0 := by
    simp [List.getD, List.getElem?_append_right, l6]
  have k8 : (byteAt s 0 :: (bytesB g 6 ++ (byteAt i 0 :: d))).drop 8 = d := by
    rw [List.drop_succ_cons, List.drop_append, l6, List.drop_of_length_le (by omega)]
    rfl
  have k1 : ((byteAt s 0 :: (bytesB g 6 ++ (byteAt i 0 :: d))).drop 1).take 6 = bytesB g 6 := by
    rw [List.drop_succ_cons, List.drop_zero, List.take_append_of_le_length (by omega), List.take_of_length_le (by omega)]
  unfold pieceOf
  rw [hp, k1, k7, k8, hg]
  simp only [List.getD_cons_zero, hs0, hi0]
theorem read_lay (p : Pc) (h : rightP p) : readB (layB p) = some p := by
  have hl := pieceB_length p
  have h32 := h.2.2.2.2.2.2
  have ho : openB (layB p) = (1, pieceB p, 0) := open_seal 1 (pieceB p) (by omega) (by omega) (by omega)
  unfold readB
  rw [ho, pieceOf_piece p h, if_pos ⟨rfl, rfl, by simp only; omega⟩, if_pos h]

/-- Nothing is read of a blank block. -/
theorem sum_blank : sumB (List.replicate 156 0) ≠ 0 := by decide +kernel
theorem read_zero : readB zero160 = none := by
  have hl : zero160.length = 160 := by simp [zero160]
  have ht : zero160.take 156 = List.replicate 156 0 := by simp [zero160]
  have hd : zero160.drop 156 = List.replicate 4 0 := by simp [zero160]
  have ho : openB zero160 = (0, [], 3) := by
    unfold openB
    rw [if_neg (by omega), ht, hd, if_pos]
    exact sum_blank
  unfold readB
  rw [ho, if_neg (fun h => absurd h.1 (by decide))]
end Go.Proofs.YtekbbpfnkbanjaaGreat.Ch

namespace Go.Proofs.YtekbbpfnkbanjaaGreat.Ch
set_option linter.unusedSimpArgs false
open Go Go.RowKit Go.Sl Go.BigFrame
set_option linter.unusedVariables false

theorem getAt_wr_ne (q : Pt) (s : Int) {k j : Nat} (l : List UInt8) (h : k ≠ j) : getAt (q.wr k l) s j = getAt q s j := by
  unfold getAt Pt.wr
  simp only [List.getElem?_set_ne h]
theorem getAt_wr_same (q : Pt) (p : Pc) (hp : rightP p) {k : Nat} (hk : k = placeN p.stripe p.gen) (hl : k < q.now.length) : getAt (q.wr k (layB p)) p.stripe k = some p := by
  have h1 := (placeI_bounds p.stripe p.gen hp.1 hp.2.1).1
  unfold getAt Pt.wr
  simp only [List.getElem?_set_self hl, read_lay p hp]
  rw [if_pos ⟨by trivial, by rw [hk]; unfold placeN; omega⟩]
theorem wr_length (q : Pt) (k : Nat) (l : List UInt8) : (q.wr k l).now.length = q.now.length := by simp [Pt.wr]
theorem getAt_blank (n : Nat) (d : List (List UInt8)) (pe : List (Nat × List UInt8)) (wr : Int) (s : Int) (k : Nat) : getAt ⟨d, List.replicate n zero160, pe, wr⟩ s k = none := by
  unfold getAt
  simp only [List.getElem?_replicate]
  split
  · rename_i b h
    split at h
    · cases h
      rw [read_zero]
    · cases h
  · rfl

/-- The example's platter behind k pieces. -/
def q0 : Pt := ⟨List.replicate 96 zero160, List.replicate 96 zero160, [], 0⟩
def pk (g : Int) : Pc := ⟨5, g, 2, bytesOf g 32⟩
def qk : Nat → Pt
  | 0 => q0
  | k + 1 => (qk k).wr (placeN 5 ((k + 1 : Nat) : Int)) (layB (pk ((k + 1 : Nat) : Int)))
theorem pk_right (g : Int) (h0 : 1 ≤ g) (h1 : g ≤ 1099511627776) : rightP (pk g) := ⟨by show (0 : Int) ≤ 5; omega, by show (5 : Int) < 40; omega, h0, h1, by show (0 : Int) ≤ 2; omega, by show (2 : Int) < 6; omega, bytesOf_length _ _⟩
theorem qk_facts : ∀ k, (qk k).now.length = 96 ∧ (qk k).pend.length = k ∧ (qk k).writes = k ∧ ∀ l ∈ (qk k).now, l.length < 1000000
  | 0 => ⟨by simp [qk, q0], rfl, rfl, fun l hl => by
    have : l = zero160 := List.eq_of_mem_replicate hl
    rw [this]
    simp [zero160]⟩
  | k + 1 => by
    obtain ⟨h1, h2, h3, h4⟩ := qk_facts k
    refine ⟨by rw [qk, wr_length, h1], by simp [qk, Pt.wr, h2], by simp [qk, Pt.wr, h3], fun l hl => ?_⟩
    rw [qk] at hl
    rcases List.mem_or_eq_of_mem_set hl with h | h
    · exact h4 l h
    · rw [h, layB_length _ (bytesOf_length _ _)]; omega
theorem known_get : getL (qk 3) 5 = [pk 3, pk 2] := by
  have hp1 : placeN 5 ((1 : Nat) : Int) = 11 := by decide
  have hp2 : placeN 5 ((2 : Nat) : Int) = 10 := by decide
  have hp3 : placeN 5 ((3 : Nat) : Int) = 11 := by decide
  have hp0 : placeN 5 ((0 : Nat) : Int) = 10 := by decide
  have g1 : getAt (qk 3) 5 11 = some (pk 3) := by
    rw [qk]
    have h := getAt_wr_same (qk 2) (pk ((2 + 1 : Nat) : Int)) (pk_right _ (by omega) (by omega)) (k := 11) hp3.symm (by rw [(qk_facts 2).1]; decide)
    rw [show placeN 5 ((2 + 1 : Nat) : Int) = 11 from hp3]
    exact h
  have g0 : getAt (qk 3) 5 10 = some (pk 2) := by
    rw [qk, getAt_wr_ne _ _ _ (by rw [show placeN 5 ((2 + 1 : Nat) : Int) = 11 from hp3]; decide), qk]
    have h := getAt_wr_same (qk 1) (pk ((1 + 1 : Nat) : Int)) (pk_right _ (by omega) (by omega)) (k := 10) hp2.symm (by rw [(qk_facts 1).1]; decide)
    rw [show placeN 5 ((1 + 1 : Nat) : Int) = 10 from hp2]
    exact h
  have hn : getN (qk 3) 5 2 = [pk 2, pk 3] := by
    rw [getN_succ, getN_succ, hp0, hp1, g0, g1]
    rfl
  unfold getL
  rw [hn]
  simp only [srt]
  rw [if_pos]
  show (2 : Int) < 3
  omega
end Go.Proofs.YtekbbpfnkbanjaaGreat.Ch
