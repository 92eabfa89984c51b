/-
  chunk.Put.
-/
import Derived.Test.YtdkhgkkdnjejmaaChR
namespace Go.Proofs.Ytdkhgkkdnjejmaa.Ch
set_option linter.unusedSimpArgs false
open Go Go.RowKit Go.Sl Go.BigFrame
set_option linter.unusedVariables false

theorem placeI_bounds (s g : Int) (h0 : 0 ≤ s) (h1 : s < 40) : 0 ≤ placeI s g ∧ placeI s g < 80 := by
  have b1 : 0 ≤ g % 2 := Int.emod_nonneg _ (by decide)
  have b2 : g % 2 < 2 := Int.emod_lt_of_pos _ (by decide)
  unfold placeI
  omega
def placeN (s g : Int) : Nat := (placeI s g).toNat

/-- A piece that may not be is refused. -/
theorem put_bad (dv : Value) (p : Pc) (a : Option Addr) (c : Nat) (W w : World) (L : List Atom) (hs : Sat W w L) (hp : ¬ rightP p) (hd : dv = .pointer none ∨ ∃ b q A F, dv = .pointer (some ⟨b, 0, none⟩) ∧ PtA b q A ∧ L = A ++ F) :
    Calls Try.prog 26 #[dv, pcV p (.slice a p.data.length c)] w fun e w' => e = .returned (.int .i64 1) ∧ Sat W w' L := by
  obtain ⟨s, g, i, d⟩ := p
  have hl := lay_bad ⟨s, g, i, d⟩ a c W (w.alloc (.cells #[.int .i64 s, .int .i64 g, .int .i64 i, .slice a d.length c] 45)) L (hs.alloc _) hp
  unfold pcV at *
  simp only at hl ⊢
  have HLB := Lib.hid hl
  clear hl hp
  rcases hd with rfl | ⟨b, q, A, F, rfl, hq, rfl⟩
  · go_enter Try.func26, Try.ntmps26
    go_wp2_with fail
    refine HLB.out.mono ?_; rintro r w2 ⟨rfl, hs2⟩
    go_wp2_with fail
    go_ret
    exact ⟨rfl, hs2⟩
  · go_enter Try.func26, Try.ntmps26
    go_wp2_with fail
    refine HLB.out.mono ?_; rintro r w2 ⟨rfl, hs2⟩
    go_wp2_with fail
    refine (blocks_any b q A W w2 F hq hs2).mono ?_; rintro r w3 ⟨rfl, rfl⟩
    by_cases h80 : (q.now.length : Int) < 80
    · go_wp2_with fail
      go_ret
      exact ⟨rfl, hs2⟩
    · go_wp2_with fail
      go_ret
      exact ⟨rfl, hs2⟩

/-- No platter, or one that is too small. -/
theorem put_small (dv : Value) (p : Pc) (a : Option Addr) (c : Nat) (W w : World) (L : List Atom) (hs : Sat W w L) (hin : ∀ y, Sat W y L → Reads y (.slice a p.data.length c) p.data.length (bts p.data)) (hd : dv = .pointer none ∨ ∃ b q A F, dv = .pointer (some ⟨b, 0, none⟩) ∧ PtA b q A ∧ L = A ++ F ∧ q.now.length < 80) :
    Calls Try.prog 26 #[dv, pcV p (.slice a p.data.length c)] w fun e w' => e = .returned (.int .i64 1) ∧ Sat W w' L := by
  by_cases hp : rightP p
  case neg => exact put_bad dv p a c W w L hs hp (hd.imp id fun ⟨b, q, A, F, h1, h2, h3, _⟩ => ⟨b, q, A, F, h1, h2, h3⟩)
  obtain ⟨s, g, i, d⟩ := p
  have hs1 := hs.newCells #[.int .i64 s, .int .i64 g, .int .i64 i, .slice a d.length c] 45
  have hl := lay_any ⟨s, g, i, d⟩ a c W _ L hs1.tail hin hp
  unfold pcV at *
  simp only at hl ⊢
  have HLB := Lib.hid hl
  clear hl hp hs1 hin
  rcases hd with rfl | ⟨b, q, A, F, rfl, hq, rfl, h80⟩
  · go_enter Try.func26, Try.ntmps26
    go_wp2_with fail
    refine HLB.out.mono ?_; rintro r w2 ⟨bv, R, rfl, hbr, hs2⟩
    go_wp2_with fail
    go_ret
    exact ⟨rfl, hs2.right⟩
  · have h80' : (q.now.length : Int) < 80 := by omega
    go_enter Try.func26, Try.ntmps26
    go_wp2_with fail
    refine HLB.out.mono ?_; rintro r w2 ⟨bv, R, rfl, hbr, hs2⟩
    go_wp2_with fail
    refine (blocks_any b q A W w2 (F ++ R) hq (hs2.use (by intro x; simp only [cnt_append, cnt_cons, cnt_nil]; omega))).mono ?_; rintro r w3 ⟨rfl, rfl⟩
    go_wp2_with fail
    go_ret
    exact ⟨rfl, hs2.right⟩

set_option maxRecDepth 100000 in
set_option maxHeartbeats 2000000 in
theorem put_any (b : Nat) (q : Pt) (A : List Atom) (p : Pc) (a : Option Addr) (c : Nat) (W w : World) (L : List Atom) (hq : PtA b q A) (hs : Sat W w (A ++ L)) (hin : ∀ y, Sat W y (A ++ L) → Reads y (.slice a p.data.length c) p.data.length (bts p.data)) (hp : rightP p) (h80 : 80 ≤ q.now.length) (hpl : q.pend.length < 900000) (hw0 : 0 ≤ q.writes) (hw1 : q.writes < 1000000000) :
    Calls Try.prog 26 #[.pointer (some ⟨b, 0, none⟩), pcV p (.slice a p.data.length c)] w fun e w' => ∃ A', e = .returned (.int .i64 0) ∧ PtA b (q.wr (placeN p.stripe p.gen) (layB p)) A' ∧ Sat W w' (A' ++ L) := by
  obtain ⟨s, g, i, d⟩ := p
  have hs1 := hs.newCells #[.int .i64 s, .int .i64 g, .int .i64 i, .slice a d.length c] 45
  have hl := lay_any ⟨s, g, i, d⟩ a c W _ _ hs1 (fun y hy => hin y hy.tail) hp
  have hlen := layB_length _ hp.2.2.2.2.2.2
  have hpb := placeI_bounds s g hp.1 hp.2.1
  have hp1 := hp.1
  have hp2 := hp.2.1
  obtain ⟨N, hN⟩ : ∃ N, N = placeN s g := ⟨_, rfl⟩
  have hNI : placeI s g = N := by rw [hN]; unfold placeN; omega
  generalize layB ⟨s, g, i, d⟩ = B at *
  simp only at hp1 hp2
  unfold pcV at *
  simp only at hl ⊢
  rw [← hN]
  have h80' : ¬ (q.now.length : Int) < 80 := by omega
  have HLB := Lib.hid hl
  have HLEN := Lib.hid hlen
  have HNI := Lib.hid hNI
  clear hl hp hs1 hin hs hlen hN hNI
  go_enter Try.func26, Try.ntmps26
  go_wp2_with fail
  refine HLB.out.mono ?_; rintro r w2 ⟨bv, R, rfl, hbr, hs2⟩
  generalize w.heap.size = z at *
  obtain ⟨ab, cb, rfl⟩ := Ch.RowA.slice hbr
  have hs3 : Sat W w2 (cellsA z #[.int .i64 s, .int .i64 g, .int .i64 i, .slice a d.length c] 45 :: (A ++ (R ++ L))) := hs2.use (by intro x; simp only [cnt_append, cnt_cons, cnt_nil]; omega)
  have hs4 : Sat W w2 (A ++ (R ++ L)) := hs3.tail
  have c0 := hs3.cell m0 0
  have c1 := hs3.cell m0 1
  clear hs2 hs3
  go_wp2_with fail
  refine (blocks_any b q A W w2 _ hq hs4).mono ?_; rintro r w3 ⟨rfl, rfl⟩
  go_wp2_with fail
  refine (place_any s g w2 hp1 (by omega)).mono ?_; rintro r w3 ⟨rfl, rfl⟩
  rw [HNI.out]
  rw [HNI.out] at hpb
  have hw := write_in b q A N _ B W w2 _ hq hs4 (by omega) HLEN.out (hbr.reads (F := A ++ L) (hs4.use (by intro x; simp only [cnt_append, cnt_cons, cnt_nil]; omega))) hpl hw0 hw1
  have HW := Lib.hid hw
  clear hw
  go_wp2_with fail
  refine HW.out.mono ?_; rintro r w4 ⟨A', rfl, hA', hs5⟩
  go_wp2_with fail
  go_ret
  exact ⟨A', rfl, hA', hs5.use (by intro x; simp only [cnt_append, cnt_cons, cnt_nil]; omega)⟩
end Go.Proofs.Ytdkhgkkdnjejmaa.Ch
