/-
  The document's LayPiece.
-/
import Derived.Test.YtdkhgkkdnjejmaaRcD
namespace Go.Proofs.Ytdkhgkkdnjejmaa.Ch
set_option linter.unusedSimpArgs false
open Go Go.RowKit Go.Sl Go.BigFrame
set_option linter.unusedVariables false

theorem ref_lay_bad (p : Pc) (a : Option Addr) (c : Nat) (W w : World) (L : List Atom) (hs : Sat W w L) (hp : ¬ rightP p) :
    Calls Try.prog 36 #[pcV p (.slice a p.data.length c)] w fun e w' => e = .returned (.tuple #[.slice none 0 0, .bool false]) ∧ Sat W w' L := by
  obtain ⟨s, g, i, d⟩ := p
  unfold pcV
  simp only []
  have hr := ref_right ⟨s, g, i, d⟩ a c
  rw [decide_eq_false hp] at hr
  unfold pcV at hr
  simp only at hr
  have HR := Lib.hid hr
  clear hr
  go_enter Try.func36, Try.ntmps36
  go_wp2_with fail
  refine (HR.out _).mono ?_; rintro r w2 ⟨rfl, hx⟩
  have hs2 : Sat W w2 L := (hs.alloc _).below hx
  go_wp2_with fail
  go_ret2
  exact ⟨rfl, hs2⟩

set_option maxRecDepth 100000 in
set_option maxHeartbeats 4000000 in
theorem ref_lay (p : Pc) (a : Option Addr) (c : Nat) (W w : World) (L : List Atom) (hs : Sat W w L) (hin : ∀ y, Sat W y L → Reads y (.slice a p.data.length c) p.data.length (bts p.data)) (hp : rightP p) :
    Calls Try.prog 36 #[pcV p (.slice a p.data.length c)] w fun e w' => ∃ bv R, e = .returned (.tuple #[bv, .bool true]) ∧ RowA 5 1 bv (layB p).length (bts (layB p)) R ∧ Sat W w' (R ++ L) := by
  have hr := ref_right p a c
  rw [decide_eq_true hp] at hr
  have hb := fun (w : World) (L' : List Atom) (h : Sat W w L') (h2 : ∀ y, Sat W y L' → Sat W y L) => ref_bytes p a c W w L' h (fun y hy => hin y (h2 y hy)) hp
  have hlen : (pieceB p).length ≤ 153 := by
    have := pieceB_length p
    have := hp.2.2.2.2.2.2
    omega
  unfold layB
  obtain ⟨s, g, i, d⟩ := p
  generalize pieceB ⟨s, g, i, d⟩ = M at *
  unfold pcV at *
  simp only at *
  have HR := Lib.hid hr
  have HB := Lib.hid hb
  have HL := Lib.hid hlen
  clear hr hb hin hp hlen
  go_enter Try.func36, Try.ntmps36
  go_wp2_with fail
  refine (HR.out _).mono ?_; rintro r w2 ⟨rfl, hx⟩
  have hs2 : Sat W w2 (cellsA w.heap.size #[.int .i64 s, .int .i64 g, .int .i64 i, .slice a d.length c] 45 :: L) := (hs.newCells _ _).below hx
  have c0 := hs2.cell m0 0
  have c1 := hs2.cell m0 1
  have c2 := hs2.cell m0 2
  have c3 := hs2.cell m0 3
  generalize w.heap.size = z at *
  clear hs hx
  go_wp2_with fail
  refine (HB.out w2 _ hs2 (fun y hy => hy.tail)).mono ?_; rintro r w3 ⟨v1, R1, rfl, hr1, hs3⟩
  clear c0 c1 c2 c3 hs2
  go_wp2_with fail
  refine (ref_seal 1 v1 M W _ _ (by omega) (by omega) HL.out hs3 (fun y hy => hr1.reads (hs3.below hy))).mono ?_; rintro r w4 ⟨v2, R2, rfl, hr2, hs4⟩
  go_wp2_with fail
  go_ret2
  exact ⟨v2, R2, rfl, hr2, hs4.use (by intro x; simp only [cnt_append, cnt_cons, cnt_nil]; omega)⟩
end Go.Proofs.Ytdkhgkkdnjejmaa.Ch
