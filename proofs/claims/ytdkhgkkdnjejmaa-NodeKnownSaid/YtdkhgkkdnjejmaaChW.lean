/-
  corbellaw8.one and known.
-/
import Derived.Test.YtdkhgkkdnjejmaaChV
namespace Go.Proofs.Ytdkhgkkdnjejmaa.Ch
set_option linter.unusedSimpArgs false
open Go Go.RowKit Go.Sl Go.BigFrame
set_option linter.unusedVariables false

theorem getAt_wr_ne (q : Pt) (s : Int) {k j : Nat} (l : List UInt8) (h : k ≠ j) : getAt (q.wr k l) s j = getAt q s j := by
  unfold getAt Pt.wr
  simp only [List.getElem?_set_ne h]
theorem getAt_wr_same (q : Pt) (p : Pc) (hp : rightP p) {k : Nat} (hk : k = placeN p.stripe p.gen) (hl : k < q.now.length) : getAt (q.wr k (layB p)) p.stripe k = some p := by
  have h1 := (placeI_bounds p.stripe p.gen hp.1 hp.2.1).1
  unfold getAt Pt.wr
  simp only [List.getElem?_set_self hl, read_lay p hp]
  rw [if_pos ⟨by trivial, by rw [hk]; unfold placeN; omega⟩]
theorem wr_length (q : Pt) (k : Nat) (l : List UInt8) : (q.wr k l).now.length = q.now.length := by simp [Pt.wr]
theorem getAt_blank (n : Nat) (d : List (List UInt8)) (pe : List (Nat × List UInt8)) (wr : Int) (s : Int) (k : Nat) : getAt ⟨d, List.replicate n zero160, pe, wr⟩ s k = none := by
  unfold getAt
  simp only [List.getElem?_replicate]
  split
  · rename_i b h
    split at h
    · cases h
      rw [read_zero]
    · cases h
  · rfl

theorem one_any (s g i n : Int) (W w : World) (L : List Atom) (hs : Sat W w L) :
    Calls Try.prog 27 #[.int .i64 s, .int .i64 g, .int .i64 i, .int .i64 n] w fun e w' => ∃ v R, e = .returned (pcV ⟨s, g, i, bytesOf n 32⟩ v) ∧ RowA 5 1 v (bytesOf n 32).length (bts (bytesOf n 32)) R ∧ Sat W w' (R ++ L) := by
  have hb := bytes_of n 32 W _ _ (by omega) (hs.newCells #[.int .i64 0, .int .i64 0, .int .i64 0, .slice none 0 0] 45)
  have HB := Lib.hid hb
  have hl := bytesOf_length n 32
  generalize bytesOf n 32 = B at *
  have HL := Lib.hid hl
  clear hb hl
  go_enter Try.func27, Try.ntmps27
  go_wp2_with fail
  refine HB.out.mono ?_; rintro r w2 ⟨v, R, rfl, hv, hs2⟩
  generalize w.heap.size = z at *
  obtain ⟨a, c, rfl⟩ := Ch.RowA.slice hv
  have hs3 : Sat W w2 (cellsA z #[.int .i64 0, .int .i64 0, .int .i64 0, .slice none 0 0] 45 :: (R ++ L)) := hs2.use (by intro x; simp only [cnt_append, cnt_cons, cnt_nil]; omega)
  have z0 := hs3.cell m0 0
  have z1 := hs3.cell m0 1
  have z2 := hs3.cell m0 2
  have z3 := hs3.cell m0 3
  have f0 := hs3.free m0 0
  have f1 := hs3.free m0 1
  have f2 := hs3.free m0 2
  have f3 := hs3.free m0 3
  have hs4 := Sat.setCell (Sat.setCell (Sat.setCell (Sat.setCell hs3 0 (.int .i64 s)) 1 (.int .i64 g)) 2 (.int .i64 i)) 3 (.slice a 32 c)
  clear hs2 hs hs3
  go_wp2_with fail
  refine bodyPost_ret (v := pcV ⟨s, g, i, B⟩ (.slice a 32 c)) (by simp [results, Try.results27, go_sem, pcV, *]) rfl ?_
  rw [← HL.out] at hv hs4 ⊢
  first
    | exact ⟨_, R, rfl, hv, hs4.tail⟩
    | exact ⟨_, rfl, R, hv, hs4.tail⟩

/-- The example's platter behind k pieces. -/
def q0 : Pt := ⟨List.replicate 96 zero160, List.replicate 96 zero160, [], 0⟩
def pk (g : Int) : Pc := ⟨5, g, 2, bytesOf g 32⟩
def qk : Nat → Pt
  | 0 => q0
  | k + 1 => (qk k).wr (placeN 5 ((k + 1 : Nat) : Int)) (layB (pk ((k + 1 : Nat) : Int)))
theorem pk_right (g : Int) (h0 : 1 ≤ g) (h1 : g ≤ 1099511627776) : rightP (pk g) := ⟨by show (0 : Int) ≤ 5; omega, by show (5 : Int) < 40; omega, h0, h1, by show (0 : Int) ≤ 2; omega, by show (2 : Int) < 6; omega, bytesOf_length _ _⟩
theorem qk_facts : ∀ k, (qk k).now.length = 96 ∧ (qk k).pend.length = k ∧ (qk k).writes = k ∧ ∀ l ∈ (qk k).now, l.length < 1000000
  | 0 => ⟨by simp [qk, q0], rfl, rfl, fun l hl => by
    have : l = zero160 := List.eq_of_mem_replicate hl
    rw [this]
    simp [zero160]⟩
  | k + 1 => by
    obtain ⟨h1, h2, h3, h4⟩ := qk_facts k
    refine ⟨by rw [qk, wr_length, h1], by simp [qk, Pt.wr, h2], by simp [qk, Pt.wr, h3], fun l hl => ?_⟩
    rw [qk] at hl
    rcases List.mem_or_eq_of_mem_set hl with h | h
    · exact h4 l h
    · rw [h, layB_length _ (bytesOf_length _ _)]; omega
theorem known_get : getL (qk 3) 5 = [pk 3, pk 2] := by
  have hp1 : placeN 5 ((1 : Nat) : Int) = 11 := by decide
  have hp2 : placeN 5 ((2 : Nat) : Int) = 10 := by decide
  have hp3 : placeN 5 ((3 : Nat) : Int) = 11 := by decide
  have hp0 : placeN 5 ((0 : Nat) : Int) = 10 := by decide
  have g1 : getAt (qk 3) 5 11 = some (pk 3) := by
    rw [qk]
    have h := getAt_wr_same (qk 2) (pk ((2 + 1 : Nat) : Int)) (pk_right _ (by omega) (by omega)) (k := 11) hp3.symm (by rw [(qk_facts 2).1]; decide)
    rw [show placeN 5 ((2 + 1 : Nat) : Int) = 11 from hp3]
    exact h
  have g0 : getAt (qk 3) 5 10 = some (pk 2) := by
    rw [qk, getAt_wr_ne _ _ _ (by rw [show placeN 5 ((2 + 1 : Nat) : Int) = 11 from hp3]; decide), qk]
    have h := getAt_wr_same (qk 1) (pk ((1 + 1 : Nat) : Int)) (pk_right _ (by omega) (by omega)) (k := 10) hp2.symm (by rw [(qk_facts 1).1]; decide)
    rw [show placeN 5 ((1 + 1 : Nat) : Int) = 10 from hp2]
    exact h
  have hn : getN (qk 3) 5 2 = [pk 2, pk 3] := by
    rw [getN_succ, getN_succ, hp0, hp1, g0, g1]
    rfl
  unfold getL
  rw [hn]
  simp only [srt]
  rw [if_pos]
  show (2 : Int) < 3
  omega
end Go.Proofs.Ytdkhgkkdnjejmaa.Ch
