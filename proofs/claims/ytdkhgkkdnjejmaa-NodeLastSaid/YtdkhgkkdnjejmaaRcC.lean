/-
  The document's RightPiece, Place, SamePiece, pieceBytes, LayPiece.
-/
import Derived.Test.YtdkhgkkdnjejmaaRcB
import Derived.Test.YtdkhgkkdnjejmaaChM
import Derived.Laws.IdiomStrings
import Derived.Lib.BufferRead
namespace Go.Proofs.Ytdkhgkkdnjejmaa.Ch
set_option linter.unusedSimpArgs false
open Go Go.RowKit Go.Sl Go.BigFrame
set_option linter.unusedVariables false

set_option maxRecDepth 100000 in
theorem ref_right (p : Pc) (a : Option Addr) (c : Nat) (w : World) :
    Calls Try.prog 37 #[pcV p (.slice a p.data.length c)] w fun e w' => e = .returned (.bool (decide (rightP p))) ∧ Ext w w' := by
  obtain ⟨s, g, i, d⟩ := p
  unfold pcV
  simp only []
  by_cases hr : rightP ⟨s, g, i, d⟩
  · rw [decide_eq_true hr]
    obtain ⟨h1, h2, h3, h4, h5, h6, h7⟩ := hr
    simp only at h1 h2 h3 h4 h5 h6 h7
    rw [h7]
    go_enter Try.func37, Try.ntmps37
    go_wp2_with fail
    go_ret
    refine ⟨?_, ?_⟩
    · rfl
    · exact Ext.alloc _ _
  · rw [decide_eq_false hr]
    have HR := Lib.hid hr
    clear hr
    by_cases h1 : 0 ≤ s
    case neg =>
      go_enter Try.func37, Try.ntmps37
      go_wp2_with fail
      go_ret
      refine ⟨?_, ?_⟩
      · rfl
      · exact Ext.alloc _ _
    by_cases h2 : s < 40
    case neg =>
      go_enter Try.func37, Try.ntmps37
      go_wp2_with fail
      go_ret
      refine ⟨?_, ?_⟩
      · rfl
      · exact Ext.alloc _ _
    by_cases h3 : 1 ≤ g
    case neg =>
      go_enter Try.func37, Try.ntmps37
      go_wp2_with fail
      go_ret
      refine ⟨?_, ?_⟩
      · rfl
      · exact Ext.alloc _ _
    by_cases h4 : g ≤ 1099511627776
    case neg =>
      go_enter Try.func37, Try.ntmps37
      go_wp2_with fail
      go_ret
      refine ⟨?_, ?_⟩
      · rfl
      · exact Ext.alloc _ _
    by_cases h5 : 0 ≤ i
    case neg =>
      go_enter Try.func37, Try.ntmps37
      go_wp2_with fail
      go_ret
      refine ⟨?_, ?_⟩
      · rfl
      · exact Ext.alloc _ _
    by_cases h6 : i < 6
    case neg =>
      go_enter Try.func37, Try.ntmps37
      go_wp2_with fail
      go_ret
      refine ⟨?_, ?_⟩
      · rfl
      · exact Ext.alloc _ _
    have h7 : ¬ (d.length : Int) = 32 := fun h => HR.out ⟨h1, h2, h3, h4, h5, h6, by simpa using (by omega : d.length = 32)⟩
    have h8 : ((d.length : Int) == 32) = false := by simpa using h7
    go_enter Try.func37, Try.ntmps37
    go_wp2_with fail
    go_ret
    refine ⟨?_, ?_⟩
    · rfl
    · exact Ext.alloc _ _


theorem ref_place (s g : Int) (w : World) (h0 : 0 ≤ s) (h1 : s < 1000) (hg : 0 ≤ g) :
    Calls Try.prog 42 #[.int .i64 s, .int .i64 g] w fun e w' => e = .returned (.int .i64 (placeI s g)) ∧ w = w' := by
  have b1 : 0 ≤ g % 2 := Int.emod_nonneg _ (by decide)
  have b2 : g % 2 < 2 := Int.emod_lt_of_pos _ (by decide)
  have ha : g.tmod 2 = g % 2 := Int.tmod_eq_emod_of_nonneg hg
  unfold placeI
  generalize g % 2 = y at *
  go_enter Try.func42, Try.ntmps42
  go_wp2_with fail
  go_ret
  exact ⟨rfl, rfl⟩

/-- string(b). -/
theorem str_of (v : Value) (l : List UInt8) (w : World) (hr : Reads w v l.length (bts l)) : (convert 32 9 v).run Try.prog w = .ok (.string ⟨l.toArray⟩) w := by
  rcases hr with ⟨rfl, h2, _⟩ | ⟨a, c, rfl, hc⟩
  · obtain rfl : l = [] := List.length_eq_zero_iff.1 h2
    exact Go.Lib.run_convert_nil_bytes w _ _ _ 0 Try.underlying32 Try.underlying5 Try.underlying9
  · exact run_convert_bytes_back w _ _ _ a c l Try.underlying32 Try.underlying5 Try.underlying9 (fun j hj => hc j _ (bts_get (List.getElem?_eq_getElem hj)))
set_option maxRecDepth 100000 in
theorem ref_same (p q : Pc) (v v2 : Value) (W w : World) (L : List Atom) (hs : Sat W w L) (h1 : ∀ y, Sat W y L → Reads y v p.data.length (bts p.data)) (h2 : ∀ y, Sat W y L → Reads y v2 q.data.length (bts q.data)) (hl : p.data.length < 1000000) (hl2 : q.data.length < 1000000) :
    Calls Try.prog 41 #[pcV p v, pcV q v2] w fun e w' => e = .returned (.bool (decide (p = q))) ∧ Sat W w' L := by
  obtain ⟨s, g, i, d⟩ := p
  obtain ⟨s2, g2, i2, d2⟩ := q
  obtain ⟨av, cv, rfl⟩ := reads_shape (h1 w hs)
  obtain ⟨av2, cv2, rfl⟩ := reads_shape (h2 w hs)
  simp only at h1 h2 hl hl2
  unfold pcV
  simp only []
  by_cases e1 : s = s2
  case neg =>
    have hne : ¬ (⟨s, g, i, d⟩ : Pc) = ⟨s2, g2, i2, d2⟩ := fun h => e1 (by injection h)
    have q0 : (s == s2) = false := by simpa using e1
    rw [decide_eq_false hne]
    clear hne
    have hs2 : Sat W _ L := (hs.alloc (.cells #[.int .i64 s, .int .i64 g, .int .i64 i, .slice av d.length cv] 45)).alloc (.cells #[.int .i64 s2, .int .i64 g2, .int .i64 i2, .slice av2 d2.length cv2] 45)
    go_enter Try.func41, Try.ntmps41
    go_wp2_with fail
    go_ret
    exact ⟨rfl, hs2⟩
  case pos =>
  subst e1
  by_cases e2 : g = g2
  case neg =>
    have hne : ¬ (⟨s, g, i, d⟩ : Pc) = ⟨s, g2, i2, d2⟩ := fun h => e2 (by injection h)
    have q0 : (g == g2) = false := by simpa using e2
    rw [decide_eq_false hne]
    clear hne
    have hs2 : Sat W _ L := (hs.alloc (.cells #[.int .i64 s, .int .i64 g, .int .i64 i, .slice av d.length cv] 45)).alloc (.cells #[.int .i64 s, .int .i64 g2, .int .i64 i2, .slice av2 d2.length cv2] 45)
    go_enter Try.func41, Try.ntmps41
    go_wp2_with fail
    go_ret
    exact ⟨rfl, hs2⟩
  case pos =>
  subst e2
  by_cases e3 : i = i2
  case neg =>
    have hne : ¬ (⟨s, g, i, d⟩ : Pc) = ⟨s, g, i2, d2⟩ := fun h => e3 (by injection h)
    have q0 : (i == i2) = false := by simpa using e3
    rw [decide_eq_false hne]
    clear hne
    have hs2 : Sat W _ L := (hs.alloc (.cells #[.int .i64 s, .int .i64 g, .int .i64 i, .slice av d.length cv] 45)).alloc (.cells #[.int .i64 s, .int .i64 g, .int .i64 i2, .slice av2 d2.length cv2] 45)
    go_enter Try.func41, Try.ntmps41
    go_wp2_with fail
    go_ret
    exact ⟨rfl, hs2⟩
  case pos =>
  subst e3
  have hs2 : Sat W _ L := (hs.alloc (.cells #[.int .i64 s, .int .i64 g, .int .i64 i, .slice av d.length cv] 45)).alloc (.cells #[.int .i64 s, .int .i64 g, .int .i64 i, .slice av2 d2.length cv2] 45)
  have he : decide ((⟨s, g, i, d⟩ : Pc) = ⟨s, g, i, d2⟩) = (d == d2) := by
    by_cases h : d = d2
    · rw [decide_eq_true (by rw [h]), h]; simp
    · rw [decide_eq_false (fun e => h (by injection e))]
      exact (beq_eq_false_iff_ne.2 h).symm
  rw [he]
  have hc1 := str_of _ d _ (h1 _ hs2)
  have hc2 := str_of _ d2 _ (h2 _ hs2)
  clear he h1 h2
  go_enter Try.func41, Try.ntmps41
  go_wp2_with fail
  go_ret
  exact ⟨rfl, hs2⟩
end Go.Proofs.Ytdkhgkkdnjejmaa.Ch
