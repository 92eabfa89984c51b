/-
  chunk.Same.
-/
import Derived.Test.YtdkhgkkdnjejmaaChL
namespace Go.Proofs.Ytdkhgkkdnjejmaa.Ch
set_option linter.unusedSimpArgs false
open Go Go.RowKit Go.Sl Go.BigFrame
set_option linter.unusedVariables false

noncomputable instance : DecidableEq Pc := fun _ _ => Classical.propDecidable _
set_option maxRecDepth 100000 in
theorem same_any (p q : Pc) (v v2 : Value) (W w : World) (L : List Atom) (hs : Sat W w L) (h1 : ∀ y, Sat W y L → Reads y v p.data.length (bts p.data)) (h2 : ∀ y, Sat W y L → Reads y v2 q.data.length (bts q.data)) (hl : p.data.length < 1000000) (hl2 : q.data.length < 1000000) :
    Calls Try.prog 32 #[pcV p v, pcV q v2] w fun e w' => e = .returned (.bool (decide (p = q))) ∧ Sat W w' L := by
  obtain ⟨s, g, i, d⟩ := p
  obtain ⟨s2, g2, i2, d2⟩ := q
  obtain ⟨av, cv, rfl⟩ := reads_shape (h1 w hs)
  obtain ⟨av2, cv2, rfl⟩ := reads_shape (h2 w hs)
  simp only at h1 h2 hl hl2
  unfold pcV
  simp only []
  by_cases e1 : s = s2
  case neg =>
    have hne : ¬ (⟨s, g, i, d⟩ : Pc) = ⟨s2, g2, i2, d2⟩ := fun h => e1 (by injection h)
    have q0 : (s == s2) = false := by simpa using e1
    rw [decide_eq_false hne]
    clear hne
    have hs2 : Sat W _ L := (hs.alloc (.cells #[.int .i64 s, .int .i64 g, .int .i64 i, .slice av d.length cv] 45)).alloc (.cells #[.int .i64 s2, .int .i64 g2, .int .i64 i2, .slice av2 d2.length cv2] 45)
    go_enter Try.func32, Try.ntmps32
    go_wp2_with fail
    go_ret
    exact ⟨rfl, hs2⟩
  case pos =>
  subst e1
  by_cases e2 : g = g2
  case neg =>
    have hne : ¬ (⟨s, g, i, d⟩ : Pc) = ⟨s, g2, i2, d2⟩ := fun h => e2 (by injection h)
    have q0 : (g == g2) = false := by simpa using e2
    rw [decide_eq_false hne]
    clear hne
    have hs2 : Sat W _ L := (hs.alloc (.cells #[.int .i64 s, .int .i64 g, .int .i64 i, .slice av d.length cv] 45)).alloc (.cells #[.int .i64 s, .int .i64 g2, .int .i64 i2, .slice av2 d2.length cv2] 45)
    go_enter Try.func32, Try.ntmps32
    go_wp2_with fail
    go_ret
    exact ⟨rfl, hs2⟩
  case pos =>
  subst e2
  by_cases e3 : i = i2
  case neg =>
    have hne : ¬ (⟨s, g, i, d⟩ : Pc) = ⟨s, g, i2, d2⟩ := fun h => e3 (by injection h)
    have q0 : (i == i2) = false := by simpa using e3
    rw [decide_eq_false hne]
    clear hne
    have hs2 : Sat W _ L := (hs.alloc (.cells #[.int .i64 s, .int .i64 g, .int .i64 i, .slice av d.length cv] 45)).alloc (.cells #[.int .i64 s, .int .i64 g, .int .i64 i2, .slice av2 d2.length cv2] 45)
    go_enter Try.func32, Try.ntmps32
    go_wp2_with fail
    go_ret
    exact ⟨rfl, hs2⟩
  case pos =>
  subst e3
  have hs2 : Sat W _ L := (hs.alloc (.cells #[.int .i64 s, .int .i64 g, .int .i64 i, .slice av d.length cv] 45)).alloc (.cells #[.int .i64 s, .int .i64 g, .int .i64 i, .slice av2 d2.length cv2] 45)
  have heq := equal_any W _ L _ _ d d2 hs2 (h1 _ hs2) (h2 _ hs2) hl hl2
  have he : decide ((⟨s, g, i, d⟩ : Pc) = ⟨s, g, i, d2⟩) = decide (d = d2) := decide_eq_decide.2 ⟨fun h => by injection h, fun h => by rw [h]⟩
  rw [he]
  have HEQ := Lib.hid heq
  clear heq he h1 h2
  go_enter Try.func32, Try.ntmps32
  go_wp2_with fail
  refine HEQ.out.mono ?_; rintro r w5 ⟨rfl, hs5, _⟩
  go_wp2_with fail
  go_ret
  exact ⟨rfl, hs5⟩
end Go.Proofs.Ytdkhgkkdnjejmaa.Ch
