
/-
  corbellaw8.known.
-/
import Derived.Test.YtekbbpfnkbanjaaGreatMC
namespace Go.Proofs.YtekbbpfnkbanjaaGreat.Ch
set_option linter.unusedSimpArgs false
open Go Go.RowKit Go.Sl Go.BigFrame
set_option linter.unusedVariables false

theorem pk_len (g : Int) : (pk g).data.length = 32 := bytesOf_length g 32
/-- The cells of a row of pieces. -/
theorem pcs_cells {W w : World} {L : List Atom} {xs : List (Pc × Value)} {v : Value} {R : List Atom} (hr : RowA 72 4 v xs.length (pcsC xs) R) (hs : Sat W w (R ++ L)) (h : 0 < xs.length) : ∃ g off cap, v = .slice (some ⟨g, off, none⟩) xs.length cap ∧ xs.length ≤ cap ∧ R = [(g, rowP 72 off (cap * 4) (pcsC xs))] := by
  obtain ⟨g, off, cap, h1, h2, _, h3⟩ := Ch.RowA.some_of hr h
  exact ⟨g, off, cap, h1, h2, h3⟩

end Go.Proofs.YtekbbpfnkbanjaaGreat.Ch
