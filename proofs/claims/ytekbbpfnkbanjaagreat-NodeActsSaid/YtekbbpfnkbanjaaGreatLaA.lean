
/-
  corbelhand.Piece.
-/
import Derived.Test.YtekbbpfnkbanjaaGreatMC
namespace Go.Proofs.YtekbbpfnkbanjaaGreat.Ch
set_option linter.unusedSimpArgs false
open Go Go.RowKit Go.Sl Go.BigFrame
set_option linter.unusedVariables false

/-- corbelhand.Piece. -/
def handPiece (s g i seed bend : Int) : Pc :=
  let p : Pc := ⟨handPick s 40, 1 + handPick g 9, handPick i 6, bytesOf seed 32⟩
  if handPick bend 24 = 19 then { p with stripe := s }
  else if handPick bend 24 = 20 then { p with gen := g }
  else if handPick bend 24 = 21 then { p with index := i }
  else if handPick bend 24 = 22 then { p with data := bytesOf seed (handPick (bend.tdiv 24) 40).toNat }
  else if handPick bend 24 = 23 then { p with gen := 1 + handPick g 1099511627776 }
  else p

theorem tdiv_wrap (b : Int) (h1 : -9223372036854775808 ≤ b) (h2 : b < 9223372036854775808) : wrap64 (b.tdiv 24) = b.tdiv 24 := by
  have hb : -9223372036854775808 ≤ b.tdiv 24 ∧ b.tdiv 24 < 9223372036854775808 := by
    rcases Int.le_total 0 b with h0 | h0
    · rw [Int.tdiv_eq_ediv_of_nonneg h0]; omega
    · have e : b.tdiv 24 = -((-b).tdiv 24) := by rw [Int.neg_tdiv]; omega
      rw [e, Int.tdiv_eq_ediv_of_nonneg (by omega)]; omega
  generalize b.tdiv 24 = q at *
  unfold wrap64
  omega
end Go.Proofs.YtekbbpfnkbanjaaGreat.Ch
