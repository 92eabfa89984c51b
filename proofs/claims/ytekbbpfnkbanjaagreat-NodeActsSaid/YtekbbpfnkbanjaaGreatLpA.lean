
/-
  ChunkPlaces, walked.
-/
import Derived.Test.YtekbbpfnkbanjaaGreatChX
namespace Go.Proofs.YtekbbpfnkbanjaaGreat.Ch
set_option linter.unusedSimpArgs false
open Go Go.RowKit Go.Sl Go.BigFrame
set_option linter.unusedVariables false

theorem below_of {W w : World} (h : Sat W w (allOf W)) : Below W.heap.size W w := Sat.below_all (L := []) h
end Go.Proofs.YtekbbpfnkbanjaaGreat.Ch
