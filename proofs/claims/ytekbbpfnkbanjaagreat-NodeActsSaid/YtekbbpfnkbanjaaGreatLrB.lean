
/-
  A row of acts that came in (corbellaw8.Act).
-/
import Derived.Test.YtekbbpfnkbanjaaGreatLrA
import Derived.Test.YtekbbpfnkbanjaaGreatLaC
import Derived.Deep.Slices
import Derived.Deep.Fields
namespace Go.Proofs.YtekbbpfnkbanjaaGreat.Ch
set_option linter.unusedSimpArgs false
open Go Go.ChangeShapes Go.WideShapes Go.ChangeAt Go.RowKit Go.Sl
set_option linter.unusedVariables false

/-- One act's cells. -/
def ActAt (y : World) (a : Addr) (j : Nat) (x : ActR) : Prop :=
  y.cell? (a.add (j * 8)) = some (.int .i64 x.what) ∧ y.cell? (a.add (j * 8 + 1)) = some (.int .i64 x.stripe) ∧ y.cell? (a.add (j * 8 + 2)) = some (.int .i64 x.gen) ∧
  y.cell? (a.add (j * 8 + 3)) = some (.int .i64 x.index) ∧ y.cell? (a.add (j * 8 + 4)) = some (.int .i64 x.seed) ∧ y.cell? (a.add (j * 8 + 5)) = some (.int .i64 x.bend) ∧
  (-9223372036854775808 ≤ x.bend ∧ x.bend < 9223372036854775808) ∧ ∃ kv, y.cell? (a.add (j * 8 + 6)) = some kv ∧ Reads y kv x.keep.length (intsC x.keep)
theorem reads_below {W y : World} {v : Value} {n : Nat} {xs : List Value} (h : Reads W v n xs) (hy : Below W.heap.size W y) : Reads y v n xs := by
  rcases h with h | ⟨a, c, h1, h2⟩
  · exact .inl h
  · refine .inr ⟨a, c, h1, fun j u hu => ?_⟩
    have hc := h2 j u hu
    rw [hy.cell (World.block_lt_of_cell? _ _ hc), hc]
theorem ActAt.below {W y : World} {a : Addr} {j : Nat} {x : ActR} (h : ActAt W a j x) (hy : Below W.heap.size W y) : ActAt y a j x := by
  have key : ∀ {p : Addr} {v : Value}, W.cell? p = some v → y.cell? p = some v := fun {p v} hc => by
    rw [hy.cell (World.block_lt_of_cell? _ _ hc), hc]
  obtain ⟨h0, h1, h2, h3, h4, h5, hb, kv, h6, h7⟩ := h
  exact ⟨key h0, key h1, key h2, key h3, key h4, key h5, hb, kv, key h6, reads_below h7 hy⟩

end Go.Proofs.YtekbbpfnkbanjaaGreat.Ch
