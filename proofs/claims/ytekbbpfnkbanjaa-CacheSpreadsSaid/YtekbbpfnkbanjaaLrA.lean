
/-
  What the rows of chapters 8 and 10 share: rows of ints that came in.
-/
import Derived.Test.YtekbbpfnkbanjaaRows
import Derived.Test.YtekbbpfnkbanjaaMB
import Derived.ProofKit
import Derived.WalkKit
namespace Go.Proofs.Ytekbbpfnkbanjaa.Ch
set_option linter.unusedSimpArgs false
open Go Go.ChangeShapes Go.WideShapes Go.ChangeAt Go.RowKit Go.Sl
set_option linter.unusedVariables false

theorem own : ownKnob Try.prog.godebug = none := by kernel_rfl
theorem laidOut : laidOutB Try.prog = true := by kernel_rfl

set_option maxRecDepth 100000 in
theorem ints_in {H : Type} {enc : TypeId × Value → H} (W : World) (v : Value) (d : DataW H) (p : List MemPlace) (h : DataW.Trod enc Try.prog W 0 (fun _ => true) true 22 v d p) (hlt : ∀ x ∈ p, x.block < W.heap.size) (hv : Value.okWide Try.prog W .any 0 22 v) :
    ∃ ks : List Int, ks.length ≤ maxLen ∧ ∀ y, Below W.heap.size W y → Reads y v ks.length (intsC ks) := by
  obtain ⟨a0, len, cap, rfl⟩ := okWide_slice Try.underlying22 hv
  obtain ⟨fuel, hf⟩ := h
  rcases open_ints Try.underlying22 Try.underlying3 (by kernel_rfl) hf with ⟨hcs, hx⟩ | ⟨a, len', cap', zs, hcs, _, hl, hm, hz, hx, hcell, hwz⟩
  · simp [Value.cells] at hcs
    obtain ⟨rfl, rfl, rfl⟩ := hcs
    exact ⟨[], Nat.zero_le _, fun y _ => .inl ⟨rfl, rfl, rfl⟩⟩
  · simp [Value.cells] at hcs
    obtain ⟨rfl, rfl, rfl⟩ := hcs
    simp only [if_true] at hz
    have hlen : (zs.take len).length = len := by simp; omega
    refine ⟨zs.take len, by rw [hlen]; omega, fun y hy => .inr ⟨a, cap, by rw [hlen], fun j u hu => ?_⟩⟩
    have hj : j < len := by
      have := (List.getElem?_eq_some_iff.1 hu).1
      rw [intsC_length, hlen] at this
      exact this
    have hc := hcell j (by omega)
    have hb : (a.add j).block < W.heap.size := World.block_lt_of_cell? _ _ hc
    rw [hy.cell hb, hc, ← hu, intsC, List.getElem?_map, List.getElem?_take, if_pos hj]
    simp [List.getD, show j < zs.length by omega]
theorem lt_of_max {n : Nat} (h : n ≤ maxLen) : n < 9223372036854775808 := by unfold maxLen at h; omega
end Go.Proofs.Ytekbbpfnkbanjaa.Ch
