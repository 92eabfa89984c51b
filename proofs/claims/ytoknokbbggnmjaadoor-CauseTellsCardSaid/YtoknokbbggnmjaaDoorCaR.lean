/-
  Chapter 1's laws: a row of raw steps that came in.
-/
import Derived.Test.YtoknokbbggnmjaaDoorCaR0
import Derived.Test.YtoknokbbggnmjaaDoorCaV
namespace Go.Proofs.YtoknokbbggnmjaaDoor.CaR
set_option linter.unusedSimpArgs false
open Go Go.ChangeShapes Go.WideShapes Go.ChangeAt Go.RowKit
set_option linter.unusedVariables false

set_option maxRecDepth 100000 in
theorem raws_at {H : Type} {enc : TypeId × Value → H} (W : World) (v : Value) (d : DataW H) (p : List MemPlace) (h : DataW.Trod enc Tryd.prog W 0 (fun _ => true) true 41 v d p) (hlt : ∀ x ∈ p, x.block < W.heap.size) (hv : Value.okWide Tryd.prog W .any 0 41 v) :
    ∃ xs : List (Int × Int), Ca.RawsAt W v xs := by
  obtain ⟨a0, len, cap, rfl⟩ := okWide_slice Tryd.underlying41 hv
  obtain ⟨fuel, hf⟩ := h
  have hc50 : Tryd.prog.cellsOf 76 = 2 := by kernel_rfl
  have hc3 : Tryd.prog.cellsOf 3 = 1 := by kernel_rfl
  rcases Go.Deep.open_slice Tryd.underlying41 hf with ⟨hcs, hx⟩ | ⟨a, len', cap', m, n, D, Pl, hcs, _, hl, hm, hmm, hx, hi⟩
  · simp [Value.cells] at hcs
    obtain ⟨rfl, rfl, rfl⟩ := hcs
    exact ⟨[], none, 0, rfl, Nat.zero_le _, fun w hw j hj => absurd hj (Nat.not_lt_zero _)⟩
  · simp [Value.cells] at hcs
    obtain ⟨rfl, rfl, rfl⟩ := hcs
    simp only [if_true] at hmm
    subst hmm
    have each : ∀ i, ∃ t : Int × Int, i < m → W.cell? (a.add (i * 2)) = some (.int .i64 t.1) ∧ W.cell? (a.add (i * 2 + 1)) = some (.int .i64 t.2) := by
      intro i
      by_cases him : i < m
      · obtain ⟨cs', hc, ht⟩ := hi i him
        rw [hc50] at hc
        obtain ⟨ys, n', _, _, _, hyl, hfs⟩ := DataW.trod_struct Tryd.underlying76 ht
        obtain ⟨_, hcl, hat⟩ := World.cells?_some hc
        obtain ⟨x0, x1, rfl⟩ : ∃ x0 x1, cs' = [x0, x1] := by
          match cs', hcl with
          | [x, y], _ => exact ⟨x, y, rfl⟩
        have h0 : DataW.trod enc Tryd.prog W 0 (fun _ => true) true n' 3 (([x0, x1].drop 0).take (Tryd.prog.cellsOf 3)) = ys[0]? := hfs 0 _ rfl
        have h1 : DataW.trod enc Tryd.prog W 0 (fun _ => true) true n' 3 (([x0, x1].drop 1).take (Tryd.prog.cellsOf 3)) = ys[1]? := hfs 1 _ rfl
        rw [hc3] at h0 h1
        have hy : ys.length = 2 := hyl
        obtain ⟨y0, y1, rfl⟩ : ∃ y0 y1, ys = [y0, y1] := by
          match ys, hy with
          | [x, y], _ => exact ⟨x, y, rfl⟩
        obtain ⟨t0, e0, _⟩ := DataW.trod_int Tryd.underlying3 (h0.trans rfl)
        obtain ⟨t1, e1, _⟩ := DataW.trod_int Tryd.underlying3 (h1.trans rfl)
        have f0 : x0 = .int .i64 t0 := by simpa using e0
        have f1 : x1 = .int .i64 t1 := by simpa using e1
        subst f0; subst f1
        refine ⟨(t0, t1), fun _ => ⟨?_, ?_⟩⟩
        · have := hat 0 (by omega)
          rw [Go.Deep.add_add] at this
          simpa using this
        · have := hat 1 (by omega)
          rw [Go.Deep.add_add] at this
          simpa using this
      · exact ⟨default, fun h => absurd h him⟩
    obtain ⟨f, hcell⟩ := Classical.skolem.1 each
    refine ⟨(List.range len).map f, some a, m, by simp, by simp; omega, fun w hw j hj => ?_⟩
    have hj2 : j < len := by simpa using hj
    obtain ⟨b, off, spot⟩ := a
    have hspot : spot = none := by simpa [Addr.add] using World.cell?_spot (hcell 0 (by omega)).1
    subst hspot
    have hb : b < W.heap.size := by
      have := (hcell 0 (by omega)).1
      rw [add_plain] at this
      exact World.block_lt_of_cell? _ _ this
    obtain ⟨q0, q1⟩ := hcell j (by omega)
    rw [add_plain] at q0 q1
    refine ⟨b, off, rfl, ?_, ?_⟩
    · rw [hw.cell (p := ⟨b, off + j * 2, none⟩) hb, q0]
      simp [List.getD, hj2]
    · rw [Nat.add_assoc, hw.cell (p := ⟨b, off + (j * 2 + 1), none⟩) hb, q1]
      simp [List.getD, hj2]
end Go.Proofs.YtoknokbbggnmjaaDoor.CaR
