/-
  PickChanges: the row.
-/
import Derived.Test.YtelcaeapflhadaaRows
import Derived.Test.YtelcaeapflhadaaPkHR
import Derived.Test.YtelcaeapflhadaaPkP
import Derived.Deep.Grids
import Derived.ProofKit
import Derived.WalkKit
namespace Go.Proofs.Ytelcaeapflhadaa.pickChanges
set_option linter.unusedSimpArgs false
open Go Go.ChangeShapes Go.WideShapes Go.ChangeAt Go.RowKit
set_option linter.unusedVariables false

theorem bools_walk {H : Type} {enc : TypeId × Value → H} (W : World) (v : Value) (d : DataW H) (p : List MemPlace) (h : DataW.Trod enc Try.prog W 0 (fun _ => true) true 29 v d p) (hlt : ∀ x ∈ p, x.block < W.heap.size) (hv : Value.okWide Try.prog W .any 0 29 v) :
    ∃ ds : List Bool, Pk.BoolsAt W v ds := by
  obtain ⟨a0, len, cap, rfl⟩ := okWide_slice Try.underlying29 hv
  obtain ⟨fuel, hf⟩ := h
  rcases Go.Deep.open_bools Try.underlying29 Try.underlying4 (by kernel_rfl) hf with ⟨hcs, hx⟩ | ⟨a, len', cap', B, hcs, _, hl, hm, hx, hcell⟩
  · simp [Value.cells] at hcs
    obtain ⟨rfl, rfl, rfl⟩ := hcs
    exact ⟨[], none, 0, rfl, Nat.zero_le _, fun w hw j hj => absurd hj (Nat.not_lt_zero _)⟩
  · simp [Value.cells] at hcs
    obtain ⟨rfl, rfl, rfl⟩ := hcs
    refine ⟨(List.range len).map B, some a, cap, by simp, by simp; omega, fun w hw j hj => ?_⟩
    have hj2 : j < len := by simpa using hj
    obtain ⟨b, off, spot⟩ := a
    have hspot : spot = none := by simpa [Addr.add] using World.cell?_spot (hcell 0 (by omega))
    subst hspot
    have hb : b < W.heap.size := by
      have := hcell 0 (by omega)
      rw [add_plain] at this
      exact World.block_lt_of_cell? _ _ this
    refine ⟨b, off, rfl, ?_⟩
    rw [hw.cell (p := ⟨b, off + j, none⟩) hb, ← add_plain, hcell j (by omega)]
    simp [List.getD, hj2]

set_option maxRecDepth 100000 in
theorem lifted (os : Os) (started : os.Started) (H : Type) (enc : TypeId × Value → H) :
    ReturnsInHanded {} Try.checked os 8 .any (Rows.pickChangesSpec.pre6 enc Try.prog Try.f8 Rows.pickChangesRow.domain false) (Rows.pickChangesSpec.post enc Try.prog Try.f8 false true false false) := by
  refine returnsInHanded_of_change (C := Try.checked) pickDrains.own started (by kernel_rfl) Try.func8
    (ChangeSpec.witness6 (enc := enc) (C := Try.checked) false ⟨#[], #[.slice none 0 0, .slice none 0 0, .slice none 0 0], []⟩ 8 (by kernel_rfl) (by kernel_rfl) (by kernel_rfl) (by kernel_rfl)) ?_
  intro W base args ds gs before hval0 hW _ _
  have hval : ∀ (j : Nat) t v, Try.f8.params[j]? = some t → args[j]? = some v → Value.okWide Try.prog W .any base t v := hval0
  have hW' := hW
  obtain ⟨p, q, hA0, hV, rfl, hfz, hnd⟩ := hW
  have hA : DataW.TrodAll enc Try.prog W 0 (fun _ => true) true Try.f8.params.toList args.toList ds p := hA0
  rw [Try.params8] at hA hval
  obtain ⟨v0, v1, v2, d0, d1, d2, p0, p1, p2, rfl, rfl, rfl, h0, h1, h2⟩ := trodAll_three hA
  obtain ⟨rfl, rfl⟩ := trodVars_none hV
  clear hA0 hval0
  simp only [List.append_nil, List.append_assoc] at hW'
  have hlt : ∀ x ∈ p0 ++ (p1 ++ p2), x.block < W.heap.size := fun x hx => by simpa using hW'.lt x (by simpa using hx)
  have hlt0 : ∀ x ∈ p0, x.block < W.heap.size := fun x hx => hlt x (by simp [hx])
  have hlt1 : ∀ x ∈ p1, x.block < W.heap.size := fun x hx => hlt x (by simp [hx])
  have hlt2 : ∀ x ∈ p2, x.block < W.heap.size := fun x hx => hlt x (by simp [hx])
  obtain ⟨ks, g, c, hv, hl, hk⟩ := pickDrains.lits_walk W v0 d0 p0 h0 hlt0 (hval 0 22 v0 rfl rfl)
  obtain ⟨ls, g', c', hv', hl', hk'⟩ := pickDrains.lits_walk W v1 d1 p1 h1 hlt1 (hval 1 22 v1 rfl rfl)
  obtain ⟨ds, hds⟩ := bools_walk W v2 d2 p2 h2 hlt2 (hval 2 29 v2 rfl rfl)
  refine (Pk.changes_walk v0 v1 v2 ks ls ds W ⟨g, c, hv, hl, hk⟩ ⟨g', c', hv', hl', hk'⟩ hds).mono fun e W' ⟨he, hB⟩ => ?_
  subst he
  exact ⟨_, rfl, _, _, _, [], p0 ++ (p1 ++ p2), [], hW', (trodAll_mk1 (shut_bool Try.underlying4 _)), trodAll_mk3 (Below.trod pickDrains.laidOut (by kernel_rfl) (of_decide_eq_true (by kernel_rfl)) h0 hB hlt0) (Below.trod pickDrains.laidOut (by kernel_rfl) (of_decide_eq_true (by kernel_rfl)) h1 hB hlt1) (Below.trod pickDrains.laidOut (by kernel_rfl) (of_decide_eq_true (by kernel_rfl)) h2 hB hlt2), rfl, hB.frame _, fun h => by cases h⟩

theorem over : Rows.pickChangesRow.holds Try.pinned (OpenSpec.ofChange Rows.pickChangesSpec) :=
  OpenClaim.holds_of_wide 8 Try.f8 rfl rfl rfl rfl rfl rfl rfl ⟨rfl, rfl, rfl, rfl, rfl⟩ rfl rfl rfl rfl rfl (by kernel_rfl) Try.func8 (by kernel_rfl)
    (of_decide_eq_true (by kernel_rfl)) (by unfold Func.isWrapper; first | (rw [if_pos (by decide +kernel)]; kernel_rfl) | (rw [if_neg (by decide +kernel)]; exact ⟨rfl, rfl⟩))
    (fun os started H enc _ => lifted os started H enc)

theorem proved : Rows.PickChangesSaid :=
  over
end Go.Proofs.Ytelcaeapflhadaa.pickChanges
