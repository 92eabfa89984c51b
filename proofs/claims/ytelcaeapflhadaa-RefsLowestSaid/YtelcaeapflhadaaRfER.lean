/-
  RefsLowest: the row.
-/
import Derived.Test.YtelcaeapflhadaaRows
import Derived.Test.YtelcaeapflhadaaPkHR
import Derived.Test.YtelcaeapflhadaaRfE
import Derived.ProofKit
import Derived.WalkKit
namespace Go.Proofs.Ytelcaeapflhadaa.refsLowest
set_option linter.unusedSimpArgs false
open Go Go.ChangeShapes Go.WideShapes Go.ChangeAt Go.RowKit
set_option linter.unusedVariables false

set_option maxRecDepth 100000 in
theorem lifted (os : Os) (started : os.Started) (H : Type) (enc : TypeId × Value → H) :
    ReturnsInHanded {} Try.checked os 5 .any (Rows.refsLowestSpec.pre6 enc Try.prog Try.f5 Rows.refsLowestRow.domain false) (Rows.refsLowestSpec.post enc Try.prog Try.f5 false true false false) := by
  refine returnsInHanded_of_change (C := Try.checked) pickDrains.own started (by kernel_rfl) Try.func5
    (ChangeSpec.witness6 (enc := enc) (C := Try.checked) false ⟨#[], #[.int .i64 0, .int .i64 0, .slice none 0 0], []⟩ 8 (by kernel_rfl) (by kernel_rfl) (by kernel_rfl) (by kernel_rfl)) ?_
  intro W base args ds gs before hval0 hW _ _
  have hval : ∀ (j : Nat) t v, Try.f5.params[j]? = some t → args[j]? = some v → Value.okWide Try.prog W .any base t v := hval0
  have hW' := hW
  obtain ⟨p, q, hA0, hV, rfl, hfz, hnd⟩ := hW
  have hA : DataW.TrodAll enc Try.prog W 0 (fun _ => true) true Try.f5.params.toList args.toList ds p := hA0
  rw [Try.params5] at hA hval
  obtain ⟨v0, v1, v2, d0, d1, d2, p0, p1, p2, rfl, rfl, rfl, h0, h1, h2⟩ := trodAll_three hA
  obtain ⟨rfl, rfl⟩ := trodVars_none hV
  obtain ⟨a, rfl, rfl, rfl, wa⟩ := open_int Try.underlying3 (hval 0 3 v0 rfl rfl) h0
  obtain ⟨b, rfl, rfl, rfl, wb⟩ := open_int Try.underlying3 (hval 1 3 v1 rfl rfl) h1
  clear hA0 hval0
  simp only [List.append_nil, List.nil_append] at hW'
  have hlt : ∀ x ∈ p2, x.block < W.heap.size := fun x hx => by simpa using hW'.lt x (by simpa using hx)
  obtain ⟨ks, g, c, hv, hl, hk⟩ := pickDrains.lits_walk W v2 d2 p2 h2 hlt (hval 2 22 v2 rfl rfl)
  refine (Rf.lowest_walk a b v2 ks W g c hv hl hk).mono fun e W' ⟨he, hB⟩ => ?_
  subst he
  exact ⟨_, rfl, _, _, _, [], p2, [], hW', (trodAll_mk1 (shut_bool Try.underlying4 _)), trodAll_mk3 (shut_int Try.underlying3 wa) (shut_int Try.underlying3 wb) (Below.trod pickDrains.laidOut (by kernel_rfl) (of_decide_eq_true (by kernel_rfl)) h2 hB hlt), rfl, hB.frame _, fun h => by cases h⟩

theorem over : Rows.refsLowestRow.holds Try.pinned (OpenSpec.ofChange Rows.refsLowestSpec) :=
  OpenClaim.holds_of_wide 5 Try.f5 rfl rfl rfl rfl rfl rfl rfl ⟨rfl, rfl, rfl, rfl, rfl⟩ rfl rfl rfl rfl rfl (by kernel_rfl) Try.func5 (by kernel_rfl)
    (of_decide_eq_true (by kernel_rfl)) (by unfold Func.isWrapper; first | (rw [if_pos (by decide +kernel)]; kernel_rfl) | (rw [if_neg (by decide +kernel)]; exact ⟨rfl, rfl⟩))
    (fun os started H enc _ => lifted os started H enc)

theorem proved : Rows.RefsLowestSaid :=
  over
end Go.Proofs.Ytelcaeapflhadaa.refsLowest
