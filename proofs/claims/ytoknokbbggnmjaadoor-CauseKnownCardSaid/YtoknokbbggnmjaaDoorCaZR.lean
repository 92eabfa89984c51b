/-
  CauseKnown: the row, and the tied card: the law returns true; errors.errorType is laid as the program's text lays it.
-/
import Derived.Test.YtoknokbbggnmjaaDoorRows
import Derived.Test.YtoknokbbggnmjaaDoorCards
import Derived.Test.YtoknokbbggnmjaaDoorTie
import Derived.Test.YtoknokbbggnmjaaDoorCaR0
import Derived.Test.YtoknokbbggnmjaaDoorCaZ
namespace Go.Proofs.YtoknokbbggnmjaaDoor.causeKnown
set_option linter.unusedSimpArgs false
open Go Go.ChangeShapes Go.WideShapes Go.ChangeAt Go.RowKit
set_option linter.unusedVariables false

set_option maxRecDepth 100000 in
theorem lifted (os : Os) (started : os.Started) (H : Type) (enc : TypeId × Value → H) :
    ReturnsInHanded {} Tryd.checked os 6 .any (fun w args => (Rows.causeKnownSpec.pre enc Tryd.prog Tryd.f6 [] false w args ∧ laidMetH Tryd.prog CaR.laidL w) ∧ sizedMet enc Tryd.prog Tryd.f6 (OpenSpec.ofChange Rows.causeKnownSpec) false w args)
      (Rows.causeKnownSpec.post enc Tryd.prog Tryd.f6 false true false false) := by
  refine returnsInHanded_of_change_and (C := Tryd.checked) (X := fun w _ => laidMetH Tryd.prog CaR.laidL w) (fun _ _ _ hh h => h.of_heap hh) CaR.own started (by kernel_rfl) Tryd.func6
    (ChangeSpec.witness_at (enc := enc) (C := Tryd.checked) (os := os) (X := fun w _ => laidMetH Tryd.prog CaR.laidL w) false (CaR.laidWorld os) #[] 8 rfl (by kernel_rfl) (by kernel_rfl) (by kernel_rfl) (by kernel_rfl) (by kernel_rfl) (CaR.laidWorld_met os _)) ?_
  intro W base args ds gs before hval0 hW _ _ hL _
  have hval : ∀ (j : Nat) t v, Tryd.f6.params[j]? = some t → args[j]? = some v → Value.okWide Tryd.prog W .any base t v := hval0
  have hW' := hW
  obtain ⟨p, q, hA0, hV, rfl, hfz, hnd⟩ := hW
  have hA : DataW.TrodAll enc Tryd.prog W 0 (fun _ => true) true Tryd.f6.params.toList args.toList ds p := hA0
  rw [Tryd.params6] at hA hval
  obtain ⟨rfl, rfl, rfl⟩ := trodAll_none hA
  obtain ⟨rfl, rfl⟩ := trodVars_none hV
  clear hA0 hval0
  simp only [List.append_nil] at hW'
  refine (Ca.causeKnown_walk W (CaR.handle_of_laid hL)).mono fun e W' ⟨he, hB⟩ => ?_
  subst he
  exact ⟨_, rfl, _, _, _, [], [], [], hW', (trodAll_mk1 (shut_bool Tryd.underlying4 _)), trodAll_mk0, rfl, hB.frame _, fun h => by cases h⟩

theorem over : Rows.CauseKnownSaid :=
  OpenClaim.holds_of_wide 6 Tryd.f6 rfl rfl rfl rfl rfl rfl rfl ⟨rfl, rfl, rfl, rfl, rfl⟩ rfl rfl rfl rfl rfl (by kernel_rfl) Tryd.func6 (by kernel_rfl)
    (of_decide_eq_true (by kernel_rfl)) (by unfold Func.isWrapper; first | (rw [if_pos (by decide +kernel)]; kernel_rfl) | (rw [if_neg (by decide +kernel)]; exact ⟨rfl, rfl⟩))
    (fun os started H enc _ => lifted os started H enc)

theorem proved : Rows.CauseKnownCardSaid :=
  Claim7.holds_tied_plain_at .later [] [.handle] true (true, "35d59f51da2d3670c2cb59156788d3c27b42a48b95c835906988ca99225aafb0") true
    over (fun _ h => by cases h) (by kernel_rfl) (fun _ h => by cases h) causeKnown_row_tie rfl ⟨rfl, rfl⟩ (by kernel_rfl) rfl
    (fun f fn hf hfn => by
      obtain rfl : f = 6 := Option.some.inj ((show Tryd.prog.funcNamed "corbel/corbellaw1.CauseKnown" = some 6 by kernel_rfl).symm.trans hf) |>.symm
      obtain rfl : fn = Tryd.f6 := (Option.some.inj (Tryd.func6.symm.trans hfn)).symm
      exact ⟨by kernel_rfl, fun j t ht => by
        rw [Tryd.params6] at ht
        simp at ht⟩)
    (by kernel_rfl)
end Go.Proofs.YtoknokbbggnmjaaDoor.causeKnown
