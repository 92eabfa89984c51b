/-
  CauseWraps: the row, and the tied card: for every input the law returns true; errors.errorType is laid as the program's text lays it.
-/
import Derived.Test.YtoknokbbggnmjaaDoorRows
import Derived.Test.YtoknokbbggnmjaaDoorCards
import Derived.Test.YtoknokbbggnmjaaDoorTie
import Derived.Test.YtoknokbbggnmjaaDoorCaR
import Derived.Test.YtoknokbbggnmjaaDoorCaX
namespace Go.Proofs.YtoknokbbggnmjaaDoor.causeWraps
set_option linter.unusedSimpArgs false
open Go Go.ChangeShapes Go.WideShapes Go.ChangeAt Go.RowKit
set_option linter.unusedVariables false

set_option maxRecDepth 100000 in
theorem lifted (os : Os) (started : os.Started) (H : Type) (enc : TypeId × Value → H) :
    ReturnsInHanded {} Tryd.checked os 5 .any (fun w args => (Rows.causeWrapsSpec.pre enc Tryd.prog Tryd.f5 [] false w args ∧ laidMetH Tryd.prog CaR.laidL w) ∧ sizedMet enc Tryd.prog Tryd.f5 (OpenSpec.ofChange Rows.causeWrapsSpec) false w args)
      (Rows.causeWrapsSpec.post enc Tryd.prog Tryd.f5 false true false false) := by
  refine returnsInHanded_of_change_and (C := Tryd.checked) (X := fun w _ => laidMetH Tryd.prog CaR.laidL w) (fun _ _ _ hh h => h.of_heap hh) CaR.own started (by kernel_rfl) Tryd.func5
    (ChangeSpec.witness_at (enc := enc) (C := Tryd.checked) (os := os) (X := fun w _ => laidMetH Tryd.prog CaR.laidL w) false (CaR.laidWorld os) #[.slice none 0 0, .int .i64 0, .int .i64 0] 8 rfl (by kernel_rfl) (by kernel_rfl) (by kernel_rfl) (by kernel_rfl) (by kernel_rfl) (CaR.laidWorld_met os _)) ?_
  intro W base args ds gs before hval0 hW _ _ hL _
  have hval : ∀ (j : Nat) t v, Tryd.f5.params[j]? = some t → args[j]? = some v → Value.okWide Tryd.prog W .any base t v := hval0
  have hW' := hW
  obtain ⟨p, q, hA0, hV, rfl, hfz, hnd⟩ := hW
  have hA : DataW.TrodAll enc Tryd.prog W 0 (fun _ => true) true Tryd.f5.params.toList args.toList ds p := hA0
  rw [Tryd.params5] at hA hval
  obtain ⟨v0, v1, v2, d0, d1, d2, p0, p1, p2, rfl, rfl, rfl, h0, h1, h2⟩ := trodAll_three hA
  obtain ⟨rfl, rfl⟩ := trodVars_none hV
  obtain ⟨nd, rfl, rfl, rfl, ws1⟩ := open_int Tryd.underlying3 (hval 1 3 v1 rfl rfl) h1
  obtain ⟨st, rfl, rfl, rfl, ws2⟩ := open_int Tryd.underlying3 (hval 2 3 v2 rfl rfl) h2
  clear hA0 hval0
  simp only [List.append_nil] at hW'
  have hlt0 : ∀ x ∈ p0, x.block < W.heap.size := fun x hx => by simpa using hW'.lt x (by simpa using hx)
  obtain ⟨ls, hls⟩ := CaR.raws_at W v0 d0 p0 h0 hlt0 (hval 0 41 v0 rfl rfl)
  refine (Ca.causeWraps_walk v0 ls nd st W hls (CaR.handle_of_laid hL)).mono fun e W' ⟨he, hB⟩ => ?_
  subst he
  have hT := trodAll_mk3 (Below.trod CaR.laidOut (by kernel_rfl) (of_decide_eq_true (by kernel_rfl)) h0 hB hlt0) (shut_int Tryd.underlying3 ws1) (shut_int Tryd.underlying3 ws2)
  (try simp only [List.append_nil] at hT)
  exact ⟨_, rfl, _, _, _, [], p0, [], hW', (trodAll_mk1 (shut_bool Tryd.underlying4 _)), hT, rfl, hB.frame _, fun h => by cases h⟩

theorem over : Rows.CauseWrapsSaid :=
  OpenClaim.holds_of_wide 5 Tryd.f5 rfl rfl rfl rfl rfl rfl rfl ⟨rfl, rfl, rfl, rfl, rfl⟩ rfl rfl rfl rfl rfl (by kernel_rfl) Tryd.func5 (by kernel_rfl)
    (of_decide_eq_true (by kernel_rfl)) (by unfold Func.isWrapper; first | (rw [if_pos (by decide +kernel)]; kernel_rfl) | (rw [if_neg (by decide +kernel)]; exact ⟨rfl, rfl⟩))
    (fun os started H enc _ => lifted os started H enc)

theorem proved : Rows.CauseWrapsCardSaid :=
  Claim7.holds_tied_plain_at .later [] [.handle] true (true, "35d59f51da2d3670c2cb59156788d3c27b42a48b95c835906988ca99225aafb0") true
    over (fun _ h => by cases h) (by kernel_rfl) (fun _ h => by cases h) causeWraps_row_tie rfl ⟨rfl, rfl⟩ (by kernel_rfl) rfl
    (fun f fn hf hfn => by
      obtain rfl : f = 5 := Option.some.inj ((show Tryd.prog.funcNamed "corbel/corbellaw1.CauseWraps" = some 5 by kernel_rfl).symm.trans hf) |>.symm
      obtain rfl : fn = Tryd.f5 := (Option.some.inj (Tryd.func5.symm.trans hfn)).symm
      exact ⟨by kernel_rfl, fun j t ht => by
        rw [Tryd.params5] at ht
        have hm : t ∈ [41, 3, 3] := by simpa using Array.mem_of_getElem? ht
        have hall : ([41, 3, 3].all fun u => !Tryd.prog.wantsStandIn u) = true := by kernel_rfl
        exact (show Tryd.prog.wantsStandIn t = false by simpa using List.all_eq_true.1 hall t hm)⟩)
    (by kernel_rfl)
end Go.Proofs.YtoknokbbggnmjaaDoor.causeWraps
