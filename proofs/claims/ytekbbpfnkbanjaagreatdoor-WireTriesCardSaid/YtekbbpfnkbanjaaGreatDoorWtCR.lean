
/-
  WireTries: the row, and the tied card: for every input the law returns true; errors.errorType is laid as the program's text lays it.
-/
import Derived.Test.YtekbbpfnkbanjaaGreatDoorRows
import Derived.Test.YtekbbpfnkbanjaaGreatDoorCards
import Derived.Test.YtekbbpfnkbanjaaGreatDoorTie
import Derived.Test.YtekbbpfnkbanjaaGreatDoorWcR
import Derived.Test.YtekbbpfnkbanjaaGreatDoorLrA
import Derived.Test.YtekbbpfnkbanjaaGreatDoorWtC
import Derived.OpenShut
namespace Go.Proofs.YtekbbpfnkbanjaaGreatDoor.wireTries
open Go Go.ChangeShapes Go.WideShapes Go.ChangeAt Go.RowKit
set_option linter.unusedVariables false
set_option linter.unusedSimpArgs false

set_option maxRecDepth 100000 in
theorem lifted (os : Os) (started : os.Started) (H : Type) (enc : TypeId × Value → H) :
    ReturnsInHanded {} Tryz.checked os 3 .any (fun w args => (Rows.wireTriesSpec.pre enc Tryz.prog Tryz.f3 [] false w args ∧ laidMetH Tryz.prog CaR.laidL w) ∧ sizedMet enc Tryz.prog Tryz.f3 (OpenSpec.ofChange Rows.wireTriesSpec) false w args)
      (Rows.wireTriesSpec.post enc Tryz.prog Tryz.f3 false true false false) := by
  refine returnsInHanded_of_change_and (C := Tryz.checked) (X := fun w _ => laidMetH Tryz.prog CaR.laidL w) (fun _ _ _ hh h => h.of_heap hh) CaR.own started (by kernel_rfl) Tryz.func3
    (ChangeSpec.witness_at (enc := enc) (C := Tryz.checked) (os := os) (X := fun w _ => laidMetH Tryz.prog CaR.laidL w) false (CaR.laidWorld os) #[.slice none 0 0, .slice none 0 0] 8 rfl (by kernel_rfl) (by kernel_rfl) (by kernel_rfl) (by kernel_rfl) (by kernel_rfl) (CaR.laidWorld_met os _)) ?_
  intro W base args ds gs before hval0 hW _ _ hL _
  have hval : ∀ (j : Nat) t v, Tryz.f3.params[j]? = some t → args[j]? = some v → Value.okWide Tryz.prog W .any base t v := hval0
  have hW' := hW
  obtain ⟨p, q, hA0, hV, rfl, hfz, hnd⟩ := hW
  have hA : DataW.TrodAll enc Tryz.prog W 0 (fun _ => true) true Tryz.f3.params.toList args.toList ds p := hA0
  rw [Tryz.params3] at hA hval
  obtain ⟨v0, vs0, d0, ds0, p0, q0, hargs, rfl, rfl, h0, r0⟩ := trodAll_cons hA
  obtain ⟨v1, vs1, d1, ds1, p1, q1, rfl, rfl, rfl, h1, r1⟩ := trodAll_cons r0
  obtain ⟨rfl, rfl, rfl⟩ := trodAll_nil r1
  obtain rfl : args = #[v0, v1] := by cases args; simp_all
  obtain ⟨rfl, rfl⟩ := trodVars_none hV
  clear hA0 hval0
  simp only [List.append_nil, List.nil_append, List.append_assoc] at hW'
  have hlt : ∀ x ∈ p0 ++ (p1), x.block < W.heap.size := fun x hx => by simpa using hW'.lt x (by simpa using hx)
  have hlt0 : ∀ x ∈ p0, x.block < W.heap.size := fun x hx => hlt x (by simp [hx])
  have hlt1 : ∀ x ∈ p1, x.block < W.heap.size := fun x hx => hlt x (by simp [hx])
  obtain ⟨k0, hl0, hk0⟩ := Ch.ints_in W v0 d0 p0 h0 hlt0 (hval 0 22 v0 rfl rfl)
  obtain ⟨k1, hl1, hk1⟩ := Ch.ints_in W v1 d1 p1 h1 hlt1 (hval 1 22 v1 rfl rfl)
  refine (Ch.tries_row v0 k0 v1 k1 W hk0 hl0 hk1 hl1 (CaR.handle_of_laid hL)).mono fun e W' ⟨he, hB⟩ => ?_
  subst he
  exact ⟨_, rfl, _, _, _, [], p0 ++ (p1), [], hW', (trodAll_mk1 (shut_bool Tryz.underlying4 _)), (by have h := (trodAll_cons_mk (Below.trod CaR.laidOut (by kernel_rfl) (of_decide_eq_true (by kernel_rfl)) h0 hB hlt0) (trodAll_cons_mk (Below.trod CaR.laidOut (by kernel_rfl) (of_decide_eq_true (by kernel_rfl)) h1 hB hlt1) trodAll_mk0)); simp only [List.nil_append, List.append_nil, List.append_assoc] at h; exact h), rfl, hB.frame _, fun h => by cases h⟩

theorem over : Rows.WireTriesSaid :=
  OpenClaim.holds_of_wide 3 Tryz.f3 rfl rfl rfl rfl rfl rfl rfl ⟨rfl, rfl, rfl, rfl, rfl⟩ rfl rfl rfl rfl rfl (by kernel_rfl) Tryz.func3 (by kernel_rfl)
    (of_decide_eq_true (by kernel_rfl)) (by unfold Func.isWrapper; first | (rw [if_pos (by decide +kernel)]; kernel_rfl) | (rw [if_neg (by decide +kernel)]; exact ⟨rfl, rfl⟩))
    (fun os started H enc _ => lifted os started H enc)

theorem proved : Rows.WireTriesCardSaid :=
  Claim7.holds_tied_plain_at .later [] [.handle] true (true, "0bac60a6cf1c43629eb4b0566b69dc7303cc9f1ad3e76f2652f638cd3497c29e") true
    over (fun _ h => by cases h) (by kernel_rfl) (fun _ h => by cases h) wireTries_row_tie rfl ⟨rfl, rfl⟩ (by kernel_rfl) rfl
    (fun f fn hf hfn => by
      obtain rfl : f = 3 := Option.some.inj ((show Tryz.prog.funcNamed "corbel/corbellaw12.WireTries" = some 3 by kernel_rfl).symm.trans hf) |>.symm
      obtain rfl : fn = Tryz.f3 := (Option.some.inj (Tryz.func3.symm.trans hfn)).symm
      exact ⟨by kernel_rfl, fun j t ht => by
        rw [Tryz.params3] at ht
        have hm : t ∈ ([22, 22] : List TypeId) := by simpa using Array.mem_of_getElem? ht
        have hall : (([22, 22] : List TypeId).all fun u => !Tryz.prog.wantsStandIn u) = true := by kernel_rfl
        exact (show Tryz.prog.wantsStandIn t = false by simpa using List.all_eq_true.1 hall t hm)⟩)
    (by kernel_rfl)
end Go.Proofs.YtekbbpfnkbanjaaGreatDoor.wireTries
