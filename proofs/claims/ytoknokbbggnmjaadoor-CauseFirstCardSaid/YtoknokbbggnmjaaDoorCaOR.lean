/-
  CauseFirst: the row, and the tied card: for every input the law returns true; errors.errorType is laid as the program's text lays it.
-/
import Derived.Test.YtoknokbbggnmjaaDoorRows
import Derived.Test.YtoknokbbggnmjaaDoorCards
import Derived.Test.YtoknokbbggnmjaaDoorTie
import Derived.Test.YtoknokbbggnmjaaDoorCaLR
import Derived.Test.YtoknokbbggnmjaaDoorCaO
import Derived.Deep.Grids
namespace Go.Proofs.YtoknokbbggnmjaaDoor.causeFirst
set_option linter.unusedSimpArgs false
open Go Go.ChangeShapes Go.WideShapes Go.ChangeAt Go.RowKit
set_option linter.unusedVariables false

set_option maxRecDepth 100000 in
theorem bools_at {H : Type} {enc : TypeId × Value → H} (W : World) (v : Value) (d : DataW H) (p : List MemPlace) (h : DataW.Trod enc Tryd.prog W 0 (fun _ => true) true 38 v d p) (hv : Value.okWide Tryd.prog W .any 0 38 v) :
    ∃ ds : List Bool, Ca.BoolsAt W v ds := by
  obtain ⟨a0, len, cap, rfl⟩ := okWide_slice Tryd.underlying38 hv
  obtain ⟨fuel, hf⟩ := h
  rcases Go.Deep.open_bools Tryd.underlying38 Tryd.underlying4 (by kernel_rfl) hf with ⟨hcs, hx⟩ | ⟨a, len', cap', B, hcs, _, hl, hm, hx, hcell⟩
  · simp [Value.cells] at hcs
    obtain ⟨rfl, rfl, rfl⟩ := hcs
    exact ⟨[], none, 0, rfl, Nat.zero_le _, fun w hw j hj => absurd hj (Nat.not_lt_zero _)⟩
  · simp [Value.cells] at hcs
    obtain ⟨rfl, rfl, rfl⟩ := hcs
    refine ⟨(List.range len).map B, some a, cap, by simp, by simp; omega, fun w hw j hj => ?_⟩
    have hj2 : j < len := by simpa using hj
    obtain ⟨b, off, spot⟩ := a
    have hspot : spot = none := by simpa [Addr.add] using World.cell?_spot (hcell 0 (by omega))
    subst hspot
    have hb : b < W.heap.size := by
      have := hcell 0 (by omega)
      rw [add_plain] at this
      exact World.block_lt_of_cell? _ _ this
    refine ⟨b, off, rfl, ?_⟩
    rw [hw.cell (p := ⟨b, off + j, none⟩) hb, ← add_plain, hcell j (by omega)]
    simp [List.getD, hj2]

set_option maxRecDepth 100000 in
theorem lifted (os : Os) (started : os.Started) (H : Type) (enc : TypeId × Value → H) :
    ReturnsInHanded {} Tryd.checked os 4 .any (fun w args => (Rows.causeFirstSpec.pre enc Tryd.prog Tryd.f4 [] false w args ∧ laidMetH Tryd.prog causeNodes.laidL w) ∧ sizedMet enc Tryd.prog Tryd.f4 (OpenSpec.ofChange Rows.causeFirstSpec) false w args)
      (Rows.causeFirstSpec.post enc Tryd.prog Tryd.f4 false true false false) := by
  refine returnsInHanded_of_change_and (C := Tryd.checked) (X := fun w _ => laidMetH Tryd.prog causeNodes.laidL w) (fun _ _ _ hh h => h.of_heap hh) causeNodes.own started (by kernel_rfl) Tryd.func4
    (ChangeSpec.witness_at (enc := enc) (C := Tryd.checked) (os := os) (X := fun w _ => laidMetH Tryd.prog causeNodes.laidL w) false (causeNodes.laidWorld os) #[.slice none 0 0, .slice none 0 0] 8 rfl (by kernel_rfl) (by kernel_rfl) (by kernel_rfl) (by kernel_rfl) (by kernel_rfl) (causeNodes.laidWorld_met os _)) ?_
  intro W base args ds gs before hval0 hW _ _ hL _
  have hval : ∀ (j : Nat) t v, Tryd.f4.params[j]? = some t → args[j]? = some v → Value.okWide Tryd.prog W .any base t v := hval0
  have hW' := hW
  obtain ⟨p, q, hA0, hV, rfl, hfz, hnd⟩ := hW
  have hA : DataW.TrodAll enc Tryd.prog W 0 (fun _ => true) true Tryd.f4.params.toList args.toList ds p := hA0
  rw [Tryd.params4] at hA hval
  obtain ⟨v0, v1, d0, d1, p0, p1, rfl, rfl, rfl, h0, h1⟩ := trodAll_two hA
  obtain ⟨rfl, rfl⟩ := trodVars_none hV
  clear hA0 hval0
  simp only [List.append_nil] at hW'
  have hlt : ∀ x ∈ p0 ++ p1, x.block < W.heap.size := fun x hx => by simpa using hW'.lt x (by simpa using hx)
  have hlt0 : ∀ x ∈ p0, x.block < W.heap.size := fun x hx => hlt x (by simp [hx])
  have hlt1 : ∀ x ∈ p1, x.block < W.heap.size := fun x hx => hlt x (by simp [hx])
  obtain ⟨ls, hls⟩ := causeNodes.lits_at W v0 d0 p0 h0 (hval 0 22 v0 rfl rfl)
  obtain ⟨ps, hps⟩ := bools_at W v1 d1 p1 h1 (hval 1 38 v1 rfl rfl)
  refine (Ca.causeFirst_walk v0 v1 ls ps W hls hps (causeNodes.handle_of_laid hL)).mono fun e W' ⟨he, hB⟩ => ?_
  subst he
  have hT := trodAll_mk2 (Below.trod causeNodes.laidOut (by kernel_rfl) (of_decide_eq_true (by kernel_rfl)) h0 hB hlt0) (Below.trod causeNodes.laidOut (by kernel_rfl) (of_decide_eq_true (by kernel_rfl)) h1 hB hlt1)
  (try simp only [List.append_nil] at hT)
  exact ⟨_, rfl, _, _, _, [], p0 ++ p1, [], hW', (trodAll_mk1 (shut_bool Tryd.underlying4 _)), hT, rfl, hB.frame _, fun h => by cases h⟩

theorem over : Rows.CauseFirstSaid :=
  OpenClaim.holds_of_wide 4 Tryd.f4 rfl rfl rfl rfl rfl rfl rfl ⟨rfl, rfl, rfl, rfl, rfl⟩ rfl rfl rfl rfl rfl (by kernel_rfl) Tryd.func4 (by kernel_rfl)
    (of_decide_eq_true (by kernel_rfl)) (by unfold Func.isWrapper; first | (rw [if_pos (by decide +kernel)]; kernel_rfl) | (rw [if_neg (by decide +kernel)]; exact ⟨rfl, rfl⟩))
    (fun os started H enc _ => lifted os started H enc)

theorem proved : Rows.CauseFirstCardSaid :=
  Claim7.holds_tied_plain_at .later [] [.handle] true (true, "35d59f51da2d3670c2cb59156788d3c27b42a48b95c835906988ca99225aafb0") true
    over (fun _ h => by cases h) (by kernel_rfl) (fun _ h => by cases h) causeFirst_row_tie rfl ⟨rfl, rfl⟩ (by kernel_rfl) rfl
    (fun f fn hf hfn => by
      obtain rfl : f = 4 := Option.some.inj ((show Tryd.prog.funcNamed "corbel/corbellaw1.CauseFirst" = some 4 by kernel_rfl).symm.trans hf) |>.symm
      obtain rfl : fn = Tryd.f4 := (Option.some.inj (Tryd.func4.symm.trans hfn)).symm
      exact ⟨by kernel_rfl, fun j t ht => by
        rw [Tryd.params4] at ht
        have hm : t ∈ [22, 38] := by simpa using Array.mem_of_getElem? ht
        have hall : ([22, 38].all fun u => !Tryd.prog.wantsStandIn u) = true := by kernel_rfl
        exact (show Tryd.prog.wantsStandIn t = false by simpa using List.all_eq_true.1 hall t hm)⟩)
    (by kernel_rfl)
end Go.Proofs.YtoknokbbggnmjaaDoor.causeFirst
