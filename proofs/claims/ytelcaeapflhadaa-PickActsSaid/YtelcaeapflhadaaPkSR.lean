/-
  PickActs: the row.
-/
import Derived.Test.YtelcaeapflhadaaRows
import Derived.Test.YtelcaeapflhadaaPkHR
import Derived.Test.YtelcaeapflhadaaPkS
import Derived.Deep.Slices
import Derived.Deep.Fields
import Derived.ProofKit
import Derived.WalkKit
namespace Go.Proofs.Ytelcaeapflhadaa.pickActs
set_option linter.unusedSimpArgs false
open Go Go.ChangeShapes Go.WideShapes Go.ChangeAt Go.RowKit
set_option linter.unusedVariables false

theorem acts_at {H : Type} {enc : TypeId × Value → H} (W : World) (v : Value) (d : DataW H) (p : List MemPlace) (h : DataW.Trod enc Try.prog W 0 (fun _ => true) true 48 v d p) (hlt : ∀ x ∈ p, x.block < W.heap.size) (hv : Value.okWide Try.prog W .any 0 48 v) :
    ∃ xs : List (Int × Int × Int), Pk.ActsAt W v xs := by
  obtain ⟨a0, len, cap, rfl⟩ := okWide_slice Try.underlying48 hv
  obtain ⟨fuel, hf⟩ := h
  have hc50 : Try.prog.cellsOf 50 = 3 := by kernel_rfl
  have hc3 : Try.prog.cellsOf 3 = 1 := by kernel_rfl
  rcases Go.Deep.open_slice Try.underlying48 hf with ⟨hcs, hx⟩ | ⟨a, len', cap', m, n, D, Pl, hcs, _, hl, hm, hmm, hx, hi⟩
  · simp [Value.cells] at hcs
    obtain ⟨rfl, rfl, rfl⟩ := hcs
    exact ⟨[], none, 0, rfl, Nat.zero_le _, fun w hw j hj => absurd hj (Nat.not_lt_zero _)⟩
  · simp [Value.cells] at hcs
    obtain ⟨rfl, rfl, rfl⟩ := hcs
    simp only [if_true] at hmm
    subst hmm
    have each : ∀ i, ∃ t : Int × Int × Int, i < m → W.cell? (a.add (i * 3)) = some (.int .i64 t.1) ∧ W.cell? (a.add (i * 3 + 1)) = some (.int .i64 t.2.1) ∧ W.cell? (a.add (i * 3 + 2)) = some (.int .i64 t.2.2) := by
      intro i
      by_cases him : i < m
      · obtain ⟨cs', hc, ht⟩ := hi i him
        rw [hc50] at hc
        obtain ⟨ys, n', _, _, _, hyl, hfs⟩ := DataW.trod_struct Try.underlying50 ht
        obtain ⟨_, hcl, hat⟩ := World.cells?_some hc
        obtain ⟨x0, x1, x2, rfl⟩ : ∃ x0 x1 x2, cs' = [x0, x1, x2] := by
          match cs', hcl with
          | [x, y, z], _ => exact ⟨x, y, z, rfl⟩
        have h0 : DataW.trod enc Try.prog W 0 (fun _ => true) true n' 3 (([x0, x1, x2].drop 0).take (Try.prog.cellsOf 3)) = ys[0]? := hfs 0 _ rfl
        have h1 : DataW.trod enc Try.prog W 0 (fun _ => true) true n' 3 (([x0, x1, x2].drop 1).take (Try.prog.cellsOf 3)) = ys[1]? := hfs 1 _ rfl
        have h2 : DataW.trod enc Try.prog W 0 (fun _ => true) true n' 3 (([x0, x1, x2].drop 2).take (Try.prog.cellsOf 3)) = ys[2]? := hfs 2 _ rfl
        rw [hc3] at h0 h1 h2
        have hy : ys.length = 3 := hyl
        obtain ⟨y0, y1, y2, rfl⟩ : ∃ y0 y1 y2, ys = [y0, y1, y2] := by
          match ys, hy with
          | [x, y, z], _ => exact ⟨x, y, z, rfl⟩
        obtain ⟨t0, e0, _⟩ := DataW.trod_int Try.underlying3 (h0.trans rfl)
        obtain ⟨t1, e1, _⟩ := DataW.trod_int Try.underlying3 (h1.trans rfl)
        obtain ⟨t2, e2, _⟩ := DataW.trod_int Try.underlying3 (h2.trans rfl)
        have f0 : x0 = .int .i64 t0 := by simpa using e0
        have f1 : x1 = .int .i64 t1 := by simpa using e1
        have f2 : x2 = .int .i64 t2 := by simpa using e2
        subst f0; subst f1; subst f2
        refine ⟨(t0, t1, t2), fun _ => ⟨?_, ?_, ?_⟩⟩
        · have := hat 0 (by omega)
          rw [Go.Deep.add_add] at this
          simpa using this
        · have := hat 1 (by omega)
          rw [Go.Deep.add_add] at this
          simpa using this
        · have := hat 2 (by omega)
          rw [Go.Deep.add_add] at this
          simpa using this
      · exact ⟨default, fun h => absurd h him⟩
    obtain ⟨f, hcell⟩ := Classical.skolem.1 each
    refine ⟨(List.range len).map f, some a, m, by simp, by simp; omega, fun w hw j hj => ?_⟩
    have hj2 : j < len := by simpa using hj
    obtain ⟨b, off, spot⟩ := a
    have hspot : spot = none := by simpa [Addr.add] using World.cell?_spot (hcell 0 (by omega)).1
    subst hspot
    have hb : b < W.heap.size := by
      have := (hcell 0 (by omega)).1
      rw [add_plain] at this
      exact World.block_lt_of_cell? _ _ this
    obtain ⟨q0, q1, q2⟩ := hcell j (by omega)
    rw [add_plain] at q0 q1 q2
    refine ⟨b, off, rfl, ?_, ?_, ?_⟩
    · rw [hw.cell (p := ⟨b, off + j * 3, none⟩) hb, q0]
      simp [List.getD, hj2]
    · rw [Nat.add_assoc, hw.cell (p := ⟨b, off + (j * 3 + 1), none⟩) hb, q1]
      simp [List.getD, hj2]
    · rw [Nat.add_assoc, hw.cell (p := ⟨b, off + (j * 3 + 2), none⟩) hb, q2]
      simp [List.getD, hj2]

set_option maxRecDepth 100000 in
theorem lifted (os : Os) (started : os.Started) (H : Type) (enc : TypeId × Value → H) :
    ReturnsInHanded {} Try.checked os 10 .any (Rows.pickActsSpec.pre6 enc Try.prog Try.f10 Rows.pickActsRow.domain false) (Rows.pickActsSpec.post enc Try.prog Try.f10 false true false false) := by
  refine returnsInHanded_of_change (C := Try.checked) pickDrains.own started (by kernel_rfl) Try.func10
    (ChangeSpec.witness6 (enc := enc) (C := Try.checked) false ⟨#[], #[.slice none 0 0, .bool false], []⟩ 8 (by kernel_rfl) (by kernel_rfl) (by kernel_rfl) (by kernel_rfl)) ?_
  intro W base args ds gs before hval0 hW _ _
  have hval : ∀ (j : Nat) t v, Try.f10.params[j]? = some t → args[j]? = some v → Value.okWide Try.prog W .any base t v := hval0
  have hW' := hW
  obtain ⟨p, q, hA0, hV, rfl, hfz, hnd⟩ := hW
  have hA : DataW.TrodAll enc Try.prog W 0 (fun _ => true) true Try.f10.params.toList args.toList ds p := hA0
  rw [Try.params10] at hA hval
  obtain ⟨v0, v1, d0, d1, p0, p1, rfl, rfl, rfl, h0, h1⟩ := trodAll_two hA
  obtain ⟨rfl, rfl⟩ := trodVars_none hV
  obtain ⟨wide, rfl, rfl, rfl⟩ := open_bool Try.underlying4 (hval 1 4 v1 rfl rfl) h1
  clear hA0 hval0
  simp only [List.append_nil] at hW'
  have hlt : ∀ x ∈ p0, x.block < W.heap.size := fun x hx => by simpa using hW'.lt x (by simpa using hx)
  obtain ⟨xs, hxs⟩ := acts_at W v0 d0 p0 h0 hlt (hval 0 48 v0 rfl rfl)
  refine (Pk.acts_walk v0 xs wide W hxs).mono fun e W' ⟨he, hB⟩ => ?_
  subst he
  have hT := trodAll_mk2 (Below.trod pickDrains.laidOut (by kernel_rfl) (of_decide_eq_true (by kernel_rfl)) h0 hB hlt) (shut_bool Try.underlying4 wide)
  rw [List.append_nil] at hT
  exact ⟨_, rfl, _, _, _, [], p0, [], hW', (trodAll_mk1 (shut_bool Try.underlying4 _)), hT, rfl, hB.frame _, fun h => by cases h⟩

theorem over : Rows.pickActsRow.holds Try.pinned (OpenSpec.ofChange Rows.pickActsSpec) :=
  OpenClaim.holds_of_wide 10 Try.f10 rfl rfl rfl rfl rfl rfl rfl ⟨rfl, rfl, rfl, rfl, rfl⟩ rfl rfl rfl rfl rfl (by kernel_rfl) Try.func10 (by kernel_rfl)
    (of_decide_eq_true (by kernel_rfl)) (by unfold Func.isWrapper; first | (rw [if_pos (by decide +kernel)]; kernel_rfl) | (rw [if_neg (by decide +kernel)]; exact ⟨rfl, rfl⟩))
    (fun os started H enc _ => lifted os started H enc)

theorem proved : Rows.PickActsSaid :=
  over
end Go.Proofs.Ytelcaeapflhadaa.pickActs
