/-
  The document's SamePieces, at the same pieces.
-/
import Derived.Test.YtdkhgkkdnjejmaaPuE
namespace Go.Proofs.Ytdkhgkkdnjejmaa.Ch
set_option linter.unusedSimpArgs false
open Go Go.RowKit Go.Sl Go.BigFrame
set_option linter.unusedVariables false

set_option maxRecDepth 100000 in
set_option maxHeartbeats 4000000 in
theorem same_pieces (xs ys : List (Pc × Value)) (va vb : Value) (Ra Rb M B C : List Atom) (W w : World)
    (hra : RowA 45 4 va xs.length (pcsC xs) Ra) (hrb : RowA 45 4 vb ys.length (pcsC ys) Rb) (hs : Sat W w (Ra ++ (Rb ++ M)))
    (hxy : xs.map Prod.fst = ys.map Prod.fst) (hbx : PcBl B xs) (hby : PcBl C ys) (hB : ∀ x ∈ B, x ∈ M) (hC : ∀ x ∈ C, x ∈ M) (hn : xs.length ≤ 2) :
    Calls Try.prog 49 #[va, vb] w fun e w' => e = .returned (.bool true) ∧ Sat W w' (Ra ++ (Rb ++ M)) := by
  obtain ⟨aa, ca, rfl⟩ := Ch.RowA.slice hra
  obtain ⟨ab, cb, rfl⟩ := Ch.RowA.slice hrb
  have hlen : xs.length = ys.length := by have := congrArg List.length hxy; simpa using this
  obtain ⟨n, hnn⟩ : ∃ n, n = xs.length := ⟨_, rfl⟩
  have HN := Lib.hid hnn
  have HN2 := Lib.hid (hnn.trans hlen)
  have HRA := Lib.hid hra
  have HRB := Lib.hid hrb
  have HXY := Lib.hid hxy
  have HBX := Lib.hid hbx
  have HBY := Lib.hid hby
  rw [← hlen, ← hnn]
  rw [← hnn] at hn
  clear hra hrb hxy hbx hby hlen hnn
  go_enter Try.func49, Try.ntmps49
  go_wp2_with fail
  go_loopw [5] (fun iv wr => ∃ i : Nat, iv = .int .i64 i ∧ i ≤ n ∧ Sat W wr (Ra ++ (Rb ++ M))) (fun iv _ => (n - (intOf iv).toNat))
  case atStart => exact ⟨0, rfl, Nat.zero_le _, hs⟩
  case round =>
    clear hs
    obtain ⟨i, rfl, hi, hs⟩ := hrel
    have i0 : (0 : Int) ≤ i := by omega
    by_cases hin : i < n
    · have i1 : (i : Int) < n := by omega
      have i2 : (i : Int) < 1000000 := by omega
      obtain ⟨⟨⟨p0, p1, p2, p3⟩, pv⟩, hp⟩ : ∃ x, xs[i]? = some x := ⟨_, List.getElem?_eq_getElem (by have := HN.out; omega)⟩
      obtain ⟨⟨q, qv⟩, hq⟩ : ∃ x, ys[i]? = some x := ⟨_, List.getElem?_eq_getElem (by have := HN2.out; omega)⟩
      obtain rfl : (⟨p0, p1, p2, p3⟩ : Pc) = q := by
        have h1 : (xs.map Prod.fst)[i]? = some ⟨p0, p1, p2, p3⟩ := by rw [List.getElem?_map, hp]; rfl
        have h2 : (ys.map Prod.fst)[i]? = some q := by rw [List.getElem?_map, hq]; rfl
        rw [HXY.out, h2] at h1
        exact (Option.some.inj h1).symm
      obtain ⟨hbp, hrp⟩ := HBX.out _ (List.mem_of_getElem? hp)
      obtain ⟨hbq, _⟩ := HBY.out _ (List.mem_of_getElem? hq)
      have hra := HRA.out
      have hrb := HRB.out
      rw [← HN.out] at hra
      rw [← HN2.out] at hrb
      obtain ⟨ga, oa, ka, he, _, _, _⟩ := Ch.RowA.some_of hra (by omega)
      obtain ⟨rfl, rfl⟩ : aa = some ⟨ga, oa, none⟩ ∧ ca = ka := by cases he; exact ⟨rfl, rfl⟩
      clear he
      obtain ⟨gb, ob, kb, he, _, _, _⟩ := Ch.RowA.some_of hrb (by omega)
      obtain ⟨rfl, rfl⟩ : ab = some ⟨gb, ob, none⟩ ∧ cb = kb := by cases he; exact ⟨rfl, rfl⟩
      clear he
      have hsb : Sat W wr (Rb ++ (Ra ++ M)) := hs.use (by intro x; simp only [cnt_append, cnt_cons, cnt_nil]; omega)
      have hc := fun f u (hu : (pcCells ⟨p0, p1, p2, p3⟩ pv)[f]? = some u) => (hra.cells hs rfl (i * 4 + f) (List.getElem?_eq_some_iff.1 (pcsC_get hp f u hu)).1).1.trans (pcsC_get hp f u hu)
      have hd := fun f u (hu : (pcCells ⟨p0, p1, p2, p3⟩ qv)[f]? = some u) => (hrb.cells hsb rfl (i * 4 + f) (List.getElem?_eq_some_iff.1 (pcsC_get hq f u hu)).1).1.trans (pcsC_get hq f u hu)
      have c0 : wr.cell? ⟨ga, oa + i * 4, none⟩ = some (.int .i64 p0) := hc 0 _ rfl
      have c1 : wr.cell? ⟨ga, oa + i * 4 + 1, none⟩ = some (.int .i64 p1) := by rw [Nat.add_assoc]; exact hc 1 _ rfl
      have c2 : wr.cell? ⟨ga, oa + i * 4 + 2, none⟩ = some (.int .i64 p2) := by rw [Nat.add_assoc]; exact hc 2 _ rfl
      have c3 : wr.cell? ⟨ga, oa + i * 4 + 3, none⟩ = some pv := by rw [Nat.add_assoc]; exact hc 3 _ rfl
      have d0 : wr.cell? ⟨gb, ob + i * 4, none⟩ = some (.int .i64 p0) := hd 0 _ rfl
      have d1 : wr.cell? ⟨gb, ob + i * 4 + 1, none⟩ = some (.int .i64 p1) := by rw [Nat.add_assoc]; exact hd 1 _ rfl
      have d2 : wr.cell? ⟨gb, ob + i * 4 + 2, none⟩ = some (.int .i64 p2) := by rw [Nat.add_assoc]; exact hd 2 _ rfl
      have d3 : wr.cell? ⟨gb, ob + i * 4 + 3, none⟩ = some qv := by rw [Nat.add_assoc]; exact hd 3 _ rfl
      have hl32 : p3.length < 1000000 := by have := hrp.2.2.2.2.2.2; simp only at this; omega
      have hsm := fun w (hs : Sat W w (Ra ++ (Rb ++ M))) => ref_same ⟨p0, p1, p2, p3⟩ ⟨p0, p1, p2, p3⟩ pv qv W w _ hs (fun y hy => hbp.reads hy (fun x hx => List.mem_append_right _ (List.mem_append_right _ (hB x hx)))) (fun y hy => hbq.reads hy (fun x hx => List.mem_append_right _ (List.mem_append_right _ (hC x hx)))) hl32 hl32
      try simp only at hbp hbq
      obtain ⟨pg, po, pc, hv1, _, _⟩ := hbp
      try simp only at hv1
      subst hv1
      obtain ⟨qg, qo, qc, hv2, _, _⟩ := hbq
      try simp only at hv2
      subst hv2
      rw [decide_eq_true (rfl : (⟨p0, p1, p2, p3⟩ : Pc) = ⟨p0, p1, p2, p3⟩)] at hsm
      unfold pcV at hsm
      simp only at hsm
      have HSM := Lib.hid hsm
      clear hsm hc hd hsb hp hq hrp hra hrb
      go_wp2_with fail
      refine wp_region_one [8] [] [] [] [0, 1, 2, 3, 4, 5, 6, 7, 8, 9] (by kernel_rfl) (by kernel_rfl) ?_
      repeat (first | (refine can_pu1 rfl rfl rfl rfl rfl rfl (fun K hK => ?_); go_big_quiet_op; refine hK _ ?_; clear hK K) | (refine can_st1 rfl rfl rfl rfl rfl rfl (fun K hK => ?_); go_big_quiet_op; refine hK _ ?_; clear hK K) | (refine can_early1 rfl rfl rfl rfl rfl (fun K hK => ?_); go_big_quiet_op; refine hK _ ?_; clear hK K) | (refine can_skip rfl rfl rfl ?_; simp only [Act.put, List.setIfInBounds_toArray, List.set_cons_zero, List.set_cons_succ]))
      refine can_act1 rfl rfl rfl (fun K hK => ?_)
      go_wp2_with fail
      refine (HSM.out _ hs.drew).mono ?_; rintro r2 w2 ⟨rfl, hs2⟩
      apply hK
      clear hK c0 c1 c2 c3 d0 d1 d2 d3 hs
      repeat (first | (refine can_pu1 rfl rfl rfl rfl rfl rfl (fun K hK => ?_); go_big_quiet_op; refine hK _ ?_; clear hK K) | (refine can_st1 rfl rfl rfl rfl rfl rfl (fun K hK => ?_); go_big_quiet_op; refine hK _ ?_; clear hK K) | (refine can_early1 rfl rfl rfl rfl rfl (fun K hK => ?_); go_big_quiet_op; refine hK _ ?_; clear hK K) | (refine can_skip rfl rfl rfl ?_; simp only [Act.put, List.setIfInBounds_toArray, List.set_cons_zero, List.set_cons_succ]))
      refine can_end1 ?_; (try simp only [Exit.then])
      go_wp2_with fail
      refine ⟨⟨i + 1, by simp, by omega, hs2⟩, ?_⟩
      simp [intOf]
      omega
    · have e : n = i := by omega
      subst e
      go_wp2_with fail
      go_ret
      exact ⟨rfl, hs⟩
end Go.Proofs.Ytdkhgkkdnjejmaa.Ch
