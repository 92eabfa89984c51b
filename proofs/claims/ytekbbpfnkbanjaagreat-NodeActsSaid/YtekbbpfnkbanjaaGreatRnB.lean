
/-
  The document's ReadIntent.
-/
import Derived.Test.YtekbbpfnkbanjaaGreatRnA
import Derived.Test.YtekbbpfnkbanjaaGreatMR
namespace Go.Sl
open Go Go.RowKit
/-- A quiet call among operations that act: its contract holds in each world of the class. -/
theorem can_callS {P : Program} {l : List Oper} {Q : Exit → Act → World → Prop} {S : World → Prop} {E St Pu N : Nat → Bool} {k : Nat} {c : List Nat} {a : Act} {w : World} {o : Oper} {f : FuncId} {args : Array Value} (v : Value) (ho : nth l k = some o) (hE : E k = false) (hSt : St k = true) (hPu : Pu k = false) (hw : Region.wanted o (yielded l.toArray a.tmps) = true)
    (hf : ∀ w, (execOp a.eval o).run P w = .ok (.enter f args) w) (hc : ∀ w2, S w2 → Calls P f args w2 fun e w'' => e = .returned v ∧ w'' = w2)
    (h : Can P One l.toArray Q S E St Pu N c (a.put o.dst v) w) : Can P One l.toArray Q S E St Pu N (k :: c) a w :=
  can_call v ho hE hw hf (fun w2 h2 => by
    rw [hSt] at h2
    have h3 : Pu k = true ∨ S w2 := h2
    rw [hPu] at h3
    exact hc w2 (h3.resolve_left (by simp))) h
end Go.Sl
namespace Go.Proofs.YtekbbpfnkbanjaaGreat.Ch
open Go Go.RowKit Go.Sl Go.BigFrame
set_option linter.unusedVariables false
set_option linter.unusedSimpArgs false

/-- What ReadIntent answers. -/
noncomputable def rdI (b : List UInt8) : Int × It × Bool :=
  if (openB b).2.2 = 0 ∧ (openB b).1 = 2 ∧ (openB b).2.1.length = 141 then (numB ((openB b).2.1.take 6), itOf (openB b).2.1, decide (rightI (itOf (openB b).2.1))) else (0, ⟨0, 0, []⟩, false)

set_option maxRecDepth 100000 in
set_option maxHeartbeats 8000000 in
theorem ref_readI (W w : World) (L : List Atom) (v : Value) (b : List UInt8) (hs : Sat W w L) (hin : ∀ y, Sat W y L → Reads y v b.length (bts b)) (hl : b.length < 1000000) (hcap : ∀ a n c, v = .slice a n c → n ≤ c) :
    Calls Tryz.prog 45 #[v] w fun r w' => ∃ bv R, r = .returned (.tuple #[.int .i64 (rdI b).1, itV (rdI b).2.1 bv, .bool (rdI b).2.2]) ∧ RowA 5 1 bv (rdI b).2.1.data.length (bts (rdI b).2.1.data) R ∧ Sat W w' (R ++ L) := by
  obtain ⟨av, nv, cv, rfl⟩ : ∃ a n c, v = .slice a n c := by
    obtain ⟨a, c, h⟩ := reads_shape (hin w hs)
    exact ⟨_, _, _, h⟩
  have HIN := Lib.hid hin
  have HCAP := Lib.hid hcap
  clear hin hcap
  obtain ⟨p, hq⟩ : ∃ p, rdI b = p := ⟨_, rfl⟩
  rw [hq]
  unfold rdI at hq
  go_enter Tryz.func45, Tryz.ntmps45
  go_wp2_with fail
  refine (ref_open W _ _ _ b (hs.newCells #[.int .i64 0, .int .i64 0, .slice none 0 0] 77) (fun y hy => HIN.out y hy.tail) hl HCAP.out).mono ?_
  rintro r w2 ⟨bv, R, rfl, hbr, hs2⟩
  generalize openB b = ob at *
  obtain ⟨k, body, e⟩ := ob
  simp only at hq hbr ⊢
  have HQ := Lib.hid hq
  clear hs hq
  obtain ⟨ab, cb, rfl⟩ := Ch.RowA.slice hbr
  generalize w.heap.size = z at *
  have hs2' : Sat W w2 (cellsA z #[.int .i64 0, .int .i64 0, .slice none 0 0] 77 :: (R ++ L)) := hs2.use (by intro x; simp only [cnt_append, cnt_cons, cnt_nil]; omega)
  have z0 : w2.cell? ⟨z, 0, none⟩ = some (.int .i64 0) := hs2'.cell m0 0
  have z1 : w2.cell? ⟨z, 1, none⟩ = some (.int .i64 0) := hs2'.cell m0 1
  have z2 : w2.cell? ⟨z, 2, none⟩ = some (.slice none 0 0) := hs2'.cell m0 2
  have f0 : w2.frozen? ⟨z, 0, none⟩ = false := hs2'.free m0 0
  have f1 : w2.frozen? ⟨z, 1, none⟩ = false := hs2'.free m0 1
  have f2 : w2.frozen? ⟨z, 2, none⟩ = false := hs2'.free m0 2
  clear hs2
  by_cases he : e = 0
  case neg =>
    have hn : p = (0, ⟨0, 0, []⟩, false) := by rw [← HQ.out, if_neg (fun h => he h.1)]
    have q0 : (e != 0) = true := by simpa using he
    have HN := Lib.hid hn
    clear hn he
    go_wp2_with fail
    have hz3 := Sat.setCell (Sat.setCell (Sat.setCell hs2' 0 (.int .i64 0)) 1 (.int .i64 0)) 2 (.slice none 0 0)
    refine bodyPost_ret (v := .tuple #[.int .i64 0, itV ⟨0, 0, []⟩ (.slice none 0 0), .bool false]) (by simp [results, Tryz.results45, go_sem, itV, *]) rfl ?_
    rw [HN.out]
    first
      | exact ⟨_, _, rfl, RowA.nil _ _, hz3.tail.right⟩
      | exact ⟨_, rfl, _, RowA.nil _ _, hz3.tail.right⟩
  case pos =>
  subst he
  by_cases hk : k = 2
  case neg =>
    have hn : p = (0, ⟨0, 0, []⟩, false) := by rw [← HQ.out, if_neg (fun h => hk h.2.1)]
    have q0 : (k != 2) = true := by simpa using hk
    have HN := Lib.hid hn
    clear hn hk
    go_wp2_with fail
    have hz3 := Sat.setCell (Sat.setCell (Sat.setCell hs2' 0 (.int .i64 0)) 1 (.int .i64 0)) 2 (.slice none 0 0)
    refine bodyPost_ret (v := .tuple #[.int .i64 0, itV ⟨0, 0, []⟩ (.slice none 0 0), .bool false]) (by simp [results, Tryz.results45, go_sem, itV, *]) rfl ?_
    rw [HN.out]
    first
      | exact ⟨_, _, rfl, RowA.nil _ _, hz3.tail.right⟩
      | exact ⟨_, rfl, _, RowA.nil _ _, hz3.tail.right⟩
  case pos =>
  subst hk
  by_cases hlen : body.length = 141
  case neg =>
    have hn : p = (0, ⟨0, 0, []⟩, false) := by rw [← HQ.out, if_neg (fun h => hlen h.2.2)]
    have q0 : ((body.length : Int) != 141) = true := by simp; omega
    have HN := Lib.hid hn
    clear hn hlen
    go_wp2_with fail
    have hz3 := Sat.setCell (Sat.setCell (Sat.setCell hs2' 0 (.int .i64 0)) 1 (.int .i64 0)) 2 (.slice none 0 0)
    refine bodyPost_ret (v := .tuple #[.int .i64 0, itV ⟨0, 0, []⟩ (.slice none 0 0), .bool false]) (by simp [results, Tryz.results45, go_sem, itV, *]) rfl ?_
    rw [HN.out]
    first
      | exact ⟨_, _, rfl, RowA.nil _ _, hz3.tail.right⟩
      | exact ⟨_, rfl, _, RowA.nil _ _, hz3.tail.right⟩
  case pos =>
  have hq2 : (numB (body.take 6), itOf body, decide (rightI (itOf body))) = p := by
    have h := HQ.out
    rw [if_pos (⟨rfl, rfl, hlen⟩ : (0 : Int) = 0 ∧ (2 : Int) = 2 ∧ body.length = 141)] at h
    exact h
  clear HQ
  rcases hbr.2 with ⟨h1, h2, _⟩ | ⟨g, off, cap, h1, hc1, hc2, hR⟩
  · omega
  obtain ⟨rfl, rfl⟩ : ab = some ⟨g, off, none⟩ ∧ cap = cb := by
    cases h1
    exact ⟨rfl, rfl⟩
  obtain ⟨LL, hLL⟩ : ∃ LL, LL = cellsA z #[.int .i64 0, .int .i64 0, .slice none 0 0] 77 :: (R ++ L) := ⟨_, rfl⟩
  have hcell : ∀ y, Sat W y LL → ∀ k u, body[k]? = some u → y.cell? ((⟨g, off, none⟩ : Addr).add k) = some (.int .u8 (u.toNat : Int)) := fun y hy k u hu => by
    rw [hLL] at hy
    rw [add_row, (hbr.cells hy.tail rfl k (by rw [bts_length]; exact (List.getElem?_eq_some_iff.1 hu).1)).1]
    exact bts_get hu
  rw [← hLL] at hs2'
  clear h1
  obtain ⟨u6, hu6⟩ : ∃ c, body[6]? = some c := ⟨_, List.getElem?_eq_getElem (by omega)⟩
  have e6 : ∀ y : Of W LL, y.v.cell? ⟨g, off + 6, none⟩ = some (.int .u8 (u6.toNat : Int)) := fun y => hcell y.v y.s 6 _ hu6
  have v6 := u8_lt u6
  have x6 : (0 : Int) ≤ u6.toNat := by omega
  have hcp : (141 : Int) ≤ cap := by omega
  have hcp2 : (13 : Int) ≤ cap := by omega
  have hcp3 : (6 : Int) ≤ cap := by omega
  have hpo : itOf body = ⟨u6.toNat, numB ((body.drop 7).take 6), (body.drop 13).take 128⟩ := by
    unfold itOf
    have e8 : (body.drop 13).take 128 = body.drop 13 := List.take_of_length_le (by simp; omega)
    rw [getD_of hu6, e8]
  have HLL := Lib.hid hLL
  have HLEN := Lib.hid hlen
  have hl1 : ((body.drop 7).take 6).length ≤ 6 := by simp; omega
  have hlN : (body.take 6).length ≤ 6 := by simp; omega
  have hl3 : ((body.drop 13).take 128).length = 128 := by simp; omega
  have hnum : ∀ y, Sat W y LL → ∀ c', Reads y (.slice (some ⟨g, off + 7, none⟩) 6 c') ((body.drop 7).take 6).length (bts ((body.drop 7).take 6)) := fun y hy c' => reads_sub (hcell y hy) 7 6 c' (by omega) (add_off g off 7 none (by omega))
  have hdat : ∀ y, Sat W y LL → ∀ c', Reads y (.slice (some ⟨g, off + 13, none⟩) 128 c') ((body.drop 13).take 128).length (bts ((body.drop 13).take 128)) := fun y hy c' => reads_sub (hcell y hy) 13 128 c' (by omega) (add_off g off 13 none (by omega))
  have hnn : ∀ y, Sat W y LL → ∀ c', Reads y (.slice (some ⟨g, off, none⟩) 6 c') (body.take 6).length (bts (body.take 6)) := fun y hy c' => by
    refine .inr ⟨_, _, by rw [List.length_take, hlen]; rfl, fun j u hu => ?_⟩
    rw [bts, List.getElem?_map, List.getElem?_take] at hu
    split at hu
    · obtain ⟨q, hq, rfl⟩ := Option.map_eq_some_iff.1 hu
      exact hcell y hy j q hq
    · simp at hu
  rw [hpo] at hq2
  generalize (body.drop 7).take 6 = M6 at *
  generalize body.take 6 = MN at *
  generalize (body.drop 13).take 128 = D at *
  have HQ2 := Lib.hid hq2
  have HNUM := Lib.hid hnum
  have HNN := Lib.hid hnn
  have HDAT := Lib.hid hdat
  have HL3 := Lib.hid hl3
  rw [hlen]
  clear hl3 hnum hdat hpo hcell hLL hu6 hbr hR hc1 hc2 hlen hq2 hnn
  go_wp2_with fail
  refine wp_region_plan [7, 10, 12, 13] [0, 1, 2, 3, 4, 5, 6, 8, 9, 11] [0, 1, 3, 4, 5, 8, 9, 11] [7, 10, 12] [0, 1, 2, 3, 4, 5, 6, 8, 9] (.two [7] (.two [10, 11, 12, 13] .nil [12, 10, 11, 13] .nil) [12, 7, 10, 11, 13] .nil) (Held W LL) (by kernel_rfl) (by kernel_rfl) ?_ ?_
  · exact Held.mk hs2'.drew
  have hne : Nonempty (Of W LL) := ⟨⟨_, hs2'⟩⟩
  have hsT : Sat W w2.drew LL := hs2'.drew
  repeat (first | (refine can_pu1 rfl rfl rfl rfl rfl rfl (fun K hK => ?_); go_big_quiet_op; refine hK _ ?_; clear hK K) | (refine can_st1 rfl rfl rfl rfl rfl rfl (fun K hK => ?_); go_big_quiet_op; refine hK _ ?_; clear hK K) | (refine can_early1 rfl rfl rfl rfl rfl (fun K hK => ?_); go_big_quiet_op; refine hK _ ?_; clear hK K) | (refine can_skip rfl rfl rfl ?_; simp only [Act.put, List.setIfInBounds_toArray, List.set_cons_zero, List.set_cons_succ]))
  refine can_callS (.int .i64 (numB M6)) rfl rfl rfl rfl rfl (by intro w; go_simp; (try (repeat' apply And.intro)); all_goals rfl) (fun y ⟨yo, hyo⟩ => (ref_from _ M6 y (HNUM.out _ (by rw [hyo]; exact yo.s) _) hl1).mono fun e w' h => ⟨h.1, h.2.symm⟩) ?_
  simp only [Act.put, List.setIfInBounds_toArray, List.set_cons_zero, List.set_cons_succ]
  repeat (first | (refine can_pu1 rfl rfl rfl rfl rfl rfl (fun K hK => ?_); go_big_quiet_op; refine hK _ ?_; clear hK K) | (refine can_st1 rfl rfl rfl rfl rfl rfl (fun K hK => ?_); go_big_quiet_op; refine hK _ ?_; clear hK K) | (refine can_early1 rfl rfl rfl rfl rfl (fun K hK => ?_); go_big_quiet_op; refine hK _ ?_; clear hK K) | (refine can_skip rfl rfl rfl ?_; simp only [Act.put, List.setIfInBounds_toArray, List.set_cons_zero, List.set_cons_succ]))
  clear e6 hne
  refine with_sat hsT ?_
  clear hsT hs2' z0 z1 z2 f0 f1 f2
  intro wt hsT
  refine can_two ?_ ?_
  · skip
    refine can_actS rfl rfl rfl rfl (fun K hK => ?_)
    go_wp2_with fail
    refine ⟨Held.mk (Sat.alloc (hsT) _), ?_⟩
    have hs6 := none_sat hsT
    generalize (wt).heap.size = z7 at *
    refine with_sat hs6 ?_
    clear hs6
    intro w6 hs6
    refine can_two ?_ ?_
    · skip
      refine can_actS rfl rfl rfl rfl (fun K hK => ?_)
      refine wp_append_u8 rfl [] D rfl rfl (none_row _) hs6 (HDAT.out _ (hs6.right) _) (by rw [HL3.out]; show 0 + 128 < 1000000; omega) (fun v7 w7 R7 hr7 hs7 => ?_)
      apply hK
      refine ⟨Held.mk (hs7.right), ?_⟩
      clear hK
      simp only [Act.put, List.setIfInBounds_toArray, List.set_cons_zero, List.set_cons_succ]
      rw [List.nil_append] at hr7
      obtain ⟨a7, c7, rfl⟩ := Ch.RowA.slice hr7
      repeat (first | (refine can_pu1 rfl rfl rfl rfl rfl rfl (fun K hK => ?_); go_big_quiet_op; refine hK _ ?_; clear hK K) | (refine can_st1 rfl rfl rfl rfl rfl rfl (fun K hK => ?_); go_big_quiet_op; refine hK _ ?_; clear hK K) | (refine can_early1 rfl rfl rfl rfl rfl (fun K hK => ?_); go_big_quiet_op; refine hK _ ?_; clear hK K) | (refine can_skip rfl rfl rfl ?_; simp only [Act.put, List.setIfInBounds_toArray, List.set_cons_zero, List.set_cons_succ]))
      refine can_actS rfl rfl rfl rfl (fun K hK => ?_)
      go_wp2_with fail
      refine ⟨Held.mk (Sat.alloc (hs7.right) _), ?_⟩
      have hs8 := Sat.newCells hs7 #[.int .i64 0, .int .i64 0, .slice none 0 0] 77
      generalize (w7).heap.size = z8 at *
      refine with_sat hs8 ?_
      clear hs8
      intro w8 hs8
      have hsF := Sat.use (M := cellsA z8 #[.int .i64 0, .int .i64 0, .slice none 0 0] 77 :: (R7 ++ LL)) hs8 (by intro x; simp only [cnt_append, cnt_cons, cnt_nil]; omega)
      have g0 := hsF.cell m0 0
      have g1 := hsF.cell m0 1
      have g2 := hsF.cell m0 2
      have j0 := hsF.free m0 0
      have j1 := hsF.free m0 1
      have j2 := hsF.free m0 2
      repeat (first | (refine can_pu1 rfl rfl rfl rfl rfl rfl (fun K hK => ?_); go_big_quiet_op; refine hK _ ?_; clear hK K) | (refine can_st1 rfl rfl rfl rfl rfl rfl (fun K hK => ?_); go_big_quiet_op; refine hK _ ?_; clear hK K) | (refine can_early1 rfl rfl rfl rfl rfl (fun K hK => ?_); go_big_quiet_op; refine hK _ ?_; clear hK K) | (refine can_skip rfl rfl rfl ?_; simp only [Act.put, List.setIfInBounds_toArray, List.set_cons_zero, List.set_cons_succ]))
      refine can_actF rfl rfl rfl rfl (fun K hK => ?_)
      go_wp2_with fail
      have hz := Sat.setCell (Sat.setCell (Sat.setCell hsF 0 (.int .i64 u6.toNat)) 1 (.int .i64 (numB M6))) 2 (.slice a7 D.length c7)
      simp only [List.setIfInBounds_toArray, List.set_cons_zero, List.set_cons_succ] at hz
      refine can_end1 ?_; (try simp only [Exit.then])
      refine with_sat hz ?_
      clear hz hsF g0 g1 g2 j0 j1 j2 hs8 hs7 hs6 hsT
      intro w9 hs9
      obtain ⟨L9, hL9⟩ : ∃ L9, L9 = cellsA z8 #[.int .i64 u6.toNat, .int .i64 (numB M6), .slice a7 D.length c7] 77 :: (R7 ++ LL) := ⟨_, rfl⟩
      have HL9 := Lib.hid hL9
      have hm9 : cellsA z8 #[.int .i64 u6.toNat, .int .i64 (numB M6), .slice a7 D.length c7] 77 ∈ L9 := by rw [hL9]; exact m0
      rw [← hL9] at hs9
      have g0 : ∀ y : Of W L9, y.v.cell? ⟨z8, 0, none⟩ = some (.int .i64 u6.toNat) := fun y => y.s.cell hm9 0
      have g1 : ∀ y : Of W L9, y.v.cell? ⟨z8, 1, none⟩ = some (.int .i64 (numB M6)) := fun y => y.s.cell hm9 1
      have g2 : ∀ y : Of W L9, y.v.cell? ⟨z8, 2, none⟩ = some (.slice a7 D.length c7) := fun y => y.s.cell hm9 2
      clear hL9
      have hs9d : Sat W w9.drew L9 := hs9.drew
      go_wp2_with fail
      refine wp_region_held1 [2, 5, 7] [3, 4] [] [2, 5] [0, 1, 3, 4, 2, 5, 6, 7, 8] (Held W L9) (by kernel_rfl) (by kernel_rfl) ?_ ?_
      · exact Held.mk hs9d
      have hne : Nonempty (Of W L9) := ⟨⟨_, hs9⟩⟩
      repeat (first | (refine can_pu1 rfl rfl rfl rfl rfl rfl (fun K hK => ?_); go_big_quiet_op; refine hK _ ?_; clear hK K) | (refine can_st1 rfl rfl rfl rfl rfl rfl (fun K hK => ?_); go_big_quiet_op; refine hK _ ?_; clear hK K) | (refine can_early1 rfl rfl rfl rfl rfl (fun K hK => ?_); go_big_quiet_op; refine hK _ ?_; clear hK K) | (refine can_skip rfl rfl rfl ?_; simp only [Act.put, List.setIfInBounds_toArray, List.set_cons_zero, List.set_cons_succ]))
      refine with_sat hs9d ?_
      clear hs9d hs9 g0 g1 g2 hne hm9
      intro w10 hs10
      refine can_actS rfl rfl rfl rfl (fun K hK => ?_)
      go_wp2_with fail
      refine (ref_from _ MN w10 (HNN.out _ (by rw [HL9.out] at hs10; exact hs10.tail.right) _) hlN).mono ?_; rintro r w11 ⟨rfl, rfl⟩
      apply hK
      refine ⟨Held.mk hs10, ?_⟩
      clear hK
      have hrt := ref_iright ⟨u6.toNat, numB M6, D⟩ a7 c7 w10
      unfold itV at hrt
      simp only at hrt
      have HRT := Lib.hid hrt
      clear hrt
      refine can_actS rfl rfl rfl rfl (fun K hK => ?_)
      go_wp2_with fail
      refine HRT.out.mono ?_; rintro r w12 ⟨rfl, hx⟩
      have hs12 := hs10.below hx
      apply hK
      refine ⟨Held.mk hs12, ?_⟩
      clear hK hs10 hx HRT
      rw [HL9.out, HLL.out] at hs12
      have hs13 := Sat.use (M := cellsA z #[.int .i64 0, .int .i64 0, .slice none 0 0] 77 :: (R7 ++ L)) hs12 (by intro x; simp only [cnt_append, cnt_cons, cnt_nil]; omega)
      clear hs12
      have z0 := hs13.cell m0 0
      have z1 := hs13.cell m0 1
      have z2 := hs13.cell m0 2
      have f0 := hs13.free m0 0
      have f1 := hs13.free m0 1
      have f2 := hs13.free m0 2
      repeat (first | (refine can_pu1 rfl rfl rfl rfl rfl rfl (fun K hK => ?_); go_big_quiet_op; refine hK _ ?_; clear hK K) | (refine can_st1 rfl rfl rfl rfl rfl rfl (fun K hK => ?_); go_big_quiet_op; refine hK _ ?_; clear hK K) | (refine can_early1 rfl rfl rfl rfl rfl (fun K hK => ?_); go_big_quiet_op; refine hK _ ?_; clear hK K) | (refine can_skip rfl rfl rfl ?_; simp only [Act.put, List.setIfInBounds_toArray, List.set_cons_zero, List.set_cons_succ]))
      refine can_actF rfl rfl rfl rfl (fun K hK => ?_)
      go_wp2_with fail
      have hz := Sat.setCell (Sat.setCell (Sat.setCell hs13 0 (.int .i64 u6.toNat)) 1 (.int .i64 (numB M6))) 2 (.slice a7 D.length c7)
      repeat (first | (refine can_pu1 rfl rfl rfl rfl rfl rfl (fun K hK => ?_); go_big_quiet_op; refine hK _ ?_; clear hK K) | (refine can_st1 rfl rfl rfl rfl rfl rfl (fun K hK => ?_); go_big_quiet_op; refine hK _ ?_; clear hK K) | (refine can_early1 rfl rfl rfl rfl rfl (fun K hK => ?_); go_big_quiet_op; refine hK _ ?_; clear hK K) | (refine can_skip rfl rfl rfl ?_; simp only [Act.put, List.setIfInBounds_toArray, List.set_cons_zero, List.set_cons_succ]))
      refine can_end1 ?_; (try simp only [Exit.then])
      go_wp2_with fail
      refine bodyPost_ret (v := .tuple #[.int .i64 (numB MN), itV ⟨u6.toNat, numB M6, D⟩ (.slice a7 D.length c7), .bool (decide (rightI ⟨u6.toNat, numB M6, D⟩))]) (by simp [results, Tryz.results45, go_sem, itV, *]) rfl ?_
      rw [← HQ2.out]
      first
        | exact ⟨_, _, rfl, hr7, hz.tail⟩
        | exact ⟨_, rfl, _, hr7, hz.tail⟩
    · skip
      refine can_actS rfl rfl rfl rfl (fun K hK => ?_)
      go_wp2_with fail
      refine ⟨Held.mk (Sat.alloc (hs6.right) _), ?_⟩
      have hs8 := Sat.newCells hs6 #[.int .i64 0, .int .i64 0, .slice none 0 0] 77
      generalize (w6).heap.size = z8 at *
      refine with_sat hs8 ?_
      clear hs8
      intro w8 hs8
      have hs6 := Sat.use (M := [(z7, rowP 5 0 (0 * 1) [])] ++ (cellsA z8 #[.int .i64 0, .int .i64 0, .slice none 0 0] 77 :: LL)) hs8 (by intro x; simp only [cnt_append, cnt_cons, cnt_nil]; omega)
      refine can_actS rfl rfl rfl rfl (fun K hK => ?_)
      refine wp_append_u8 rfl [] D rfl rfl (none_row _) hs6 (HDAT.out _ (hs6.right.tail) _) (by rw [HL3.out]; show 0 + 128 < 1000000; omega) (fun v7 w7 R7 hr7 hs7 => ?_)
      apply hK
      refine ⟨Held.mk (hs7.right.tail), ?_⟩
      clear hK
      simp only [Act.put, List.setIfInBounds_toArray, List.set_cons_zero, List.set_cons_succ]
      rw [List.nil_append] at hr7
      obtain ⟨a7, c7, rfl⟩ := Ch.RowA.slice hr7
      repeat (first | (refine can_pu1 rfl rfl rfl rfl rfl rfl (fun K hK => ?_); go_big_quiet_op; refine hK _ ?_; clear hK K) | (refine can_st1 rfl rfl rfl rfl rfl rfl (fun K hK => ?_); go_big_quiet_op; refine hK _ ?_; clear hK K) | (refine can_early1 rfl rfl rfl rfl rfl (fun K hK => ?_); go_big_quiet_op; refine hK _ ?_; clear hK K) | (refine can_skip rfl rfl rfl ?_; simp only [Act.put, List.setIfInBounds_toArray, List.set_cons_zero, List.set_cons_succ]))
      have hsF := Sat.use (M := cellsA z8 #[.int .i64 0, .int .i64 0, .slice none 0 0] 77 :: (R7 ++ LL)) hs7 (by intro x; simp only [cnt_append, cnt_cons, cnt_nil]; omega)
      have g0 := hsF.cell m0 0
      have g1 := hsF.cell m0 1
      have g2 := hsF.cell m0 2
      have j0 := hsF.free m0 0
      have j1 := hsF.free m0 1
      have j2 := hsF.free m0 2
      repeat (first | (refine can_pu1 rfl rfl rfl rfl rfl rfl (fun K hK => ?_); go_big_quiet_op; refine hK _ ?_; clear hK K) | (refine can_st1 rfl rfl rfl rfl rfl rfl (fun K hK => ?_); go_big_quiet_op; refine hK _ ?_; clear hK K) | (refine can_early1 rfl rfl rfl rfl rfl (fun K hK => ?_); go_big_quiet_op; refine hK _ ?_; clear hK K) | (refine can_skip rfl rfl rfl ?_; simp only [Act.put, List.setIfInBounds_toArray, List.set_cons_zero, List.set_cons_succ]))
      refine can_actF rfl rfl rfl rfl (fun K hK => ?_)
      go_wp2_with fail
      have hz := Sat.setCell (Sat.setCell (Sat.setCell hsF 0 (.int .i64 u6.toNat)) 1 (.int .i64 (numB M6))) 2 (.slice a7 D.length c7)
      simp only [List.setIfInBounds_toArray, List.set_cons_zero, List.set_cons_succ] at hz
      refine can_end1 ?_; (try simp only [Exit.then])
      refine with_sat hz ?_
      clear hz hsF g0 g1 g2 j0 j1 j2 hs8 hs7 hs6 hsT
      intro w9 hs9
      obtain ⟨L9, hL9⟩ : ∃ L9, L9 = cellsA z8 #[.int .i64 u6.toNat, .int .i64 (numB M6), .slice a7 D.length c7] 77 :: (R7 ++ LL) := ⟨_, rfl⟩
      have HL9 := Lib.hid hL9
      have hm9 : cellsA z8 #[.int .i64 u6.toNat, .int .i64 (numB M6), .slice a7 D.length c7] 77 ∈ L9 := by rw [hL9]; exact m0
      rw [← hL9] at hs9
      have g0 : ∀ y : Of W L9, y.v.cell? ⟨z8, 0, none⟩ = some (.int .i64 u6.toNat) := fun y => y.s.cell hm9 0
      have g1 : ∀ y : Of W L9, y.v.cell? ⟨z8, 1, none⟩ = some (.int .i64 (numB M6)) := fun y => y.s.cell hm9 1
      have g2 : ∀ y : Of W L9, y.v.cell? ⟨z8, 2, none⟩ = some (.slice a7 D.length c7) := fun y => y.s.cell hm9 2
      clear hL9
      have hs9d : Sat W w9.drew L9 := hs9.drew
      go_wp2_with fail
      refine wp_region_held1 [2, 5, 7] [3, 4] [] [2, 5] [0, 1, 3, 4, 2, 5, 6, 7, 8] (Held W L9) (by kernel_rfl) (by kernel_rfl) ?_ ?_
      · exact Held.mk hs9d
      have hne : Nonempty (Of W L9) := ⟨⟨_, hs9⟩⟩
      repeat (first | (refine can_pu1 rfl rfl rfl rfl rfl rfl (fun K hK => ?_); go_big_quiet_op; refine hK _ ?_; clear hK K) | (refine can_st1 rfl rfl rfl rfl rfl rfl (fun K hK => ?_); go_big_quiet_op; refine hK _ ?_; clear hK K) | (refine can_early1 rfl rfl rfl rfl rfl (fun K hK => ?_); go_big_quiet_op; refine hK _ ?_; clear hK K) | (refine can_skip rfl rfl rfl ?_; simp only [Act.put, List.setIfInBounds_toArray, List.set_cons_zero, List.set_cons_succ]))
      refine with_sat hs9d ?_
      clear hs9d hs9 g0 g1 g2 hne hm9
      intro w10 hs10
      refine can_actS rfl rfl rfl rfl (fun K hK => ?_)
      go_wp2_with fail
      refine (ref_from _ MN w10 (HNN.out _ (by rw [HL9.out] at hs10; exact hs10.tail.right) _) hlN).mono ?_; rintro r w11 ⟨rfl, rfl⟩
      apply hK
      refine ⟨Held.mk hs10, ?_⟩
      clear hK
      have hrt := ref_iright ⟨u6.toNat, numB M6, D⟩ a7 c7 w10
      unfold itV at hrt
      simp only at hrt
      have HRT := Lib.hid hrt
      clear hrt
      refine can_actS rfl rfl rfl rfl (fun K hK => ?_)
      go_wp2_with fail
      refine HRT.out.mono ?_; rintro r w12 ⟨rfl, hx⟩
      have hs12 := hs10.below hx
      apply hK
      refine ⟨Held.mk hs12, ?_⟩
      clear hK hs10 hx HRT
      rw [HL9.out, HLL.out] at hs12
      have hs13 := Sat.use (M := cellsA z #[.int .i64 0, .int .i64 0, .slice none 0 0] 77 :: (R7 ++ L)) hs12 (by intro x; simp only [cnt_append, cnt_cons, cnt_nil]; omega)
      clear hs12
      have z0 := hs13.cell m0 0
      have z1 := hs13.cell m0 1
      have z2 := hs13.cell m0 2
      have f0 := hs13.free m0 0
      have f1 := hs13.free m0 1
      have f2 := hs13.free m0 2
      repeat (first | (refine can_pu1 rfl rfl rfl rfl rfl rfl (fun K hK => ?_); go_big_quiet_op; refine hK _ ?_; clear hK K) | (refine can_st1 rfl rfl rfl rfl rfl rfl (fun K hK => ?_); go_big_quiet_op; refine hK _ ?_; clear hK K) | (refine can_early1 rfl rfl rfl rfl rfl (fun K hK => ?_); go_big_quiet_op; refine hK _ ?_; clear hK K) | (refine can_skip rfl rfl rfl ?_; simp only [Act.put, List.setIfInBounds_toArray, List.set_cons_zero, List.set_cons_succ]))
      refine can_actF rfl rfl rfl rfl (fun K hK => ?_)
      go_wp2_with fail
      have hz := Sat.setCell (Sat.setCell (Sat.setCell hs13 0 (.int .i64 u6.toNat)) 1 (.int .i64 (numB M6))) 2 (.slice a7 D.length c7)
      repeat (first | (refine can_pu1 rfl rfl rfl rfl rfl rfl (fun K hK => ?_); go_big_quiet_op; refine hK _ ?_; clear hK K) | (refine can_st1 rfl rfl rfl rfl rfl rfl (fun K hK => ?_); go_big_quiet_op; refine hK _ ?_; clear hK K) | (refine can_early1 rfl rfl rfl rfl rfl (fun K hK => ?_); go_big_quiet_op; refine hK _ ?_; clear hK K) | (refine can_skip rfl rfl rfl ?_; simp only [Act.put, List.setIfInBounds_toArray, List.set_cons_zero, List.set_cons_succ]))
      refine can_end1 ?_; (try simp only [Exit.then])
      go_wp2_with fail
      refine bodyPost_ret (v := .tuple #[.int .i64 (numB MN), itV ⟨u6.toNat, numB M6, D⟩ (.slice a7 D.length c7), .bool (decide (rightI ⟨u6.toNat, numB M6, D⟩))]) (by simp [results, Tryz.results45, go_sem, itV, *]) rfl ?_
      rw [← HQ2.out]
      first
        | exact ⟨_, _, rfl, hr7, hz.tail⟩
        | exact ⟨_, rfl, _, hr7, hz.tail⟩
  · skip
    refine can_actS rfl rfl rfl rfl (fun K hK => ?_)
    go_wp2_with fail
    refine ⟨Held.mk (Sat.alloc (hsT) _), ?_⟩
    have hs8 := Sat.newCells hsT #[.int .i64 0, .int .i64 0, .slice none 0 0] 77
    generalize (wt).heap.size = z8 at *
    refine with_sat hs8 ?_
    clear hs8
    intro w8 hs8
    refine can_actS rfl rfl rfl rfl (fun K hK => ?_)
    go_wp2_with fail
    refine ⟨Held.mk (Sat.alloc (hs8.tail) _), ?_⟩
    have hs6 := none_sat hs8
    generalize (w8).heap.size = z7 at *
    refine with_sat hs6 ?_
    clear hs6
    intro w6 hs6
    refine can_actS rfl rfl rfl rfl (fun K hK => ?_)
    refine wp_append_u8 rfl [] D rfl rfl (none_row _) hs6 (HDAT.out _ (hs6.right.tail) _) (by rw [HL3.out]; show 0 + 128 < 1000000; omega) (fun v7 w7 R7 hr7 hs7 => ?_)
    apply hK
    refine ⟨Held.mk (hs7.right.tail), ?_⟩
    clear hK
    simp only [Act.put, List.setIfInBounds_toArray, List.set_cons_zero, List.set_cons_succ]
    rw [List.nil_append] at hr7
    obtain ⟨a7, c7, rfl⟩ := Ch.RowA.slice hr7
    repeat (first | (refine can_pu1 rfl rfl rfl rfl rfl rfl (fun K hK => ?_); go_big_quiet_op; refine hK _ ?_; clear hK K) | (refine can_st1 rfl rfl rfl rfl rfl rfl (fun K hK => ?_); go_big_quiet_op; refine hK _ ?_; clear hK K) | (refine can_early1 rfl rfl rfl rfl rfl (fun K hK => ?_); go_big_quiet_op; refine hK _ ?_; clear hK K) | (refine can_skip rfl rfl rfl ?_; simp only [Act.put, List.setIfInBounds_toArray, List.set_cons_zero, List.set_cons_succ]))
    have hsF := Sat.use (M := cellsA z8 #[.int .i64 0, .int .i64 0, .slice none 0 0] 77 :: (R7 ++ LL)) hs7 (by intro x; simp only [cnt_append, cnt_cons, cnt_nil]; omega)
    have g0 := hsF.cell m0 0
    have g1 := hsF.cell m0 1
    have g2 := hsF.cell m0 2
    have j0 := hsF.free m0 0
    have j1 := hsF.free m0 1
    have j2 := hsF.free m0 2
    repeat (first | (refine can_pu1 rfl rfl rfl rfl rfl rfl (fun K hK => ?_); go_big_quiet_op; refine hK _ ?_; clear hK K) | (refine can_st1 rfl rfl rfl rfl rfl rfl (fun K hK => ?_); go_big_quiet_op; refine hK _ ?_; clear hK K) | (refine can_early1 rfl rfl rfl rfl rfl (fun K hK => ?_); go_big_quiet_op; refine hK _ ?_; clear hK K) | (refine can_skip rfl rfl rfl ?_; simp only [Act.put, List.setIfInBounds_toArray, List.set_cons_zero, List.set_cons_succ]))
    refine can_actF rfl rfl rfl rfl (fun K hK => ?_)
    go_wp2_with fail
    have hz := Sat.setCell (Sat.setCell (Sat.setCell hsF 0 (.int .i64 u6.toNat)) 1 (.int .i64 (numB M6))) 2 (.slice a7 D.length c7)
    simp only [List.setIfInBounds_toArray, List.set_cons_zero, List.set_cons_succ] at hz
    refine can_end1 ?_; (try simp only [Exit.then])
    refine with_sat hz ?_
    clear hz hsF g0 g1 g2 j0 j1 j2 hs8 hs7 hs6 hsT
    intro w9 hs9
    obtain ⟨L9, hL9⟩ : ∃ L9, L9 = cellsA z8 #[.int .i64 u6.toNat, .int .i64 (numB M6), .slice a7 D.length c7] 77 :: (R7 ++ LL) := ⟨_, rfl⟩
    have HL9 := Lib.hid hL9
    have hm9 : cellsA z8 #[.int .i64 u6.toNat, .int .i64 (numB M6), .slice a7 D.length c7] 77 ∈ L9 := by rw [hL9]; exact m0
    rw [← hL9] at hs9
    have g0 : ∀ y : Of W L9, y.v.cell? ⟨z8, 0, none⟩ = some (.int .i64 u6.toNat) := fun y => y.s.cell hm9 0
    have g1 : ∀ y : Of W L9, y.v.cell? ⟨z8, 1, none⟩ = some (.int .i64 (numB M6)) := fun y => y.s.cell hm9 1
    have g2 : ∀ y : Of W L9, y.v.cell? ⟨z8, 2, none⟩ = some (.slice a7 D.length c7) := fun y => y.s.cell hm9 2
    clear hL9
    have hs9d : Sat W w9.drew L9 := hs9.drew
    go_wp2_with fail
    refine wp_region_held1 [2, 5, 7] [3, 4] [] [2, 5] [0, 1, 3, 4, 2, 5, 6, 7, 8] (Held W L9) (by kernel_rfl) (by kernel_rfl) ?_ ?_
    · exact Held.mk hs9d
    have hne : Nonempty (Of W L9) := ⟨⟨_, hs9⟩⟩
    repeat (first | (refine can_pu1 rfl rfl rfl rfl rfl rfl (fun K hK => ?_); go_big_quiet_op; refine hK _ ?_; clear hK K) | (refine can_st1 rfl rfl rfl rfl rfl rfl (fun K hK => ?_); go_big_quiet_op; refine hK _ ?_; clear hK K) | (refine can_early1 rfl rfl rfl rfl rfl (fun K hK => ?_); go_big_quiet_op; refine hK _ ?_; clear hK K) | (refine can_skip rfl rfl rfl ?_; simp only [Act.put, List.setIfInBounds_toArray, List.set_cons_zero, List.set_cons_succ]))
    refine with_sat hs9d ?_
    clear hs9d hs9 g0 g1 g2 hne hm9
    intro w10 hs10
    refine can_actS rfl rfl rfl rfl (fun K hK => ?_)
    go_wp2_with fail
    refine (ref_from _ MN w10 (HNN.out _ (by rw [HL9.out] at hs10; exact hs10.tail.right) _) hlN).mono ?_; rintro r w11 ⟨rfl, rfl⟩
    apply hK
    refine ⟨Held.mk hs10, ?_⟩
    clear hK
    have hrt := ref_iright ⟨u6.toNat, numB M6, D⟩ a7 c7 w10
    unfold itV at hrt
    simp only at hrt
    have HRT := Lib.hid hrt
    clear hrt
    refine can_actS rfl rfl rfl rfl (fun K hK => ?_)
    go_wp2_with fail
    refine HRT.out.mono ?_; rintro r w12 ⟨rfl, hx⟩
    have hs12 := hs10.below hx
    apply hK
    refine ⟨Held.mk hs12, ?_⟩
    clear hK hs10 hx HRT
    rw [HL9.out, HLL.out] at hs12
    have hs13 := Sat.use (M := cellsA z #[.int .i64 0, .int .i64 0, .slice none 0 0] 77 :: (R7 ++ L)) hs12 (by intro x; simp only [cnt_append, cnt_cons, cnt_nil]; omega)
    clear hs12
    have z0 := hs13.cell m0 0
    have z1 := hs13.cell m0 1
    have z2 := hs13.cell m0 2
    have f0 := hs13.free m0 0
    have f1 := hs13.free m0 1
    have f2 := hs13.free m0 2
    repeat (first | (refine can_pu1 rfl rfl rfl rfl rfl rfl (fun K hK => ?_); go_big_quiet_op; refine hK _ ?_; clear hK K) | (refine can_st1 rfl rfl rfl rfl rfl rfl (fun K hK => ?_); go_big_quiet_op; refine hK _ ?_; clear hK K) | (refine can_early1 rfl rfl rfl rfl rfl (fun K hK => ?_); go_big_quiet_op; refine hK _ ?_; clear hK K) | (refine can_skip rfl rfl rfl ?_; simp only [Act.put, List.setIfInBounds_toArray, List.set_cons_zero, List.set_cons_succ]))
    refine can_actF rfl rfl rfl rfl (fun K hK => ?_)
    go_wp2_with fail
    have hz := Sat.setCell (Sat.setCell (Sat.setCell hs13 0 (.int .i64 u6.toNat)) 1 (.int .i64 (numB M6))) 2 (.slice a7 D.length c7)
    repeat (first | (refine can_pu1 rfl rfl rfl rfl rfl rfl (fun K hK => ?_); go_big_quiet_op; refine hK _ ?_; clear hK K) | (refine can_st1 rfl rfl rfl rfl rfl rfl (fun K hK => ?_); go_big_quiet_op; refine hK _ ?_; clear hK K) | (refine can_early1 rfl rfl rfl rfl rfl (fun K hK => ?_); go_big_quiet_op; refine hK _ ?_; clear hK K) | (refine can_skip rfl rfl rfl ?_; simp only [Act.put, List.setIfInBounds_toArray, List.set_cons_zero, List.set_cons_succ]))
    refine can_end1 ?_; (try simp only [Exit.then])
    go_wp2_with fail
    refine bodyPost_ret (v := .tuple #[.int .i64 (numB MN), itV ⟨u6.toNat, numB M6, D⟩ (.slice a7 D.length c7), .bool (decide (rightI ⟨u6.toNat, numB M6, D⟩))]) (by simp [results, Tryz.results45, go_sem, itV, *]) rfl ?_
    rw [← HQ2.out]
    first
      | exact ⟨_, _, rfl, hr7, hz.tail⟩
      | exact ⟨_, rfl, _, hr7, hz.tail⟩
end Go.Proofs.YtekbbpfnkbanjaaGreat.Ch
