
/-
  The document's ring: Live.
-/
import Derived.Test.YtekbbpfnkbanjaaGreatRnF
namespace Go.Proofs.YtekbbpfnkbanjaaGreat.Ch
open Go Go.RowKit Go.Sl Go.BigFrame
set_option linter.unusedVariables false
set_option linter.unusedSimpArgs false

theorem infoRs : (Tryz.prog.info? 93).map (fun i => (i.zero, i.size, i.bytes)) = some (some (.agg #[.int .i64 0, .int .i64 0, .int .i64 0, .slice none 0 0]), 4, 48) := by kernel_rfl
def numLe (x y : Sl5 × Value) : Prop := x.1.num ≤ y.1.num
theorem ins_pw {ls : List (Sl5 × Value)} {x : Sl5 × Value} {j : Nat} (h : ls.Pairwise numLe) (h1 : ∀ y ∈ ls.take j, numLe y x) (h2 : ∀ y ∈ ls.drop j, numLe x y) : (ls.take j ++ x :: ls.drop j).Pairwise numLe := by
  rw [← List.take_append_drop j ls] at h
  obtain ⟨a, b, c⟩ := List.pairwise_append.1 h
  refine List.pairwise_append.2 ⟨a, List.pairwise_cons.2 ⟨h2, b⟩, fun y hy z hz => ?_⟩
  rcases List.mem_cons.1 hz with rfl | hz
  · exact h1 y hy
  · exact c y hy z hz
theorem last_pw {ls : List (Sl5 × Value)} {x y : Sl5 × Value} {m : Nat} (h : ls.Pairwise numLe) (hy : ls[m]? = some y) (hc : numLe y x) : ∀ z ∈ ls.take (m + 1), numLe z x := by
  intro z hz
  have h1 : (ls.take (m + 1)).Pairwise numLe := h.sublist (List.take_sublist _ _)
  rw [take_snoc hy] at hz h1
  rcases List.mem_append.1 hz with hz | hz
  · exact Int.le_trans ((List.pairwise_append.1 h1).2.2 z hz y (List.mem_singleton.2 rfl)) hc
  · rw [List.mem_singleton.1 hz]; exact hc
theorem ins_perm {ls ms : List (Sl5 × Value)} (x : Sl5 × Value) (j : Nat) (h : ls.Perm ms) : (ls.take j ++ x :: ls.drop j).Perm (ms ++ [x]) := by
  refine List.perm_middle.trans ?_
  rw [List.take_append_drop]
  exact (h.cons x).trans (List.perm_append_singleton x ms).symm
theorem rslotsC_append (xs ys : List (Sl5 × Value)) : rslotsC (xs ++ ys) = rslotsC xs ++ rslotsC ys := by simp [rslotsC]
theorem rslotsC_one (xs : List (Sl5 × Value)) : ∀ u ∈ rslotsC xs, (∀ x ∈ xs, x.2.oneCell' = true) → u.oneCell' = true := by
  intro u hu hx
  simp only [rslotsC, List.mem_flatten, List.mem_map] at hu
  obtain ⟨c, ⟨x, hxm, rfl⟩, hu⟩ := hu
  simp only [rslC, List.mem_cons, List.not_mem_nil, or_false] at hu
  rcases hu with rfl | rfl | rfl | rfl
  · rfl
  · rfl
  · rfl
  · exact hx x hxm
/-- The first j slots of a row, and those behind. -/
theorem reads_pre {W y : World} {F R : List Atom} {ls : List (Sl5 × Value)} {g o c : Nat} (hr : RowA 93 4 (.slice (some ⟨g, o, none⟩) ls.length c) ls.length (rslotsC ls) R) (hs : Sat W y (R ++ F)) (j : Nat) (hj : j ≤ ls.length) (c' : Nat) : Reads y (.slice (some ⟨g, o, none⟩) j c') j (rslotsC (ls.take j)) := by
  refine .inr ⟨_, _, rfl, fun k u hu => ?_⟩
  have e : rslotsC ls = rslotsC (ls.take j) ++ rslotsC (ls.drop j) := by rw [← rslotsC_append, List.take_append_drop]
  have hk := (List.getElem?_eq_some_iff.1 hu).1
  rw [add_row, (hr.cells hs rfl k (by rw [e, List.length_append]; omega)).1, e, List.getElem?_append_left hk, hu]
theorem reads_post {W y : World} {F R : List Atom} {ls : List (Sl5 × Value)} {g o c : Nat} (hr : RowA 93 4 (.slice (some ⟨g, o, none⟩) ls.length c) ls.length (rslotsC ls) R) (hs : Sat W y (R ++ F)) (j : Nat) (hj : j ≤ ls.length) (n : Nat) (hn : n = ls.length - j) (c' : Nat) : Reads y (.slice (some ⟨g, o + j * 4, none⟩) n c') n (rslotsC (ls.drop j)) := by
  refine .inr ⟨_, _, by rw [hn], fun k u hu => ?_⟩
  have e : rslotsC ls = rslotsC (ls.take j) ++ rslotsC (ls.drop j) := by rw [← rslotsC_append, List.take_append_drop]
  have hk := (List.getElem?_eq_some_iff.1 hu).1
  have hl : (rslotsC (ls.take j)).length = j * 4 := by rw [rslotsC_length, List.length_take]; omega
  rw [add_row, Nat.add_assoc, (hr.cells hs rfl (j * 4 + k) (by rw [e, List.length_append, hl]; omega)).1, e, List.getElem?_append_right (by omega), hl, Nat.add_sub_cancel_left, hu]
theorem reads_zero (y : World) (a : Addr) (c : Nat) : Reads y (.slice (some a) 0 c) 0 (rslotsC []) := .inr ⟨_, _, rfl, fun k u hu => by simp [rslotsC] at hu⟩

theorem row_ins (ls : List (Sl5 × Value)) (j n : Nat) (sn ss sg : Int) (sd : List UInt8) (u : Value) (hj : j ≤ ls.length) (hn : j + n = ls.length) : ∀ v R, RowA 93 4 v (j + 1 + n) (rslotsC (ls.take j) ++ [.int .i64 sn, .int .i64 ss, .int .i64 sg, u] ++ rslotsC (ls.drop j)) R → RowA 93 4 v (ls.take j ++ (⟨true, sn, ⟨ss, sg, sd⟩⟩, u) :: ls.drop j).length (rslotsC (ls.take j ++ (⟨true, sn, ⟨ss, sg, sd⟩⟩, u) :: ls.drop j)) R := by
  intro v R h
  have e1 : (ls.take j ++ (⟨true, sn, ⟨ss, sg, sd⟩⟩, u) :: ls.drop j).length = j + 1 + n := by
    rw [List.length_append, List.length_cons, List.length_take, List.length_drop]; omega
  have e2 : rslotsC (ls.take j ++ (⟨true, sn, ⟨ss, sg, sd⟩⟩, u) :: ls.drop j) = rslotsC (ls.take j) ++ [.int .i64 sn, .int .i64 ss, .int .i64 sg, u] ++ rslotsC (ls.drop j) := by
    rw [rslotsC_append, List.append_assoc]; rfl
  rw [e1, e2]; exact h
set_option maxRecDepth 100000 in
set_option maxHeartbeats 16000000 in
theorem ref_live (b bp : Nat) (xs : List (Sl5 × Value)) (nx : Int) (B : List Atom) (W w : World) (L : List Atom) (hri : RowsIn B xs) (hxl : xs.length = 16) (hok : ∀ x ∈ xs, SlOk x.1)
    (hs : Sat W w (cellsA b (rringC bp xs nx) 96 :: (B ++ L))) :
    Calls Tryz.prog 39 #[.pointer (some ⟨b, 0, none⟩)] w fun e w' => ∃ v ys, ∃ zs : List (Sl5 × Value), ∃ R, e = .returned v ∧ RowA 77 3 v ys.length (itsC ys) R ∧ zs.Perm (liveOf xs) ∧ zs.Pairwise numLe ∧ ys.map Prod.fst = zs.map (fun x => x.1.i) ∧ ItsIn B ys ∧ Sat W w' (R ++ (cellsA b (rringC bp xs nx) 96 :: (B ++ L))) := by
  have HRI := Lib.hid hri
  have HXL := Lib.hid hxl
  have HOK := Lib.hid hok
  clear hri hxl hok
  go_enter Tryz.func39, Tryz.ntmps39
  go_wp2_with fail
  go_loopw [4, 3, 5] (fun kv lv nv wr => ∃ (k : Nat) (ls : List (Sl5 × Value)) (R : List Atom), kv = .int .i64 k ∧ k ≤ 16 ∧ ls.Perm (liveOf (xs.take k)) ∧ ls.Pairwise numLe ∧ (ls = [] → lv = .slice none 0 0) ∧ RowA 93 4 lv ls.length (rslotsC ls) R ∧ Sat W wr (R ++ (cellsA b (rringC bp xs nx) 96 :: (B ++ L)))) (fun kv _ _ _ => (16 - (intOf kv).toNat))
  case atStart => exact ⟨0, [], [], rfl, by omega, .refl _, .nil, fun _ => rfl, RowA.nil _ _, hs⟩
  case round =>
    clear hs
    obtain ⟨k, ls, R, rfl, hk, hpm, hpw, hnil, hr, hs⟩ := hrel
    have k0 : (0 : Int) ≤ k := by omega
    have HLS := Lib.hid (show ls.length ≤ 16 from by rw [hpm.length_eq]; exact Nat.le_trans (List.length_filter_le _ _) (by rw [List.length_take]; omega))
    have HLX := Lib.hid (show ∀ x ∈ ls, x ∈ xs from fun x hx => List.mem_of_mem_take (List.mem_filter.1 (hpm.mem_iff.1 hx)).1)
    have HPM := Lib.hid hpm
    have HPW := Lib.hid hpw
    have HR := Lib.hid hr
    obtain ⟨al, cl, rfl⟩ := Ch.RowA.slice hr
    clear hpm hpw
    obtain ⟨N, hN⟩ : ∃ N, N = ls.length := ⟨_, rfl⟩
    have HN := Lib.hid hN
    rw [← hN]
    rw [← hN] at HR HLS hr hnil
    have HNIL := Lib.hid hnil
    clear hN hnil
    by_cases hkn : k < 16
    · have k1 : (k : Int) < 16 := by omega
      obtain ⟨⟨⟨sl, sn, ⟨ss, sg, sd⟩⟩, v⟩, hx⟩ : ∃ x, xs[k]? = some x := ⟨_, List.getElem?_eq_getElem (by have := HXL.out; omega)⟩
      obtain ⟨va, vc, hv⟩ := (HRI.out _ (List.mem_of_getElem? hx)).shape
      try simp only at hv
      subst hv
      have hso := HOK.out _ (List.mem_of_getElem? hx)
      simp only at hso
      have hlv := liveOf_snoc hx
      have HLV := Lib.hid hlv
      have hrg := Sat.use (M := cellsA b (rringC bp xs nx) 96 :: []) hs (by intro x; simp only [cnt_append, cnt_cons, cnt_nil]; omega)
      have c0 : wr.cell? ⟨b, 1 + k * 4, none⟩ = some (.int .i64 sn) := by rw [hrg.cell m0]; exact rring_get hx 0 _ rfl
      clear hrg hlv
      by_cases hl : sl = true
      case neg =>
        have hsn : sn = 0 := by
          rcases hso with h | ⟨h, _⟩
          · injection h
          · exact absurd h hl
        subst hsn
        have HL := Lib.hid hl
        clear hso hl
        go_wp2_with fail
        refine ⟨⟨k + 1, ls, R, by simp, by omega, ?_, HPW.out, HNIL.out, by rw [← HN.out]; exact HR.out, hs⟩, ?_⟩
        · rw [HLV.out, if_neg HL.out]
          exact HPM.out
        · simp [intOf]
          omega
      case pos =>
      subst hl
      have q1 : (sn == 0) = false := by
        rcases hso with h | ⟨_, h, _⟩
        · cases h
        · simp only at h; simp; omega
      have HX := Lib.hid hx
      clear hso hx
      go_wp2_with fail
      go_loopw [5] (fun nv wr => ∃ j : Nat, nv = .int .i64 j ∧ j ≤ N ∧ (∀ y ∈ ls.drop j, sn < y.1.num) ∧ Sat W wr (R ++ (cellsA b (rringC bp xs nx) 96 :: (B ++ L)))) (fun nv _ => (intOf nv).toNat)
      case atStart => exact ⟨N, rfl, Nat.le_refl _, (by rw [HN.out, List.drop_length]; intro y hy; cases hy), hs⟩
      case round =>
        clear hs c0
        obtain ⟨j, rfl, hj, hdr, hs⟩ := hrel
        have HDR := Lib.hid hdr
        clear hdr
        have hrg := fun y (hy : Sat W y (R ++ (cellsA b (rringC bp xs nx) 96 :: (B ++ L)))) => Sat.use (M := cellsA b (rringC bp xs nx) 96 :: []) hy (by intro x; simp only [cnt_append, cnt_cons, cnt_nil]; omega)
        have c0 : wr.drew.cell? ⟨b, 1 + k * 4, none⟩ = some (.int .i64 sn) := by rw [(hrg _ hs.drew).cell m0]; exact rring_get HX.out 0 _ rfl
        cases j with
        | zero =>
          go_wp2_with fail
          refine wp_region_one [] [] [] [] [0, 1, 2, 3, 4, 5, 6, 7, 8, 9, 10, 11, 12, 13, 14, 15, 16, 17] (by kernel_rfl) (by kernel_rfl) ?_
          repeat (first | (refine can_pu1 rfl rfl rfl rfl rfl rfl (fun K hK => ?_); go_big_quiet_op; refine hK _ ?_; clear hK K) | (refine can_st1 rfl rfl rfl rfl rfl rfl (fun K hK => ?_); go_big_quiet_op; refine hK _ ?_; clear hK K) | (refine can_early1 rfl rfl rfl rfl rfl (fun K hK => ?_); go_big_quiet_op; refine hK _ ?_; clear hK K) | (refine can_skip rfl rfl rfl ?_; simp only [Act.put, List.setIfInBounds_toArray, List.set_cons_zero, List.set_cons_succ]))
          refine can_end1 ?_; (try simp only [Exit.then])
          go_wp2_with fail
          replace hs := hs.drew
          have HPRE := Lib.hid (show ∀ y ∈ ls.take 0, numLe y (⟨true, sn, ⟨ss, sg, sd⟩⟩, .slice va sd.length vc) from fun y hy => by simp at hy)
          by_cases hn0 : N = 0
          · have hl0 : ls = [] := List.eq_nil_of_length_eq_zero (by rw [← HN.out]; exact hn0)
            have hv0 := HNIL.out hl0
            obtain ⟨rfl, rfl⟩ : al = none ∧ cl = 0 := by cases hv0; exact ⟨rfl, rfl⟩
            subst hn0
            have HV1 := Lib.hid (show ∀ y, Sat W y (R ++ (cellsA b (rringC bp xs nx) 96 :: (B ++ L))) → Reads y (.slice none 0 0) 0 (rslotsC (ls.take 0)) from fun y hy => .inl ⟨rfl, rfl, rfl⟩)
            have HV2 := Lib.hid (show ∀ y, Sat W y (R ++ (cellsA b (rringC bp xs nx) 96 :: (B ++ L))) → Reads y (.slice none 0 0) 0 (rslotsC (ls.drop 0)) from fun y hy => .inl ⟨rfl, rfl, by rw [hl0]; rfl⟩)
            have HJN := Lib.hid (show 0 ≤ 0 ∧ 0 + 0 = 0 from ⟨Nat.le_refl _, rfl⟩)
            clear hl0 hv0
            obtain ⟨LL, hLL⟩ : ∃ LL, LL = R ++ (cellsA b (rringC bp xs nx) 96 :: (B ++ L)) := ⟨_, rfl⟩
            rw [← hLL] at hs hrg HV1 HV2
            have HLL := Lib.hid hLL
            have c0 : ∀ y : Of W LL, y.v.cell? ⟨b, 1 + k * 4, none⟩ = some (.int .i64 sn) := fun y => by rw [(hrg y.v y.s).cell m0]; exact rring_get HX.out 0 _ rfl
            have c1 : ∀ y : Of W LL, y.v.cell? ⟨b, 1 + k * 4 + 1, none⟩ = some (.int .i64 ss) := fun y => by rw [(hrg y.v y.s).cell m0]; exact rring_get HX.out 1 _ rfl
            have c2 : ∀ y : Of W LL, y.v.cell? ⟨b, 1 + k * 4 + 2, none⟩ = some (.int .i64 sg) := fun y => by rw [(hrg y.v y.s).cell m0]; exact rring_get HX.out 2 _ rfl
            have c3 : ∀ y : Of W LL, y.v.cell? ⟨b, 1 + k * 4 + 3, none⟩ = some (.slice va sd.length vc) := fun y => by rw [(hrg y.v y.s).cell m0]; exact rring_get HX.out 3 _ rfl
            have HP2 := Lib.hid (show (ls.take (0) ++ (⟨true, sn, ⟨ss, sg, sd⟩⟩, .slice va sd.length vc) :: ls.drop (0)).Perm (liveOf (xs.take (k + 1))) from by rw [HLV.out]; exact ins_perm _ _ HPM.out)
            have HW2 := Lib.hid (show (ls.take (0) ++ (⟨true, sn, ⟨ss, sg, sd⟩⟩, .slice va sd.length vc) :: ls.drop (0)).Pairwise numLe from ins_pw HPW.out HPRE.out (fun y hy => Int.le_of_lt (HDR.out y hy)))
            have HR2 := Lib.hid (row_ins ls (0) (0) sn ss sg sd (.slice va sd.length vc) (by have := HJN.out.1; have := HN.out; omega) (by have := HJN.out.2; have := HN.out; omega))
            have HV1L := Lib.hid (show (rslotsC (ls.take (0))).length = (0) * 4 from by rw [rslotsC_length, List.length_take]; have := HJN.out.1; have := HN.out; omega)
            have HV2L := Lib.hid (show (rslotsC (ls.drop (0))).length = (0) * 4 from by rw [rslotsC_length, List.length_drop]; have := HJN.out.2; have := HN.out; omega)
            have HV1O := Lib.hid (show ∀ u ∈ rslotsC (ls.take (0)), u.oneCell' = true from fun u hu => rslotsC_one _ u hu fun x hx => by obtain ⟨a, c, h⟩ := (HRI.out x (HLX.out x (List.mem_of_mem_take hx))).shape; rw [h]; rfl)
            have HV2O := Lib.hid (show ∀ u ∈ rslotsC (ls.drop (0)), u.oneCell' = true from fun u hu => rslotsC_one _ u hu fun x hx => by obtain ⟨a, c, h⟩ := (HRI.out x (HLX.out x (List.mem_of_mem_drop hx))).shape; rw [h]; rfl)
            have hbn : (0) + (0) ≤ 16 := by have := HJN.out; have := HLS.out; omega
            clear hrg hr hLL
            have hne : Nonempty (Of W LL) := ⟨⟨_, hs⟩⟩
            have hsT : Sat W _ LL := hs.drew
            refine wp_region_plan [0, 4, 11, 12, 16] [1, 2, 3, 5, 6, 7, 8, 9, 10, 13, 14, 15] [1, 2, 3, 5, 6, 7, 8, 9, 13, 14, 15] [0, 4] [1, 2, 3, 5, 6, 7, 8, 9, 10, 13, 14, 15] (.two [0] (.two [4, 11, 12, 16, 17] .nil [11, 4, 12, 16, 17] .nil) [11, 0, 4, 12, 16, 17] .nil) (Held W LL) (by kernel_rfl) (by kernel_rfl) ?_ ?_
            · exact Held.mk hsT
            repeat (first | (refine can_pu1 rfl rfl rfl rfl rfl rfl (fun K hK => ?_); go_big_quiet_op; refine hK _ ?_; clear hK K) | (refine can_st1 rfl rfl rfl rfl rfl rfl (fun K hK => ?_); go_big_quiet_op; refine hK _ ?_; clear hK K) | (refine can_early1 rfl rfl rfl rfl rfl (fun K hK => ?_); go_big_quiet_op; refine hK _ ?_; clear hK K) | (refine can_skip rfl rfl rfl ?_; simp only [Act.put, List.setIfInBounds_toArray, List.set_cons_zero, List.set_cons_succ]))
            clear c0 c1 c2 c3 hne hs
            refine with_sat hsT ?_
            clear hsT
            intro wt hsT
            refine can_two ?_ ?_
            · skip
              refine can_actS rfl rfl rfl rfl (fun K hK => ?_)
              go_wp2_with fail
              have hsA := none_satT hsT 93 4
              refine ⟨Held.mk hsA.tail, ?_⟩
              generalize (wt).heap.size = z1 at *
              refine with_sat hsA ?_
              clear hsA
              intro w1 hsA
              repeat (first | (refine can_pu1 rfl rfl rfl rfl rfl rfl (fun K hK => ?_); go_big_quiet_op; refine hK _ ?_; clear hK K) | (refine can_st1 rfl rfl rfl rfl rfl rfl (fun K hK => ?_); go_big_quiet_op; refine hK _ ?_; clear hK K) | (refine can_early1 rfl rfl rfl rfl rfl (fun K hK => ?_); go_big_quiet_op; refine hK _ ?_; clear hK K) | (refine can_skip rfl rfl rfl ?_; simp only [Act.put, List.setIfInBounds_toArray, List.set_cons_zero, List.set_cons_succ]))
              refine can_two ?_ ?_
              · skip
                refine can_actS rfl rfl rfl rfl (fun K hK => ?_)
                refine wp_append_g Tryz.underlying115 infoRs rfl (by decide) (by decide) rfl rfl rfl (none_rowT _ 4 z1) hsA (HV1.out _ (Sat.use (M := LL) hsA (by intro x; simp only [cnt_append, cnt_cons, cnt_nil]; omega))) HV1L.out HV1O.out (by omega) (fun v2 w6 R2 hr2 hsC => ?_)
                simp only [Act.put, List.setIfInBounds_toArray, List.set_cons_zero, List.set_cons_succ]
                apply hK
                refine ⟨Held.mk (Sat.use hsC (by intro x; simp only [cnt_append, cnt_cons, cnt_nil]; omega)), ?_⟩
                clear hK
                rw [Nat.zero_add, List.nil_append] at hr2
                repeat (first | (refine can_pu1 rfl rfl rfl rfl rfl rfl (fun K hK => ?_); go_big_quiet_op; refine hK _ ?_; clear hK K) | (refine can_st1 rfl rfl rfl rfl rfl rfl (fun K hK => ?_); go_big_quiet_op; refine hK _ ?_; clear hK K) | (refine can_early1 rfl rfl rfl rfl rfl (fun K hK => ?_); go_big_quiet_op; refine hK _ ?_; clear hK K) | (refine can_skip rfl rfl rfl ?_; simp only [Act.put, List.setIfInBounds_toArray, List.set_cons_zero, List.set_cons_succ]))
                refine can_actF rfl rfl rfl rfl (fun K hK => ?_)
                go_wp2_with fail
                have hsB := Sat.newCells hsC #[.int .i64 sn, .int .i64 ss, .int .i64 sg, .slice va sd.length vc] 93
                generalize (w6).heap.size = z11 at *
                refine with_sat hsB ?_
                clear hsB
                intro w11 hsB
                repeat (first | (refine can_pu1 rfl rfl rfl rfl rfl rfl (fun K hK => ?_); go_big_quiet_op; refine hK _ ?_; clear hK K) | (refine can_st1 rfl rfl rfl rfl rfl rfl (fun K hK => ?_); go_big_quiet_op; refine hK _ ?_; clear hK K) | (refine can_early1 rfl rfl rfl rfl rfl (fun K hK => ?_); go_big_quiet_op; refine hK _ ?_; clear hK K) | (refine can_skip rfl rfl rfl ?_; simp only [Act.put, List.setIfInBounds_toArray, List.set_cons_zero, List.set_cons_succ]))
                have hsD := Sat.use (M := R2 ++ (cellsA z11 #[.int .i64 sn, .int .i64 ss, .int .i64 sg, .slice va sd.length vc] 93 :: LL)) hsB (by intro x; simp only [cnt_append, cnt_cons, cnt_nil]; omega)
                have hsrc := reads_cells hsD (List.mem_append_right _ m0) 1 1 [.int .i64 sn, .int .i64 ss, .int .i64 sg, .slice va sd.length vc] rfl
                refine can_actF rfl rfl rfl rfl (fun K hK => ?_)
                refine wp_append_g Tryz.underlying115 infoRs rfl (by decide) (by decide) rfl rfl rfl hr2 hsD hsrc rfl (by intro u hu; simp at hu; rcases hu with rfl | rfl | rfl | rfl <;> rfl) (by omega) (fun v3 w12 R3 hr3 hsE => ?_)
                simp only [Act.put, List.setIfInBounds_toArray, List.set_cons_zero, List.set_cons_succ]
                refine hK _ _ ?_
                clear hK
                repeat (first | (refine can_pu1 rfl rfl rfl rfl rfl rfl (fun K hK => ?_); go_big_quiet_op; refine hK _ ?_; clear hK K) | (refine can_st1 rfl rfl rfl rfl rfl rfl (fun K hK => ?_); go_big_quiet_op; refine hK _ ?_; clear hK K) | (refine can_early1 rfl rfl rfl rfl rfl (fun K hK => ?_); go_big_quiet_op; refine hK _ ?_; clear hK K) | (refine can_skip rfl rfl rfl ?_; simp only [Act.put, List.setIfInBounds_toArray, List.set_cons_zero, List.set_cons_succ]))
                refine can_actF rfl rfl rfl rfl (fun K hK => ?_)
                refine wp_append_g Tryz.underlying115 infoRs rfl (by decide) (by decide) rfl rfl rfl hr3 hsE (HV2.out _ (Sat.use (M := LL) hsE (by intro x; simp only [cnt_append, cnt_cons, cnt_nil]; omega))) HV2L.out HV2O.out (by omega) (fun v4 w16 R4 hr4 hsG => ?_)
                simp only [Act.put, List.setIfInBounds_toArray, List.set_cons_zero, List.set_cons_succ]
                refine hK _ _ ?_
                clear hK
                repeat (first | (refine can_pu1 rfl rfl rfl rfl rfl rfl (fun K hK => ?_); go_big_quiet_op; refine hK _ ?_; clear hK K) | (refine can_st1 rfl rfl rfl rfl rfl rfl (fun K hK => ?_); go_big_quiet_op; refine hK _ ?_; clear hK K) | (refine can_early1 rfl rfl rfl rfl rfl (fun K hK => ?_); go_big_quiet_op; refine hK _ ?_; clear hK K) | (refine can_skip rfl rfl rfl ?_; simp only [Act.put, List.setIfInBounds_toArray, List.set_cons_zero, List.set_cons_succ]))
                refine can_end1 ?_; (try simp only [Exit.then])
                go_wp2_with fail
                have hsH : Sat W w16 (R4 ++ (cellsA b (rringC bp xs nx) 96 :: (B ++ L))) := by rw [HLL.out] at hsG; exact Sat.use hsG (by intro x; simp only [cnt_append, cnt_cons, cnt_nil]; omega)
                refine ⟨⟨k + 1, _, R4, by simp, by omega, HP2.out, HW2.out, fun h => absurd (congrArg List.length h) (by simp), HR2.out _ _ hr4, hsH⟩, ?_⟩
                simp [intOf]
                omega
              · skip
                refine can_actF rfl rfl rfl rfl (fun K hK => ?_)
                go_wp2_with fail
                have hsB := Sat.newCells hsA #[.int .i64 sn, .int .i64 ss, .int .i64 sg, .slice va sd.length vc] 93
                generalize (w1).heap.size = z11 at *
                refine with_sat hsB ?_
                clear hsB
                intro w11 hsB
                repeat (first | (refine can_pu1 rfl rfl rfl rfl rfl rfl (fun K hK => ?_); go_big_quiet_op; refine hK _ ?_; clear hK K) | (refine can_st1 rfl rfl rfl rfl rfl rfl (fun K hK => ?_); go_big_quiet_op; refine hK _ ?_; clear hK K) | (refine can_early1 rfl rfl rfl rfl rfl (fun K hK => ?_); go_big_quiet_op; refine hK _ ?_; clear hK K) | (refine can_skip rfl rfl rfl ?_; simp only [Act.put, List.setIfInBounds_toArray, List.set_cons_zero, List.set_cons_succ]))
                have hsB2 := Sat.use (M := [(z1, rowP 93 0 (0 * 4) [])] ++ (cellsA z11 #[.int .i64 sn, .int .i64 ss, .int .i64 sg, .slice va sd.length vc] 93 :: LL)) hsB (by intro x; simp only [cnt_append, cnt_cons, cnt_nil]; omega)
                refine can_actS rfl rfl rfl rfl (fun K hK => ?_)
                refine wp_append_g Tryz.underlying115 infoRs rfl (by decide) (by decide) rfl rfl rfl (none_rowT _ 4 z1) hsB2 (HV1.out _ (Sat.use (M := LL) hsB2 (by intro x; simp only [cnt_append, cnt_cons, cnt_nil]; omega))) HV1L.out HV1O.out (by omega) (fun v2 w6 R2 hr2 hsC => ?_)
                simp only [Act.put, List.setIfInBounds_toArray, List.set_cons_zero, List.set_cons_succ]
                apply hK
                refine ⟨Held.mk (Sat.use hsC (by intro x; simp only [cnt_append, cnt_cons, cnt_nil]; omega)), ?_⟩
                clear hK
                rw [Nat.zero_add, List.nil_append] at hr2
                repeat (first | (refine can_pu1 rfl rfl rfl rfl rfl rfl (fun K hK => ?_); go_big_quiet_op; refine hK _ ?_; clear hK K) | (refine can_st1 rfl rfl rfl rfl rfl rfl (fun K hK => ?_); go_big_quiet_op; refine hK _ ?_; clear hK K) | (refine can_early1 rfl rfl rfl rfl rfl (fun K hK => ?_); go_big_quiet_op; refine hK _ ?_; clear hK K) | (refine can_skip rfl rfl rfl ?_; simp only [Act.put, List.setIfInBounds_toArray, List.set_cons_zero, List.set_cons_succ]))
                have hsD := Sat.use (M := R2 ++ (cellsA z11 #[.int .i64 sn, .int .i64 ss, .int .i64 sg, .slice va sd.length vc] 93 :: LL)) hsC (by intro x; simp only [cnt_append, cnt_cons, cnt_nil]; omega)
                have hsrc := reads_cells hsD (List.mem_append_right _ m0) 1 1 [.int .i64 sn, .int .i64 ss, .int .i64 sg, .slice va sd.length vc] rfl
                refine can_actF rfl rfl rfl rfl (fun K hK => ?_)
                refine wp_append_g Tryz.underlying115 infoRs rfl (by decide) (by decide) rfl rfl rfl hr2 hsD hsrc rfl (by intro u hu; simp at hu; rcases hu with rfl | rfl | rfl | rfl <;> rfl) (by omega) (fun v3 w12 R3 hr3 hsE => ?_)
                simp only [Act.put, List.setIfInBounds_toArray, List.set_cons_zero, List.set_cons_succ]
                refine hK _ _ ?_
                clear hK
                repeat (first | (refine can_pu1 rfl rfl rfl rfl rfl rfl (fun K hK => ?_); go_big_quiet_op; refine hK _ ?_; clear hK K) | (refine can_st1 rfl rfl rfl rfl rfl rfl (fun K hK => ?_); go_big_quiet_op; refine hK _ ?_; clear hK K) | (refine can_early1 rfl rfl rfl rfl rfl (fun K hK => ?_); go_big_quiet_op; refine hK _ ?_; clear hK K) | (refine can_skip rfl rfl rfl ?_; simp only [Act.put, List.setIfInBounds_toArray, List.set_cons_zero, List.set_cons_succ]))
                refine can_actF rfl rfl rfl rfl (fun K hK => ?_)
                refine wp_append_g Tryz.underlying115 infoRs rfl (by decide) (by decide) rfl rfl rfl hr3 hsE (HV2.out _ (Sat.use (M := LL) hsE (by intro x; simp only [cnt_append, cnt_cons, cnt_nil]; omega))) HV2L.out HV2O.out (by omega) (fun v4 w16 R4 hr4 hsG => ?_)
                simp only [Act.put, List.setIfInBounds_toArray, List.set_cons_zero, List.set_cons_succ]
                refine hK _ _ ?_
                clear hK
                repeat (first | (refine can_pu1 rfl rfl rfl rfl rfl rfl (fun K hK => ?_); go_big_quiet_op; refine hK _ ?_; clear hK K) | (refine can_st1 rfl rfl rfl rfl rfl rfl (fun K hK => ?_); go_big_quiet_op; refine hK _ ?_; clear hK K) | (refine can_early1 rfl rfl rfl rfl rfl (fun K hK => ?_); go_big_quiet_op; refine hK _ ?_; clear hK K) | (refine can_skip rfl rfl rfl ?_; simp only [Act.put, List.setIfInBounds_toArray, List.set_cons_zero, List.set_cons_succ]))
                refine can_end1 ?_; (try simp only [Exit.then])
                go_wp2_with fail
                have hsH : Sat W w16 (R4 ++ (cellsA b (rringC bp xs nx) 96 :: (B ++ L))) := by rw [HLL.out] at hsG; exact Sat.use hsG (by intro x; simp only [cnt_append, cnt_cons, cnt_nil]; omega)
                refine ⟨⟨k + 1, _, R4, by simp, by omega, HP2.out, HW2.out, fun h => absurd (congrArg List.length h) (by simp), HR2.out _ _ hr4, hsH⟩, ?_⟩
                simp [intOf]
                omega
            · skip
              refine can_actF rfl rfl rfl rfl (fun K hK => ?_)
              go_wp2_with fail
              have hsB := Sat.newCells hsT #[.int .i64 sn, .int .i64 ss, .int .i64 sg, .slice va sd.length vc] 93
              generalize (wt).heap.size = z11 at *
              refine with_sat hsB ?_
              clear hsB
              intro w11 hsB
              repeat (first | (refine can_pu1 rfl rfl rfl rfl rfl rfl (fun K hK => ?_); go_big_quiet_op; refine hK _ ?_; clear hK K) | (refine can_st1 rfl rfl rfl rfl rfl rfl (fun K hK => ?_); go_big_quiet_op; refine hK _ ?_; clear hK K) | (refine can_early1 rfl rfl rfl rfl rfl (fun K hK => ?_); go_big_quiet_op; refine hK _ ?_; clear hK K) | (refine can_skip rfl rfl rfl ?_; simp only [Act.put, List.setIfInBounds_toArray, List.set_cons_zero, List.set_cons_succ]))
              refine can_actS rfl rfl rfl rfl (fun K hK => ?_)
              go_wp2_with fail
              have hsA := none_satT hsB 93 4
              refine ⟨Held.mk hsA.tail.tail, ?_⟩
              generalize (w11).heap.size = z1 at *
              refine with_sat hsA ?_
              clear hsA
              intro w1 hsA
              repeat (first | (refine can_pu1 rfl rfl rfl rfl rfl rfl (fun K hK => ?_); go_big_quiet_op; refine hK _ ?_; clear hK K) | (refine can_st1 rfl rfl rfl rfl rfl rfl (fun K hK => ?_); go_big_quiet_op; refine hK _ ?_; clear hK K) | (refine can_early1 rfl rfl rfl rfl rfl (fun K hK => ?_); go_big_quiet_op; refine hK _ ?_; clear hK K) | (refine can_skip rfl rfl rfl ?_; simp only [Act.put, List.setIfInBounds_toArray, List.set_cons_zero, List.set_cons_succ]))
              refine can_actS rfl rfl rfl rfl (fun K hK => ?_)
              refine wp_append_g Tryz.underlying115 infoRs rfl (by decide) (by decide) rfl rfl rfl (none_rowT _ 4 z1) hsA (HV1.out _ (Sat.use (M := LL) hsA (by intro x; simp only [cnt_append, cnt_cons, cnt_nil]; omega))) HV1L.out HV1O.out (by omega) (fun v2 w6 R2 hr2 hsC => ?_)
              simp only [Act.put, List.setIfInBounds_toArray, List.set_cons_zero, List.set_cons_succ]
              apply hK
              refine ⟨Held.mk (Sat.use hsC (by intro x; simp only [cnt_append, cnt_cons, cnt_nil]; omega)), ?_⟩
              clear hK
              rw [Nat.zero_add, List.nil_append] at hr2
              repeat (first | (refine can_pu1 rfl rfl rfl rfl rfl rfl (fun K hK => ?_); go_big_quiet_op; refine hK _ ?_; clear hK K) | (refine can_st1 rfl rfl rfl rfl rfl rfl (fun K hK => ?_); go_big_quiet_op; refine hK _ ?_; clear hK K) | (refine can_early1 rfl rfl rfl rfl rfl (fun K hK => ?_); go_big_quiet_op; refine hK _ ?_; clear hK K) | (refine can_skip rfl rfl rfl ?_; simp only [Act.put, List.setIfInBounds_toArray, List.set_cons_zero, List.set_cons_succ]))
              have hsD := Sat.use (M := R2 ++ (cellsA z11 #[.int .i64 sn, .int .i64 ss, .int .i64 sg, .slice va sd.length vc] 93 :: LL)) hsC (by intro x; simp only [cnt_append, cnt_cons, cnt_nil]; omega)
              have hsrc := reads_cells hsD (List.mem_append_right _ m0) 1 1 [.int .i64 sn, .int .i64 ss, .int .i64 sg, .slice va sd.length vc] rfl
              refine can_actF rfl rfl rfl rfl (fun K hK => ?_)
              refine wp_append_g Tryz.underlying115 infoRs rfl (by decide) (by decide) rfl rfl rfl hr2 hsD hsrc rfl (by intro u hu; simp at hu; rcases hu with rfl | rfl | rfl | rfl <;> rfl) (by omega) (fun v3 w12 R3 hr3 hsE => ?_)
              simp only [Act.put, List.setIfInBounds_toArray, List.set_cons_zero, List.set_cons_succ]
              refine hK _ _ ?_
              clear hK
              repeat (first | (refine can_pu1 rfl rfl rfl rfl rfl rfl (fun K hK => ?_); go_big_quiet_op; refine hK _ ?_; clear hK K) | (refine can_st1 rfl rfl rfl rfl rfl rfl (fun K hK => ?_); go_big_quiet_op; refine hK _ ?_; clear hK K) | (refine can_early1 rfl rfl rfl rfl rfl (fun K hK => ?_); go_big_quiet_op; refine hK _ ?_; clear hK K) | (refine can_skip rfl rfl rfl ?_; simp only [Act.put, List.setIfInBounds_toArray, List.set_cons_zero, List.set_cons_succ]))
              refine can_actF rfl rfl rfl rfl (fun K hK => ?_)
              refine wp_append_g Tryz.underlying115 infoRs rfl (by decide) (by decide) rfl rfl rfl hr3 hsE (HV2.out _ (Sat.use (M := LL) hsE (by intro x; simp only [cnt_append, cnt_cons, cnt_nil]; omega))) HV2L.out HV2O.out (by omega) (fun v4 w16 R4 hr4 hsG => ?_)
              simp only [Act.put, List.setIfInBounds_toArray, List.set_cons_zero, List.set_cons_succ]
              refine hK _ _ ?_
              clear hK
              repeat (first | (refine can_pu1 rfl rfl rfl rfl rfl rfl (fun K hK => ?_); go_big_quiet_op; refine hK _ ?_; clear hK K) | (refine can_st1 rfl rfl rfl rfl rfl rfl (fun K hK => ?_); go_big_quiet_op; refine hK _ ?_; clear hK K) | (refine can_early1 rfl rfl rfl rfl rfl (fun K hK => ?_); go_big_quiet_op; refine hK _ ?_; clear hK K) | (refine can_skip rfl rfl rfl ?_; simp only [Act.put, List.setIfInBounds_toArray, List.set_cons_zero, List.set_cons_succ]))
              refine can_end1 ?_; (try simp only [Exit.then])
              go_wp2_with fail
              have hsH : Sat W w16 (R4 ++ (cellsA b (rringC bp xs nx) 96 :: (B ++ L))) := by rw [HLL.out] at hsG; exact Sat.use hsG (by intro x; simp only [cnt_append, cnt_cons, cnt_nil]; omega)
              refine ⟨⟨k + 1, _, R4, by simp, by omega, HP2.out, HW2.out, fun h => absurd (congrArg List.length h) (by simp), HR2.out _ _ hr4, hsH⟩, ?_⟩
              simp [intOf]
              omega
          · obtain ⟨gl, ol, kl, he, hkl, _, hR⟩ := Ch.RowA.some_of hr (by omega)
            obtain ⟨rfl, rfl⟩ : al = some ⟨gl, ol, none⟩ ∧ cl = kl := by cases he; exact ⟨rfl, rfl⟩
            have hr' := hr
            rw [HN.out] at hr'
            have HV1 := Lib.hid (show ∀ y, Sat W y (R ++ (cellsA b (rringC bp xs nx) 96 :: (B ++ L))) → Reads y (.slice (some ⟨gl, ol, none⟩) 0 cl) 0 (rslotsC (ls.take 0)) from fun y hy => reads_pre hr' hy 0 (Nat.zero_le _) cl)
            have HV2 := Lib.hid (show ∀ y, Sat W y (R ++ (cellsA b (rringC bp xs nx) 96 :: (B ++ L))) → Reads y (.slice (some ⟨gl, ol, none⟩) N cl) N (rslotsC (ls.drop 0)) from fun y hy => by
              have h := reads_post hr' hy 0 (Nat.zero_le _) N (by rw [← HN.out]; omega) cl
              rw [Nat.zero_mul, Nat.add_zero] at h
              exact h)
            have HJN := Lib.hid (show 0 ≤ N ∧ 0 + N = N from ⟨Nat.zero_le _, by omega⟩)
            clear he hR hr'
            have hcl0 : ¬ cl = 0 := by omega
            obtain ⟨LL, hLL⟩ : ∃ LL, LL = R ++ (cellsA b (rringC bp xs nx) 96 :: (B ++ L)) := ⟨_, rfl⟩
            rw [← hLL] at hs hrg HV1 HV2
            have HLL := Lib.hid hLL
            have c0 : ∀ y : Of W LL, y.v.cell? ⟨b, 1 + k * 4, none⟩ = some (.int .i64 sn) := fun y => by rw [(hrg y.v y.s).cell m0]; exact rring_get HX.out 0 _ rfl
            have c1 : ∀ y : Of W LL, y.v.cell? ⟨b, 1 + k * 4 + 1, none⟩ = some (.int .i64 ss) := fun y => by rw [(hrg y.v y.s).cell m0]; exact rring_get HX.out 1 _ rfl
            have c2 : ∀ y : Of W LL, y.v.cell? ⟨b, 1 + k * 4 + 2, none⟩ = some (.int .i64 sg) := fun y => by rw [(hrg y.v y.s).cell m0]; exact rring_get HX.out 2 _ rfl
            have c3 : ∀ y : Of W LL, y.v.cell? ⟨b, 1 + k * 4 + 3, none⟩ = some (.slice va sd.length vc) := fun y => by rw [(hrg y.v y.s).cell m0]; exact rring_get HX.out 3 _ rfl
            have HP2 := Lib.hid (show (ls.take (0) ++ (⟨true, sn, ⟨ss, sg, sd⟩⟩, .slice va sd.length vc) :: ls.drop (0)).Perm (liveOf (xs.take (k + 1))) from by rw [HLV.out]; exact ins_perm _ _ HPM.out)
            have HW2 := Lib.hid (show (ls.take (0) ++ (⟨true, sn, ⟨ss, sg, sd⟩⟩, .slice va sd.length vc) :: ls.drop (0)).Pairwise numLe from ins_pw HPW.out HPRE.out (fun y hy => Int.le_of_lt (HDR.out y hy)))
            have HR2 := Lib.hid (row_ins ls (0) (N) sn ss sg sd (.slice va sd.length vc) (by have := HJN.out.1; have := HN.out; omega) (by have := HJN.out.2; have := HN.out; omega))
            have HV1L := Lib.hid (show (rslotsC (ls.take (0))).length = (0) * 4 from by rw [rslotsC_length, List.length_take]; have := HJN.out.1; have := HN.out; omega)
            have HV2L := Lib.hid (show (rslotsC (ls.drop (0))).length = (N) * 4 from by rw [rslotsC_length, List.length_drop]; have := HJN.out.2; have := HN.out; omega)
            have HV1O := Lib.hid (show ∀ u ∈ rslotsC (ls.take (0)), u.oneCell' = true from fun u hu => rslotsC_one _ u hu fun x hx => by obtain ⟨a, c, h⟩ := (HRI.out x (HLX.out x (List.mem_of_mem_take hx))).shape; rw [h]; rfl)
            have HV2O := Lib.hid (show ∀ u ∈ rslotsC (ls.drop (0)), u.oneCell' = true from fun u hu => rslotsC_one _ u hu fun x hx => by obtain ⟨a, c, h⟩ := (HRI.out x (HLX.out x (List.mem_of_mem_drop hx))).shape; rw [h]; rfl)
            have hbn : (0) + (N) ≤ 16 := by have := HJN.out; have := HLS.out; omega
            clear hrg hr hLL
            have hne : Nonempty (Of W LL) := ⟨⟨_, hs⟩⟩
            have hsT : Sat W _ LL := hs.drew
            refine wp_region_plan [0, 4, 11, 12, 16] [1, 2, 3, 5, 6, 7, 8, 9, 10, 13, 14, 15] [1, 2, 3, 5, 6, 7, 8, 9, 13, 14, 15] [0, 4] [1, 2, 3, 5, 6, 7, 8, 9, 10, 13, 14, 15] (.two [0] (.two [4, 11, 12, 16, 17] .nil [11, 4, 12, 16, 17] .nil) [11, 0, 4, 12, 16, 17] .nil) (Held W LL) (by kernel_rfl) (by kernel_rfl) ?_ ?_
            · exact Held.mk hsT
            repeat (first | (refine can_pu1 rfl rfl rfl rfl rfl rfl (fun K hK => ?_); go_big_quiet_op; refine hK _ ?_; clear hK K) | (refine can_st1 rfl rfl rfl rfl rfl rfl (fun K hK => ?_); go_big_quiet_op; refine hK _ ?_; clear hK K) | (refine can_early1 rfl rfl rfl rfl rfl (fun K hK => ?_); go_big_quiet_op; refine hK _ ?_; clear hK K) | (refine can_skip rfl rfl rfl ?_; simp only [Act.put, List.setIfInBounds_toArray, List.set_cons_zero, List.set_cons_succ]))
            clear c0 c1 c2 c3 hne hs
            refine with_sat hsT ?_
            clear hsT
            intro wt hsT
            refine can_two ?_ ?_
            · skip
              refine can_actS rfl rfl rfl rfl (fun K hK => ?_)
              go_wp2_with fail
              have hsA := none_satT hsT 93 4
              refine ⟨Held.mk hsA.tail, ?_⟩
              generalize (wt).heap.size = z1 at *
              refine with_sat hsA ?_
              clear hsA
              intro w1 hsA
              repeat (first | (refine can_pu1 rfl rfl rfl rfl rfl rfl (fun K hK => ?_); go_big_quiet_op; refine hK _ ?_; clear hK K) | (refine can_st1 rfl rfl rfl rfl rfl rfl (fun K hK => ?_); go_big_quiet_op; refine hK _ ?_; clear hK K) | (refine can_early1 rfl rfl rfl rfl rfl (fun K hK => ?_); go_big_quiet_op; refine hK _ ?_; clear hK K) | (refine can_skip rfl rfl rfl ?_; simp only [Act.put, List.setIfInBounds_toArray, List.set_cons_zero, List.set_cons_succ]))
              refine can_two ?_ ?_
              · skip
                refine can_actS rfl rfl rfl rfl (fun K hK => ?_)
                refine wp_append_g Tryz.underlying115 infoRs rfl (by decide) (by decide) rfl rfl rfl (none_rowT _ 4 z1) hsA (HV1.out _ (Sat.use (M := LL) hsA (by intro x; simp only [cnt_append, cnt_cons, cnt_nil]; omega))) HV1L.out HV1O.out (by omega) (fun v2 w6 R2 hr2 hsC => ?_)
                simp only [Act.put, List.setIfInBounds_toArray, List.set_cons_zero, List.set_cons_succ]
                apply hK
                refine ⟨Held.mk (Sat.use hsC (by intro x; simp only [cnt_append, cnt_cons, cnt_nil]; omega)), ?_⟩
                clear hK
                rw [Nat.zero_add, List.nil_append] at hr2
                repeat (first | (refine can_pu1 rfl rfl rfl rfl rfl rfl (fun K hK => ?_); go_big_quiet_op; refine hK _ ?_; clear hK K) | (refine can_st1 rfl rfl rfl rfl rfl rfl (fun K hK => ?_); go_big_quiet_op; refine hK _ ?_; clear hK K) | (refine can_early1 rfl rfl rfl rfl rfl (fun K hK => ?_); go_big_quiet_op; refine hK _ ?_; clear hK K) | (refine can_skip rfl rfl rfl ?_; simp only [Act.put, List.setIfInBounds_toArray, List.set_cons_zero, List.set_cons_succ]))
                refine can_actF rfl rfl rfl rfl (fun K hK => ?_)
                go_wp2_with fail
                have hsB := Sat.newCells hsC #[.int .i64 sn, .int .i64 ss, .int .i64 sg, .slice va sd.length vc] 93
                generalize (w6).heap.size = z11 at *
                refine with_sat hsB ?_
                clear hsB
                intro w11 hsB
                repeat (first | (refine can_pu1 rfl rfl rfl rfl rfl rfl (fun K hK => ?_); go_big_quiet_op; refine hK _ ?_; clear hK K) | (refine can_st1 rfl rfl rfl rfl rfl rfl (fun K hK => ?_); go_big_quiet_op; refine hK _ ?_; clear hK K) | (refine can_early1 rfl rfl rfl rfl rfl (fun K hK => ?_); go_big_quiet_op; refine hK _ ?_; clear hK K) | (refine can_skip rfl rfl rfl ?_; simp only [Act.put, List.setIfInBounds_toArray, List.set_cons_zero, List.set_cons_succ]))
                have hsD := Sat.use (M := R2 ++ (cellsA z11 #[.int .i64 sn, .int .i64 ss, .int .i64 sg, .slice va sd.length vc] 93 :: LL)) hsB (by intro x; simp only [cnt_append, cnt_cons, cnt_nil]; omega)
                have hsrc := reads_cells hsD (List.mem_append_right _ m0) 1 1 [.int .i64 sn, .int .i64 ss, .int .i64 sg, .slice va sd.length vc] rfl
                refine can_actF rfl rfl rfl rfl (fun K hK => ?_)
                refine wp_append_g Tryz.underlying115 infoRs rfl (by decide) (by decide) rfl rfl rfl hr2 hsD hsrc rfl (by intro u hu; simp at hu; rcases hu with rfl | rfl | rfl | rfl <;> rfl) (by omega) (fun v3 w12 R3 hr3 hsE => ?_)
                simp only [Act.put, List.setIfInBounds_toArray, List.set_cons_zero, List.set_cons_succ]
                refine hK _ _ ?_
                clear hK
                repeat (first | (refine can_pu1 rfl rfl rfl rfl rfl rfl (fun K hK => ?_); go_big_quiet_op; refine hK _ ?_; clear hK K) | (refine can_st1 rfl rfl rfl rfl rfl rfl (fun K hK => ?_); go_big_quiet_op; refine hK _ ?_; clear hK K) | (refine can_early1 rfl rfl rfl rfl rfl (fun K hK => ?_); go_big_quiet_op; refine hK _ ?_; clear hK K) | (refine can_skip rfl rfl rfl ?_; simp only [Act.put, List.setIfInBounds_toArray, List.set_cons_zero, List.set_cons_succ]))
                refine can_actF rfl rfl rfl rfl (fun K hK => ?_)
                refine wp_append_g Tryz.underlying115 infoRs rfl (by decide) (by decide) rfl rfl rfl hr3 hsE (HV2.out _ (Sat.use (M := LL) hsE (by intro x; simp only [cnt_append, cnt_cons, cnt_nil]; omega))) HV2L.out HV2O.out (by omega) (fun v4 w16 R4 hr4 hsG => ?_)
                simp only [Act.put, List.setIfInBounds_toArray, List.set_cons_zero, List.set_cons_succ]
                refine hK _ _ ?_
                clear hK
                repeat (first | (refine can_pu1 rfl rfl rfl rfl rfl rfl (fun K hK => ?_); go_big_quiet_op; refine hK _ ?_; clear hK K) | (refine can_st1 rfl rfl rfl rfl rfl rfl (fun K hK => ?_); go_big_quiet_op; refine hK _ ?_; clear hK K) | (refine can_early1 rfl rfl rfl rfl rfl (fun K hK => ?_); go_big_quiet_op; refine hK _ ?_; clear hK K) | (refine can_skip rfl rfl rfl ?_; simp only [Act.put, List.setIfInBounds_toArray, List.set_cons_zero, List.set_cons_succ]))
                refine can_end1 ?_; (try simp only [Exit.then])
                go_wp2_with fail
                have hsH : Sat W w16 (R4 ++ (cellsA b (rringC bp xs nx) 96 :: (B ++ L))) := by rw [HLL.out] at hsG; exact Sat.use hsG (by intro x; simp only [cnt_append, cnt_cons, cnt_nil]; omega)
                refine ⟨⟨k + 1, _, R4, by simp, by omega, HP2.out, HW2.out, fun h => absurd (congrArg List.length h) (by simp), HR2.out _ _ hr4, hsH⟩, ?_⟩
                simp [intOf]
                omega
              · skip
                refine can_actF rfl rfl rfl rfl (fun K hK => ?_)
                go_wp2_with fail
                have hsB := Sat.newCells hsA #[.int .i64 sn, .int .i64 ss, .int .i64 sg, .slice va sd.length vc] 93
                generalize (w1).heap.size = z11 at *
                refine with_sat hsB ?_
                clear hsB
                intro w11 hsB
                repeat (first | (refine can_pu1 rfl rfl rfl rfl rfl rfl (fun K hK => ?_); go_big_quiet_op; refine hK _ ?_; clear hK K) | (refine can_st1 rfl rfl rfl rfl rfl rfl (fun K hK => ?_); go_big_quiet_op; refine hK _ ?_; clear hK K) | (refine can_early1 rfl rfl rfl rfl rfl (fun K hK => ?_); go_big_quiet_op; refine hK _ ?_; clear hK K) | (refine can_skip rfl rfl rfl ?_; simp only [Act.put, List.setIfInBounds_toArray, List.set_cons_zero, List.set_cons_succ]))
                have hsB2 := Sat.use (M := [(z1, rowP 93 0 (0 * 4) [])] ++ (cellsA z11 #[.int .i64 sn, .int .i64 ss, .int .i64 sg, .slice va sd.length vc] 93 :: LL)) hsB (by intro x; simp only [cnt_append, cnt_cons, cnt_nil]; omega)
                refine can_actS rfl rfl rfl rfl (fun K hK => ?_)
                refine wp_append_g Tryz.underlying115 infoRs rfl (by decide) (by decide) rfl rfl rfl (none_rowT _ 4 z1) hsB2 (HV1.out _ (Sat.use (M := LL) hsB2 (by intro x; simp only [cnt_append, cnt_cons, cnt_nil]; omega))) HV1L.out HV1O.out (by omega) (fun v2 w6 R2 hr2 hsC => ?_)
                simp only [Act.put, List.setIfInBounds_toArray, List.set_cons_zero, List.set_cons_succ]
                apply hK
                refine ⟨Held.mk (Sat.use hsC (by intro x; simp only [cnt_append, cnt_cons, cnt_nil]; omega)), ?_⟩
                clear hK
                rw [Nat.zero_add, List.nil_append] at hr2
                repeat (first | (refine can_pu1 rfl rfl rfl rfl rfl rfl (fun K hK => ?_); go_big_quiet_op; refine hK _ ?_; clear hK K) | (refine can_st1 rfl rfl rfl rfl rfl rfl (fun K hK => ?_); go_big_quiet_op; refine hK _ ?_; clear hK K) | (refine can_early1 rfl rfl rfl rfl rfl (fun K hK => ?_); go_big_quiet_op; refine hK _ ?_; clear hK K) | (refine can_skip rfl rfl rfl ?_; simp only [Act.put, List.setIfInBounds_toArray, List.set_cons_zero, List.set_cons_succ]))
                have hsD := Sat.use (M := R2 ++ (cellsA z11 #[.int .i64 sn, .int .i64 ss, .int .i64 sg, .slice va sd.length vc] 93 :: LL)) hsC (by intro x; simp only [cnt_append, cnt_cons, cnt_nil]; omega)
                have hsrc := reads_cells hsD (List.mem_append_right _ m0) 1 1 [.int .i64 sn, .int .i64 ss, .int .i64 sg, .slice va sd.length vc] rfl
                refine can_actF rfl rfl rfl rfl (fun K hK => ?_)
                refine wp_append_g Tryz.underlying115 infoRs rfl (by decide) (by decide) rfl rfl rfl hr2 hsD hsrc rfl (by intro u hu; simp at hu; rcases hu with rfl | rfl | rfl | rfl <;> rfl) (by omega) (fun v3 w12 R3 hr3 hsE => ?_)
                simp only [Act.put, List.setIfInBounds_toArray, List.set_cons_zero, List.set_cons_succ]
                refine hK _ _ ?_
                clear hK
                repeat (first | (refine can_pu1 rfl rfl rfl rfl rfl rfl (fun K hK => ?_); go_big_quiet_op; refine hK _ ?_; clear hK K) | (refine can_st1 rfl rfl rfl rfl rfl rfl (fun K hK => ?_); go_big_quiet_op; refine hK _ ?_; clear hK K) | (refine can_early1 rfl rfl rfl rfl rfl (fun K hK => ?_); go_big_quiet_op; refine hK _ ?_; clear hK K) | (refine can_skip rfl rfl rfl ?_; simp only [Act.put, List.setIfInBounds_toArray, List.set_cons_zero, List.set_cons_succ]))
                refine can_actF rfl rfl rfl rfl (fun K hK => ?_)
                refine wp_append_g Tryz.underlying115 infoRs rfl (by decide) (by decide) rfl rfl rfl hr3 hsE (HV2.out _ (Sat.use (M := LL) hsE (by intro x; simp only [cnt_append, cnt_cons, cnt_nil]; omega))) HV2L.out HV2O.out (by omega) (fun v4 w16 R4 hr4 hsG => ?_)
                simp only [Act.put, List.setIfInBounds_toArray, List.set_cons_zero, List.set_cons_succ]
                refine hK _ _ ?_
                clear hK
                repeat (first | (refine can_pu1 rfl rfl rfl rfl rfl rfl (fun K hK => ?_); go_big_quiet_op; refine hK _ ?_; clear hK K) | (refine can_st1 rfl rfl rfl rfl rfl rfl (fun K hK => ?_); go_big_quiet_op; refine hK _ ?_; clear hK K) | (refine can_early1 rfl rfl rfl rfl rfl (fun K hK => ?_); go_big_quiet_op; refine hK _ ?_; clear hK K) | (refine can_skip rfl rfl rfl ?_; simp only [Act.put, List.setIfInBounds_toArray, List.set_cons_zero, List.set_cons_succ]))
                refine can_end1 ?_; (try simp only [Exit.then])
                go_wp2_with fail
                have hsH : Sat W w16 (R4 ++ (cellsA b (rringC bp xs nx) 96 :: (B ++ L))) := by rw [HLL.out] at hsG; exact Sat.use hsG (by intro x; simp only [cnt_append, cnt_cons, cnt_nil]; omega)
                refine ⟨⟨k + 1, _, R4, by simp, by omega, HP2.out, HW2.out, fun h => absurd (congrArg List.length h) (by simp), HR2.out _ _ hr4, hsH⟩, ?_⟩
                simp [intOf]
                omega
            · skip
              refine can_actF rfl rfl rfl rfl (fun K hK => ?_)
              go_wp2_with fail
              have hsB := Sat.newCells hsT #[.int .i64 sn, .int .i64 ss, .int .i64 sg, .slice va sd.length vc] 93
              generalize (wt).heap.size = z11 at *
              refine with_sat hsB ?_
              clear hsB
              intro w11 hsB
              repeat (first | (refine can_pu1 rfl rfl rfl rfl rfl rfl (fun K hK => ?_); go_big_quiet_op; refine hK _ ?_; clear hK K) | (refine can_st1 rfl rfl rfl rfl rfl rfl (fun K hK => ?_); go_big_quiet_op; refine hK _ ?_; clear hK K) | (refine can_early1 rfl rfl rfl rfl rfl (fun K hK => ?_); go_big_quiet_op; refine hK _ ?_; clear hK K) | (refine can_skip rfl rfl rfl ?_; simp only [Act.put, List.setIfInBounds_toArray, List.set_cons_zero, List.set_cons_succ]))
              refine can_actS rfl rfl rfl rfl (fun K hK => ?_)
              go_wp2_with fail
              have hsA := none_satT hsB 93 4
              refine ⟨Held.mk hsA.tail.tail, ?_⟩
              generalize (w11).heap.size = z1 at *
              refine with_sat hsA ?_
              clear hsA
              intro w1 hsA
              repeat (first | (refine can_pu1 rfl rfl rfl rfl rfl rfl (fun K hK => ?_); go_big_quiet_op; refine hK _ ?_; clear hK K) | (refine can_st1 rfl rfl rfl rfl rfl rfl (fun K hK => ?_); go_big_quiet_op; refine hK _ ?_; clear hK K) | (refine can_early1 rfl rfl rfl rfl rfl (fun K hK => ?_); go_big_quiet_op; refine hK _ ?_; clear hK K) | (refine can_skip rfl rfl rfl ?_; simp only [Act.put, List.setIfInBounds_toArray, List.set_cons_zero, List.set_cons_succ]))
              refine can_actS rfl rfl rfl rfl (fun K hK => ?_)
              refine wp_append_g Tryz.underlying115 infoRs rfl (by decide) (by decide) rfl rfl rfl (none_rowT _ 4 z1) hsA (HV1.out _ (Sat.use (M := LL) hsA (by intro x; simp only [cnt_append, cnt_cons, cnt_nil]; omega))) HV1L.out HV1O.out (by omega) (fun v2 w6 R2 hr2 hsC => ?_)
              simp only [Act.put, List.setIfInBounds_toArray, List.set_cons_zero, List.set_cons_succ]
              apply hK
              refine ⟨Held.mk (Sat.use hsC (by intro x; simp only [cnt_append, cnt_cons, cnt_nil]; omega)), ?_⟩
              clear hK
              rw [Nat.zero_add, List.nil_append] at hr2
              repeat (first | (refine can_pu1 rfl rfl rfl rfl rfl rfl (fun K hK => ?_); go_big_quiet_op; refine hK _ ?_; clear hK K) | (refine can_st1 rfl rfl rfl rfl rfl rfl (fun K hK => ?_); go_big_quiet_op; refine hK _ ?_; clear hK K) | (refine can_early1 rfl rfl rfl rfl rfl (fun K hK => ?_); go_big_quiet_op; refine hK _ ?_; clear hK K) | (refine can_skip rfl rfl rfl ?_; simp only [Act.put, List.setIfInBounds_toArray, List.set_cons_zero, List.set_cons_succ]))
              have hsD := Sat.use (M := R2 ++ (cellsA z11 #[.int .i64 sn, .int .i64 ss, .int .i64 sg, .slice va sd.length vc] 93 :: LL)) hsC (by intro x; simp only [cnt_append, cnt_cons, cnt_nil]; omega)
              have hsrc := reads_cells hsD (List.mem_append_right _ m0) 1 1 [.int .i64 sn, .int .i64 ss, .int .i64 sg, .slice va sd.length vc] rfl
              refine can_actF rfl rfl rfl rfl (fun K hK => ?_)
              refine wp_append_g Tryz.underlying115 infoRs rfl (by decide) (by decide) rfl rfl rfl hr2 hsD hsrc rfl (by intro u hu; simp at hu; rcases hu with rfl | rfl | rfl | rfl <;> rfl) (by omega) (fun v3 w12 R3 hr3 hsE => ?_)
              simp only [Act.put, List.setIfInBounds_toArray, List.set_cons_zero, List.set_cons_succ]
              refine hK _ _ ?_
              clear hK
              repeat (first | (refine can_pu1 rfl rfl rfl rfl rfl rfl (fun K hK => ?_); go_big_quiet_op; refine hK _ ?_; clear hK K) | (refine can_st1 rfl rfl rfl rfl rfl rfl (fun K hK => ?_); go_big_quiet_op; refine hK _ ?_; clear hK K) | (refine can_early1 rfl rfl rfl rfl rfl (fun K hK => ?_); go_big_quiet_op; refine hK _ ?_; clear hK K) | (refine can_skip rfl rfl rfl ?_; simp only [Act.put, List.setIfInBounds_toArray, List.set_cons_zero, List.set_cons_succ]))
              refine can_actF rfl rfl rfl rfl (fun K hK => ?_)
              refine wp_append_g Tryz.underlying115 infoRs rfl (by decide) (by decide) rfl rfl rfl hr3 hsE (HV2.out _ (Sat.use (M := LL) hsE (by intro x; simp only [cnt_append, cnt_cons, cnt_nil]; omega))) HV2L.out HV2O.out (by omega) (fun v4 w16 R4 hr4 hsG => ?_)
              simp only [Act.put, List.setIfInBounds_toArray, List.set_cons_zero, List.set_cons_succ]
              refine hK _ _ ?_
              clear hK
              repeat (first | (refine can_pu1 rfl rfl rfl rfl rfl rfl (fun K hK => ?_); go_big_quiet_op; refine hK _ ?_; clear hK K) | (refine can_st1 rfl rfl rfl rfl rfl rfl (fun K hK => ?_); go_big_quiet_op; refine hK _ ?_; clear hK K) | (refine can_early1 rfl rfl rfl rfl rfl (fun K hK => ?_); go_big_quiet_op; refine hK _ ?_; clear hK K) | (refine can_skip rfl rfl rfl ?_; simp only [Act.put, List.setIfInBounds_toArray, List.set_cons_zero, List.set_cons_succ]))
              refine can_end1 ?_; (try simp only [Exit.then])
              go_wp2_with fail
              have hsH : Sat W w16 (R4 ++ (cellsA b (rringC bp xs nx) 96 :: (B ++ L))) := by rw [HLL.out] at hsG; exact Sat.use hsG (by intro x; simp only [cnt_append, cnt_cons, cnt_nil]; omega)
              refine ⟨⟨k + 1, _, R4, by simp, by omega, HP2.out, HW2.out, fun h => absurd (congrArg List.length h) (by simp), HR2.out _ _ hr4, hsH⟩, ?_⟩
              simp [intOf]
              omega
        | succ m =>
          have e1 : (((m + 1 : Nat) : Int) - 1) = m := by omega
          have m0' : (0 : Int) ≤ m := by omega
          have m1' : (m : Int) < N := by omega
          have m3' : (m : Int) < 16 := by have := HLS.out; omega
          have m2' : (0 : Int) < ((m + 1 : Nat) : Int) := by omega
          obtain ⟨⟨⟨tl, tn, ⟨ts, tg, td⟩⟩, tv⟩, hy⟩ : ∃ y, ls[m]? = some y := ⟨_, List.getElem?_eq_getElem (by have := HN.out; omega)⟩
          obtain ⟨gl, ol, kl, he, _, _, hR⟩ := Ch.RowA.some_of hr (by omega)
          obtain ⟨rfl, rfl⟩ : al = some ⟨gl, ol, none⟩ ∧ cl = kl := by cases he; exact ⟨rfl, rfl⟩
          have d0 : wr.drew.cell? ⟨gl, ol + m * 4, none⟩ = some (.int .i64 tn) := (hr.cells hs.drew rfl (m * 4 + 0) (List.getElem?_eq_some_iff.1 (rslotsC_get hy 0 _ rfl)).1).1.trans (rslotsC_get hy 0 _ rfl)
          clear hR
          have hkl : N ≤ cl := by cases he; assumption
          clear he
          have HY := Lib.hid hy
          clear hy
          by_cases hgt : sn < tn
          · go_wp2_with fail
            refine wp_region_one [] [] [] [] [0, 1, 2, 3, 4, 5, 6, 7, 8, 9, 10, 11, 12, 13, 14, 15, 16, 17] (by kernel_rfl) (by kernel_rfl) ?_
            repeat (first | (refine can_pu1 rfl rfl rfl rfl rfl rfl (fun K hK => ?_); go_big_quiet_op; refine hK _ ?_; clear hK K) | (refine can_st1 rfl rfl rfl rfl rfl rfl (fun K hK => ?_); go_big_quiet_op; refine hK _ ?_; clear hK K) | (refine can_early1 rfl rfl rfl rfl rfl (fun K hK => ?_); go_big_quiet_op; refine hK _ ?_; clear hK K) | (refine can_skip rfl rfl rfl ?_; simp only [Act.put, List.setIfInBounds_toArray, List.set_cons_zero, List.set_cons_succ]))
            refine can_end1 ?_; (try simp only [Exit.then])
            go_wp2_with fail
            refine ⟨⟨m, by simp, by omega, ?_, hs.drew⟩, by simp [intOf]⟩
            rw [drop_step HY.out]
            intro y hy
            rcases List.mem_cons.1 hy with rfl | hy
            · exact hgt
            · exact HDR.out y hy
          · go_wp2_with fail
            refine wp_region_one [] [] [] [] [0, 1, 2, 3, 4, 5, 6, 7, 8, 9, 10, 11, 12, 13, 14, 15, 16, 17] (by kernel_rfl) (by kernel_rfl) ?_
            repeat (first | (refine can_pu1 rfl rfl rfl rfl rfl rfl (fun K hK => ?_); go_big_quiet_op; refine hK _ ?_; clear hK K) | (refine can_st1 rfl rfl rfl rfl rfl rfl (fun K hK => ?_); go_big_quiet_op; refine hK _ ?_; clear hK K) | (refine can_early1 rfl rfl rfl rfl rfl (fun K hK => ?_); go_big_quiet_op; refine hK _ ?_; clear hK K) | (refine can_skip rfl rfl rfl ?_; simp only [Act.put, List.setIfInBounds_toArray, List.set_cons_zero, List.set_cons_succ]))
            refine can_end1 ?_; (try simp only [Exit.then])
            go_wp2_with fail
            replace hs := hs.drew
            have HPRE := Lib.hid (show ∀ y ∈ ls.take (m + 1), numLe y (⟨true, sn, ⟨ss, sg, sd⟩⟩, .slice va sd.length vc) from last_pw HPW.out HY.out (show tn ≤ sn by omega))
            have hr' := hr
            rw [HN.out] at hr'
            have hmN : m + 1 ≤ ls.length := by rw [← HN.out]; omega
            have HJN := Lib.hid (show (m + 1) ≤ N ∧ (m + 1) + (N - (m + 1)) = N from ⟨hj, by omega⟩)
            by_cases hcm : cl = m + 1
            · have HV1 := Lib.hid (show ∀ y, Sat W y (R ++ (cellsA b (rringC bp xs nx) 96 :: (B ++ L))) → Reads y (.slice (some ⟨gl, ol, none⟩) (m + 1) (m + 1)) (m + 1) (rslotsC (ls.take (m + 1))) from fun y hy => reads_pre hr' hy (m + 1) hmN (m + 1))
              have HV2 := Lib.hid (show ∀ y, Sat W y (R ++ (cellsA b (rringC bp xs nx) 96 :: (B ++ L))) → Reads y (.slice (some ⟨gl, ol, none⟩) (N - (m + 1)) 0) (N - (m + 1)) (rslotsC (ls.drop (m + 1))) from fun y hy => by
                have e : N = m + 1 := by omega
                rw [e, Nat.sub_self, List.drop_eq_nil_of_le (by rw [← HN.out, e]; exact Nat.le_refl _)]
                exact reads_zero _ _ _)
              clear hr' hmN
              obtain ⟨LL, hLL⟩ : ∃ LL, LL = R ++ (cellsA b (rringC bp xs nx) 96 :: (B ++ L)) := ⟨_, rfl⟩
              rw [← hLL] at hs hrg HV1 HV2
              have HLL := Lib.hid hLL
              have c0 : ∀ y : Of W LL, y.v.cell? ⟨b, 1 + k * 4, none⟩ = some (.int .i64 sn) := fun y => by rw [(hrg y.v y.s).cell m0]; exact rring_get HX.out 0 _ rfl
              have c1 : ∀ y : Of W LL, y.v.cell? ⟨b, 1 + k * 4 + 1, none⟩ = some (.int .i64 ss) := fun y => by rw [(hrg y.v y.s).cell m0]; exact rring_get HX.out 1 _ rfl
              have c2 : ∀ y : Of W LL, y.v.cell? ⟨b, 1 + k * 4 + 2, none⟩ = some (.int .i64 sg) := fun y => by rw [(hrg y.v y.s).cell m0]; exact rring_get HX.out 2 _ rfl
              have c3 : ∀ y : Of W LL, y.v.cell? ⟨b, 1 + k * 4 + 3, none⟩ = some (.slice va sd.length vc) := fun y => by rw [(hrg y.v y.s).cell m0]; exact rring_get HX.out 3 _ rfl
              have HP2 := Lib.hid (show (ls.take (m + 1) ++ (⟨true, sn, ⟨ss, sg, sd⟩⟩, .slice va sd.length vc) :: ls.drop (m + 1)).Perm (liveOf (xs.take (k + 1))) from by rw [HLV.out]; exact ins_perm _ _ HPM.out)
              have HW2 := Lib.hid (show (ls.take (m + 1) ++ (⟨true, sn, ⟨ss, sg, sd⟩⟩, .slice va sd.length vc) :: ls.drop (m + 1)).Pairwise numLe from ins_pw HPW.out HPRE.out (fun y hy => Int.le_of_lt (HDR.out y hy)))
              have HR2 := Lib.hid (row_ins ls (m + 1) (N - (m + 1)) sn ss sg sd (.slice va sd.length vc) (by have := HJN.out.1; have := HN.out; omega) (by have := HJN.out.2; have := HN.out; omega))
              have HV1L := Lib.hid (show (rslotsC (ls.take (m + 1))).length = (m + 1) * 4 from by rw [rslotsC_length, List.length_take]; have := HJN.out.1; have := HN.out; omega)
              have HV2L := Lib.hid (show (rslotsC (ls.drop (m + 1))).length = (N - (m + 1)) * 4 from by rw [rslotsC_length, List.length_drop]; have := HJN.out.2; have := HN.out; omega)
              have HV1O := Lib.hid (show ∀ u ∈ rslotsC (ls.take (m + 1)), u.oneCell' = true from fun u hu => rslotsC_one _ u hu fun x hx => by obtain ⟨a, c, h⟩ := (HRI.out x (HLX.out x (List.mem_of_mem_take hx))).shape; rw [h]; rfl)
              have HV2O := Lib.hid (show ∀ u ∈ rslotsC (ls.drop (m + 1)), u.oneCell' = true from fun u hu => rslotsC_one _ u hu fun x hx => by obtain ⟨a, c, h⟩ := (HRI.out x (HLX.out x (List.mem_of_mem_drop hx))).shape; rw [h]; rfl)
              have hbn : (m + 1) + (N - (m + 1)) ≤ 16 := by have := HJN.out; have := HLS.out; omega
              clear hrg hr hLL
              have hne : Nonempty (Of W LL) := ⟨⟨_, hs⟩⟩
              have hsT : Sat W _ LL := hs.drew
              refine wp_region_plan [0, 4, 11, 12, 16] [1, 2, 3, 5, 6, 7, 8, 9, 10, 13, 14, 15] [1, 2, 3, 5, 6, 7, 8, 9, 13, 14, 15] [0, 4] [1, 2, 3, 5, 6, 7, 8, 9, 10, 13, 14, 15] (.two [0] (.two [4, 11, 12, 16, 17] .nil [11, 4, 12, 16, 17] .nil) [11, 0, 4, 12, 16, 17] .nil) (Held W LL) (by kernel_rfl) (by kernel_rfl) ?_ ?_
              · exact Held.mk hsT
              repeat (first | (refine can_pu1 rfl rfl rfl rfl rfl rfl (fun K hK => ?_); go_big_quiet_op; refine hK _ ?_; clear hK K) | (refine can_st1 rfl rfl rfl rfl rfl rfl (fun K hK => ?_); go_big_quiet_op; refine hK _ ?_; clear hK K) | (refine can_early1 rfl rfl rfl rfl rfl (fun K hK => ?_); go_big_quiet_op; refine hK _ ?_; clear hK K) | (refine can_skip rfl rfl rfl ?_; simp only [Act.put, List.setIfInBounds_toArray, List.set_cons_zero, List.set_cons_succ]))
              clear c0 c1 c2 c3 hne hs
              refine with_sat hsT ?_
              clear hsT
              intro wt hsT
              refine can_two ?_ ?_
              · skip
                refine can_actS rfl rfl rfl rfl (fun K hK => ?_)
                go_wp2_with fail
                have hsA := none_satT hsT 93 4
                refine ⟨Held.mk hsA.tail, ?_⟩
                generalize (wt).heap.size = z1 at *
                refine with_sat hsA ?_
                clear hsA
                intro w1 hsA
                repeat (first | (refine can_pu1 rfl rfl rfl rfl rfl rfl (fun K hK => ?_); go_big_quiet_op; refine hK _ ?_; clear hK K) | (refine can_st1 rfl rfl rfl rfl rfl rfl (fun K hK => ?_); go_big_quiet_op; refine hK _ ?_; clear hK K) | (refine can_early1 rfl rfl rfl rfl rfl (fun K hK => ?_); go_big_quiet_op; refine hK _ ?_; clear hK K) | (refine can_skip rfl rfl rfl ?_; simp only [Act.put, List.setIfInBounds_toArray, List.set_cons_zero, List.set_cons_succ]))
                refine can_two ?_ ?_
                · skip
                  refine can_actS rfl rfl rfl rfl (fun K hK => ?_)
                  refine wp_append_g Tryz.underlying115 infoRs rfl (by decide) (by decide) rfl rfl rfl (none_rowT _ 4 z1) hsA (HV1.out _ (Sat.use (M := LL) hsA (by intro x; simp only [cnt_append, cnt_cons, cnt_nil]; omega))) HV1L.out HV1O.out (by omega) (fun v2 w6 R2 hr2 hsC => ?_)
                  simp only [Act.put, List.setIfInBounds_toArray, List.set_cons_zero, List.set_cons_succ]
                  apply hK
                  refine ⟨Held.mk (Sat.use hsC (by intro x; simp only [cnt_append, cnt_cons, cnt_nil]; omega)), ?_⟩
                  clear hK
                  rw [Nat.zero_add, List.nil_append] at hr2
                  repeat (first | (refine can_pu1 rfl rfl rfl rfl rfl rfl (fun K hK => ?_); go_big_quiet_op; refine hK _ ?_; clear hK K) | (refine can_st1 rfl rfl rfl rfl rfl rfl (fun K hK => ?_); go_big_quiet_op; refine hK _ ?_; clear hK K) | (refine can_early1 rfl rfl rfl rfl rfl (fun K hK => ?_); go_big_quiet_op; refine hK _ ?_; clear hK K) | (refine can_skip rfl rfl rfl ?_; simp only [Act.put, List.setIfInBounds_toArray, List.set_cons_zero, List.set_cons_succ]))
                  refine can_actF rfl rfl rfl rfl (fun K hK => ?_)
                  go_wp2_with fail
                  have hsB := Sat.newCells hsC #[.int .i64 sn, .int .i64 ss, .int .i64 sg, .slice va sd.length vc] 93
                  generalize (w6).heap.size = z11 at *
                  refine with_sat hsB ?_
                  clear hsB
                  intro w11 hsB
                  repeat (first | (refine can_pu1 rfl rfl rfl rfl rfl rfl (fun K hK => ?_); go_big_quiet_op; refine hK _ ?_; clear hK K) | (refine can_st1 rfl rfl rfl rfl rfl rfl (fun K hK => ?_); go_big_quiet_op; refine hK _ ?_; clear hK K) | (refine can_early1 rfl rfl rfl rfl rfl (fun K hK => ?_); go_big_quiet_op; refine hK _ ?_; clear hK K) | (refine can_skip rfl rfl rfl ?_; simp only [Act.put, List.setIfInBounds_toArray, List.set_cons_zero, List.set_cons_succ]))
                  have hsD := Sat.use (M := R2 ++ (cellsA z11 #[.int .i64 sn, .int .i64 ss, .int .i64 sg, .slice va sd.length vc] 93 :: LL)) hsB (by intro x; simp only [cnt_append, cnt_cons, cnt_nil]; omega)
                  have hsrc := reads_cells hsD (List.mem_append_right _ m0) 1 1 [.int .i64 sn, .int .i64 ss, .int .i64 sg, .slice va sd.length vc] rfl
                  refine can_actF rfl rfl rfl rfl (fun K hK => ?_)
                  refine wp_append_g Tryz.underlying115 infoRs rfl (by decide) (by decide) rfl rfl rfl hr2 hsD hsrc rfl (by intro u hu; simp at hu; rcases hu with rfl | rfl | rfl | rfl <;> rfl) (by omega) (fun v3 w12 R3 hr3 hsE => ?_)
                  simp only [Act.put, List.setIfInBounds_toArray, List.set_cons_zero, List.set_cons_succ]
                  refine hK _ _ ?_
                  clear hK
                  repeat (first | (refine can_pu1 rfl rfl rfl rfl rfl rfl (fun K hK => ?_); go_big_quiet_op; refine hK _ ?_; clear hK K) | (refine can_st1 rfl rfl rfl rfl rfl rfl (fun K hK => ?_); go_big_quiet_op; refine hK _ ?_; clear hK K) | (refine can_early1 rfl rfl rfl rfl rfl (fun K hK => ?_); go_big_quiet_op; refine hK _ ?_; clear hK K) | (refine can_skip rfl rfl rfl ?_; simp only [Act.put, List.setIfInBounds_toArray, List.set_cons_zero, List.set_cons_succ]))
                  refine can_actF rfl rfl rfl rfl (fun K hK => ?_)
                  refine wp_append_g Tryz.underlying115 infoRs rfl (by decide) (by decide) rfl rfl rfl hr3 hsE (HV2.out _ (Sat.use (M := LL) hsE (by intro x; simp only [cnt_append, cnt_cons, cnt_nil]; omega))) HV2L.out HV2O.out (by omega) (fun v4 w16 R4 hr4 hsG => ?_)
                  simp only [Act.put, List.setIfInBounds_toArray, List.set_cons_zero, List.set_cons_succ]
                  refine hK _ _ ?_
                  clear hK
                  repeat (first | (refine can_pu1 rfl rfl rfl rfl rfl rfl (fun K hK => ?_); go_big_quiet_op; refine hK _ ?_; clear hK K) | (refine can_st1 rfl rfl rfl rfl rfl rfl (fun K hK => ?_); go_big_quiet_op; refine hK _ ?_; clear hK K) | (refine can_early1 rfl rfl rfl rfl rfl (fun K hK => ?_); go_big_quiet_op; refine hK _ ?_; clear hK K) | (refine can_skip rfl rfl rfl ?_; simp only [Act.put, List.setIfInBounds_toArray, List.set_cons_zero, List.set_cons_succ]))
                  refine can_end1 ?_; (try simp only [Exit.then])
                  go_wp2_with fail
                  have hsH : Sat W w16 (R4 ++ (cellsA b (rringC bp xs nx) 96 :: (B ++ L))) := by rw [HLL.out] at hsG; exact Sat.use hsG (by intro x; simp only [cnt_append, cnt_cons, cnt_nil]; omega)
                  refine ⟨⟨k + 1, _, R4, by simp, by omega, HP2.out, HW2.out, fun h => absurd (congrArg List.length h) (by simp), HR2.out _ _ hr4, hsH⟩, ?_⟩
                  simp [intOf]
                  omega
                · skip
                  refine can_actF rfl rfl rfl rfl (fun K hK => ?_)
                  go_wp2_with fail
                  have hsB := Sat.newCells hsA #[.int .i64 sn, .int .i64 ss, .int .i64 sg, .slice va sd.length vc] 93
                  generalize (w1).heap.size = z11 at *
                  refine with_sat hsB ?_
                  clear hsB
                  intro w11 hsB
                  repeat (first | (refine can_pu1 rfl rfl rfl rfl rfl rfl (fun K hK => ?_); go_big_quiet_op; refine hK _ ?_; clear hK K) | (refine can_st1 rfl rfl rfl rfl rfl rfl (fun K hK => ?_); go_big_quiet_op; refine hK _ ?_; clear hK K) | (refine can_early1 rfl rfl rfl rfl rfl (fun K hK => ?_); go_big_quiet_op; refine hK _ ?_; clear hK K) | (refine can_skip rfl rfl rfl ?_; simp only [Act.put, List.setIfInBounds_toArray, List.set_cons_zero, List.set_cons_succ]))
                  have hsB2 := Sat.use (M := [(z1, rowP 93 0 (0 * 4) [])] ++ (cellsA z11 #[.int .i64 sn, .int .i64 ss, .int .i64 sg, .slice va sd.length vc] 93 :: LL)) hsB (by intro x; simp only [cnt_append, cnt_cons, cnt_nil]; omega)
                  refine can_actS rfl rfl rfl rfl (fun K hK => ?_)
                  refine wp_append_g Tryz.underlying115 infoRs rfl (by decide) (by decide) rfl rfl rfl (none_rowT _ 4 z1) hsB2 (HV1.out _ (Sat.use (M := LL) hsB2 (by intro x; simp only [cnt_append, cnt_cons, cnt_nil]; omega))) HV1L.out HV1O.out (by omega) (fun v2 w6 R2 hr2 hsC => ?_)
                  simp only [Act.put, List.setIfInBounds_toArray, List.set_cons_zero, List.set_cons_succ]
                  apply hK
                  refine ⟨Held.mk (Sat.use hsC (by intro x; simp only [cnt_append, cnt_cons, cnt_nil]; omega)), ?_⟩
                  clear hK
                  rw [Nat.zero_add, List.nil_append] at hr2
                  repeat (first | (refine can_pu1 rfl rfl rfl rfl rfl rfl (fun K hK => ?_); go_big_quiet_op; refine hK _ ?_; clear hK K) | (refine can_st1 rfl rfl rfl rfl rfl rfl (fun K hK => ?_); go_big_quiet_op; refine hK _ ?_; clear hK K) | (refine can_early1 rfl rfl rfl rfl rfl (fun K hK => ?_); go_big_quiet_op; refine hK _ ?_; clear hK K) | (refine can_skip rfl rfl rfl ?_; simp only [Act.put, List.setIfInBounds_toArray, List.set_cons_zero, List.set_cons_succ]))
                  have hsD := Sat.use (M := R2 ++ (cellsA z11 #[.int .i64 sn, .int .i64 ss, .int .i64 sg, .slice va sd.length vc] 93 :: LL)) hsC (by intro x; simp only [cnt_append, cnt_cons, cnt_nil]; omega)
                  have hsrc := reads_cells hsD (List.mem_append_right _ m0) 1 1 [.int .i64 sn, .int .i64 ss, .int .i64 sg, .slice va sd.length vc] rfl
                  refine can_actF rfl rfl rfl rfl (fun K hK => ?_)
                  refine wp_append_g Tryz.underlying115 infoRs rfl (by decide) (by decide) rfl rfl rfl hr2 hsD hsrc rfl (by intro u hu; simp at hu; rcases hu with rfl | rfl | rfl | rfl <;> rfl) (by omega) (fun v3 w12 R3 hr3 hsE => ?_)
                  simp only [Act.put, List.setIfInBounds_toArray, List.set_cons_zero, List.set_cons_succ]
                  refine hK _ _ ?_
                  clear hK
                  repeat (first | (refine can_pu1 rfl rfl rfl rfl rfl rfl (fun K hK => ?_); go_big_quiet_op; refine hK _ ?_; clear hK K) | (refine can_st1 rfl rfl rfl rfl rfl rfl (fun K hK => ?_); go_big_quiet_op; refine hK _ ?_; clear hK K) | (refine can_early1 rfl rfl rfl rfl rfl (fun K hK => ?_); go_big_quiet_op; refine hK _ ?_; clear hK K) | (refine can_skip rfl rfl rfl ?_; simp only [Act.put, List.setIfInBounds_toArray, List.set_cons_zero, List.set_cons_succ]))
                  refine can_actF rfl rfl rfl rfl (fun K hK => ?_)
                  refine wp_append_g Tryz.underlying115 infoRs rfl (by decide) (by decide) rfl rfl rfl hr3 hsE (HV2.out _ (Sat.use (M := LL) hsE (by intro x; simp only [cnt_append, cnt_cons, cnt_nil]; omega))) HV2L.out HV2O.out (by omega) (fun v4 w16 R4 hr4 hsG => ?_)
                  simp only [Act.put, List.setIfInBounds_toArray, List.set_cons_zero, List.set_cons_succ]
                  refine hK _ _ ?_
                  clear hK
                  repeat (first | (refine can_pu1 rfl rfl rfl rfl rfl rfl (fun K hK => ?_); go_big_quiet_op; refine hK _ ?_; clear hK K) | (refine can_st1 rfl rfl rfl rfl rfl rfl (fun K hK => ?_); go_big_quiet_op; refine hK _ ?_; clear hK K) | (refine can_early1 rfl rfl rfl rfl rfl (fun K hK => ?_); go_big_quiet_op; refine hK _ ?_; clear hK K) | (refine can_skip rfl rfl rfl ?_; simp only [Act.put, List.setIfInBounds_toArray, List.set_cons_zero, List.set_cons_succ]))
                  refine can_end1 ?_; (try simp only [Exit.then])
                  go_wp2_with fail
                  have hsH : Sat W w16 (R4 ++ (cellsA b (rringC bp xs nx) 96 :: (B ++ L))) := by rw [HLL.out] at hsG; exact Sat.use hsG (by intro x; simp only [cnt_append, cnt_cons, cnt_nil]; omega)
                  refine ⟨⟨k + 1, _, R4, by simp, by omega, HP2.out, HW2.out, fun h => absurd (congrArg List.length h) (by simp), HR2.out _ _ hr4, hsH⟩, ?_⟩
                  simp [intOf]
                  omega
              · skip
                refine can_actF rfl rfl rfl rfl (fun K hK => ?_)
                go_wp2_with fail
                have hsB := Sat.newCells hsT #[.int .i64 sn, .int .i64 ss, .int .i64 sg, .slice va sd.length vc] 93
                generalize (wt).heap.size = z11 at *
                refine with_sat hsB ?_
                clear hsB
                intro w11 hsB
                repeat (first | (refine can_pu1 rfl rfl rfl rfl rfl rfl (fun K hK => ?_); go_big_quiet_op; refine hK _ ?_; clear hK K) | (refine can_st1 rfl rfl rfl rfl rfl rfl (fun K hK => ?_); go_big_quiet_op; refine hK _ ?_; clear hK K) | (refine can_early1 rfl rfl rfl rfl rfl (fun K hK => ?_); go_big_quiet_op; refine hK _ ?_; clear hK K) | (refine can_skip rfl rfl rfl ?_; simp only [Act.put, List.setIfInBounds_toArray, List.set_cons_zero, List.set_cons_succ]))
                refine can_actS rfl rfl rfl rfl (fun K hK => ?_)
                go_wp2_with fail
                have hsA := none_satT hsB 93 4
                refine ⟨Held.mk hsA.tail.tail, ?_⟩
                generalize (w11).heap.size = z1 at *
                refine with_sat hsA ?_
                clear hsA
                intro w1 hsA
                repeat (first | (refine can_pu1 rfl rfl rfl rfl rfl rfl (fun K hK => ?_); go_big_quiet_op; refine hK _ ?_; clear hK K) | (refine can_st1 rfl rfl rfl rfl rfl rfl (fun K hK => ?_); go_big_quiet_op; refine hK _ ?_; clear hK K) | (refine can_early1 rfl rfl rfl rfl rfl (fun K hK => ?_); go_big_quiet_op; refine hK _ ?_; clear hK K) | (refine can_skip rfl rfl rfl ?_; simp only [Act.put, List.setIfInBounds_toArray, List.set_cons_zero, List.set_cons_succ]))
                refine can_actS rfl rfl rfl rfl (fun K hK => ?_)
                refine wp_append_g Tryz.underlying115 infoRs rfl (by decide) (by decide) rfl rfl rfl (none_rowT _ 4 z1) hsA (HV1.out _ (Sat.use (M := LL) hsA (by intro x; simp only [cnt_append, cnt_cons, cnt_nil]; omega))) HV1L.out HV1O.out (by omega) (fun v2 w6 R2 hr2 hsC => ?_)
                simp only [Act.put, List.setIfInBounds_toArray, List.set_cons_zero, List.set_cons_succ]
                apply hK
                refine ⟨Held.mk (Sat.use hsC (by intro x; simp only [cnt_append, cnt_cons, cnt_nil]; omega)), ?_⟩
                clear hK
                rw [Nat.zero_add, List.nil_append] at hr2
                repeat (first | (refine can_pu1 rfl rfl rfl rfl rfl rfl (fun K hK => ?_); go_big_quiet_op; refine hK _ ?_; clear hK K) | (refine can_st1 rfl rfl rfl rfl rfl rfl (fun K hK => ?_); go_big_quiet_op; refine hK _ ?_; clear hK K) | (refine can_early1 rfl rfl rfl rfl rfl (fun K hK => ?_); go_big_quiet_op; refine hK _ ?_; clear hK K) | (refine can_skip rfl rfl rfl ?_; simp only [Act.put, List.setIfInBounds_toArray, List.set_cons_zero, List.set_cons_succ]))
                have hsD := Sat.use (M := R2 ++ (cellsA z11 #[.int .i64 sn, .int .i64 ss, .int .i64 sg, .slice va sd.length vc] 93 :: LL)) hsC (by intro x; simp only [cnt_append, cnt_cons, cnt_nil]; omega)
                have hsrc := reads_cells hsD (List.mem_append_right _ m0) 1 1 [.int .i64 sn, .int .i64 ss, .int .i64 sg, .slice va sd.length vc] rfl
                refine can_actF rfl rfl rfl rfl (fun K hK => ?_)
                refine wp_append_g Tryz.underlying115 infoRs rfl (by decide) (by decide) rfl rfl rfl hr2 hsD hsrc rfl (by intro u hu; simp at hu; rcases hu with rfl | rfl | rfl | rfl <;> rfl) (by omega) (fun v3 w12 R3 hr3 hsE => ?_)
                simp only [Act.put, List.setIfInBounds_toArray, List.set_cons_zero, List.set_cons_succ]
                refine hK _ _ ?_
                clear hK
                repeat (first | (refine can_pu1 rfl rfl rfl rfl rfl rfl (fun K hK => ?_); go_big_quiet_op; refine hK _ ?_; clear hK K) | (refine can_st1 rfl rfl rfl rfl rfl rfl (fun K hK => ?_); go_big_quiet_op; refine hK _ ?_; clear hK K) | (refine can_early1 rfl rfl rfl rfl rfl (fun K hK => ?_); go_big_quiet_op; refine hK _ ?_; clear hK K) | (refine can_skip rfl rfl rfl ?_; simp only [Act.put, List.setIfInBounds_toArray, List.set_cons_zero, List.set_cons_succ]))
                refine can_actF rfl rfl rfl rfl (fun K hK => ?_)
                refine wp_append_g Tryz.underlying115 infoRs rfl (by decide) (by decide) rfl rfl rfl hr3 hsE (HV2.out _ (Sat.use (M := LL) hsE (by intro x; simp only [cnt_append, cnt_cons, cnt_nil]; omega))) HV2L.out HV2O.out (by omega) (fun v4 w16 R4 hr4 hsG => ?_)
                simp only [Act.put, List.setIfInBounds_toArray, List.set_cons_zero, List.set_cons_succ]
                refine hK _ _ ?_
                clear hK
                repeat (first | (refine can_pu1 rfl rfl rfl rfl rfl rfl (fun K hK => ?_); go_big_quiet_op; refine hK _ ?_; clear hK K) | (refine can_st1 rfl rfl rfl rfl rfl rfl (fun K hK => ?_); go_big_quiet_op; refine hK _ ?_; clear hK K) | (refine can_early1 rfl rfl rfl rfl rfl (fun K hK => ?_); go_big_quiet_op; refine hK _ ?_; clear hK K) | (refine can_skip rfl rfl rfl ?_; simp only [Act.put, List.setIfInBounds_toArray, List.set_cons_zero, List.set_cons_succ]))
                refine can_end1 ?_; (try simp only [Exit.then])
                go_wp2_with fail
                have hsH : Sat W w16 (R4 ++ (cellsA b (rringC bp xs nx) 96 :: (B ++ L))) := by rw [HLL.out] at hsG; exact Sat.use hsG (by intro x; simp only [cnt_append, cnt_cons, cnt_nil]; omega)
                refine ⟨⟨k + 1, _, R4, by simp, by omega, HP2.out, HW2.out, fun h => absurd (congrArg List.length h) (by simp), HR2.out _ _ hr4, hsH⟩, ?_⟩
                simp [intOf]
                omega
            · have HV1 := Lib.hid (show ∀ y, Sat W y (R ++ (cellsA b (rringC bp xs nx) 96 :: (B ++ L))) → Reads y (.slice (some ⟨gl, ol, none⟩) (m + 1) cl) (m + 1) (rslotsC (ls.take (m + 1))) from fun y hy => reads_pre hr' hy (m + 1) hmN cl)
              have HV2 := Lib.hid (show ∀ y, Sat W y (R ++ (cellsA b (rringC bp xs nx) 96 :: (B ++ L))) → Reads y (.slice (some ⟨gl, ol + (m + 1) * 4, none⟩) (N - (m + 1)) (cl - (m + 1))) (N - (m + 1)) (rslotsC (ls.drop (m + 1))) from fun y hy => reads_post hr' hy (m + 1) hmN _ (by rw [HN.out]) _)
              clear hr' hmN
              obtain ⟨LL, hLL⟩ : ∃ LL, LL = R ++ (cellsA b (rringC bp xs nx) 96 :: (B ++ L)) := ⟨_, rfl⟩
              rw [← hLL] at hs hrg HV1 HV2
              have HLL := Lib.hid hLL
              have c0 : ∀ y : Of W LL, y.v.cell? ⟨b, 1 + k * 4, none⟩ = some (.int .i64 sn) := fun y => by rw [(hrg y.v y.s).cell m0]; exact rring_get HX.out 0 _ rfl
              have c1 : ∀ y : Of W LL, y.v.cell? ⟨b, 1 + k * 4 + 1, none⟩ = some (.int .i64 ss) := fun y => by rw [(hrg y.v y.s).cell m0]; exact rring_get HX.out 1 _ rfl
              have c2 : ∀ y : Of W LL, y.v.cell? ⟨b, 1 + k * 4 + 2, none⟩ = some (.int .i64 sg) := fun y => by rw [(hrg y.v y.s).cell m0]; exact rring_get HX.out 2 _ rfl
              have c3 : ∀ y : Of W LL, y.v.cell? ⟨b, 1 + k * 4 + 3, none⟩ = some (.slice va sd.length vc) := fun y => by rw [(hrg y.v y.s).cell m0]; exact rring_get HX.out 3 _ rfl
              have HP2 := Lib.hid (show (ls.take (m + 1) ++ (⟨true, sn, ⟨ss, sg, sd⟩⟩, .slice va sd.length vc) :: ls.drop (m + 1)).Perm (liveOf (xs.take (k + 1))) from by rw [HLV.out]; exact ins_perm _ _ HPM.out)
              have HW2 := Lib.hid (show (ls.take (m + 1) ++ (⟨true, sn, ⟨ss, sg, sd⟩⟩, .slice va sd.length vc) :: ls.drop (m + 1)).Pairwise numLe from ins_pw HPW.out HPRE.out (fun y hy => Int.le_of_lt (HDR.out y hy)))
              have HR2 := Lib.hid (row_ins ls (m + 1) (N - (m + 1)) sn ss sg sd (.slice va sd.length vc) (by have := HJN.out.1; have := HN.out; omega) (by have := HJN.out.2; have := HN.out; omega))
              have HV1L := Lib.hid (show (rslotsC (ls.take (m + 1))).length = (m + 1) * 4 from by rw [rslotsC_length, List.length_take]; have := HJN.out.1; have := HN.out; omega)
              have HV2L := Lib.hid (show (rslotsC (ls.drop (m + 1))).length = (N - (m + 1)) * 4 from by rw [rslotsC_length, List.length_drop]; have := HJN.out.2; have := HN.out; omega)
              have HV1O := Lib.hid (show ∀ u ∈ rslotsC (ls.take (m + 1)), u.oneCell' = true from fun u hu => rslotsC_one _ u hu fun x hx => by obtain ⟨a, c, h⟩ := (HRI.out x (HLX.out x (List.mem_of_mem_take hx))).shape; rw [h]; rfl)
              have HV2O := Lib.hid (show ∀ u ∈ rslotsC (ls.drop (m + 1)), u.oneCell' = true from fun u hu => rslotsC_one _ u hu fun x hx => by obtain ⟨a, c, h⟩ := (HRI.out x (HLX.out x (List.mem_of_mem_drop hx))).shape; rw [h]; rfl)
              have hbn : (m + 1) + (N - (m + 1)) ≤ 16 := by have := HJN.out; have := HLS.out; omega
              clear hrg hr hLL
              have hne : Nonempty (Of W LL) := ⟨⟨_, hs⟩⟩
              have hsT : Sat W _ LL := hs.drew
              refine wp_region_plan [0, 4, 11, 12, 16] [1, 2, 3, 5, 6, 7, 8, 9, 10, 13, 14, 15] [1, 2, 3, 5, 6, 7, 8, 9, 13, 14, 15] [0, 4] [1, 2, 3, 5, 6, 7, 8, 9, 10, 13, 14, 15] (.two [0] (.two [4, 11, 12, 16, 17] .nil [11, 4, 12, 16, 17] .nil) [11, 0, 4, 12, 16, 17] .nil) (Held W LL) (by kernel_rfl) (by kernel_rfl) ?_ ?_
              · exact Held.mk hsT
              repeat (first | (refine can_pu1 rfl rfl rfl rfl rfl rfl (fun K hK => ?_); go_big_quiet_op; refine hK _ ?_; clear hK K) | (refine can_st1 rfl rfl rfl rfl rfl rfl (fun K hK => ?_); go_big_quiet_op; refine hK _ ?_; clear hK K) | (refine can_early1 rfl rfl rfl rfl rfl (fun K hK => ?_); go_big_quiet_op; refine hK _ ?_; clear hK K) | (refine can_skip rfl rfl rfl ?_; simp only [Act.put, List.setIfInBounds_toArray, List.set_cons_zero, List.set_cons_succ]))
              clear c0 c1 c2 c3 hne hs
              refine with_sat hsT ?_
              clear hsT
              intro wt hsT
              refine can_two ?_ ?_
              · skip
                refine can_actS rfl rfl rfl rfl (fun K hK => ?_)
                go_wp2_with fail
                have hsA := none_satT hsT 93 4
                refine ⟨Held.mk hsA.tail, ?_⟩
                generalize (wt).heap.size = z1 at *
                refine with_sat hsA ?_
                clear hsA
                intro w1 hsA
                repeat (first | (refine can_pu1 rfl rfl rfl rfl rfl rfl (fun K hK => ?_); go_big_quiet_op; refine hK _ ?_; clear hK K) | (refine can_st1 rfl rfl rfl rfl rfl rfl (fun K hK => ?_); go_big_quiet_op; refine hK _ ?_; clear hK K) | (refine can_early1 rfl rfl rfl rfl rfl (fun K hK => ?_); go_big_quiet_op; refine hK _ ?_; clear hK K) | (refine can_skip rfl rfl rfl ?_; simp only [Act.put, List.setIfInBounds_toArray, List.set_cons_zero, List.set_cons_succ]))
                refine can_two ?_ ?_
                · skip
                  refine can_actS rfl rfl rfl rfl (fun K hK => ?_)
                  refine wp_append_g Tryz.underlying115 infoRs rfl (by decide) (by decide) rfl rfl rfl (none_rowT _ 4 z1) hsA (HV1.out _ (Sat.use (M := LL) hsA (by intro x; simp only [cnt_append, cnt_cons, cnt_nil]; omega))) HV1L.out HV1O.out (by omega) (fun v2 w6 R2 hr2 hsC => ?_)
                  simp only [Act.put, List.setIfInBounds_toArray, List.set_cons_zero, List.set_cons_succ]
                  apply hK
                  refine ⟨Held.mk (Sat.use hsC (by intro x; simp only [cnt_append, cnt_cons, cnt_nil]; omega)), ?_⟩
                  clear hK
                  rw [Nat.zero_add, List.nil_append] at hr2
                  repeat (first | (refine can_pu1 rfl rfl rfl rfl rfl rfl (fun K hK => ?_); go_big_quiet_op; refine hK _ ?_; clear hK K) | (refine can_st1 rfl rfl rfl rfl rfl rfl (fun K hK => ?_); go_big_quiet_op; refine hK _ ?_; clear hK K) | (refine can_early1 rfl rfl rfl rfl rfl (fun K hK => ?_); go_big_quiet_op; refine hK _ ?_; clear hK K) | (refine can_skip rfl rfl rfl ?_; simp only [Act.put, List.setIfInBounds_toArray, List.set_cons_zero, List.set_cons_succ]))
                  refine can_actF rfl rfl rfl rfl (fun K hK => ?_)
                  go_wp2_with fail
                  have hsB := Sat.newCells hsC #[.int .i64 sn, .int .i64 ss, .int .i64 sg, .slice va sd.length vc] 93
                  generalize (w6).heap.size = z11 at *
                  refine with_sat hsB ?_
                  clear hsB
                  intro w11 hsB
                  repeat (first | (refine can_pu1 rfl rfl rfl rfl rfl rfl (fun K hK => ?_); go_big_quiet_op; refine hK _ ?_; clear hK K) | (refine can_st1 rfl rfl rfl rfl rfl rfl (fun K hK => ?_); go_big_quiet_op; refine hK _ ?_; clear hK K) | (refine can_early1 rfl rfl rfl rfl rfl (fun K hK => ?_); go_big_quiet_op; refine hK _ ?_; clear hK K) | (refine can_skip rfl rfl rfl ?_; simp only [Act.put, List.setIfInBounds_toArray, List.set_cons_zero, List.set_cons_succ]))
                  have hsD := Sat.use (M := R2 ++ (cellsA z11 #[.int .i64 sn, .int .i64 ss, .int .i64 sg, .slice va sd.length vc] 93 :: LL)) hsB (by intro x; simp only [cnt_append, cnt_cons, cnt_nil]; omega)
                  have hsrc := reads_cells hsD (List.mem_append_right _ m0) 1 1 [.int .i64 sn, .int .i64 ss, .int .i64 sg, .slice va sd.length vc] rfl
                  refine can_actF rfl rfl rfl rfl (fun K hK => ?_)
                  refine wp_append_g Tryz.underlying115 infoRs rfl (by decide) (by decide) rfl rfl rfl hr2 hsD hsrc rfl (by intro u hu; simp at hu; rcases hu with rfl | rfl | rfl | rfl <;> rfl) (by omega) (fun v3 w12 R3 hr3 hsE => ?_)
                  simp only [Act.put, List.setIfInBounds_toArray, List.set_cons_zero, List.set_cons_succ]
                  refine hK _ _ ?_
                  clear hK
                  repeat (first | (refine can_pu1 rfl rfl rfl rfl rfl rfl (fun K hK => ?_); go_big_quiet_op; refine hK _ ?_; clear hK K) | (refine can_st1 rfl rfl rfl rfl rfl rfl (fun K hK => ?_); go_big_quiet_op; refine hK _ ?_; clear hK K) | (refine can_early1 rfl rfl rfl rfl rfl (fun K hK => ?_); go_big_quiet_op; refine hK _ ?_; clear hK K) | (refine can_skip rfl rfl rfl ?_; simp only [Act.put, List.setIfInBounds_toArray, List.set_cons_zero, List.set_cons_succ]))
                  refine can_actF rfl rfl rfl rfl (fun K hK => ?_)
                  refine wp_append_g Tryz.underlying115 infoRs rfl (by decide) (by decide) rfl rfl rfl hr3 hsE (HV2.out _ (Sat.use (M := LL) hsE (by intro x; simp only [cnt_append, cnt_cons, cnt_nil]; omega))) HV2L.out HV2O.out (by omega) (fun v4 w16 R4 hr4 hsG => ?_)
                  simp only [Act.put, List.setIfInBounds_toArray, List.set_cons_zero, List.set_cons_succ]
                  refine hK _ _ ?_
                  clear hK
                  repeat (first | (refine can_pu1 rfl rfl rfl rfl rfl rfl (fun K hK => ?_); go_big_quiet_op; refine hK _ ?_; clear hK K) | (refine can_st1 rfl rfl rfl rfl rfl rfl (fun K hK => ?_); go_big_quiet_op; refine hK _ ?_; clear hK K) | (refine can_early1 rfl rfl rfl rfl rfl (fun K hK => ?_); go_big_quiet_op; refine hK _ ?_; clear hK K) | (refine can_skip rfl rfl rfl ?_; simp only [Act.put, List.setIfInBounds_toArray, List.set_cons_zero, List.set_cons_succ]))
                  refine can_end1 ?_; (try simp only [Exit.then])
                  go_wp2_with fail
                  have hsH : Sat W w16 (R4 ++ (cellsA b (rringC bp xs nx) 96 :: (B ++ L))) := by rw [HLL.out] at hsG; exact Sat.use hsG (by intro x; simp only [cnt_append, cnt_cons, cnt_nil]; omega)
                  refine ⟨⟨k + 1, _, R4, by simp, by omega, HP2.out, HW2.out, fun h => absurd (congrArg List.length h) (by simp), HR2.out _ _ hr4, hsH⟩, ?_⟩
                  simp [intOf]
                  omega
                · skip
                  refine can_actF rfl rfl rfl rfl (fun K hK => ?_)
                  go_wp2_with fail
                  have hsB := Sat.newCells hsA #[.int .i64 sn, .int .i64 ss, .int .i64 sg, .slice va sd.length vc] 93
                  generalize (w1).heap.size = z11 at *
                  refine with_sat hsB ?_
                  clear hsB
                  intro w11 hsB
                  repeat (first | (refine can_pu1 rfl rfl rfl rfl rfl rfl (fun K hK => ?_); go_big_quiet_op; refine hK _ ?_; clear hK K) | (refine can_st1 rfl rfl rfl rfl rfl rfl (fun K hK => ?_); go_big_quiet_op; refine hK _ ?_; clear hK K) | (refine can_early1 rfl rfl rfl rfl rfl (fun K hK => ?_); go_big_quiet_op; refine hK _ ?_; clear hK K) | (refine can_skip rfl rfl rfl ?_; simp only [Act.put, List.setIfInBounds_toArray, List.set_cons_zero, List.set_cons_succ]))
                  have hsB2 := Sat.use (M := [(z1, rowP 93 0 (0 * 4) [])] ++ (cellsA z11 #[.int .i64 sn, .int .i64 ss, .int .i64 sg, .slice va sd.length vc] 93 :: LL)) hsB (by intro x; simp only [cnt_append, cnt_cons, cnt_nil]; omega)
                  refine can_actS rfl rfl rfl rfl (fun K hK => ?_)
                  refine wp_append_g Tryz.underlying115 infoRs rfl (by decide) (by decide) rfl rfl rfl (none_rowT _ 4 z1) hsB2 (HV1.out _ (Sat.use (M := LL) hsB2 (by intro x; simp only [cnt_append, cnt_cons, cnt_nil]; omega))) HV1L.out HV1O.out (by omega) (fun v2 w6 R2 hr2 hsC => ?_)
                  simp only [Act.put, List.setIfInBounds_toArray, List.set_cons_zero, List.set_cons_succ]
                  apply hK
                  refine ⟨Held.mk (Sat.use hsC (by intro x; simp only [cnt_append, cnt_cons, cnt_nil]; omega)), ?_⟩
                  clear hK
                  rw [Nat.zero_add, List.nil_append] at hr2
                  repeat (first | (refine can_pu1 rfl rfl rfl rfl rfl rfl (fun K hK => ?_); go_big_quiet_op; refine hK _ ?_; clear hK K) | (refine can_st1 rfl rfl rfl rfl rfl rfl (fun K hK => ?_); go_big_quiet_op; refine hK _ ?_; clear hK K) | (refine can_early1 rfl rfl rfl rfl rfl (fun K hK => ?_); go_big_quiet_op; refine hK _ ?_; clear hK K) | (refine can_skip rfl rfl rfl ?_; simp only [Act.put, List.setIfInBounds_toArray, List.set_cons_zero, List.set_cons_succ]))
                  have hsD := Sat.use (M := R2 ++ (cellsA z11 #[.int .i64 sn, .int .i64 ss, .int .i64 sg, .slice va sd.length vc] 93 :: LL)) hsC (by intro x; simp only [cnt_append, cnt_cons, cnt_nil]; omega)
                  have hsrc := reads_cells hsD (List.mem_append_right _ m0) 1 1 [.int .i64 sn, .int .i64 ss, .int .i64 sg, .slice va sd.length vc] rfl
                  refine can_actF rfl rfl rfl rfl (fun K hK => ?_)
                  refine wp_append_g Tryz.underlying115 infoRs rfl (by decide) (by decide) rfl rfl rfl hr2 hsD hsrc rfl (by intro u hu; simp at hu; rcases hu with rfl | rfl | rfl | rfl <;> rfl) (by omega) (fun v3 w12 R3 hr3 hsE => ?_)
                  simp only [Act.put, List.setIfInBounds_toArray, List.set_cons_zero, List.set_cons_succ]
                  refine hK _ _ ?_
                  clear hK
                  repeat (first | (refine can_pu1 rfl rfl rfl rfl rfl rfl (fun K hK => ?_); go_big_quiet_op; refine hK _ ?_; clear hK K) | (refine can_st1 rfl rfl rfl rfl rfl rfl (fun K hK => ?_); go_big_quiet_op; refine hK _ ?_; clear hK K) | (refine can_early1 rfl rfl rfl rfl rfl (fun K hK => ?_); go_big_quiet_op; refine hK _ ?_; clear hK K) | (refine can_skip rfl rfl rfl ?_; simp only [Act.put, List.setIfInBounds_toArray, List.set_cons_zero, List.set_cons_succ]))
                  refine can_actF rfl rfl rfl rfl (fun K hK => ?_)
                  refine wp_append_g Tryz.underlying115 infoRs rfl (by decide) (by decide) rfl rfl rfl hr3 hsE (HV2.out _ (Sat.use (M := LL) hsE (by intro x; simp only [cnt_append, cnt_cons, cnt_nil]; omega))) HV2L.out HV2O.out (by omega) (fun v4 w16 R4 hr4 hsG => ?_)
                  simp only [Act.put, List.setIfInBounds_toArray, List.set_cons_zero, List.set_cons_succ]
                  refine hK _ _ ?_
                  clear hK
                  repeat (first | (refine can_pu1 rfl rfl rfl rfl rfl rfl (fun K hK => ?_); go_big_quiet_op; refine hK _ ?_; clear hK K) | (refine can_st1 rfl rfl rfl rfl rfl rfl (fun K hK => ?_); go_big_quiet_op; refine hK _ ?_; clear hK K) | (refine can_early1 rfl rfl rfl rfl rfl (fun K hK => ?_); go_big_quiet_op; refine hK _ ?_; clear hK K) | (refine can_skip rfl rfl rfl ?_; simp only [Act.put, List.setIfInBounds_toArray, List.set_cons_zero, List.set_cons_succ]))
                  refine can_end1 ?_; (try simp only [Exit.then])
                  go_wp2_with fail
                  have hsH : Sat W w16 (R4 ++ (cellsA b (rringC bp xs nx) 96 :: (B ++ L))) := by rw [HLL.out] at hsG; exact Sat.use hsG (by intro x; simp only [cnt_append, cnt_cons, cnt_nil]; omega)
                  refine ⟨⟨k + 1, _, R4, by simp, by omega, HP2.out, HW2.out, fun h => absurd (congrArg List.length h) (by simp), HR2.out _ _ hr4, hsH⟩, ?_⟩
                  simp [intOf]
                  omega
              · skip
                refine can_actF rfl rfl rfl rfl (fun K hK => ?_)
                go_wp2_with fail
                have hsB := Sat.newCells hsT #[.int .i64 sn, .int .i64 ss, .int .i64 sg, .slice va sd.length vc] 93
                generalize (wt).heap.size = z11 at *
                refine with_sat hsB ?_
                clear hsB
                intro w11 hsB
                repeat (first | (refine can_pu1 rfl rfl rfl rfl rfl rfl (fun K hK => ?_); go_big_quiet_op; refine hK _ ?_; clear hK K) | (refine can_st1 rfl rfl rfl rfl rfl rfl (fun K hK => ?_); go_big_quiet_op; refine hK _ ?_; clear hK K) | (refine can_early1 rfl rfl rfl rfl rfl (fun K hK => ?_); go_big_quiet_op; refine hK _ ?_; clear hK K) | (refine can_skip rfl rfl rfl ?_; simp only [Act.put, List.setIfInBounds_toArray, List.set_cons_zero, List.set_cons_succ]))
                refine can_actS rfl rfl rfl rfl (fun K hK => ?_)
                go_wp2_with fail
                have hsA := none_satT hsB 93 4
                refine ⟨Held.mk hsA.tail.tail, ?_⟩
                generalize (w11).heap.size = z1 at *
                refine with_sat hsA ?_
                clear hsA
                intro w1 hsA
                repeat (first | (refine can_pu1 rfl rfl rfl rfl rfl rfl (fun K hK => ?_); go_big_quiet_op; refine hK _ ?_; clear hK K) | (refine can_st1 rfl rfl rfl rfl rfl rfl (fun K hK => ?_); go_big_quiet_op; refine hK _ ?_; clear hK K) | (refine can_early1 rfl rfl rfl rfl rfl (fun K hK => ?_); go_big_quiet_op; refine hK _ ?_; clear hK K) | (refine can_skip rfl rfl rfl ?_; simp only [Act.put, List.setIfInBounds_toArray, List.set_cons_zero, List.set_cons_succ]))
                refine can_actS rfl rfl rfl rfl (fun K hK => ?_)
                refine wp_append_g Tryz.underlying115 infoRs rfl (by decide) (by decide) rfl rfl rfl (none_rowT _ 4 z1) hsA (HV1.out _ (Sat.use (M := LL) hsA (by intro x; simp only [cnt_append, cnt_cons, cnt_nil]; omega))) HV1L.out HV1O.out (by omega) (fun v2 w6 R2 hr2 hsC => ?_)
                simp only [Act.put, List.setIfInBounds_toArray, List.set_cons_zero, List.set_cons_succ]
                apply hK
                refine ⟨Held.mk (Sat.use hsC (by intro x; simp only [cnt_append, cnt_cons, cnt_nil]; omega)), ?_⟩
                clear hK
                rw [Nat.zero_add, List.nil_append] at hr2
                repeat (first | (refine can_pu1 rfl rfl rfl rfl rfl rfl (fun K hK => ?_); go_big_quiet_op; refine hK _ ?_; clear hK K) | (refine can_st1 rfl rfl rfl rfl rfl rfl (fun K hK => ?_); go_big_quiet_op; refine hK _ ?_; clear hK K) | (refine can_early1 rfl rfl rfl rfl rfl (fun K hK => ?_); go_big_quiet_op; refine hK _ ?_; clear hK K) | (refine can_skip rfl rfl rfl ?_; simp only [Act.put, List.setIfInBounds_toArray, List.set_cons_zero, List.set_cons_succ]))
                have hsD := Sat.use (M := R2 ++ (cellsA z11 #[.int .i64 sn, .int .i64 ss, .int .i64 sg, .slice va sd.length vc] 93 :: LL)) hsC (by intro x; simp only [cnt_append, cnt_cons, cnt_nil]; omega)
                have hsrc := reads_cells hsD (List.mem_append_right _ m0) 1 1 [.int .i64 sn, .int .i64 ss, .int .i64 sg, .slice va sd.length vc] rfl
                refine can_actF rfl rfl rfl rfl (fun K hK => ?_)
                refine wp_append_g Tryz.underlying115 infoRs rfl (by decide) (by decide) rfl rfl rfl hr2 hsD hsrc rfl (by intro u hu; simp at hu; rcases hu with rfl | rfl | rfl | rfl <;> rfl) (by omega) (fun v3 w12 R3 hr3 hsE => ?_)
                simp only [Act.put, List.setIfInBounds_toArray, List.set_cons_zero, List.set_cons_succ]
                refine hK _ _ ?_
                clear hK
                repeat (first | (refine can_pu1 rfl rfl rfl rfl rfl rfl (fun K hK => ?_); go_big_quiet_op; refine hK _ ?_; clear hK K) | (refine can_st1 rfl rfl rfl rfl rfl rfl (fun K hK => ?_); go_big_quiet_op; refine hK _ ?_; clear hK K) | (refine can_early1 rfl rfl rfl rfl rfl (fun K hK => ?_); go_big_quiet_op; refine hK _ ?_; clear hK K) | (refine can_skip rfl rfl rfl ?_; simp only [Act.put, List.setIfInBounds_toArray, List.set_cons_zero, List.set_cons_succ]))
                refine can_actF rfl rfl rfl rfl (fun K hK => ?_)
                refine wp_append_g Tryz.underlying115 infoRs rfl (by decide) (by decide) rfl rfl rfl hr3 hsE (HV2.out _ (Sat.use (M := LL) hsE (by intro x; simp only [cnt_append, cnt_cons, cnt_nil]; omega))) HV2L.out HV2O.out (by omega) (fun v4 w16 R4 hr4 hsG => ?_)
                simp only [Act.put, List.setIfInBounds_toArray, List.set_cons_zero, List.set_cons_succ]
                refine hK _ _ ?_
                clear hK
                repeat (first | (refine can_pu1 rfl rfl rfl rfl rfl rfl (fun K hK => ?_); go_big_quiet_op; refine hK _ ?_; clear hK K) | (refine can_st1 rfl rfl rfl rfl rfl rfl (fun K hK => ?_); go_big_quiet_op; refine hK _ ?_; clear hK K) | (refine can_early1 rfl rfl rfl rfl rfl (fun K hK => ?_); go_big_quiet_op; refine hK _ ?_; clear hK K) | (refine can_skip rfl rfl rfl ?_; simp only [Act.put, List.setIfInBounds_toArray, List.set_cons_zero, List.set_cons_succ]))
                refine can_end1 ?_; (try simp only [Exit.then])
                go_wp2_with fail
                have hsH : Sat W w16 (R4 ++ (cellsA b (rringC bp xs nx) 96 :: (B ++ L))) := by rw [HLL.out] at hsG; exact Sat.use hsG (by intro x; simp only [cnt_append, cnt_cons, cnt_nil]; omega)
                refine ⟨⟨k + 1, _, R4, by simp, by omega, HP2.out, HW2.out, fun h => absurd (congrArg List.length h) (by simp), HR2.out _ _ hr4, hsH⟩, ?_⟩
                simp [intOf]
                omega
    · have e : k = 16 := by omega
      subst e
      rw [List.take_of_length_le (by rw [HXL.out]; omega)] at HPM
      clear HNIL k0
      go_wp2_with fail
      go_loopw [7, 6] (fun kv ov wr => ∃ (j : Nat) (ys : List (It × Value)) (R2 : List Atom), kv = .int .i64 j ∧ j ≤ N ∧ ys = (ls.take j).map (fun x => (x.1.i, x.2)) ∧ RowA 77 3 ov j (itsC ys) R2 ∧ Sat W wr (R2 ++ (R ++ (cellsA b (rringC bp xs nx) 96 :: (B ++ L))))) (fun kv _ _ => (N - (intOf kv).toNat))
      case atStart => exact ⟨0, [], [], rfl, Nat.zero_le _, rfl, RowA.nil _ _, hs⟩
      case round =>
        clear hs
        obtain ⟨j, ys, R2, rfl, hj, hyl, hr2, hs⟩ := hrel
        have HYL := Lib.hid hyl
        clear hyl
        have j0 : (0 : Int) ≤ j := by omega
        obtain ⟨ao, co, rfl⟩ := Ch.RowA.slice hr2
        by_cases hjn : j < N
        · have j1 : (j : Int) < N := by omega
          have j2 : (j : Int) < 1000000 := by have := HLS.out; omega
          have j3 : j < 16 := by have := HLS.out; omega
          obtain ⟨⟨⟨sl, sn, ⟨ss, sg, sd⟩⟩, v⟩, hx⟩ : ∃ x, ls[j]? = some x := ⟨_, List.getElem?_eq_getElem (by have := HN.out; omega)⟩
          obtain ⟨va, vc, hv⟩ := (HRI.out _ (HLX.out _ (List.mem_of_getElem? hx))).shape
          simp only at hv
          subst hv
          obtain ⟨gl, ol, kl, he, _, _, hR⟩ := Ch.RowA.some_of hr (by omega)
          obtain ⟨rfl, rfl⟩ : al = some ⟨gl, ol, none⟩ ∧ cl = kl := by cases he; exact ⟨rfl, rfl⟩
          have hsr := Sat.use (M := R ++ (R2 ++ (cellsA b (rringC bp xs nx) 96 :: (B ++ L)))) hs (by intro x; simp only [cnt_append, cnt_cons, cnt_nil]; omega)
          have hc := fun f u (hu : (rslC ⟨sl, sn, ⟨ss, sg, sd⟩⟩ (.slice va sd.length vc))[f]? = some u) => (hr.cells hsr rfl (j * 4 + f) (List.getElem?_eq_some_iff.1 (rslotsC_get hx f u hu)).1).1.trans (rslotsC_get hx f u hu)
          have c1 : wr.cell? ⟨gl, ol + j * 4 + 1, none⟩ = some (.int .i64 ss) := by rw [Nat.add_assoc]; exact hc 1 _ rfl
          have c2 : wr.cell? ⟨gl, ol + j * 4 + 1 + 1, none⟩ = some (.int .i64 sg) := by rw [show ol + j * 4 + 1 + 1 = ol + (j * 4 + 2) by omega]; exact hc 2 _ rfl
          have c3 : wr.cell? ⟨gl, ol + j * 4 + 1 + 2, none⟩ = some (.slice va sd.length vc) := by rw [show ol + j * 4 + 1 + 2 = ol + (j * 4 + 3) by omega]; exact hc 3 _ rfl
          have htk : (ls.take (j + 1)).map (fun x => (x.1.i, x.2)) = ys ++ [((⟨ss, sg, sd⟩ : It), Value.slice va sd.length vc)] := by
            rw [take_snoc hx, List.map_append, HYL.out]
            rfl
          have HTK := Lib.hid htk
          have hs6 := hs.newCells #[.int .i64 ss, .int .i64 sg, .slice va sd.length vc] 77
          have hsrc := reads_cells hs6 m0 1 1 [.int .i64 ss, .int .i64 sg, .slice va sd.length vc] rfl
          have hs7 := Sat.use (M := R2 ++ (R ++ (cellsA b (rringC bp xs nx) 96 :: (B ++ L)))) hs6 (by intro x; simp only [cnt_append, cnt_cons, cnt_nil]; omega)
          clear hs hsr hx hc he hR htk hs6
          go_wp2_with (at_builtin; go_loud (refine wpList_plain rfl (fun K hK => ?_); refine wp_append_g Tryz.underlying42 infoIt rfl (by decide) (by decide) rfl rfl rfl hr2 hs7 hsrc rfl (by intro u hu; simp at hu; rcases hu with rfl | rfl | rfl <;> rfl) (by omega) (fun v8 w8 R8 hr8 hs8 => ?_); refine hK _ _ ?_; simp only [Act.put, List.setIfInBounds_toArray, List.set_cons_zero, List.set_cons_succ]; clear hK))
          refine ⟨⟨j + 1, _, R8, by simp, by omega, HTK.out.symm, ?_, hs8⟩, ?_⟩
          · rw [itsC_append]
            exact hr8
          · simp [intOf]
            omega
        · have e : j = N := by omega
          subst e
          have hyl := HYL.out
          rw [HN.out, List.take_length] at hyl
          have HYE := Lib.hid hyl
          clear hyl
          go_wp2_with fail
          go_ret
          refine ⟨_, ys, ls, R2, rfl, ?_, HPM.out, HPW.out, ?_, ?_, hs.use (by intro x; simp only [cnt_append, cnt_cons, cnt_nil]; omega)⟩
          · rw [show ys.length = j by rw [HYE.out, List.length_map, HN.out]]; exact hr2
          · rw [HYE.out, List.map_map]; rfl
          · intro y hy
            rw [HYE.out] at hy
            obtain ⟨x, hx, rfl⟩ := List.mem_map.1 hy
            exact HRI.out x (HLX.out x hx)
end Go.Proofs.YtekbbpfnkbanjaaGreat.Ch
