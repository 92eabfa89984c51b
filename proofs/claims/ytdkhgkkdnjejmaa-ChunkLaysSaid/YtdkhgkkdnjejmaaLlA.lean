/-
  ChunkLays, walked.
-/
import Derived.Test.YtdkhgkkdnjejmaaLlZ
import Derived.Test.YtdkhgkkdnjejmaaLaC
import Derived.Deep.DeepCutAuto
import Derived.Deep.CutBlock
namespace Go.Proofs.Ytdkhgkkdnjejmaa.Ch
set_option linter.unusedSimpArgs false
open Go Go.RowKit Go.Sl Go.BigFrame
set_option linter.unusedVariables false

theorem handPiece_small (s g i seed bend : Int) : (handPiece s g i seed bend).data.length < 1000000 := by
  have h := (handPick_bounds (bend.tdiv 24) 40 (by omega)).2
  unfold handPiece
  simp only
  (repeat' split) <;> simp only [bytesOf_length] <;> omega
theorem readP_small (b : List UInt8) : (readP b).data.length < 1000000 := by
  unfold readP readB
  split
  · split
    · rename_i h
      show (pieceOf (openB b).2.1).data.length < 1000000
      rw [h.2.2.2.2.2.2]
      omega
    · exact Nat.zero_lt_succ _
  · exact Nat.zero_lt_succ _
theorem quiet_conv {C : World → Prop} {o : Oper} {act : Act} {K : Act → Prop} {t1 t2 : TypeId} {x : Operand} {v u : Value} (hop : o.op = .convert t1 t2 x) (hv : act.eval x = v) (hc : ∀ w, C w → (convert t1 t2 v).run Try.prog w = .ok u w) (hk : K (act.put o.dst u)) : o.quiet Try.prog act C K := by
  refine ⟨u, fun w hC => ?_, hk⟩
  unfold Oper.quietAt
  have h1 := hc w hC
  simp [execOp, hop, hv, h1, Oper.quietUpon]
noncomputable def layL (p : Pc) : List UInt8 := by
  classical exact if rightP p then layB p else []
theorem layL_pos {p : Pc} (h : rightP p) : layL p = layB p := by unfold layL; exact if_pos h
theorem layL_neg {p : Pc} (h : ¬ rightP p) : layL p = [] := by unfold layL; exact if_neg h
theorem lay_all (p : Pc) (a : Option Addr) (c : Nat) (W w : World) (L : List Atom) (hs : Sat W w L) (hin : ∀ y, Sat W y L → Reads y (.slice a p.data.length c) p.data.length (bts p.data)) (k : Int) (hk : k = if rightP p then 0 else 1) :
    Calls Try.prog 28 #[pcV p (.slice a p.data.length c)] w fun e w' => ∃ bv R, e = .returned (.tuple #[bv, .int .i64 k]) ∧ RowA 5 1 bv (layL p).length (bts (layL p)) R ∧ Sat W w' (R ++ L) := by
  subst hk
  by_cases h : rightP p
  · rw [if_pos h, layL_pos h]
    exact lay_any p a c W w L hs hin h
  · rw [if_neg h, layL_neg h]
    refine (lay_bad p a c W w L hs h).mono ?_
    rintro r w2 ⟨rfl, hs2⟩
    exact ⟨_, [], rfl, RowA.nil _ _, hs2⟩
theorem ref_lay_all (p : Pc) (a : Option Addr) (c : Nat) (W w : World) (L : List Atom) (hs : Sat W w L) (hin : ∀ y, Sat W y L → Reads y (.slice a p.data.length c) p.data.length (bts p.data)) :
    Calls Try.prog 36 #[pcV p (.slice a p.data.length c)] w fun e w' => ∃ bv R, e = .returned (.tuple #[bv, .bool (decide (rightP p))]) ∧ RowA 5 1 bv (layL p).length (bts (layL p)) R ∧ Sat W w' (R ++ L) := by
  by_cases h : rightP p
  · rw [decide_eq_true h, layL_pos h]
    exact ref_lay p a c W w L hs hin h
  · rw [decide_eq_false h, layL_neg h]
    refine (ref_lay_bad p a c W w L hs h).mono ?_
    rintro r w2 ⟨rfl, hs2⟩
    exact ⟨_, [], rfl, RowA.nil _ _, hs2⟩

set_option maxRecDepth 100000 in
set_option maxHeartbeats 16000000 in
theorem lays_walk (s g i seed bend how : Int) (byv : UInt8) (ra aa : Option Addr) (rc ac : Nat) (raw : List UInt8) (ks : List Int) (W : World)
    (hb1 : -9223372036854775808 ≤ bend) (hb2 : bend < 9223372036854775808) (hraw : raw.length ≤ 140737488355328) (hrc : raw.length ≤ rc)
    (hr : ∀ y, Below W.heap.size W y → Reads y (.slice ra raw.length rc) raw.length (bts raw)) (ha : ∀ y, Below W.heap.size W y → Reads y (.slice aa ks.length ac) ks.length (intsC ks)) :
    Calls Try.prog 5 #[.int .i64 s, .int .i64 g, .int .i64 i, .int .i64 seed, .int .i64 bend, .slice ra raw.length rc, .int .i64 how, .slice aa ks.length ac, .int .u8 byv.toNat] W fun e w' => e = .returned (.bool true) ∧ Below W.heap.size W w' := by
  have hs0 := allOf_sat W
  have hB : ∀ w', Sat W w' (allOf W) → Below W.heap.size W w' := fun w' h => below_of h
  have HB := Lib.hid hB
  have HRAW := Lib.hid (fun y (h : Sat W y (allOf W)) => hr y (hB y h))
  have HAT := Lib.hid (fun y (h : Sat W y (allOf W)) => ha y (hB y h))
  have HRC := Lib.hid hrc
  have HRL := Lib.hid hraw
  have HP := Lib.hid (fun w L hs => hand_piece s g i seed bend W w L hs hb1 hb2)
  clear hB ha hr hrc hraw hb1 hb2
  generalize allOf W = aW at *
  have P_small := handPiece_small s g i seed bend
  generalize handPiece s g i seed bend = P at *
  go_enter Try.func5, Try.ntmps5
  go_wp2_with fail
  refine (HP.out _ _ hs0).mono ?_; rintro r w1 ⟨v1, R1, rfl, hr1, hs1⟩
  clear hs0 HP
  obtain ⟨a1, c1, rfl⟩ := Ch.RowA.slice hr1
  obtain ⟨ok, hok⟩ : ∃ ok, ok = decide (rightP P) := ⟨_, rfl⟩
  obtain ⟨k, hk⟩ : ∃ k : Int, k = if rightP P then 0 else 1 := ⟨_, rfl⟩
  have hk0 : (k == 0) = ok := by
    rw [hk, hok]
    by_cases h : rightP P
    · rw [if_pos h, decide_eq_true h]; rfl
    · rw [if_neg h, decide_eq_false h]; rfl
  have HLAY := Lib.hid (fun w L hs hin => lay_all P a1 c1 W w L hs hin k hk)
  have hrl := fun w L hs hin => ref_lay_all P a1 c1 W w L hs hin
  have hrt := right_any P a1 c1
  have hrrt := ref_right P a1 c1
  have hlen : ok = true → (layL P).length = 160 := fun h => by
    rw [hok] at h
    have h2 := of_decide_eq_true h
    rw [layL_pos h2]
    exact layB_length P h2.2.2.2.2.2.2
  have hsmall : (layL P).length ≤ 160 := by
    by_cases h2 : rightP P
    · rw [layL_pos h2, layB_length P h2.2.2.2.2.2.2]; omega
    · rw [layL_neg h2]; simp
  rw [← hok] at hrl hrt hrrt
  have HLEN := Lib.hid hlen
  have HSM := Lib.hid hsmall
  clear hok hk hlen hsmall
  have hps := P_small
  generalize layL P = Z at *
  obtain ⟨ps, pg, pi, pd⟩ := P
  unfold pcV at *
  simp only at *
  have HRLAY := Lib.hid hrl
  have HPS := Lib.hid hps
  have HRT := Lib.hid hrt
  have HRRT := Lib.hid hrrt
  clear hrl hrt hrrt hps P_small
  have hs2 := hs1.newCells #[.int .i64 ps, .int .i64 pg, .int .i64 pi, .slice a1 pd.length c1] 45
  go_wp2_with fail
  refine (HLAY.out _ _ hs2 (fun y hy => hr1.reads hy.tail)).mono ?_; rintro r w3 ⟨v3, R3, rfl, hr3, hs3⟩
  clear hs1 hs2 HLAY
  generalize w1.heap.size = zp at *
  have g0 := hs3.cell (List.mem_append_right _ m0) 0
  have g1 := hs3.cell (List.mem_append_right _ m0) 1
  have g2 := hs3.cell (List.mem_append_right _ m0) 2
  have g3 := hs3.cell (List.mem_append_right _ m0) 3
  go_wp2_with fail
  refine (HRLAY.out _ _ hs3 (fun y hy => hr1.reads hy.right.tail)).mono ?_; rintro r w4 ⟨v4, R4, rfl, hr4, hs4⟩
  clear hs3 HRLAY g0 g1 g2 g3
  obtain ⟨a3, c3, rfl⟩ := Ch.RowA.slice hr3
  obtain ⟨a4, c4, rfl⟩ := Ch.RowA.slice hr4
  obtain ⟨LL, hLL⟩ : ∃ LL, LL = R4 ++ (R3 ++ (cellsA zp #[.int .i64 ps, .int .i64 pg, .int .i64 pi, .slice a1 pd.length c1] 45 :: (R1 ++ aW))) := ⟨_, rfl⟩
  have hm : cellsA zp #[.int .i64 ps, .int .i64 pg, .int .i64 pi, .slice a1 pd.length c1] 45 ∈ LL := by rw [hLL]; exact List.mem_append_right _ (List.mem_append_right _ m0)
  have hsub : ∀ y, Sat W y LL → Sat W y (R4 ++ (R3 ++ (cellsA zp #[.int .i64 ps, .int .i64 pg, .int .i64 pi, .slice a1 pd.length c1] 45 :: (R1 ++ aW)))) := fun y hy => by rw [hLL] at hy; exact hy
  have hc1 : ∀ y : Of W LL, (convert 32 9 (.slice a3 Z.length c3)).run Try.prog y.v = .ok (.string ⟨Z.toArray⟩) y.v := fun y => str_of _ Z y.v (hr3.reads (hsub y.v y.s).right)
  have hc2 : ∀ y : Of W LL, (convert 32 9 (.slice a4 Z.length c4)).run Try.prog y.v = .ok (.string ⟨Z.toArray⟩) y.v := fun y => str_of _ Z y.v (hr4.reads (hsub y.v y.s))
  have c0 : ∀ y : Of W LL, y.v.cell? ⟨zp, 0, none⟩ = some (.int .i64 ps) := fun y => y.s.cell hm 0
  have c1' : ∀ y : Of W LL, y.v.cell? ⟨zp, 1, none⟩ = some (.int .i64 pg) := fun y => y.s.cell hm 1
  have c2 : ∀ y : Of W LL, y.v.cell? ⟨zp, 2, none⟩ = some (.int .i64 pi) := fun y => y.s.cell hm 2
  have c3' : ∀ y : Of W LL, y.v.cell? ⟨zp, 3, none⟩ = some (.slice a1 pd.length c1) := fun y => y.s.cell hm 3
  have HR4 := Lib.hid (fun y (hy : Sat W y LL) => hr4.reads (hsub y hy))
  have HR1 := Lib.hid (fun y (hy : Sat W y LL) => (hsub y hy).right.right.tail)
  have HAW := Lib.hid (fun y (hy : Sat W y LL) => (hsub y hy).right.right.tail.right)
  have HLL := Lib.hid hLL
  have HM := Lib.hid hm
  rw [← hLL] at hs4
  clear hLL hm hsub
  go_upto_region 4 with fail
  go_cut [64] (fun tv wx => tv = .bool false ∧ Sat W wx LL)
  case first =>
    refine wp_region_held1 [13, 15] [14] [] [13] [0, 1, 2, 3, 4, 5, 6, 7, 8, 9, 10, 11, 12, 14, 13, 15, 16, 17] (Held W LL) (by kernel_rfl) (by kernel_rfl) ?_ ?_
    · exact Held.mk hs4.drew
    have hne : Nonempty (Of W LL) := ⟨⟨_, hs4⟩⟩
    repeat (first | (refine can_pu1 rfl rfl rfl rfl rfl rfl (fun K hK => ?_); go_big_quiet_op; refine hK _ ?_; clear hK K) | (refine can_st1 rfl rfl rfl rfl rfl rfl (fun K hK => ?_); go_big_quiet_op; refine hK _ ?_; clear hK K) | (refine can_early1 rfl rfl rfl rfl rfl (fun K hK => ?_); go_big_quiet_op; refine hK _ ?_; clear hK K) | (refine can_skip rfl rfl rfl ?_; simp only [Act.put, List.setIfInBounds_toArray, List.set_cons_zero, List.set_cons_succ]))
    refine can_early1 rfl rfl rfl rfl rfl (fun K hK => ?_)
    refine quiet_conv rfl rfl (fun y hy => by subst hy; exact (hc1 ⟨_, hs4.drew⟩)) ?_
    refine hK _ ?_
    clear hK K
    simp only [Act.put, List.setIfInBounds_toArray, List.set_cons_zero, List.set_cons_succ]
    repeat (first | (refine can_pu1 rfl rfl rfl rfl rfl rfl (fun K hK => ?_); go_big_quiet_op; refine hK _ ?_; clear hK K) | (refine can_st1 rfl rfl rfl rfl rfl rfl (fun K hK => ?_); go_big_quiet_op; refine hK _ ?_; clear hK K) | (refine can_early1 rfl rfl rfl rfl rfl (fun K hK => ?_); go_big_quiet_op; refine hK _ ?_; clear hK K) | (refine can_skip rfl rfl rfl ?_; simp only [Act.put, List.setIfInBounds_toArray, List.set_cons_zero, List.set_cons_succ]))
    have d0 := c0 ⟨_, hs4⟩
    have d1 := c1' ⟨_, hs4⟩
    have d2 := c2 ⟨_, hs4⟩
    have d3 := c3' ⟨_, hs4⟩
    refine can_early1 rfl rfl rfl rfl rfl (fun K hK => ?_)
    refine quiet_conv rfl rfl (fun y hy => by subst hy; exact (hc2 ⟨_, hs4.drew⟩)) ?_
    refine hK _ ?_
    clear hK K
    simp only [Act.put, List.setIfInBounds_toArray, List.set_cons_zero, List.set_cons_succ]
    repeat (first | (refine can_pu1 rfl rfl rfl rfl rfl rfl (fun K hK => ?_); go_big_quiet_op; refine hK _ ?_; clear hK K) | (refine can_st1 rfl rfl rfl rfl rfl rfl (fun K hK => ?_); go_big_quiet_op; refine hK _ ?_; clear hK K) | (refine can_early1 rfl rfl rfl rfl rfl (fun K hK => ?_); go_big_quiet_op; refine hK _ ?_; clear hK K) | (refine can_skip rfl rfl rfl ?_; simp only [Act.put, List.setIfInBounds_toArray, List.set_cons_zero, List.set_cons_succ]))
    clear c0 c1' c2 c3' d0 d1 d2 d3 hc1 hc2 hne
    have hsT := hs4.drew
    clear hs4
    generalize w4.drew = wt at *
    refine can_actS rfl rfl rfl rfl (fun K hK => ?_)
    go_wp2_with fail
    refine (HRT.out _).mono ?_; rintro r w5 ⟨rfl, hx⟩
    have hs5 : Sat W w5 LL := hsT.below hx
    apply hK
    refine ⟨Held.mk hs5, ?_⟩
    clear hK hsT hx
    repeat (first | (refine can_pu1 rfl rfl rfl rfl rfl rfl (fun K hK => ?_); go_big_quiet_op; refine hK _ ?_; clear hK K) | (refine can_st1 rfl rfl rfl rfl rfl rfl (fun K hK => ?_); go_big_quiet_op; refine hK _ ?_; clear hK K) | (refine can_early1 rfl rfl rfl rfl rfl (fun K hK => ?_); go_big_quiet_op; refine hK _ ?_; clear hK K) | (refine can_skip rfl rfl rfl ?_; simp only [Act.put, List.setIfInBounds_toArray, List.set_cons_zero, List.set_cons_succ]))
    refine can_actF rfl rfl rfl rfl (fun K hK => ?_)
    go_wp2_with fail
    refine (HRRT.out _).mono ?_; rintro r w6 ⟨rfl, hx⟩
    have hs6 : Sat W w6 LL := hs5.below hx
    clear hs5 hx
    go_wp2_with fail
    repeat (first | (refine can_pu1 rfl rfl rfl rfl rfl rfl (fun K hK => ?_); go_big_quiet_op; refine hK _ ?_; clear hK K) | (refine can_st1 rfl rfl rfl rfl rfl rfl (fun K hK => ?_); go_big_quiet_op; refine hK _ ?_; clear hK K) | (refine can_early1 rfl rfl rfl rfl rfl (fun K hK => ?_); go_big_quiet_op; refine hK _ ?_; clear hK K) | (refine can_skip rfl rfl rfl ?_; simp only [Act.put, List.setIfInBounds_toArray, List.set_cons_zero, List.set_cons_succ]))
    refine can_end1 ?_; (try simp only [Exit.then])
    go_wp2_with fail
    go_meet
    exact ⟨rfl, hs6⟩
  case rest =>
    obtain ⟨rfl, hs⟩ := hcut
    clear hs4 c0 c1' c2 c3' hc1 hc2
    go_wp2_with fail
    refine (few_any _ raw W wc _ hs (fun y hy => HRAW.out y (HAW.out y (hs.below hy))) HRL.out (fun a n c h => by cases h; exact HRC.out)).mono ?_; rintro r w5 ⟨v5, R5, rfl, hr5, hs5⟩
    clear hs
    obtain ⟨a5, c5, rfl⟩ := Ch.RowA.slice hr5
    go_upto_region 7 with fail
    go_cut [74] (fun tv wx => ∃ b : Bool, tv = .bool b ∧ (b = true → ok = true) ∧ Sat W wx (R5 ++ LL))
    case first =>
      cases hob : ok
      · subst hob
        go_wp2_with fail
        go_meet
        exact ⟨false, rfl, (fun h => by cases h), hs5⟩
      · subst hob
        go_wp2_with fail
        go_meet
        exact ⟨_, rfl, (fun _ => by trivial), hs5⟩
    case rest =>
      clear hs5
      obtain ⟨b, rfl, hbo, hs5⟩ := hcut
      go_upto_if 74 with fail
      go_cut [20, 22, 24] (fun av bv zv wx => ∃ (X : List UInt8) (R : List Atom), RowA 5 1 zv X.length (bts X) R ∧ Sat W wx (R ++ LL))
      case first =>
        cases b
        · go_wp2_with fail
          go_meet
          exact ⟨raw, R5, hr5, hs5⟩
        · have hok1 := hbo rfl
          subst hok1
          go_wp2_with fail
          refine (few_any (.slice a4 Z.length c4) Z W _ _ hs5 (fun y hy => HR4.out y (hs5.below hy).right) (by have := HSM.out; omega) (row_cap hr4)).mono ?_; rintro r w8 ⟨v8, R8, rfl, hr8, hs8'⟩
          have hs8 : Sat W w8 (R8 ++ LL) := hs8'.use (by intro x; simp only [cnt_append, cnt_cons, cnt_nil]; omega)
          clear hs8' hs5
          have hl160 := HLEN.out (by trivial)
          rcases hr8.2 with ⟨h1, h2, _⟩ | ⟨gz, oz, cz, rfl, hcz, hcm, rfl⟩
          · omega
          clear hr8
          rw [hl160] at hcz
          have hcz2 : (156 : Int) ≤ cz := by omega
          have HCM := Lib.hid hcm
          have HCZ := Lib.hid hcz
          clear hcm hcz hbo
          have hrow : ∀ X : List UInt8, X.length = 160 → RowA 5 1 (.slice (some ⟨gz, oz, none⟩) 160 cz) X.length (bts X) [(gz, rowP 5 oz (cz * 1) (bts X))] := fun X hX => ⟨by rw [bts_length]; omega, .inr ⟨gz, oz, cz, by rw [hX], by rw [hX]; exact HCZ.out, HCM.out, rfl⟩⟩
          have HROW := Lib.hid hrow
          clear hrow
          rw [hl160]
          have HL160 := Lib.hid hl160
          clear hl160
          go_wp2_with fail
          go_loopw [25] (fun iv wr => ∃ (j : Nat) (X : List UInt8), iv = .int .i64 j ∧ j ≤ ks.length ∧ j ≤ 2 ∧ X.length = 160 ∧ Sat W wr ((gz, rowP 5 oz (cz * 1) (bts X)) :: LL)) (fun iv _ => (2 - (intOf iv).toNat))
          case atStart => exact ⟨0, Z, rfl, Nat.zero_le _, by omega, HL160.out, hs8⟩
          case round =>
            clear hs8
            obtain ⟨j, X, rfl, hj1, hj2, hX, hs⟩ := hrel
            have HX := Lib.hid hX
            clear hX
            have j0 : (0 : Int) ≤ j := by omega
            by_cases hjk : j < ks.length
            case neg =>
              have j1 : ¬ (j : Int) < ks.length := by omega
              go_wp2_with fail
              have hrX := HROW.out X HX.out
              have hrd : ∀ y, Sat W y ((gz, rowP 5 oz (cz * 1) (bts X)) :: LL) → Reads y (.slice (some ⟨gz, oz, none⟩) 156 cz) (X.take 156).length (bts (X.take 156)) := fun y hy => by
                rcases reads_cut (m := 156) (hrX.reads (F := LL) hy) (by rw [HX.out]; decide) cz with h | h
                · exact h
                · cases h
              refine (ref_sum _ (X.take 156) W wr _ hs hrd (by rw [List.length_take]; omega)).mono ?_; rintro r w9 ⟨rfl, hs9⟩
              go_upto_if 107 with fail
              have HRX := Lib.hid hrX
              clear hrX hrd
              generalize decide (1 < how.tmod 4) = hb
              cases hb
              case false =>
                go_wp2_with fail
                go_meet
                exact ⟨X, _, HRX.out, hs9⟩
              case true =>
                have hrt := row_reslice (X := X) (HROW.out X HX.out) 156 (by rw [HX.out]; decide)
                have hst := row_take hs9 156
                rw [← bts_take] at hst
                have hlt : (X.take 156).length = 156 := by rw [List.length_take, HX.out]; rfl
                generalize sumB (List.take 156 X) = nn at *
                generalize List.take 156 X = Y at *
                obtain ⟨u1, e1⟩ := mod_u8 (nn / 16777216)
                obtain ⟨u2, e2⟩ := mod_u8 (nn / 65536)
                obtain ⟨u3, e3⟩ := mod_u8 (nn / 256)
                obtain ⟨u4, e4⟩ := mod_u8 nn
                have U1 := Lib.hid e1
                have U2 := Lib.hid e2
                have U3 := Lib.hid e3
                have U4 := Lib.hid e4
                have HLT := Lib.hid hlt
                clear e1 e2 e3 e4 hlt hs9
                go_wp2_with (at_builtin; go_loud (rw [U1.out, U2.out, U3.out, U4.out]; refine wpList_plain rfl (fun K hK => ?_); refine wp_append_u8 rfl Y [u1, u2, u3, u4] rfl rfl (by rw [HLT.out]; exact hrt) (F := cellsA w9.heap.size #[.int .u8 u1.toNat, .int .u8 u2.toNat, .int .u8 u3.toNat, .int .u8 u4.toNat] 5 :: LL) ((hst.newCells _ _).use (by intro x; simp only [cnt_append, cnt_cons, cnt_nil]; omega)) (reads_new w9 _ _ _ _ _ rfl) (by rw [HLT.out]; show 156 + 4 < 1000000; omega) (fun v4 w10 R4 hr4 hs10 => ?_); refine hK _ _ ?_; simp only [Act.put, List.setIfInBounds_toArray, List.set_cons_zero, List.set_cons_succ]; clear hK))
                go_meet
                exact ⟨_, R4, hr4, hs10.use (by intro x; simp only [cnt_append, cnt_cons, cnt_nil]; omega)⟩
            case pos =>
            have j1 : (j : Int) < ks.length := by omega
            by_cases hj3 : j < 2
            case neg =>
              have j4 : ¬ (j : Int) < 2 := by omega
              go_wp2_with fail
              have hrX := HROW.out X HX.out
              have hrd : ∀ y, Sat W y ((gz, rowP 5 oz (cz * 1) (bts X)) :: LL) → Reads y (.slice (some ⟨gz, oz, none⟩) 156 cz) (X.take 156).length (bts (X.take 156)) := fun y hy => by
                rcases reads_cut (m := 156) (hrX.reads (F := LL) hy) (by rw [HX.out]; decide) cz with h | h
                · exact h
                · cases h
              refine (ref_sum _ (X.take 156) W wr _ hs hrd (by rw [List.length_take]; omega)).mono ?_; rintro r w9 ⟨rfl, hs9⟩
              go_upto_if 107 with fail
              have HRX := Lib.hid hrX
              clear hrX hrd
              generalize decide (1 < how.tmod 4) = hb
              cases hb
              case false =>
                go_wp2_with fail
                go_meet
                exact ⟨X, _, HRX.out, hs9⟩
              case true =>
                have hrt := row_reslice (X := X) (HROW.out X HX.out) 156 (by rw [HX.out]; decide)
                have hst := row_take hs9 156
                rw [← bts_take] at hst
                have hlt : (X.take 156).length = 156 := by rw [List.length_take, HX.out]; rfl
                generalize sumB (List.take 156 X) = nn at *
                generalize List.take 156 X = Y at *
                obtain ⟨u1, e1⟩ := mod_u8 (nn / 16777216)
                obtain ⟨u2, e2⟩ := mod_u8 (nn / 65536)
                obtain ⟨u3, e3⟩ := mod_u8 (nn / 256)
                obtain ⟨u4, e4⟩ := mod_u8 nn
                have U1 := Lib.hid e1
                have U2 := Lib.hid e2
                have U3 := Lib.hid e3
                have U4 := Lib.hid e4
                have HLT := Lib.hid hlt
                clear e1 e2 e3 e4 hlt hs9
                go_wp2_with (at_builtin; go_loud (rw [U1.out, U2.out, U3.out, U4.out]; refine wpList_plain rfl (fun K hK => ?_); refine wp_append_u8 rfl Y [u1, u2, u3, u4] rfl rfl (by rw [HLT.out]; exact hrt) (F := cellsA w9.heap.size #[.int .u8 u1.toNat, .int .u8 u2.toNat, .int .u8 u3.toNat, .int .u8 u4.toNat] 5 :: LL) ((hst.newCells _ _).use (by intro x; simp only [cnt_append, cnt_cons, cnt_nil]; omega)) (reads_new w9 _ _ _ _ _ rfl) (by rw [HLT.out]; show 156 + 4 < 1000000; omega) (fun v4 w10 R4 hr4 hs10 => ?_); refine hK _ _ ?_; simp only [Act.put, List.setIfInBounds_toArray, List.set_cons_zero, List.set_cons_succ]; clear hK))
                go_meet
                exact ⟨_, R4, hr4, hs10.use (by intro x; simp only [cnt_append, cnt_cons, cnt_nil]; omega)⟩
            case pos =>
            have j4 : (j : Int) < 2 := by omega
            obtain ⟨x, hx⟩ : ∃ x, ks[j]? = some x := ⟨_, List.getElem?_eq_getElem hjk⟩
            rcases HAT.out wr (HAW.out wr hs.tail) with ⟨_, hz, _⟩ | ⟨a', c', e1, hcell⟩
            · omega
            cases e1
            have d0 : wr.cell? (a'.add j) = some (.int .i64 x) := hcell j _ (by rw [intsC, List.getElem?_map, hx]; rfl)
            obtain ⟨m0', m1'⟩ := handPick_bounds x 160 (by omega)
            have hpk := hand_pick x 160 wr (by omega) (by omega)
            obtain ⟨mN, hmN⟩ : ∃ n : Nat, handPick x 160 = n := ⟨(handPick x 160).toNat, by omega⟩
            rw [hmN] at m0' m1' hpk
            have hm160 : mN < 160 := by omega
            obtain ⟨u, hu⟩ : ∃ u, X[mN]? = some u := ⟨_, List.getElem?_eq_getElem (by rw [HX.out]; exact hm160)⟩
            have hcc := (HROW.out X HX.out).cells (F := LL) (g := gz) (off := oz) (c := cz) hs (by rw [HX.out]) mN (by rw [bts_length, HX.out]; exact hm160)
            rw [bts_get hu] at hcc
            obtain ⟨d1, d2⟩ := hcc
            obtain ⟨zz, hzz⟩ := xor_u8 (u.toNat : Int) (byv.toNat : Int)
            have HPK := Lib.hid hpk
            have HU := Lib.hid hu
            clear hpk hmN hx hcell hu
            go_wp2_with fail
            refine HPK.out.mono ?_; rintro r w9 ⟨rfl, rfl⟩
            go_wp2_with fail
            refine ⟨⟨j + 1, X.set mN zz, by simp, by omega, by omega, by rw [List.length_set]; exact HX.out, ?_⟩, ?_⟩
            · have h := row_store hs mN (by rw [bts_length, HX.out]; exact hm160) (.int .u8 zz.toNat)
              rw [show bts (X.set mN zz) = (bts X).set mN (.int .u8 zz.toNat) by simp [bts, List.map_set]]
              exact h
            · simp [intOf]
              omega
      case rest =>
        clear hs5 hbo
        obtain ⟨X, R, hX, hs6⟩ := hcut
        have hcx := row_cap hX
        obtain ⟨aX, cX, rfl⟩ := Ch.RowA.slice hX
        have hread := fun w L hs hin => read_free W w L (.slice aX X.length cX) X hs hin hcx
        have hrread := fun w L hs hin => ref_read_free W w L (.slice aX X.length cX) X hs hin hcx
        have hxs := readP_small X
        generalize readP X = PX at *
        generalize (readB X).isSome = fx at *
        obtain ⟨xs, xg, xi, xd⟩ := PX
        unfold pcV at *
        simp only at *
        have HRR := Lib.hid hrread
        have HXS := Lib.hid hxs
        clear hrread hcx hxs
        go_wp2_with fail
        refine (hread _ _ hs6 (fun y hy => hX.reads hy)).mono ?_; rintro r w6 ⟨xv, R6, rfl, hr6, hs7⟩
        clear hread hs6
        obtain ⟨ax, cx, rfl⟩ := Ch.RowA.slice hr6
        have hs8 := hs7.newCells #[.int .i64 xs, .int .i64 xg, .int .i64 xi, .slice ax xd.length cx] 45
        clear hs7
        go_wp2_with fail
        refine (HRR.out _ _ hs8 (fun y hy => hX.reads hy.tail.right)).mono ?_; rintro r w7 ⟨yv, R7, rfl, hr7, hs9⟩
        clear hs8
        obtain ⟨ay, cy, rfl⟩ := Ch.RowA.slice hr7
        have hs10 := hs9.newCells #[.int .i64 xs, .int .i64 xg, .int .i64 xi, .slice ay xd.length cy] 45
        clear hs9
        generalize w6.heap.size = zx at *
        obtain ⟨LM, hLM⟩ : ∃ LM, LM = cellsA w7.heap.size #[.int .i64 xs, .int .i64 xg, .int .i64 xi, .slice ay xd.length cy] 45 :: (R7 ++ (cellsA zx #[.int .i64 xs, .int .i64 xg, .int .i64 xi, .slice ax xd.length cx] 45 :: (R6 ++ (R ++ LL)))) := ⟨_, rfl⟩
        have hmy : cellsA w7.heap.size #[.int .i64 xs, .int .i64 xg, .int .i64 xi, .slice ay xd.length cy] 45 ∈ LM := by rw [hLM]; exact m0
        have hmx : cellsA zx #[.int .i64 xs, .int .i64 xg, .int .i64 xi, .slice ax xd.length cx] 45 ∈ LM := by rw [hLM]; exact .tail _ (List.mem_append_right _ m0)
        have hmp : cellsA zp #[.int .i64 ps, .int .i64 pg, .int .i64 pi, .slice a1 pd.length c1] 45 ∈ LM := by rw [hLM]; exact .tail _ (List.mem_append_right _ (.tail _ (List.mem_append_right _ (List.mem_append_right _ HM.out))))
        have hsl : ∀ y, Sat W y LM → Sat W y (cellsA w7.heap.size #[.int .i64 xs, .int .i64 xg, .int .i64 xi, .slice ay xd.length cy] 45 :: (R7 ++ (cellsA zx #[.int .i64 xs, .int .i64 xg, .int .i64 xi, .slice ax xd.length cx] 45 :: (R6 ++ (R ++ LL))))) := fun y hy => by rw [hLM] at hy; exact hy
        have hx1 : ∀ y, Sat W y LM → Reads y (.slice ax xd.length cx) xd.length (bts xd) := fun y hy => hr6.reads (hsl y hy).tail.right.tail
        have hy1 : ∀ y, Sat W y LM → Reads y (.slice ay xd.length cy) xd.length (bts xd) := fun y hy => hr7.reads (hsl y hy).tail
        have hp1 : ∀ y, Sat W y LM → Reads y (.slice a1 pd.length c1) pd.length (bts pd) := fun y hy => hr1.reads (HR1.out y (hsl y hy).tail.right.tail.right.right)
        have hfin : ∀ y, Sat W y LM → Below W.heap.size W y := fun y hy => HB.out y (HAW.out y (hsl y hy).tail.right.tail.right.right)
        have hsm1 := fun w hs => ref_same ⟨xs, xg, xi, xd⟩ ⟨xs, xg, xi, xd⟩ _ _ W w LM hs hx1 hy1 HXS.out HXS.out
        have hsm2 := fun w hs => same_any ⟨ps, pg, pi, pd⟩ ⟨xs, xg, xi, xd⟩ _ _ W w LM hs hp1 hx1 HPS.out HXS.out
        have hsm3 := fun w hs => ref_same ⟨ps, pg, pi, pd⟩ ⟨xs, xg, xi, xd⟩ _ _ W w LM hs hp1 hy1 HPS.out HXS.out
        rw [decide_eq_true (rfl : (⟨xs, xg, xi, xd⟩ : Pc) = ⟨xs, xg, xi, xd⟩)] at hsm1
        generalize decide ((⟨ps, pg, pi, pd⟩ : Pc) = ⟨xs, xg, xi, xd⟩) = sm at *
        unfold pcV at hsm1 hsm2 hsm3
        simp only at hsm1 hsm2 hsm3
        have HS1 := Lib.hid hsm1
        have HS2 := Lib.hid hsm2
        have HS3 := Lib.hid hsm3
        have HFIN := Lib.hid hfin
        rw [← hLM] at hs10
        clear hsm1 hsm2 hsm3 hx1 hy1 hp1 hsl hfin hLM hX
        have x0 : ∀ y : Of W LM, y.v.cell? ⟨zx, 0, none⟩ = some (.int .i64 xs) := fun y => y.s.cell hmx 0
        have x1 : ∀ y : Of W LM, y.v.cell? ⟨zx, 1, none⟩ = some (.int .i64 xg) := fun y => y.s.cell hmx 1
        have x2 : ∀ y : Of W LM, y.v.cell? ⟨zx, 2, none⟩ = some (.int .i64 xi) := fun y => y.s.cell hmx 2
        have x3 : ∀ y : Of W LM, y.v.cell? ⟨zx, 3, none⟩ = some (.slice ax xd.length cx) := fun y => y.s.cell hmx 3
        have y0 : ∀ y : Of W LM, y.v.cell? ⟨w7.heap.size, 0, none⟩ = some (.int .i64 xs) := fun y => y.s.cell hmy 0
        have y1 : ∀ y : Of W LM, y.v.cell? ⟨w7.heap.size, 1, none⟩ = some (.int .i64 xg) := fun y => y.s.cell hmy 1
        have y2 : ∀ y : Of W LM, y.v.cell? ⟨w7.heap.size, 2, none⟩ = some (.int .i64 xi) := fun y => y.s.cell hmy 2
        have y3 : ∀ y : Of W LM, y.v.cell? ⟨w7.heap.size, 3, none⟩ = some (.slice ay xd.length cy) := fun y => y.s.cell hmy 3
        have p0 : ∀ y : Of W LM, y.v.cell? ⟨zp, 0, none⟩ = some (.int .i64 ps) := fun y => y.s.cell hmp 0
        have p1 : ∀ y : Of W LM, y.v.cell? ⟨zp, 1, none⟩ = some (.int .i64 pg) := fun y => y.s.cell hmp 1
        have p2 : ∀ y : Of W LM, y.v.cell? ⟨zp, 2, none⟩ = some (.int .i64 pi) := fun y => y.s.cell hmp 2
        have p3 : ∀ y : Of W LM, y.v.cell? ⟨zp, 3, none⟩ = some (.slice a1 pd.length c1) := fun y => y.s.cell hmp 3
        clear hmx hmy hmp
        go_upto_region 18 with fail
        refine wp_region_held1 [0, 9, 14, 17, 22, 24, 25, 27, 29, 30] [15, 16, 23, 26, 28] [23, 26, 28] [0, 9, 14] [0, 1, 2, 3, 4, 5, 6, 7, 8, 9, 10, 11, 12, 13, 15, 16, 14, 17, 18, 19, 20, 21, 23, 26, 28, 22, 24, 25, 27, 29, 30, 31, 32, 33] (Held W LM) (by kernel_rfl) (by kernel_rfl) ?_ ?_
        · exact Held.mk hs10.drew
        have hne : Nonempty (Of W LM) := ⟨⟨_, hs10⟩⟩
        have hsT := hs10.drew
        clear hs10
        generalize w7.heap.size = zy at *
        generalize (w7.alloc _).drew = wt at *
        refine can_actS rfl rfl rfl rfl (fun K hK => ?_)
        go_wp2_with fail
        refine (known_any W _ _ hsT).mono ?_; rintro r w8 ⟨rfl, hs8⟩
        apply hK
        refine ⟨Held.mk hs8, ?_⟩
        clear hK hsT
        have X0 := x0 ⟨w8, hs8⟩
        have X1 := x1 ⟨w8, hs8⟩
        have X2 := x2 ⟨w8, hs8⟩
        have X3 := x3 ⟨w8, hs8⟩
        have Y0 := y0 ⟨w8, hs8⟩
        have Y1 := y1 ⟨w8, hs8⟩
        have Y2 := y2 ⟨w8, hs8⟩
        have Y3 := y3 ⟨w8, hs8⟩
        have P0 := p0 ⟨w8, hs8⟩
        have P1 := p1 ⟨w8, hs8⟩
        have P2 := p2 ⟨w8, hs8⟩
        have P3 := p3 ⟨w8, hs8⟩
        repeat (first | (refine can_pu1 rfl rfl rfl rfl rfl rfl (fun K hK => ?_); go_big_quiet_op; refine hK _ ?_; clear hK K) | (refine can_st1 rfl rfl rfl rfl rfl rfl (fun K hK => ?_); go_big_quiet_op; refine hK _ ?_; clear hK K) | (refine can_early1 rfl rfl rfl rfl rfl (fun K hK => ?_); go_big_quiet_op; refine hK _ ?_; clear hK K) | (refine can_skip rfl rfl rfl ?_; simp only [Act.put, List.setIfInBounds_toArray, List.set_cons_zero, List.set_cons_succ]))
        refine can_actS rfl rfl rfl rfl (fun K hK => ?_)
        go_wp2_with fail
        refine (HS1.out _ hs8).mono ?_; rintro r w9 ⟨rfl, hs9⟩
        apply hK
        refine ⟨Held.mk hs9, ?_⟩
        clear hK hs8 X0 X1 X2 X3 Y0 Y1 Y2 Y3 P0 P1 P2 P3
        have X0 := x0 ⟨w9, hs9⟩
        have X1 := x1 ⟨w9, hs9⟩
        have X2 := x2 ⟨w9, hs9⟩
        have X3 := x3 ⟨w9, hs9⟩
        have Y0 := y0 ⟨w9, hs9⟩
        have Y1 := y1 ⟨w9, hs9⟩
        have Y2 := y2 ⟨w9, hs9⟩
        have Y3 := y3 ⟨w9, hs9⟩
        have P0 := p0 ⟨w9, hs9⟩
        have P1 := p1 ⟨w9, hs9⟩
        have P2 := p2 ⟨w9, hs9⟩
        have P3 := p3 ⟨w9, hs9⟩
        repeat (first | (refine can_pu1 rfl rfl rfl rfl rfl rfl (fun K hK => ?_); go_big_quiet_op; refine hK _ ?_; clear hK K) | (refine can_st1 rfl rfl rfl rfl rfl rfl (fun K hK => ?_); go_big_quiet_op; refine hK _ ?_; clear hK K) | (refine can_early1 rfl rfl rfl rfl rfl (fun K hK => ?_); go_big_quiet_op; refine hK _ ?_; clear hK K) | (refine can_skip rfl rfl rfl ?_; simp only [Act.put, List.setIfInBounds_toArray, List.set_cons_zero, List.set_cons_succ]))
        refine can_actS rfl rfl rfl rfl (fun K hK => ?_)
        go_wp2_with fail
        refine (HS2.out _ hs9).mono ?_; rintro r w10 ⟨rfl, hs11⟩
        apply hK
        refine ⟨Held.mk hs11, ?_⟩
        clear hK hs9 X0 X1 X2 X3 Y0 Y1 Y2 Y3 P0 P1 P2 P3
        repeat (first | (refine can_pu1 rfl rfl rfl rfl rfl rfl (fun K hK => ?_); go_big_quiet_op; refine hK _ ?_; clear hK K) | (refine can_st1 rfl rfl rfl rfl rfl rfl (fun K hK => ?_); go_big_quiet_op; refine hK _ ?_; clear hK K) | (refine can_early1 rfl rfl rfl rfl rfl (fun K hK => ?_); go_big_quiet_op; refine hK _ ?_; clear hK K) | (refine can_skip rfl rfl rfl ?_; simp only [Act.put, List.setIfInBounds_toArray, List.set_cons_zero, List.set_cons_succ]))
        refine can_actF rfl rfl rfl rfl (fun K hK => ?_)
        go_wp2_with fail
        refine (HS3.out _ hs11).mono ?_; rintro r w11 ⟨rfl, hs12⟩
        clear hs11
        have hfin := HFIN.out _ hs12
        clear hs12 x0 x1 x2 x3 y0 y1 y2 y3 p0 p1 p2 p3 hne
        obtain ⟨j0, j1⟩ := handPick_bounds s 40 (by omega)
        obtain ⟨j2, j3⟩ := handPick_bounds g 1000 (by omega)
        have hpk1 := hand_pick s 40 w11 (by omega) (by omega)
        have hpk2 := hand_pick g 1000 w11 (by omega) (by omega)
        have hpl1 := place_any (handPick s 40) (handPick g 1000) w11 j0 (by omega)
        have hpl2 := ref_place (handPick s 40) (handPick g 1000) w11 j0 (by omega) j2
        generalize handPick s 40 = ks1 at *
        generalize handPick g 1000 = kg1 at *
        have HPK1 := Lib.hid hpk1
        have HPK2 := Lib.hid hpk2
        have HPL1 := Lib.hid hpl1
        have HPL2 := Lib.hid hpl2
        clear hpk1 hpk2 hpl1 hpl2
        go_wp2_with fail
        repeat (first | (refine can_pu1 rfl rfl rfl rfl rfl rfl (fun K hK => ?_); go_big_quiet_op; refine hK _ ?_; clear hK K) | (refine can_st1 rfl rfl rfl rfl rfl rfl (fun K hK => ?_); go_big_quiet_op; refine hK _ ?_; clear hK K) | (refine can_early1 rfl rfl rfl rfl rfl (fun K hK => ?_); go_big_quiet_op; refine hK _ ?_; clear hK K) | (refine can_skip rfl rfl rfl ?_; simp only [Act.put, List.setIfInBounds_toArray, List.set_cons_zero, List.set_cons_succ]))
        refine can_actF rfl rfl rfl rfl (fun K hK => ?_)
        go_wp2_with fail
        refine HPK1.out.mono ?_; rintro r w12 ⟨rfl, rfl⟩
        go_wp2_with fail
        repeat (first | (refine can_pu1 rfl rfl rfl rfl rfl rfl (fun K hK => ?_); go_big_quiet_op; refine hK _ ?_; clear hK K) | (refine can_st1 rfl rfl rfl rfl rfl rfl (fun K hK => ?_); go_big_quiet_op; refine hK _ ?_; clear hK K) | (refine can_early1 rfl rfl rfl rfl rfl (fun K hK => ?_); go_big_quiet_op; refine hK _ ?_; clear hK K) | (refine can_skip rfl rfl rfl ?_; simp only [Act.put, List.setIfInBounds_toArray, List.set_cons_zero, List.set_cons_succ]))
        refine can_actF rfl rfl rfl rfl (fun K hK => ?_)
        go_wp2_with fail
        refine HPK2.out.mono ?_; rintro r w12 ⟨rfl, rfl⟩
        go_wp2_with fail
        repeat (first | (refine can_pu1 rfl rfl rfl rfl rfl rfl (fun K hK => ?_); go_big_quiet_op; refine hK _ ?_; clear hK K) | (refine can_st1 rfl rfl rfl rfl rfl rfl (fun K hK => ?_); go_big_quiet_op; refine hK _ ?_; clear hK K) | (refine can_early1 rfl rfl rfl rfl rfl (fun K hK => ?_); go_big_quiet_op; refine hK _ ?_; clear hK K) | (refine can_skip rfl rfl rfl ?_; simp only [Act.put, List.setIfInBounds_toArray, List.set_cons_zero, List.set_cons_succ]))
        refine can_actF rfl rfl rfl rfl (fun K hK => ?_)
        go_wp2_with fail
        refine HPL1.out.mono ?_; rintro r w12 ⟨rfl, rfl⟩
        go_wp2_with fail
        repeat (first | (refine can_pu1 rfl rfl rfl rfl rfl rfl (fun K hK => ?_); go_big_quiet_op; refine hK _ ?_; clear hK K) | (refine can_st1 rfl rfl rfl rfl rfl rfl (fun K hK => ?_); go_big_quiet_op; refine hK _ ?_; clear hK K) | (refine can_early1 rfl rfl rfl rfl rfl (fun K hK => ?_); go_big_quiet_op; refine hK _ ?_; clear hK K) | (refine can_skip rfl rfl rfl ?_; simp only [Act.put, List.setIfInBounds_toArray, List.set_cons_zero, List.set_cons_succ]))
        refine can_actF rfl rfl rfl rfl (fun K hK => ?_)
        go_wp2_with fail
        refine HPK1.out.mono ?_; rintro r w12 ⟨rfl, rfl⟩
        go_wp2_with fail
        repeat (first | (refine can_pu1 rfl rfl rfl rfl rfl rfl (fun K hK => ?_); go_big_quiet_op; refine hK _ ?_; clear hK K) | (refine can_st1 rfl rfl rfl rfl rfl rfl (fun K hK => ?_); go_big_quiet_op; refine hK _ ?_; clear hK K) | (refine can_early1 rfl rfl rfl rfl rfl (fun K hK => ?_); go_big_quiet_op; refine hK _ ?_; clear hK K) | (refine can_skip rfl rfl rfl ?_; simp only [Act.put, List.setIfInBounds_toArray, List.set_cons_zero, List.set_cons_succ]))
        refine can_actF rfl rfl rfl rfl (fun K hK => ?_)
        go_wp2_with fail
        refine HPK2.out.mono ?_; rintro r w12 ⟨rfl, rfl⟩
        go_wp2_with fail
        repeat (first | (refine can_pu1 rfl rfl rfl rfl rfl rfl (fun K hK => ?_); go_big_quiet_op; refine hK _ ?_; clear hK K) | (refine can_st1 rfl rfl rfl rfl rfl rfl (fun K hK => ?_); go_big_quiet_op; refine hK _ ?_; clear hK K) | (refine can_early1 rfl rfl rfl rfl rfl (fun K hK => ?_); go_big_quiet_op; refine hK _ ?_; clear hK K) | (refine can_skip rfl rfl rfl ?_; simp only [Act.put, List.setIfInBounds_toArray, List.set_cons_zero, List.set_cons_succ]))
        refine can_actF rfl rfl rfl rfl (fun K hK => ?_)
        go_wp2_with fail
        refine HPL2.out.mono ?_; rintro r w12 ⟨rfl, rfl⟩
        go_wp2_with fail
        repeat (first | (refine can_pu1 rfl rfl rfl rfl rfl rfl (fun K hK => ?_); go_big_quiet_op; refine hK _ ?_; clear hK K) | (refine can_st1 rfl rfl rfl rfl rfl rfl (fun K hK => ?_); go_big_quiet_op; refine hK _ ?_; clear hK K) | (refine can_early1 rfl rfl rfl rfl rfl (fun K hK => ?_); go_big_quiet_op; refine hK _ ?_; clear hK K) | (refine can_skip rfl rfl rfl ?_; simp only [Act.put, List.setIfInBounds_toArray, List.set_cons_zero, List.set_cons_succ]))
        refine can_end1 ?_; (try simp only [Exit.then])
        go_wp2_with fail
        go_ret
        exact ⟨rfl, hfin⟩
end Go.Proofs.Ytdkhgkkdnjejmaa.Ch

