
/-
  NodeActs, walked.
-/
import Derived.Test.YtekbbpfnkbanjaaGreatRnN
import Derived.Test.YtekbbpfnkbanjaaGreatNkA
import Derived.Test.YtekbbpfnkbanjaaGreatNdDw
import Derived.Deep.DeepCutAuto
import Derived.Deep.CutBlock
namespace Go.Proofs.YtekbbpfnkbanjaaGreat.Ch
open Go Go.RowKit Go.Sl Go.BigFrame
set_option linter.unusedVariables false
set_option linter.unusedSimpArgs false

structure A10 (n : Nd) (r : Rt) (i : Nat) : Prop where
  fit : NdFit n i
  al : Alike n.q r
  num : NumI n
theorem A10.start : A10 nd0 ⟨List.replicate 96 zero160, [], 0⟩ 0 := ⟨NdFit.start, Alike.start 96, NumI.first⟩
theorem A10.crash {n : Nd} {r : Rt} {i : Nat} (h : A10 n r i) (keep : List Int) : A10 (n.crash keep) (r.crash keep) (i + 1) := ⟨h.fit.crash keep, h.al.crash keep, h.num.crash keep h.fit.ok.dlen⟩
theorem A10.lose {n : Nd} {r : Rt} {i : Nat} (h : A10 n r i) : A10 n.lose r.wipe (i + 1) := ⟨h.fit.lose, h.al.wipe (by rw [h.fit.ok.dlen, h.fit.ok.len]), NumI.lose h.fit.ok.len⟩
theorem A10.mono {n : Nd} {r : Rt} {i : Nat} (h : A10 n r i) : A10 n r (i + 1) := ⟨h.fit.mono (by omega), h.al, h.num⟩
theorem A10.do_ {q : Rq} {n n' : Nd} {p : Rp} {r r' : Rt} {i : Nat} (h : A10 n r i) (hd : DoR q n n' p) (ha : Alike n'.q r') : A10 n' r' (i + 1) := ⟨hd.fit h.fit, ha, h.num.do_ h.al h.fit.n0 hd⟩

theorem plat_writes (b : Nat) (p : Pt) (A : List Atom) (W w : World) (L : List Atom) (hp : PtA b p A) (hs : Sat W w (A ++ L)) :
    Calls Tryz.prog 18 #[.pointer (some ⟨b, 0, none⟩)] w fun e w' => e = .returned (.int .i64 p.writes) ∧ w = w' := by
  obtain ⟨vd, vn, vp, Rd, Rn, Rp, B, cd, cn, cp, rfl, hr⟩ := hp
  have e0 : w.cell? ⟨b, 3, none⟩ = some (.int .i64 p.writes) := hs.cell m0 3
  clear hs
  go_enter Tryz.func18, Tryz.ntmps18
  go_wp2_with fail
  go_ret
  exact ⟨rfl, rfl⟩
theorem getL_le (q : Pt) (s : Int) : (getL q s).length ≤ 2 := by
  unfold getL
  rw [srt_length]
  unfold getN
  refine Nat.le_trans (List.length_filterMap_le _ _) ?_
  simp
theorem DoR.small {q : Rq} {n n' : Nd} {p : Rp} (hd : DoR q n n' p) (hl : n.g.slots.length = 16) : p.pcs.length ≤ 2 ∧ p.its.length ≤ 1000 := by
  rcases hd with ⟨_, _, ⟨_, _, rfl⟩ | ⟨_, rfl⟩⟩ | ⟨_, ⟨_, _, rfl⟩ | ⟨_, _, rfl⟩⟩ | ⟨_, _, _, rfl⟩ | ⟨_, _, rfl⟩ | ⟨_, _, is, ⟨zs, hp, _, rfl⟩, rfl⟩ | ⟨_, _, rfl⟩ | ⟨_, _, rfl⟩
  · exact ⟨getL_le _ _, by simp⟩
  · simp
  · simp
  · simp
  · simp
  · simp
  · refine ⟨by simp, ?_⟩
    have h := hp.length_eq
    have h2 : (liveS n.g.slots).length ≤ n.g.slots.length := by unfold liveS; exact List.length_filter_le _ _
    simp only [List.length_map]
    omega
  · simp
  · simp

set_option maxRecDepth 100000 in
set_option maxHeartbeats 16000000 in
theorem acts10_walk (a : Option Addr) (c : Nat) (xs : List Act10R) (W : World) (ha : Acts10 W a xs) :
    Calls Tryz.prog 3 #[.slice a xs.length c] W fun e w' => e = .returned (.bool true) ∧ Below W.heap.size W w' := by
  have hs0 := allOf_sat W
  have HN := Lib.hid (fun w L (hs : Sat W w L) => node_new W w L hs)
  have hB : ∀ w', Sat W w' (allOf W) → Below W.heap.size W w' := fun w' h => below_of h
  have HB := Lib.hid hB
  have HRK := Lib.hid (fun y (h : Sat W y (allOf W)) v n xs (hr : Reads W v n xs) => reads_below hr (hB y h))
  have HA0 := Lib.hid ha
  clear hB ha
  generalize allOf W = aW at *
  go_enter Tryz.func3, Tryz.ntmps3
  go_wp2_with fail
  refine (HN.out _ _ hs0).mono ?_; rintro r w1 ⟨bn, A, rfl, hA, hs1⟩
  clear hs0 HN
  go_wp2_with fail
  refine (known10_any W _ _ hs1).mono ?_; rintro r w2 ⟨rfl, hs2⟩
  clear hs1
  go_wp2_with fail
  refine (refnode_new W _ _ hs2).mono ?_; rintro r w3 ⟨bd, A2, rfl, hA2, hs3⟩
  clear hs2
  have hs4 : Sat W w3 (A ++ (A2 ++ aW)) := hs3.use (by intro x; simp only [cnt_append, cnt_cons, cnt_nil]; omega)
  clear hs3
  go_wp2_with fail
  go_loopw [5] (fun iv wr => ∃ (i : Nat) (n : Nd) (r : Rt) (A A2 : List Atom), iv = .int .i64 i ∧ i ≤ 50 ∧ NodA bn n A ∧ DnA bd r n.g n.boot A2 ∧ A10 n r i ∧ Sat W wr (A ++ (A2 ++ aW))) (fun iv _ => (50 - (intOf iv).toNat))
  case atStart => exact ⟨0, nd0, _, A, A2, rfl, by omega, hA, hA2, A10.start, hs4⟩
  case round =>
    clear hs4 hA hA2
    obtain ⟨i, n, r, A, A2, rfl, hi, hA, hA2, hst, hs⟩ := hrel
    have HST := Lib.hid hst
    have HA := Lib.hid hA
    have HA2 := Lib.hid hA2
    clear hst hA hA2
    have i0 : (0 : Int) ≤ i := by omega
    go_upto_region 6 with fail
    go_cut [26] (fun tv wx => tv = .bool (decide (i < xs.length ∧ i < 50)) ∧ Sat W wx (A ++ (A2 ++ aW)))
    case first =>
      by_cases hin : i < xs.length
      · have i1 : (i : Int) < xs.length := by omega
        by_cases hi25 : i < 50
        · have i2 : (i : Int) < 50 := by omega
          have hd : decide (i < xs.length ∧ i < 50) = true := decide_eq_true ⟨hin, hi25⟩
          go_wp2_with fail
          go_meet
          exact ⟨by rw [hd], hs⟩
        · have i2 : ¬ (i : Int) < 50 := by omega
          have hd : decide (i < xs.length ∧ i < 50) = false := decide_eq_false (fun h => hi25 h.2)
          go_wp2_with fail
          go_meet
          exact ⟨by rw [hd], hs⟩
      · have i1 : ¬ (i : Int) < xs.length := by omega
        have hd : decide (i < xs.length ∧ i < 50) = false := decide_eq_false (fun h => hin h.1)
        go_wp2_with fail
        go_meet
        exact ⟨by rw [hd], hs⟩
    case rest =>
    clear hs
    obtain ⟨rfl, hs⟩ := hcut
    by_cases hgo : i < xs.length ∧ i < 50
    case neg =>
      rw [decide_eq_false hgo]
      obtain ⟨bp, br, Aq, Ag, hq, hg, rfl⟩ := HA.out
      obtain ⟨bp2, br2, Aq2, Ag2, hq2, hg2, rfl⟩ := HA2.out
      have HQ := Lib.hid hq
      have HQ2 := Lib.hid hq2
      clear hq hg hq2 hg2
      go_wp2_with fail
      go_loopw [8, 9, 10] (fun kv bv ov wr => ∃ k : Nat, kv = .int .i64 k ∧ k ≤ 96 ∧ Sat W wr ((cellsA bn #[.pointer (some ⟨bp, 0, none⟩), .pointer (some ⟨br, 0, none⟩), .int .i64 n.boot] 64 :: (Aq ++ Ag)) ++ ((cellsA bd #[.pointer (some ⟨bp2, 0, none⟩), .pointer (some ⟨br2, 0, none⟩), .int .i64 n.boot] 50 :: (Aq2 ++ Ag2)) ++ aW))) (fun kv _ _ _ => (96 - (intOf kv).toNat))
      case atStart => exact ⟨0, rfl, by omega, hs⟩
      case round =>
        clear hs
        obtain ⟨k, rfl, hk, hs⟩ := hrel
        have k0 : (0 : Int) ≤ k := by omega
        by_cases hk96 : k < 96
        case neg =>
          have k1 : ¬ (k : Int) < 96 := by omega
          go_wp2_with fail
          go_ret
          exact ⟨rfl, HB.out _ hs.right.right⟩
        case pos =>
        have k1 : (k : Int) < 96 := by omega
        have k2 : k < n.q.now.length := by rw [HST.out.fit.ok.len]; exact hk96
        obtain ⟨l, hl⟩ : ∃ l, n.q.now[k]? = some l := ⟨_, List.getElem?_eq_getElem k2⟩
        have HSM := Lib.hid (HST.out.fit.ok.small l (List.mem_of_getElem? hl))
        have HPL := Lib.hid (node_platter bn bp br n [] W _ _ hs)
        have HRD := Lib.hid (fun w L (h : Sat W w (Aq ++ L)) => read_in bp n.q Aq k l W w L HQ.out h hl HSM.out)
        have HRF := Lib.hid (fun w L (h : Sat W w (Aq2 ++ L)) => ref_read_k bp2 r Aq2 k l W w L HQ2.out h (by rw [HST.out.al.now]; exact hl) (by rw [HST.out.al.pend]; have := HST.out.fit.ok.pend; omega))
        clear hl k2
        obtain ⟨CN, hCN⟩ : ∃ CN, CN = cellsA bn #[.pointer (some ⟨bp, 0, none⟩), .pointer (some ⟨br, 0, none⟩), .int .i64 n.boot] 64 := ⟨_, rfl⟩
        obtain ⟨CD, hCD⟩ : ∃ CD, CD = cellsA bd #[.pointer (some ⟨bp2, 0, none⟩), .pointer (some ⟨br2, 0, none⟩), .int .i64 n.boot] 50 := ⟨_, rfl⟩
        have HCN := Lib.hid hCN
        have HCD := Lib.hid hCD
        rw [← hCN, ← hCD] at hs
        have hs1 : Sat W wr (Aq ++ (CN :: (Ag ++ ((CD :: (Aq2 ++ Ag2)) ++ aW)))) := hs.use (by intro x; simp only [cnt_append, cnt_cons, cnt_nil]; omega)
        clear hCN hCD hs
        go_wp2_with fail
        refine HPL.out.mono ?_; rintro r9 w9 ⟨rfl, rfl⟩
        go_wp2_with fail
        refine (HRD.out _ _ hs1).mono ?_; rintro r9 w9 ⟨v, R, rfl, hv, hs2⟩
        obtain ⟨av, cv, rfl⟩ := Ch.RowA.slice hv
        have hsd := hs2.drew
        have HRF2 := Lib.hid (HRF.out _ _ (hsd.use (M := Aq2 ++ [CD]) (by intro x; simp only [cnt_append, cnt_cons, cnt_nil]; omega)))
        have HCV : (convert 35 9 (.slice av l.length cv)).run Tryz.prog w9.drew = .ok (.string (bsOf l)) w9.drew := str_of _ l w9.drew (hv.reads hsd)
        have HCV2 := Lib.hid HCV
        obtain ⟨ll, hll⟩ : ∃ ll, ll = l.length := ⟨_, rfl⟩
        rw [← hll] at HCV2
        obtain ⟨st, hst⟩ : ∃ st, st = bsOf l := ⟨_, rfl⟩
        rw [← hst] at HCV2 HRF2
        rw [← hll]
        have u0 : w9.drew.cell? ⟨bd, 0, none⟩ = some (.pointer (some ⟨bp2, 0, none⟩)) := by
          have := hsd.use (M := [CD]) (by intro x; simp only [cnt_append, cnt_cons, cnt_nil]; omega)
          rw [HCD.out] at this
          exact this.cell m0 0
        have hs3 : Sat W w9.drew ((CN :: (Aq ++ Ag)) ++ ((CD :: (Aq2 ++ Ag2)) ++ aW)) := hsd.use (by intro x; simp only [cnt_append, cnt_cons, cnt_nil]; omega)
        clear hs1 hs2 HCV hll hst hsd hv
        go_wp2_with fail
        refine wp_region_one [] [] [] [] [0, 1, 2, 3, 4, 5, 6, 7, 8, 9, 10, 11, 12] (by kernel_rfl) (by kernel_rfl) ?_
        repeat (first | (refine can_pu1 rfl rfl rfl rfl rfl rfl (fun K hK => ?_); go_big_quiet_op; refine hK _ ?_; clear hK K) | (refine can_st1 rfl rfl rfl rfl rfl rfl (fun K hK => ?_); go_big_quiet_op; refine hK _ ?_; clear hK K) | (refine can_early1 rfl rfl rfl rfl rfl (fun K hK => ?_); go_big_quiet_op; refine hK _ ?_; clear hK K) | (refine can_skip rfl rfl rfl ?_; simp only [Act.put, List.setIfInBounds_toArray, List.set_cons_zero, List.set_cons_succ]))
        refine can_early1 rfl rfl rfl rfl rfl (fun K hK => ?_)
        refine quiet_cv rfl rfl (fun y hy => by subst hy; exact HCV2.out) ?_
        refine hK _ ?_
        clear hK K
        simp only [Act.put, List.setIfInBounds_toArray, List.set_cons_zero, List.set_cons_succ]
        repeat (first | (refine can_pu1 rfl rfl rfl rfl rfl rfl (fun K hK => ?_); go_big_quiet_op; refine hK _ ?_; clear hK K) | (refine can_st1 rfl rfl rfl rfl rfl rfl (fun K hK => ?_); go_big_quiet_op; refine hK _ ?_; clear hK K) | (refine can_early1 rfl rfl rfl rfl rfl (fun K hK => ?_); go_big_quiet_op; refine hK _ ?_; clear hK K) | (refine can_skip rfl rfl rfl ?_; simp only [Act.put, List.setIfInBounds_toArray, List.set_cons_zero, List.set_cons_succ]))
        refine can_call1 rfl rfl rfl rfl (by (intro w; go_simp); (try (repeat' apply And.intro)); all_goals rfl) (HRF2.out.mono fun e w' h => ⟨h.1, h.2.symm⟩) ?_; simp only [Act.put, List.setIfInBounds_toArray, List.set_cons_zero, List.set_cons_succ]
        repeat (first | (refine can_pu1 rfl rfl rfl rfl rfl rfl (fun K hK => ?_); go_big_quiet_op; refine hK _ ?_; clear hK K) | (refine can_st1 rfl rfl rfl rfl rfl rfl (fun K hK => ?_); go_big_quiet_op; refine hK _ ?_; clear hK K) | (refine can_early1 rfl rfl rfl rfl rfl (fun K hK => ?_); go_big_quiet_op; refine hK _ ?_; clear hK K) | (refine can_skip rfl rfl rfl ?_; simp only [Act.put, List.setIfInBounds_toArray, List.set_cons_zero, List.set_cons_succ]))
        refine can_end1 ?_; (try simp only [Exit.then])
        go_wp2_with fail
        rw [HCN.out, HCD.out] at hs3
        refine ⟨⟨k + 1, by simp, by omega, hs3⟩, ?_⟩
        simp [intOf]
        omega
    case pos =>
    rw [decide_eq_true hgo]
    obtain ⟨hin, hi50⟩ := hgo
    have i1 : (i : Int) < xs.length := by omega
    have i2 : (i : Int) < 50 := by omega
    obtain ⟨x, hx⟩ : ∃ x, xs[i]? = some x := ⟨_, List.getElem?_eq_getElem hin⟩
    obtain ⟨b, o, ka, kn, kc, rfl, h0, h1, h2, h3, h4, h5, h6, h7, c8, c9⟩ := HA0.out i x hx
    have key : ∀ {p : Addr} {v : Value}, W.cell? p = some v → wc.cell? p = some v := fun {p v} hc => by
      rw [(HB.out wc hs.right.right).cell (World.block_lt_of_cell? _ _ hc), hc]
    have c0 := key h0
    have c1 := key h1
    have c2 := key h2
    have c3 := key h3
    have c4 := key h4
    have c5 := key h5
    have c6 := key h6
    have c7 := key h7
    obtain ⟨p0, p1⟩ := handPick_bounds x.what 14 (by omega)
    have hpk := fun w => hand_pick x.what 14 w (by omega) (by omega)
    have hkr : ∀ y, Sat W y aW → Reads y (.slice ka kn kc) x.keep.length (intsC x.keep) := fun y hy => HRK.out y hy _ _ _ c8
    obtain ⟨m, hm⟩ : ∃ m, m = handPick x.what 14 := ⟨_, rfl⟩
    rw [← hm] at hpk p0 p1
    obtain ⟨x0, x1, x2, x3, x4, x5, x6, x7⟩ := x
    simp only at c0 c1 c2 c3 c4 c5 c6 c7 c8 c9 hpk hkr
    have hs1 := hs.newCells #[.int .i64 x0, .int .i64 x1, .int .i64 x2, .int .i64 x3, .int .i64 x4, .int .i64 x5, .int .i64 x6, .slice ka kn kc] 32
    have HPK := Lib.hid hpk
    have HKR := Lib.hid hkr
    have HK9 := Lib.hid c9
    clear hpk hkr hm hx c8 c9 key h0 h1 h2 h3 h4 h5 h6 h7
    go_wp2_with fail
    refine (HPK.out _).mono ?_; rintro r2 w2 ⟨rfl, rfl⟩
    clear HPK
    obtain ⟨LL, hLL⟩ : ∃ LL, LL = cellsA wc.heap.size #[.int .i64 x0, .int .i64 x1, .int .i64 x2, .int .i64 x3, .int .i64 x4, .int .i64 x5, .int .i64 x6, .slice ka kn kc] 32 :: aW := ⟨_, rfl⟩
    have hs2 : Sat W (wc.alloc (.cells #[.int .i64 x0, .int .i64 x1, .int .i64 x2, .int .i64 x3, .int .i64 x4, .int .i64 x5, .int .i64 x6, .slice ka kn kc] 32)) (A ++ (A2 ++ LL)) := by rw [hLL]; exact hs1.use (by intro x; simp only [cnt_append, cnt_cons, cnt_nil]; omega)
    clear hs hs1 c0 c1 c2 c3 c4 c5 c6 c7
    generalize wc.heap.size = z6 at *
    refine with_sat hs2 ?_
    clear hs2
    intro w1 hs1
    have hm6 : cellsA z6 #[.int .i64 x0, .int .i64 x1, .int .i64 x2, .int .i64 x3, .int .i64 x4, .int .i64 x5, .int .i64 x6, .slice ka kn kc] 32 ∈ LL := by rw [hLL]; exact m0
    have HLL := Lib.hid hLL
    have HM6 := Lib.hid hm6
    have hmm := List.mem_append_right A (List.mem_append_right A2 hm6)
    have c1 : w1.cell? ⟨z6, 1, none⟩ = some (.int .i64 x1) := hs1.cell hmm 1
    have c2 : w1.cell? ⟨z6, 2, none⟩ = some (.int .i64 x2) := hs1.cell hmm 2
    have c3 : w1.cell? ⟨z6, 3, none⟩ = some (.int .i64 x3) := hs1.cell hmm 3
    have c4 : w1.cell? ⟨z6, 4, none⟩ = some (.int .i64 x4) := hs1.cell hmm 4
    have c5 : w1.cell? ⟨z6, 5, none⟩ = some (.int .i64 x5) := hs1.cell hmm 5
    have c6 : w1.cell? ⟨z6, 6, none⟩ = some (.int .i64 x6) := hs1.cell hmm 6
    have c7 : w1.cell? ⟨z6, 7, none⟩ = some (.slice ka kn kc) := hs1.cell hmm 7
    clear hLL hm6 hmm
    go_upto_block 2 with fail
    go_cut [] (fun wx => ∃ (n2 : Nd) (r2 : Rt) (A A2 : List Atom), NodA bn n2 A ∧ DnA bd r2 n2.g n2.boot A2 ∧ A10 n2 r2 (i + 1) ∧ Sat W wx (A ++ (A2 ++ aW)))
    case first =>
      by_cases hm12 : m = 12
      · subst hm12
        have hcr := node_crash bn i n A (.slice ka kn kc) x7 W w1 _ HA.out hs1 (fun y hy => HKR.out y (by have := hy.right; rw [HLL.out] at this; exact this.tail)) (lt_of_max HK9.out) HST.out.fit.ok (by omega)
        have HCR := Lib.hid hcr
        clear hcr
        go_wp2_with fail
        refine HCR.out.mono ?_; rintro r2 w2 ⟨A', rfl, hA', hs2⟩
        have hcr := refnode_crash bd i n r n.g A2 (.slice ka kn kc) x7 W w2 (A' ++ LL) HA2.out HST.out.al (hs2.use (by intro x; simp only [cnt_append, cnt_cons, cnt_nil]; omega)) (fun y hy => HKR.out y (by have := hy.right; rw [HLL.out] at this; exact this.tail)) (lt_of_max HK9.out) HST.out.fit.ok (by omega)
        have HCR2 := Lib.hid hcr
        have c7' : w2.cell? ⟨z6, 7, none⟩ = some (.slice ka kn kc) := hs2.cell (List.mem_append_right A' (List.mem_append_right A2 HM6.out)) 7
        clear hcr c1 c2 c3 c4 c5 c6 c7 hs1
        go_wp2_with fail
        refine HCR2.out.mono ?_; rintro r2 w3 ⟨A2', rfl, hA2', hs3⟩
        go_wp2_with fail
        go_meet
        rw [HLL.out] at hs3
        exact ⟨n.crash x7, r.crash x7, A', A2', hA', hA2', HST.out.crash x7, hs3.use (by intro x; simp only [cnt_append, cnt_cons, cnt_nil]; omega)⟩
      by_cases hm13 : m = 13
      · subst hm13
        by_cases hb : x6.tmod 4 = 0
        · have hcr := node_lose bn i n A W w1 _ HA.out hs1 HST.out.fit.ok (by omega)
          have HCR := Lib.hid hcr
          clear hcr
          go_wp2_with fail
          refine HCR.out.mono ?_; rintro r2 w2 ⟨A', rfl, hA', hs2⟩
          have hcr := refnode_lose bd i n r n.g A2 W w2 (A' ++ LL) HA2.out HST.out.al (hs2.use (by intro x; simp only [cnt_append, cnt_cons, cnt_nil]; omega)) HST.out.fit.ok (by omega)
          have HCR2 := Lib.hid hcr
          clear hcr c1 c2 c3 c4 c5 c6 c7 hs1
          go_wp2_with fail
          refine HCR2.out.mono ?_; rintro r2 w3 ⟨A2', rfl, hA2', hs3⟩
          go_wp2_with fail
          go_meet
          rw [HLL.out] at hs3
          exact ⟨n.lose, r.wipe, A', A2', hA', hA2', HST.out.lose, hs3.use (by intro x; simp only [cnt_append, cnt_cons, cnt_nil]; omega)⟩
        · have hb' : (x6.tmod 4 == 0) = false := by simpa using hb
          go_wp2_with fail
          go_meet
          rw [HLL.out] at hs1
          exact ⟨n, r, A, A2, HA.out, HA2.out, HST.out.mono, hs1.use (by intro x; simp only [cnt_append, cnt_cons, cnt_nil]; omega)⟩
      have q12 : (m == 12) = false := by simpa using hm12
      have q13 : (m == 13) = false := by simpa using hm13
      have HRQ := Lib.hid (hand_req x1 x2 x3 x4 x5 x6 W w1 _ hs1)
      clear hs1
      go_wp2_with fail
      refine HRQ.out.mono ?_; rintro r2 w2 ⟨⟨qk, qs, qg, qi, qd⟩, v, R, rfl, hv, hs2⟩
      obtain ⟨av, cv, rfl⟩ := Ch.RowA.slice hv
      simp only at hv
      unfold rqV
      simp only
      have HV := Lib.hid hv
      clear HRQ c1 c2 c3 c4 c5 c6 c7 hv
      obtain ⟨dl, hdl⟩ : ∃ dl, dl = qd.length := ⟨_, rfl⟩
      have HDL := Lib.hid hdl
      rw [← hdl]
      clear hdl
      have hs3 := hs2.newCells #[.int .i64 qk, .int .i64 qs, .int .i64 qg, .int .i64 qi, .slice av dl cv] 37
      clear hs2
      go_upto_region 11 with fail
      generalize w2.heap.size = z7 at *
      refine with_sat hs3 ?_
      clear hs3
      intro w3 hs3
      obtain ⟨LH, hLH⟩ : ∃ LH, LH = cellsA z7 #[.int .i64 qk, .int .i64 qs, .int .i64 qg, .int .i64 qi, .slice av dl cv] 37 :: (R ++ LL) := ⟨_, rfl⟩
      have HLH := Lib.hid hLH
      have hs4 : Sat W w3.drew (A ++ (A2 ++ LH)) := by rw [hLH]; exact hs3.drew.use (by intro x; simp only [cnt_append, cnt_cons, cnt_nil]; omega)
      have hm7 : cellsA z7 #[.int .i64 qk, .int .i64 qs, .int .i64 qg, .int .i64 qi, .slice av dl cv] 37 ∈ LH := by rw [hLH]; exact m0
      have d0 : ∀ y : Of W LH, y.v.cell? ⟨z7, 0, none⟩ = some (.int .i64 qk) := fun y => y.s.cell hm7 0
      have d1 : ∀ y : Of W LH, y.v.cell? ⟨z7, 1, none⟩ = some (.int .i64 qs) := fun y => y.s.cell hm7 1
      have d2 : ∀ y : Of W LH, y.v.cell? ⟨z7, 2, none⟩ = some (.int .i64 qg) := fun y => y.s.cell hm7 2
      have d3 : ∀ y : Of W LH, y.v.cell? ⟨z7, 3, none⟩ = some (.int .i64 qi) := fun y => y.s.cell hm7 3
      have d4 : ∀ y : Of W LH, y.v.cell? ⟨z7, 4, none⟩ = some (.slice av dl cv) := fun y => y.s.cell hm7 4
      have HRD := Lib.hid (show ∀ y, Sat W y LH → Reads y (.slice av qd.length cv) qd.length (bts qd) from fun y hy => by
        rw [hLH] at hy
        exact HV.out.reads hy.tail)
      have hd := do_any bn i n A ⟨qk, qs, qg, qi, qd⟩ av cv W w3.drew (A2 ++ LH) HA.out hs4 (fun y hy => HRD.out y hy.right) HST.out.fit (by omega)
      unfold rqV at hd
      simp only at hd
      rw [← HDL.out] at hd
      have HD := Lib.hid hd
      have hsT := hs4.right.right
      clear hd hs3 hs4 hLH hm7
      have hne : Nonempty (Of W LH) := ⟨⟨_, hsT⟩⟩
      have e0 : w3.drew.cell? ⟨z7, 0, none⟩ = some (.int .i64 qk) := d0 ⟨_, hsT⟩
      have e1 : w3.drew.cell? ⟨z7, 1, none⟩ = some (.int .i64 qs) := d1 ⟨_, hsT⟩
      have e2 : w3.drew.cell? ⟨z7, 2, none⟩ = some (.int .i64 qg) := d2 ⟨_, hsT⟩
      have e3 : w3.drew.cell? ⟨z7, 3, none⟩ = some (.int .i64 qi) := d3 ⟨_, hsT⟩
      have e4 : w3.drew.cell? ⟨z7, 4, none⟩ = some (.slice av dl cv) := d4 ⟨_, hsT⟩
      go_wp2_with fail
      refine wp_region_held1 [2, 5, 6] [3, 4] [3] [2] [0, 1, 3, 4, 2, 5, 6, 7] (Held W LH) (by kernel_rfl) (by kernel_rfl) ?_ ?_
      · exact Held.mk hsT
      repeat (first | (refine can_pu1 rfl rfl rfl rfl rfl rfl (fun K hK => ?_); go_big_quiet_op; refine hK _ ?_; clear hK K) | (refine can_st1 rfl rfl rfl rfl rfl rfl (fun K hK => ?_); go_big_quiet_op; refine hK _ ?_; clear hK K) | (refine can_early1 rfl rfl rfl rfl rfl (fun K hK => ?_); go_big_quiet_op; refine hK _ ?_; clear hK K) | (refine can_skip rfl rfl rfl ?_; simp only [Act.put, List.setIfInBounds_toArray, List.set_cons_zero, List.set_cons_succ]))
      clear d0 d1 d2 d3 d4 e0 e1 e2 e3 e4 hne hsT
      refine can_actS rfl rfl rfl rfl (fun K hK => ?_)
      go_wp2_with fail
      refine HD.out.mono ?_; rintro r9 w4 ⟨n1, p1, pv1, iv1, A', R1, rfl, hd1, hrep1, hA', hs5⟩
      apply hK
      refine ⟨Held.mk hs5.right.right.right, ?_⟩
      clear hK HD
      have hd2 := refdo_any bd i n r A2 ⟨qk, qs, qg, qi, qd⟩ av cv W w4 (A' ++ (R1 ++ LH)) HA2.out HST.out.al (hs5.use (by intro x; simp only [cnt_append, cnt_cons, cnt_nil]; omega)) (fun y hy => HRD.out y hy.right.right) HST.out.fit (by omega)
      unfold rqV at hd2
      simp only at hd2
      rw [← HDL.out] at hd2
      have HD2 := Lib.hid hd2
      have HDR := Lib.hid hd1
      have HRP := Lib.hid hrep1
      have HA' := Lib.hid hA'
      clear hs5 hd2 hd1 hrep1 hA'
      repeat (first | (refine can_pu1 rfl rfl rfl rfl rfl rfl (fun K hK => ?_); go_big_quiet_op; refine hK _ ?_; clear hK K) | (refine can_st1 rfl rfl rfl rfl rfl rfl (fun K hK => ?_); go_big_quiet_op; refine hK _ ?_; clear hK K) | (refine can_early1 rfl rfl rfl rfl rfl (fun K hK => ?_); go_big_quiet_op; refine hK _ ?_; clear hK K) | (refine can_skip rfl rfl rfl ?_; simp only [Act.put, List.setIfInBounds_toArray, List.set_cons_zero, List.set_cons_succ]))
      refine can_actF rfl rfl rfl rfl (fun K hK => ?_)
      go_wp2_with fail
      refine HD2.out.mono ?_; rintro r9 w5 ⟨n2, p2, r2, pv2, iv2, A2', R2, rfl, hd2, hrep2, hA2', hal, hs6⟩
      obtain ⟨rfl, rfl⟩ := doR_fun HST.out.num.sd HDR.out hd2
      apply hK
      obtain ⟨hpl, hil⟩ := hd2.small HST.out.fit.slen
      have hsr := same_rep p1 n.boot pv1 iv1 pv2 iv2 R1 R2 (A2' ++ (A' ++ LH)) A2' W w5 [] HRP.out hrep2 (hs6.use (by intro x; simp only [cnt_append, cnt_cons, cnt_nil]; omega)) (fun x hx => List.mem_append_left _ hx) hpl hil
      have HSR := Lib.hid hsr
      have HNX := Lib.hid (HST.out.do_ hd2 hal)
      clear hK HD2 hd2 hrep2 hs6 hpl hil hsr
      repeat (first | (refine can_pu1 rfl rfl rfl rfl rfl rfl (fun K hK => ?_); go_big_quiet_op; refine hK _ ?_; clear hK K) | (refine can_st1 rfl rfl rfl rfl rfl rfl (fun K hK => ?_); go_big_quiet_op; refine hK _ ?_; clear hK K) | (refine can_early1 rfl rfl rfl rfl rfl (fun K hK => ?_); go_big_quiet_op; refine hK _ ?_; clear hK K) | (refine can_skip rfl rfl rfl ?_; simp only [Act.put, List.setIfInBounds_toArray, List.set_cons_zero, List.set_cons_succ]))
      refine can_actF rfl rfl rfl rfl (fun K hK => ?_)
      go_wp2_with fail
      refine HSR.out.mono ?_; rintro r9 w6 ⟨rfl, hs7⟩
      apply hK
      clear hK HSR
      repeat (first | (refine can_pu1 rfl rfl rfl rfl rfl rfl (fun K hK => ?_); go_big_quiet_op; refine hK _ ?_; clear hK K) | (refine can_st1 rfl rfl rfl rfl rfl rfl (fun K hK => ?_); go_big_quiet_op; refine hK _ ?_; clear hK K) | (refine can_early1 rfl rfl rfl rfl rfl (fun K hK => ?_); go_big_quiet_op; refine hK _ ?_; clear hK K) | (refine can_skip rfl rfl rfl ?_; simp only [Act.put, List.setIfInBounds_toArray, List.set_cons_zero, List.set_cons_succ]))
      refine can_end1 ?_; (try simp only [Exit.then])
      go_wp2_with fail
      go_meet
      rw [HLH.out, HLL.out] at hs7
      exact ⟨n1, r2, A', A2', HA'.out, hA2', HNX.out, hs7.use (by intro x; simp only [cnt_append, cnt_cons, cnt_nil]; omega)⟩
    case rest =>
    obtain ⟨n2, r2, A3, A4, hA3, hA4, hst2, hs⟩ := hcut
    have HST2 := Lib.hid hst2
    obtain ⟨bp, br, Aq, Ag, hq, hg, rfl⟩ := hA3
    obtain ⟨bp2, br2, Aq2, Ag2, hq2, hg2, rfl⟩ := hA4
    have hsd := hs.drew
    have hq2' := hq2
    obtain ⟨vd, vp, Rd, Rp, rfl, hrd, hrp⟩ := hq2'
    have hmd : cellsA bd #[.pointer (some ⟨bp2, 0, none⟩), .pointer (some ⟨br2, 0, none⟩), .int .i64 n2.boot] 50 ∈ (cellsA bn #[.pointer (some ⟨bp, 0, none⟩), .pointer (some ⟨br, 0, none⟩), .int .i64 n2.boot] 64 :: (Aq ++ Ag)) ++ ((cellsA bd #[.pointer (some ⟨bp2, 0, none⟩), .pointer (some ⟨br2, 0, none⟩), .int .i64 n2.boot] 50 :: ((cellsA bp2 #[vd, vp, .int .i64 r2.writes] 56 :: (Rd ++ Rp)) ++ Ag2)) ++ aW) := List.mem_append_right _ (List.mem_append_left _ (.head _))
    have hmp : cellsA bp2 #[vd, vp, .int .i64 r2.writes] 56 ∈ (cellsA bn #[.pointer (some ⟨bp, 0, none⟩), .pointer (some ⟨br, 0, none⟩), .int .i64 n2.boot] 64 :: (Aq ++ Ag)) ++ ((cellsA bd #[.pointer (some ⟨bp2, 0, none⟩), .pointer (some ⟨br2, 0, none⟩), .int .i64 n2.boot] 50 :: ((cellsA bp2 #[vd, vp, .int .i64 r2.writes] 56 :: (Rd ++ Rp)) ++ Ag2)) ++ aW) := List.mem_append_right _ (List.mem_append_left _ (.tail _ (List.mem_append_left _ (.head _))))
    have u2 := hsd.cell hmd 2
    have u0 := hsd.cell hmd 0
    have u3 := hsd.cell hmp 2
    have HBT := Lib.hid (node_boot bn n2 _ W _ _ ⟨bp, br, Aq, Ag, hq, hg, rfl⟩ hsd)
    have HPL := Lib.hid (node_platter bn bp br n2 [] W _ _ hsd)
    have HWR := Lib.hid (plat_writes bp n2.q Aq W _ _ hq (Sat.use (M := Aq ++ []) hsd (by intro x; simp only [cnt_append, cnt_cons, cnt_nil]; omega)))
    have hwr2 : r2.writes = n2.q.writes := HST2.out.al.writes
    rw [hwr2] at u3
    have HNA := Lib.hid (show NodA bn n2 _ from ⟨bp, br, Aq, Ag, hq, hg, rfl⟩)
    have HDA := Lib.hid (show DnA bd r2 n2.g n2.boot _ from ⟨bp2, br2, _, Ag2, hq2, hg2, rfl⟩)
    clear hmd hmp hwr2 hq hg hrd hrp hst2 hq2 hg2
    go_wp2_with fail
    refine wp_region_one [] [] [] [] [0, 1, 2, 3, 4, 5, 6, 7, 8, 9, 10, 11, 12, 13, 14, 15, 16, 17, 18, 19, 20, 21, 22, 23, 24] (by kernel_rfl) (by kernel_rfl) ?_
    repeat (first | (refine can_pu1 rfl rfl rfl rfl rfl rfl (fun K hK => ?_); go_big_quiet_op; refine hK _ ?_; clear hK K) | (refine can_st1 rfl rfl rfl rfl rfl rfl (fun K hK => ?_); go_big_quiet_op; refine hK _ ?_; clear hK K) | (refine can_early1 rfl rfl rfl rfl rfl (fun K hK => ?_); go_big_quiet_op; refine hK _ ?_; clear hK K) | (refine can_skip rfl rfl rfl ?_; simp only [Act.put, List.setIfInBounds_toArray, List.set_cons_zero, List.set_cons_succ]))
    refine can_call1 rfl rfl rfl rfl (by (intro w; go_simp); (try (repeat' apply And.intro)); all_goals rfl) (HBT.out.mono fun e w' h => ⟨h.1, h.2.symm⟩) ?_; simp only [Act.put, List.setIfInBounds_toArray, List.set_cons_zero, List.set_cons_succ]
    repeat (first | (refine can_pu1 rfl rfl rfl rfl rfl rfl (fun K hK => ?_); go_big_quiet_op; refine hK _ ?_; clear hK K) | (refine can_st1 rfl rfl rfl rfl rfl rfl (fun K hK => ?_); go_big_quiet_op; refine hK _ ?_; clear hK K) | (refine can_early1 rfl rfl rfl rfl rfl (fun K hK => ?_); go_big_quiet_op; refine hK _ ?_; clear hK K) | (refine can_skip rfl rfl rfl ?_; simp only [Act.put, List.setIfInBounds_toArray, List.set_cons_zero, List.set_cons_succ]))
    refine can_call1 rfl rfl rfl rfl (by (intro w; go_simp); (try (repeat' apply And.intro)); all_goals rfl) (HPL.out.mono fun e w' h => ⟨h.1, h.2.symm⟩) ?_; simp only [Act.put, List.setIfInBounds_toArray, List.set_cons_zero, List.set_cons_succ]
    repeat (first | (refine can_pu1 rfl rfl rfl rfl rfl rfl (fun K hK => ?_); go_big_quiet_op; refine hK _ ?_; clear hK K) | (refine can_st1 rfl rfl rfl rfl rfl rfl (fun K hK => ?_); go_big_quiet_op; refine hK _ ?_; clear hK K) | (refine can_early1 rfl rfl rfl rfl rfl (fun K hK => ?_); go_big_quiet_op; refine hK _ ?_; clear hK K) | (refine can_skip rfl rfl rfl ?_; simp only [Act.put, List.setIfInBounds_toArray, List.set_cons_zero, List.set_cons_succ]))
    refine can_call1 rfl rfl rfl rfl (by (intro w; go_simp); (try (repeat' apply And.intro)); all_goals rfl) (HPL.out.mono fun e w' h => ⟨h.1, h.2.symm⟩) ?_; simp only [Act.put, List.setIfInBounds_toArray, List.set_cons_zero, List.set_cons_succ]
    repeat (first | (refine can_pu1 rfl rfl rfl rfl rfl rfl (fun K hK => ?_); go_big_quiet_op; refine hK _ ?_; clear hK K) | (refine can_st1 rfl rfl rfl rfl rfl rfl (fun K hK => ?_); go_big_quiet_op; refine hK _ ?_; clear hK K) | (refine can_early1 rfl rfl rfl rfl rfl (fun K hK => ?_); go_big_quiet_op; refine hK _ ?_; clear hK K) | (refine can_skip rfl rfl rfl ?_; simp only [Act.put, List.setIfInBounds_toArray, List.set_cons_zero, List.set_cons_succ]))
    refine can_call1 rfl rfl rfl rfl (by (intro w; go_simp); (try (repeat' apply And.intro)); all_goals rfl) (HWR.out.mono fun e w' h => ⟨h.1, h.2.symm⟩) ?_; simp only [Act.put, List.setIfInBounds_toArray, List.set_cons_zero, List.set_cons_succ]
    repeat (first | (refine can_pu1 rfl rfl rfl rfl rfl rfl (fun K hK => ?_); go_big_quiet_op; refine hK _ ?_; clear hK K) | (refine can_st1 rfl rfl rfl rfl rfl rfl (fun K hK => ?_); go_big_quiet_op; refine hK _ ?_; clear hK K) | (refine can_early1 rfl rfl rfl rfl rfl (fun K hK => ?_); go_big_quiet_op; refine hK _ ?_; clear hK K) | (refine can_skip rfl rfl rfl ?_; simp only [Act.put, List.setIfInBounds_toArray, List.set_cons_zero, List.set_cons_succ]))
    refine can_end1 ?_; (try simp only [Exit.then])
    go_wp2_with fail
    refine ⟨⟨i + 1, n2, r2, _, _, by simp, by omega, HNA.out, HDA.out, HST2.out, hsd⟩, ?_⟩
    simp [intOf]
    omega
theorem acts10_law (v : Value) (xs : List Act10R) (W : World) (h : ∃ a c, v = .slice a xs.length c ∧ Acts10 W a xs) (_ : xs.length ≤ maxLen) :
    Calls Tryz.prog 3 #[v] W fun e w' => e = .returned (.bool true) ∧ Below W.heap.size W w' := by
  obtain ⟨a, c, rfl, ha⟩ := h
  exact acts10_walk a c xs W ha
end Go.Proofs.YtekbbpfnkbanjaaGreat.Ch
