
/-
  WireDown: the walk.
-/
import Derived.Test.YtekbbpfnkbanjaaGreatDoorMI
import Derived.Test.YtekbbpfnkbanjaaGreatDoorMS
import Derived.Deep.DeepCutAuto
import Derived.Deep.CutBlock
namespace Go.Proofs.YtekbbpfnkbanjaaGreatDoor.Ch
set_option linter.unusedSimpArgs false
open Go Go.RowKit Go.Sl Go.BigFrame
set_option linter.unusedVariables false

theorem below12 {W w : World} (h : Sat W w (allOf W)) : Below W.heap.size W w := Sat.below_all (L := []) h
theorem errT12 {W w : World} (h : Below W.heap.size W w) (hG : Ca.ErrT W) : Ca.ErrT w := by
  unfold Ca.ErrT at hG ⊢
  rw [h.cell (World.block_lt_of_cell? _ _ hG), hG]
theorem wboot_any {b k nb : Nat} {nd : Nd} {x : Wr} {A L : List Atom} {W w : World} (hx : WrA b x A) (hs : Sat W w (A ++ L)) (hk : x.ns[k]? = some (nb, nd)) :
    Calls Tryz.prog 20 #[.pointer (some ⟨nb, 0, none⟩)] w fun e w' => e = .returned (.int .i64 nd.boot) ∧ w = w' := by
  obtain ⟨fv, Rf, An, hf, hn, h8, hd, rfl⟩ := hx
  obtain ⟨A1, Ar, hN, hcn, _⟩ := WrA.node hn hk
  exact node_boot nb nd A1 W w (cellsA b (wrC fv x) 64 :: (Rf ++ (Ar ++ L))) hN (hs.use (by intro y; simp only [cnt_append, cnt_cons, cnt_nil]; have := hcn y; omega))
/-- What the map of those that are down holds. -/
def DownF (f : Value → Option Value) (D : List Bool) : Prop := ∀ (k : Nat) (d : Bool), D[k]? = some d → (f (.int .i64 k)).getD (.bool false) = .bool d
theorem DownF.start : DownF (fun _ => none) (List.replicate 8 false) := fun k d h => by
  rw [List.getElem?_replicate] at h
  split at h
  · cases h; rfl
  · cases h
theorem DownF.set {f : Value → Option Value} {D : List Bool} (h : DownF f D) (k : Nat) : DownF (updV f (.int .i64 k) (.bool true)) (D.set k true) := fun j d hj => by
  by_cases e : j = k
  · subst e
    rw [updV_same]
    rw [List.getElem?_set] at hj
    simp only [if_true] at hj
    split at hj
    · cases hj; rfl
    · cases hj
  · rw [updV_other _ _ (fun h => e (by injection h with _ h; omega))]
    rw [List.getElem?_set_ne (fun h => e h.symm)] at hj
    exact h j d hj
theorem try_down {k t : Nat} {q : Rq} {x x' : Wr} {r : WR} (hk : x.down[k]? = some true) (h : TryR k q (t + 1) x x' r) : x' = x ∧ r = .err 4 := by
  rcases h with ⟨_, h⟩ | ⟨_, h, _⟩ | ⟨_, h, _⟩
  · exact h
  · rw [hk] at h; cases h
  · rw [hk] at h; cases h
theorem NdFit.flu {n : Nd} {i : Nat} (h : NdFit n i) : NdFit n.flu i := ⟨h.ok.fl, h.slen, h.sok, h.n0, h.n1⟩
theorem power_fit {x : Wr} {m k b : Nat} {n : Nd} (hf : WrFit x m) (hk : x.ns[k]? = some (b, n)) : WrFit (x.tick.put k b (n.crash []).flu) (m + 1) :=
  put_fit hf.tick (by omega) ((hf.nodes _ (List.mem_of_getElem? hk)).crash []).flu
theorem WrFit.down {x : Wr} {m : Nat} (h : WrFit x m) (D : List Bool) : WrFit { x with down := D } m := ⟨h.nodes, h.fates, h.f0, h.f1, h.s0, h.s1⟩

set_option maxRecDepth 100000 in
set_option maxHeartbeats 16000000 in
theorem down_walk (v : Value) (ds : List Int) (W : World) (hv : ∀ y, Below W.heap.size W y → Reads y v ds.length (intsC ds)) (hG : Ca.ErrT W) :
    Calls Tryz.prog 4 #[v] W fun e w' => e = .returned (.bool true) ∧ Below W.heap.size W w' := by
  obtain ⟨a, c, rfl⟩ := reads_shape (hv W (Below.refl _ W))
  have hs0 := allOf_sat W
  have HB := Lib.hid (fun w' (h : Sat W w' (allOf W)) => below12 h)
  have HV := Lib.hid (fun y (h : Sat W y (allOf W)) => hv y (below12 h))
  have HG := Lib.hid (fun y (h : Sat W y (allOf W)) => errT12 (below12 h) hG)
  clear hv hG
  generalize allOf W = aW at *
  have HN := Lib.hid (wnew_any W W aW hs0)
  clear hs0
  have hmm := @run_makeMap Tryz.prog
  go_enter Tryz.func4, Tryz.ntmps4
  go_wp2_with fail
  refine HN.out.mono ?_; rintro r w1 ⟨b, ps, A, rfl, hpl, hall, hA, hs1⟩
  clear HN
  have HPL := Lib.hid hpl
  have HALL := Lib.hid hall
  clear hpl hall
  go_wp2_with fail
  refine (known12_any W _ _ hs1 (fun y hy => HG.out y hy.right)).mono ?_; rintro r w2 ⟨rfl, hs2⟩
  clear hs1
  have hs3 := newMap_sl hs2 (.int .i64)
  clear hs2
  go_wp2_with fail
  clear hmm
  generalize w2.heap.size = m at *
  go_loopw [5] (fun iv wr => ∃ (i : Nat) (D : List Bool) (f : Value → Option Value) (cn : Nat) (A : List Atom), iv = .int .i64 i ∧ i ≤ 7 ∧ D.length = 8 ∧ DownF f D ∧ WrA b { wr0 ps with down := D } A ∧ Sat W wr (mapA m (.int .i64) f cn :: (A ++ aW))) (fun iv _ => (7 - (intOf iv).toNat))
  case atStart => exact ⟨0, _, _, 0, A, rfl, by omega, List.length_replicate, DownF.start, hA, hs3⟩
  case round =>
    clear hs3 hA
    obtain ⟨i, D, f, cn, A, rfl, hi, hD, hDF, hA, hs⟩ := hrel
    have HD := Lib.hid hD
    have HDF := Lib.hid hDF
    have HA := Lib.hid hA
    clear hD hDF hA
    have i0 : (0 : Int) ≤ i := by omega
    go_upto_region 6 with fail
    go_cut [29] (fun tv wx => tv = .bool (decide (i < ds.length ∧ i < 7)) ∧ Sat W wx (mapA m (.int .i64) f cn :: (A ++ aW)))
    case first =>
      by_cases hin : i < ds.length
      · have i1 : (i : Int) < ds.length := by omega
        by_cases hi7 : i < 7
        · have i2 : (i : Int) < 7 := by omega
          have hd : decide (i < ds.length ∧ i < 7) = true := decide_eq_true ⟨hin, hi7⟩
          go_wp2_with fail
          go_meet
          exact ⟨by rw [hd], hs⟩
        · have i2 : ¬ (i : Int) < 7 := by omega
          have hd : decide (i < ds.length ∧ i < 7) = false := decide_eq_false (fun h => hi7 h.2)
          go_wp2_with fail
          go_meet
          exact ⟨by rw [hd], hs⟩
      · have i1 : ¬ (i : Int) < ds.length := by omega
        have hd : decide (i < ds.length ∧ i < 7) = false := decide_eq_false (fun h => hin h.1)
        go_wp2_with fail
        go_meet
        exact ⟨by rw [hd], hs⟩
    case rest =>
    clear hs
    obtain ⟨rfl, hs⟩ := hcut
    by_cases hgo : i < ds.length ∧ i < 7
    case pos =>
      rw [decide_eq_true hgo]
      obtain ⟨hin, hi7⟩ := hgo
      have i1 : (i : Int) < ds.length := by omega
      have i2 : (i : Int) < 7 := by omega
      obtain ⟨d, hd⟩ : ∃ d, ds[i]? = some d := ⟨_, List.getElem?_eq_getElem hin⟩
      rcases HV.out wc hs.tail.right with ⟨_, hz, _⟩ | ⟨a', c', e1, hc⟩
      · omega
      cases e1
      have d0 : wc.cell? (a'.add i) = some (.int .i64 d) := hc i _ (intsC_get hd)
      obtain ⟨p1, p2⟩ := handPick_bounds d 8 (by omega)
      obtain ⟨k, hk⟩ : ∃ k : Nat, handPick d 8 = k := ⟨(handPick d 8).toNat, by omega⟩
      have HPK := Lib.hid (hand_pick d 8 wc (by omega) (by omega))
      have HK := Lib.hid hk
      have hk8 : k < 8 := by omega
      clear hc hd hk p1 p2
      go_wp2_with fail
      refine HPK.out.mono ?_; rintro r wq ⟨rfl, rfl⟩
      rw [HK.out]
      clear HPK d0
      obtain ⟨w3, hr3, hs3⟩ := mapUpdate_sl (P := Tryz.prog) (t := 53) (key := .int .i64 k) hs Tryz.underlying53 Tryz.underlying3 rfl (.bool true)
      generalize (if (f (.int .i64 k)).isSome = true then cn else cn + 1) = cn' at hs3
      clear hs
      go_wp2_with fail
      refine (wdown_in true HA.out (Sat.use (M := A ++ (mapA m (.int .i64) (updV f (.int .i64 k) (.bool true)) cn' :: aW)) hs3 (by intro x; simp only [cnt_append, cnt_cons, cnt_nil]; omega)) hk8).mono ?_; rintro r w4 ⟨A4, rfl, hA4, hs4⟩
      clear hs3 hr3
      go_wp2_with fail
      refine ⟨⟨i + 1, D.set k true, _, cn', A4, by simp, by omega, by rw [List.length_set]; exact HD.out, HDF.out.set k, hA4, hs4.use (by intro x; simp only [cnt_append, cnt_cons, cnt_nil]; omega)⟩, ?_⟩
      simp [intOf]
      omega
    case neg =>
      rw [decide_eq_false hgo]
      have HF0 := Lib.hid ((fit0 HALL.out [] (by simp)).down D)
      clear hgo hi i0
      go_wp2_with fail
      go_loopw [7] (fun nv wr => ∃ (n : Nat) (ns : List (Nat × Nd)) (D' : List Bool) (sent : Int) (A : List Atom), nv = .int .i64 n ∧ n ≤ 8 ∧ (∀ k : Nat, n ≤ k → D'[k]? = D[k]?) ∧ WrFit ⟨ns, D', [], -1, false, sent⟩ (4 * n) ∧ WrA b ⟨ns, D', [], -1, false, sent⟩ A ∧ Sat W wr (mapA m (.int .i64) f cn :: (A ++ aW))) (fun nv _ => (8 - (intOf nv).toNat))
      case atStart => exact ⟨0, ps, D, 0, A, rfl, by omega, fun _ _ => rfl, HF0.out, HA.out, hs⟩
      case round =>
        clear hs HA HF0
        obtain ⟨n, ns, D', sent, A, rfl, hn, hDD, hfit, hA, hs⟩ := hrel
        have n0 : (0 : Int) ≤ n := by omega
        by_cases hn8 : n < 8
        case neg =>
          obtain rfl : n = 8 := by omega
          go_wp2_with fail
          go_ret
          exact ⟨rfl, HB.out _ hs.tail.right⟩
        case pos =>
        have n1 : (n : Int) < 8 := by omega
        obtain ⟨h8, hd8⟩ := hA.shape
        simp only at h8 hd8
        obtain ⟨⟨nb, nd⟩, hnk⟩ : ∃ p, ns[n]? = some p := ⟨_, List.getElem?_eq_getElem (by omega)⟩
        obtain ⟨dd, hdd⟩ : ∃ dd, D'[n]? = some dd := ⟨_, List.getElem?_eq_getElem (by omega)⟩
        have HLU := Lib.hid (HDF.out n dd (by rw [← hDD n (Nat.le_refl _)]; exact hdd))
        have HDD := Lib.hid hDD
        have HFIT := Lib.hid hfit
        have HA := Lib.hid hA
        have HNK := Lib.hid hnk
        have HDN := Lib.hid hdd
        clear hDD hfit hA hnk hdd h8 hd8
        have hsA := Sat.use (M := A ++ (mapA m (.int .i64) f cn :: aW)) hs (by intro x; simp only [cnt_append, cnt_cons, cnt_nil]; omega)
        clear hs
        have HSA := Lib.hid hsA
        have hsB := hsA.newCells #[.int .i64 3] 3
        have hsC := Sat.use (M := A ++ (cellsA wr.heap.size #[.int .i64 3] 3 :: (mapA m (.int .i64) f cn :: aW))) hsB (by intro x; simp only [cnt_append, cnt_cons, cnt_nil]; omega)
        have HFA := Lib.hid (wfates_any (b := b) (x := ⟨ns, D', [], -1, false, sent⟩) [3] (some ⟨wr.heap.size, 0, none⟩) 1 HA.out hsC (fun y hy => reads_cells hy m0 _ _ _ rfl) (by simp) (by simp))
        clear hsA hsB hsC
        go_wp2_with fail
        refine (wsent_any HA.out HSA.out).mono ?_; rintro r wq ⟨rfl, rfl⟩
        go_wp2_with fail
        refine (wnode_in HA.out HSA.out HNK.out).mono ?_; rintro r wq ⟨rfl, rfl⟩
        go_wp2_with fail
        refine (wboot_any HA.out HSA.out HNK.out).mono ?_; rintro r wq ⟨rfl, rfl⟩
        go_wp2_with fail
        refine HFA.out.mono ?_; rintro r w2 ⟨A2, rfl, hA2, hs2⟩
        clear HFA HSA
        have HF2 := Lib.hid (⟨HFIT.out.nodes, by simp, HFIT.out.f0, HFIT.out.f1, HFIT.out.s0, HFIT.out.s1⟩ : WrFit ⟨ns, D', [] ++ [3], -1, false, sent⟩ (4 * n))
        go_wp2_with fail
        refine (wcall_flush (4 * n) b n n _ A2 W _ _ rfl hA2 hs2 hn8 HF2.out (by omega)).mono ?_
        rintro r w3 ⟨x', rr, v, ev, A3, R3, rfl, hT, hR, hA3, hs3⟩
        clear hA2 hs2
        cases dd with
        | true =>
          obtain ⟨rfl, rfl⟩ := try_down HDN.out hT
          obtain ⟨rfl, be, rfl, rfl⟩ := hR
          unfold repV
          have hsX := Sat.use (M := mapA m (.int .i64) f cn :: (A3 ++ (onA be n 4 :: aW))) (hs3.alloc (.cells #[.int .i64 0, .int .i64 0, .slice none 0 0, .slice none 0 0] 38)) (by intro x; simp only [cnt_append, cnt_cons, cnt_nil]; omega)
          have hdd := HDN.out
          clear hs3 hT
          go_upto_region 19 with fail
          refine with_sat hsX ?_
          clear hsX
          intro w4 hs4
          obtain ⟨LL, hLL⟩ : ∃ LL, LL = mapA m (.int .i64) f cn :: (A3 ++ (onA be n 4 :: aW)) := ⟨_, rfl⟩
          have hlk : ∀ y, Sat W y (mapA m (.int .i64) f cn :: (A3 ++ (onA be n 4 :: aW))) → (Instr.lookup 53 (.map (some m)) (.int .i64 n) false).run Tryz.prog y = .ok (.bool true) y := fun y hy => by
            have h := lookup_sl (P := Tryz.prog) (t := 53) (key := .int .i64 n) (z := .bool false) hy m0 Tryz.underlying53 Tryz.underlying3 rfl (Tryz.zeroValue4 _) false
            simp only [Bool.false_eq_true, if_false] at h
            rw [HLU.out] at h
            exact h
          rw [← hLL] at hs4 hlk
          have HLL := Lib.hid hLL
          clear hLL
          have hlo := fun y : Of W LL => hlk y.v y.s
          have HLK := Lib.hid hlk
          clear hlk
          have hs5 : Sat W w4.drew LL := hs4.drew
          go_wp2_with fail
          refine wp_region_held1 [2] [3, 4, 5] [3, 4] [2] [0, 1, 3, 4, 5, 2, 6] (Held W LL) (by kernel_rfl) (by kernel_rfl) ?_ ?_
          · exact Held.mk hs5
          have hne : Nonempty (Of W LL) := ⟨⟨_, hs4⟩⟩
          repeat (first | (refine can_pu1 rfl rfl rfl rfl rfl rfl (fun K hK => ?_); go_big_quiet_op; refine hK _ ?_; clear hK K) | (refine can_st1 rfl rfl rfl rfl rfl rfl (fun K hK => ?_); go_big_quiet_op; refine hK _ ?_; clear hK K) | (refine can_early1 rfl rfl rfl rfl rfl (fun K hK => ?_); go_big_quiet_op; refine hK _ ?_; clear hK K) | (refine can_skip rfl rfl rfl ?_; simp only [Act.put, List.setIfInBounds_toArray, List.set_cons_zero, List.set_cons_succ]))
          refine can_actS rfl rfl rfl rfl (fun K hK => ?_)
          go_wp2_with fail
          refine (wisdown_in (L := mapA m (.int .i64) f cn :: (onA be n 4 :: aW)) hA3 (Sat.use (by rw [HLL.out] at hs5; exact hs5) (by intro x; simp only [cnt_append, cnt_cons, cnt_nil]; omega)) hdd).mono ?_; rintro r wq ⟨rfl, rfl⟩
          apply hK
          refine ⟨Held.mk hs5, ?_⟩
          clear hK hlo hne
          have hl2 := HLK.out _ hs5
          repeat (first | (refine can_pu1 rfl rfl rfl rfl rfl rfl (fun K hK => ?_); go_big_quiet_op; refine hK _ ?_; clear hK K) | (refine can_st1 rfl rfl rfl rfl rfl rfl (fun K hK => ?_); go_big_quiet_op; refine hK _ ?_; clear hK K) | (refine can_early1 rfl rfl rfl rfl rfl (fun K hK => ?_); go_big_quiet_op; refine hK _ ?_; clear hK K) | (refine can_skip rfl rfl rfl ?_; simp only [Act.put, List.setIfInBounds_toArray, List.set_cons_zero, List.set_cons_succ]))
          refine can_end1 ?_; (try simp only [Exit.then])
          rw [HLL.out] at hs5
          clear HLK HLL hs4
          generalize w4.drew = w5 at *
          have hs6 := Sat.use (M := onA be n 4 :: (A3 ++ (mapA m (.int .i64) f cn :: aW))) hs5 (by intro x; simp only [cnt_append, cnt_cons, cnt_nil]; omega)
          clear hs5
          go_wp2_with fail
          clear hl2
          refine (code_on be n 4 W _ _ (HG.out _ hs6.tail.right.tail) hs6).mono ?_; rintro r w6 ⟨rfl, hs7⟩
          clear hs6
          go_wp2_with fail
          refine (nodes_on be n 4 W _ _ hs7).mono ?_; rintro r w7 ⟨nv, R7, rfl, hr7, hs8⟩
          clear hs7
          have hs9 := hs8.newCells #[.int .i64 n] 3
          have hrd := hr7.reads hs9.tail
          obtain ⟨na, nc, rfl⟩ := Ch.RowA.slice hr7
          have hsi := same_ints _ (.slice (some ⟨w7.heap.size, 0, none⟩) 1 1) [(n : Int)] [(n : Int)] _ hrd (reads_cells hs9 m0 _ _ _ rfl) (by simp) (by simp)
          have HSI := Lib.hid hsi
          clear hrd hsi hr7
          go_wp2_with fail
          refine HSI.out.mono ?_; rintro r w8 ⟨rfl, hi, hb⟩
          have hsE := bel hi hb hs9
          clear HSI hi hb hs8 hs9
          have hsF := Sat.use (M := A3 ++ (mapA m (.int .i64) f cn :: aW)) hsE (by intro x; simp only [cnt_append, cnt_cons, cnt_nil]; omega)
          have HSF := Lib.hid hsF
          clear hsE hsF
          go_wp2_with fail
          refine (wsent_any hA3 HSF.out).mono ?_; rintro r wq ⟨rfl, rfl⟩
          go_wp2_with fail
          refine (wleft_any hA3 HSF.out).mono ?_; rintro r wq ⟨rfl, rfl⟩
          go_wp2_with fail
          refine (wnode_in hA3 HSF.out HNK.out).mono ?_; rintro r wq ⟨rfl, rfl⟩
          go_wp2_with fail
          refine (wboot_any hA3 HSF.out HNK.out).mono ?_; rintro r wq ⟨rfl, rfl⟩
          go_wp2_with fail
          refine (wdown_in false hA3 HSF.out hn8).mono ?_; rintro r w9 ⟨A9, rfl, hA9, hs10⟩
          clear HSF
          go_wp2_with fail
          refine (wcall_flush (4 * n) b n n _ A9 W _ _ rfl hA9 hs10 hn8 (HF2.out.down _) (by omega)).mono ?_
          rintro r wB ⟨x', rr, v, ev, AB, RB, rfl, hT, hR, hAB, hsB⟩
          obtain ⟨rfl, rfl⟩ := try_flush3 rfl (by show (D'.set n false)[n]? = some false; rw [List.getElem?_set]; simp only [if_true]; rw [if_pos (List.getElem?_eq_some_iff.1 HDN.out).1]) rfl rfl HNK.out hT
          obtain ⟨_, rfl, pv, iv, rfl, hra⟩ := hR
          obtain ⟨pa, pn, pc, ia, im, ic, rfl, rfl⟩ := hra.shape
          unfold repV
          have hsC := Sat.use (M := AB ++ (mapA m (.int .i64) f cn :: aW)) (hsB.alloc (.cells #[.int .i64 0, .int .i64 (nd.boot + 1), .slice pa pn pc, .slice ia im ic] 38)) (by intro x; simp only [cnt_append, cnt_cons, cnt_nil]; omega)
          have HSC := Lib.hid hsC
          have HF3 := Lib.hid (power_fit (HF2.out.down (D'.set n false)) HNK.out)
          clear hsB hsC hT hra hA9 hs10
          go_wp2_with fail
          refine (wleft_any hAB HSC.out).mono ?_; rintro r wq ⟨rfl, rfl⟩
          go_wp2_with fail
          refine ⟨⟨n + 1, ns.set n (nb, (nd.crash []).flu), D'.set n false, sent + 1, AB, by simp, by omega, fun k hk => ?_, HF3.out.mono (by omega), hAB, HSC.out.use (by intro x; simp only [cnt_append, cnt_cons, cnt_nil]; omega)⟩, ?_⟩
          · rw [List.getElem?_set_ne (by omega)]
            exact HDD.out k (by omega)
          · simp [intOf]
            omega
        | false =>
          obtain ⟨rfl, rfl⟩ := try_flush3 rfl HDN.out rfl rfl HNK.out hT
          obtain ⟨_, rfl, pv, iv, rfl, hra⟩ := hR
          obtain ⟨pa, pn, pc, ia, im, ic, rfl, rfl⟩ := hra.shape
          unfold repV
          have hsX := Sat.use (M := mapA m (.int .i64) f cn :: (A3 ++ aW)) (hs3.alloc (.cells #[.int .i64 0, .int .i64 (nd.boot + 1), .slice pa pn pc, .slice ia im ic] 38)) (by intro x; simp only [cnt_append, cnt_cons, cnt_nil]; omega)
          have hdd := HDN.out
          have HF3 := Lib.hid (power_fit HF2.out HNK.out)
          clear hs3 hT hra
          go_upto_region 19 with fail
          refine with_sat hsX ?_
          clear hsX
          intro w4 hs4
          obtain ⟨LL, hLL⟩ : ∃ LL, LL = mapA m (.int .i64) f cn :: (A3 ++ aW) := ⟨_, rfl⟩
          have hlk : ∀ y, Sat W y (mapA m (.int .i64) f cn :: (A3 ++ aW)) → (Instr.lookup 53 (.map (some m)) (.int .i64 n) false).run Tryz.prog y = .ok (.bool false) y := fun y hy => by
            have h := lookup_sl (P := Tryz.prog) (t := 53) (key := .int .i64 n) (z := .bool false) hy m0 Tryz.underlying53 Tryz.underlying3 rfl (Tryz.zeroValue4 _) false
            simp only [Bool.false_eq_true, if_false] at h
            rw [HLU.out] at h
            exact h
          rw [← hLL] at hs4 hlk
          have HLL := Lib.hid hLL
          clear hLL
          have hlo := fun y : Of W LL => hlk y.v y.s
          have HLK := Lib.hid hlk
          clear hlk
          have hs5 : Sat W w4.drew LL := hs4.drew
          go_wp2_with fail
          refine wp_region_held1 [2] [3, 4, 5] [3, 4] [2] [0, 1, 3, 4, 5, 2, 6] (Held W LL) (by kernel_rfl) (by kernel_rfl) ?_ ?_
          · exact Held.mk hs5
          have hne : Nonempty (Of W LL) := ⟨⟨_, hs4⟩⟩
          repeat (first | (refine can_pu1 rfl rfl rfl rfl rfl rfl (fun K hK => ?_); go_big_quiet_op; refine hK _ ?_; clear hK K) | (refine can_st1 rfl rfl rfl rfl rfl rfl (fun K hK => ?_); go_big_quiet_op; refine hK _ ?_; clear hK K) | (refine can_early1 rfl rfl rfl rfl rfl (fun K hK => ?_); go_big_quiet_op; refine hK _ ?_; clear hK K) | (refine can_skip rfl rfl rfl ?_; simp only [Act.put, List.setIfInBounds_toArray, List.set_cons_zero, List.set_cons_succ]))
          refine can_actS rfl rfl rfl rfl (fun K hK => ?_)
          go_wp2_with fail
          refine (wisdown_in (L := mapA m (.int .i64) f cn :: aW) hA3 (Sat.use (by rw [HLL.out] at hs5; exact hs5) (by intro x; simp only [cnt_append, cnt_cons, cnt_nil]; omega)) hdd).mono ?_; rintro r wq ⟨rfl, rfl⟩
          apply hK
          refine ⟨Held.mk hs5, ?_⟩
          clear hK hlo hne
          have hl2 := HLK.out _ hs5
          repeat (first | (refine can_pu1 rfl rfl rfl rfl rfl rfl (fun K hK => ?_); go_big_quiet_op; refine hK _ ?_; clear hK K) | (refine can_st1 rfl rfl rfl rfl rfl rfl (fun K hK => ?_); go_big_quiet_op; refine hK _ ?_; clear hK K) | (refine can_early1 rfl rfl rfl rfl rfl (fun K hK => ?_); go_big_quiet_op; refine hK _ ?_; clear hK K) | (refine can_skip rfl rfl rfl ?_; simp only [Act.put, List.setIfInBounds_toArray, List.set_cons_zero, List.set_cons_succ]))
          refine can_end1 ?_; (try simp only [Exit.then])
          rw [HLL.out] at hs5
          clear HLK HLL hs4
          generalize w4.drew = w5 at *
          have b0 := (HFIT.out.nodes _ (List.mem_of_getElem? HNK.out)).ok.b0
          have b1 := (HFIT.out.nodes _ (List.mem_of_getElem? HNK.out)).ok.b1
          have t0 : 0 ≤ sent := HFIT.out.s0
          have t1 : sent ≤ ((4 * n : Nat) : Int) := HFIT.out.s1
          have b2 : nd.boot ≤ 100 := by simp only at b1; omega
          have t2 : sent ≤ 100 := by omega
          clear b1 t1
          simp only at b0
          have hsF := Sat.use (M := A3 ++ (mapA m (.int .i64) f cn :: aW)) hs5 (by intro x; simp only [cnt_append, cnt_cons, cnt_nil]; omega)
          have HSF := Lib.hid hsF
          clear hs5 hsF
          go_wp2_with fail
          clear hl2
          refine (wsent_any hA3 HSF.out).mono ?_; rintro r wq ⟨rfl, rfl⟩
          go_wp2_with fail
          refine (wleft_any hA3 HSF.out).mono ?_; rintro r wq ⟨rfl, rfl⟩
          go_wp2_with fail
          refine (wnode_in hA3 HSF.out (nd := (nd.crash []).flu) (n := nb) ?_).mono ?_
          · show (ns.set n _)[n]? = _
            rw [List.getElem?_set]
            simp only [if_true]
            rw [if_pos (List.getElem?_eq_some_iff.1 HNK.out).1]
          rintro r wq ⟨rfl, rfl⟩
          go_wp2_with fail
          refine (wboot_any hA3 HSF.out (k := n) (nd := (nd.crash []).flu) ?_).mono ?_
          · show (ns.set n _)[n]? = _
            rw [List.getElem?_set]
            simp only [if_true]
            rw [if_pos (List.getElem?_eq_some_iff.1 HNK.out).1]
          rintro r wq ⟨rfl, rfl⟩
          rw [show (nd.crash []).flu.boot = nd.boot + 1 from rfl]
          go_wp2_with fail
          refine ⟨⟨n + 1, ns.set n (nb, (nd.crash []).flu), D', sent + 1, A3, by simp, by omega, fun k hk => HDD.out k (by omega), HF3.out.mono (by omega), hA3, HSF.out.use (by intro x; simp only [cnt_append, cnt_cons, cnt_nil]; omega)⟩, ?_⟩
          simp [intOf]
          omega
theorem down_law (v : Value) (ds : List Int) (W : World) (hv : ∀ y, Below W.heap.size W y → Reads y v ds.length (intsC ds)) (_ : ds.length ≤ maxLen) (hG : Ca.ErrT W) :
    Calls Tryz.prog 4 #[v] W fun e w' => e = .returned (.bool true) ∧ Below W.heap.size W w' := down_walk v ds W hv hG
end Go.Proofs.YtekbbpfnkbanjaaGreatDoor.Ch
