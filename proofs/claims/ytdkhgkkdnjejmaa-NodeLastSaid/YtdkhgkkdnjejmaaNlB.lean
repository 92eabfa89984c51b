/-
  NodeLast, walked: what is laid.
-/
import Derived.Test.YtdkhgkkdnjejmaaNlA
import Derived.Test.YtdkhgkkdnjejmaaLaB
import Derived.Test.YtdkhgkkdnjejmaaSlTree
import Derived.Test.YtdkhgkkdnjejmaaRcC
import Derived.Test.YtdkhgkkdnjejmaaLpA
import Derived.Deep.DeepCutAuto
import Derived.Deep.CutBlock
namespace Go.Proofs.Ytdkhgkkdnjejmaa.Ch
set_option linter.unusedSimpArgs false
open Go Go.RowKit Go.Sl Go.BigFrame
set_option linter.unusedVariables false

structure RqR where
  kind : Int
  stripe : Int
  gen : Int
  index : Int
  seed : Int
  bend : Int
def ReqsIn (y : World) (a : Option Addr) (xs : List RqR) : Prop := ∀ (j : Nat) (x : RqR), xs[j]? = some x → ∃ b o, a = some ⟨b, o, none⟩ ∧
  y.cell? ⟨b, o + j * 6, none⟩ = some (.int .i64 x.kind) ∧ y.cell? ⟨b, o + j * 6 + 1, none⟩ = some (.int .i64 x.stripe) ∧ y.cell? ⟨b, o + j * 6 + 2, none⟩ = some (.int .i64 x.gen) ∧
  y.cell? ⟨b, o + j * 6 + 3, none⟩ = some (.int .i64 x.index) ∧ y.cell? ⟨b, o + j * 6 + 4, none⟩ = some (.int .i64 x.seed) ∧ y.cell? ⟨b, o + j * 6 + 5, none⟩ = some (.int .i64 x.bend)

theorem last_piece (st i ix sd : Int) (h0 : 0 ≤ st) (h1 : st < 5) (hi : 0 ≤ i) (hi2 : i < 25) : handPiece st i ix sd 0 = ⟨st, 1 + handPick i 9, handPick ix 6, bytesOf sd 32⟩ := by
  have e : handPick 0 24 = 0 := by decide
  have e2 : handPick st 40 = st := by
    unfold handPick
    rw [Int.tmod_eq_emod_of_nonneg h0, if_neg (by omega)]
    omega
  simp only [handPiece, e, e2]
  rfl


set_option maxRecDepth 100000 in
set_option maxHeartbeats 16000000 in
theorem last_walk (aa ka : Option Addr) (ac kc : Nat) (xs : List RqR) (ks : List Int) (lose : Bool) (W : World) (ha : ∀ y, Below W.heap.size W y → ReqsIn y aa xs) (hk : ∀ y, Below W.heap.size W y → Reads y (.slice ka ks.length kc) ks.length (intsC ks)) (hkl : ks.length < 9223372036854775808) :
    Calls Try.prog 11 #[.slice aa xs.length ac, .slice ka ks.length kc, .bool lose] W fun e w' => e = .returned (.bool true) ∧ Below W.heap.size W w' := by
  have hs0 := allOf_sat W
  have hB : ∀ w', Sat W w' (allOf W) → Below W.heap.size W w' := fun w' h => below_of h
  have HB := Lib.hid hB
  have HRQ := Lib.hid (fun y (h : Sat W y (allOf W)) => ha y (hB y h))
  have HKS := Lib.hid (fun y (h : Sat W y (allOf W)) => hk y (hB y h))
  clear hB ha hk
  generalize allOf W = aW at *
  have HN := Lib.hid (node_new W W aW hs0)
  clear hs0
  have hmm := @run_makeMap Try.prog
  go_enter Try.func11, Try.ntmps11
  go_wp2_with fail
  refine HN.out.mono ?_; rintro r w1 ⟨b, A, rfl, hA, hs1⟩
  clear HN
  go_wp2_with fail
  refine (known10_any W _ _ hs1).mono ?_; rintro r w2 ⟨rfl, hs2⟩
  clear hs1
  have hs3 := newMap_sl hs2 (.int .i64)
  clear hs2
  go_wp2_with fail
  clear hmm
  generalize w2.heap.size = m at *
  go_loopw [9] (fun iv wr => ∃ (i : Nat) (n : Nd) (A : List Atom) (last : Int → Option Pc) (f : Value → Option Value) (c : Nat) (B : List Atom), iv = .int .i64 i ∧ i ≤ 25 ∧ NodA b n A ∧ Lst n last i ∧ MapRep f last B ∧ Sat W wr (mapA m (.int .i64) f c :: (A ++ (B ++ aW)))) (fun iv _ => (25 - (intOf iv).toNat))
  case atStart => exact ⟨0, nd0, A, _, _, 0, [], rfl, by omega, hA, Lst.start, (fun s _ _ => .inl ⟨rfl, rfl⟩), hs3⟩
  case round =>
    clear hs3 hA
    obtain ⟨i, n, A, last, f, cn, B, rfl, hi, hA, hls, hmr, hs⟩ := hrel
    have HLS := Lib.hid hls
    have HMR := Lib.hid hmr
    have HA := Lib.hid hA
    clear hls hmr hA
    have i0 : (0 : Int) ≤ i := by omega
    go_upto_region 6 with fail
    go_cut [30] (fun tv wx => tv = .bool (decide (i < xs.length ∧ i < 25)) ∧ Sat W wx (mapA m (.int .i64) f cn :: (A ++ (B ++ aW))))
    case first =>
      by_cases hin : i < xs.length
      · have i1 : (i : Int) < xs.length := by omega
        by_cases hi25 : i < 25
        · have i2 : (i : Int) < 25 := by omega
          have hd : decide (i < xs.length ∧ i < 25) = true := decide_eq_true ⟨hin, hi25⟩
          go_wp2_with fail
          go_meet
          exact ⟨by rw [hd], hs⟩
        · have i2 : ¬ (i : Int) < 25 := by omega
          have hd : decide (i < xs.length ∧ i < 25) = false := decide_eq_false (fun h => hi25 h.2)
          go_wp2_with fail
          go_meet
          exact ⟨by rw [hd], hs⟩
      · have i1 : ¬ (i : Int) < xs.length := by omega
        have hd : decide (i < xs.length ∧ i < 25) = false := decide_eq_false (fun h => hin h.1)
        go_wp2_with fail
        go_meet
        exact ⟨by rw [hd], hs⟩
    case rest =>
    clear hs
    obtain ⟨rfl, hs⟩ := hcut
    by_cases hgo : i < xs.length ∧ i < 25
    case neg =>
      rw [decide_eq_false hgo]
      have hcr := node_crash b (2 * i) n A (.slice ka ks.length kc) ks W wc (mapA m (.int .i64) f cn :: (B ++ aW)) HA.out (hs.use (by intro x; simp only [cnt_append, cnt_cons, cnt_nil]; omega)) (fun y hy => HKS.out y hy.tail.right) hkl HLS.out.ok (by omega)
      have HCR := Lib.hid hcr
      have hok1 := HLS.out.ok.crash ks
      have hlc := HLS.out.crash ks
      obtain ⟨n1, hn1⟩ : ∃ n1, n1 = n.crash ks := ⟨_, rfl⟩
      rw [← hn1] at hok1 hlc
      have HN1 := Lib.hid hn1
      have HOK1 := Lib.hid hok1
      have HLC := Lib.hid hlc
      clear hcr hs hn1 hok1 hlc
      go_wp2_with fail
      refine HCR.out.mono ?_; rintro r w3 ⟨A3, rfl, hA3, hs3⟩
      rw [← HN1.out] at hA3
      clear HCR
      cases lose
      case false =>
        have hs4 := Sat.use (M := mapA m (.int .i64) f cn :: (A3 ++ (B ++ aW))) hs3 (by intro x; simp only [cnt_append, cnt_cons, cnt_nil]; omega)
        have HOK2 := Lib.hid (HOK1.out.mono (show 2 * i + 1 ≤ 2 * i + 2 by omega))
        obtain ⟨n2, hn2⟩ : ∃ n2, n2 = n1 := ⟨_, rfl⟩
        rw [← hn2] at hA3 HLC HOK2
        clear hs3 hn2
        go_wp2_with fail
        go_loopw [11] (fun sv wr => ∃ (s : Int) (A : List Atom), sv = .int .i64 s ∧ 0 ≤ s ∧ s ≤ 5 ∧ NodA b n2 A ∧ Sat W wr (mapA m (.int .i64) f cn :: (A ++ (B ++ aW)))) (fun sv _ => (5 - intOf sv).toNat)
        case atStart => exact ⟨0, _, rfl, by omega, by omega, hA3, hs4⟩
        case round =>
          clear hs4 hA3
          obtain ⟨s, A5, rfl, s0, s5, hA5, hs5⟩ := hrel
          by_cases hs5' : s < 5
          case pos =>
            have hgt := do_get b (2 * i + 2) n2 A5 s 0 0 none 0 0 W wr (mapA m (.int .i64) f cn :: (B ++ aW)) hA5 (hs5.use (by intro x; simp only [cnt_append, cnt_cons, cnt_nil]; omega)) s0 (by omega) HOK2.out
            have HGT := Lib.hid hgt
            clear hgt hs5 hA5
            have hf2 := rep_f2
            go_wp2_with fail
            refine HGT.out.mono ?_; rintro r w6 ⟨pa, pc, ys, R6, B6, A6, rfl, hr6, hx6, hb6, hA6, hs6'⟩
            have hs6 := Sat.use (M := mapA m (.int .i64) f cn :: (A6 ++ (B ++ (R6 ++ (B6 ++ aW))))) hs6' (by intro x; simp only [cnt_append, cnt_cons, cnt_nil]; omega)
            have hlk := lookup_sl (P := Try.prog) (t := 87) (key := .int .i64 s) (z := .agg #[.int .i64 0, .int .i64 0, .int .i64 0, .slice none 0 0]) hs6 m0 Try.underlying87 Try.underlying3 rfl (Try.zeroValue45 _) true
            clear HGT hs6'
            unfold repV
            have hys := HLC.out s s0 (by omega)
            rcases HMR.out s s0 (by omega) with ⟨h1, h2⟩ | ⟨p, v, h1, h2, h3⟩
            · rw [h1] at hys
              rw [hys.none_get] at hx6
              rw [h2] at hlk
              simp only [if_true, Option.getD_none, Option.isSome_none] at hlk
              obtain rfl : ys = [] := by simpa using hx6
              clear hx6 hb6 hr6 h1 h2 hys
              have hs7 := fun (cs : Array Value) => Sat.alloc hs6 (.cells cs 45)
              go_wp2_with fail
              refine ⟨⟨s + 1, A6, rfl, by omega, by omega, hA6, (hs7 _).use (by intro x; simp only [cnt_append, cnt_cons, cnt_nil]; omega)⟩, ?_⟩
              simp [intOf]
              omega
            · rw [h1] at hys
              obtain ⟨ys', hg⟩ := hys.some_get
              rw [hg] at hx6
              rw [h2] at hlk
              simp only [if_true, Option.getD_some, Option.isSome_some] at hlk
              obtain ⟨⟨p', v'⟩, zs, rfl⟩ : ∃ y zs, ys = y :: zs := by
                cases ys with
                | nil => simp at hx6
                | cons y zs => exact ⟨y, zs, rfl⟩
              obtain rfl : p' = p := by simp only [List.map_cons, List.cons.injEq] at hx6; exact hx6.1
              have hbv' := (hb6 _ (List.mem_cons_self ..)).1
              have hrp := (hb6 _ (List.mem_cons_self ..)).2
              simp only at hbv' hrp
              obtain ⟨p0, p1, p2, p3⟩ := p'
              have hl32 : p3.length < 1000000 := by have := hrp.2.2.2.2.2.2; simp only at this; omega
              have hc : ∀ f' u, (pcCells ⟨p0, p1, p2, p3⟩ v')[f']? = some u → (pcsC ((⟨p0, p1, p2, p3⟩, v') :: zs))[f']? = some u := fun f' u hu => by
                have h := pcsC_get (xs := (⟨p0, p1, p2, p3⟩, v') :: zs) (i := 0) rfl f' u hu
                rw [Nat.zero_mul, Nat.zero_add] at h
                exact h
              have hy0 : ((zs.length : Int) + 1 == 0) = false := by simp; omega
              simp only [List.length_cons] at hr6 hs6 hlk ⊢
              obtain ⟨gg, go, gk, he, _, _, _⟩ := Ch.RowA.some_of hr6 (by omega)
              obtain ⟨rfl, rfl⟩ : pa = some ⟨gg, go, none⟩ ∧ pc = gk := by cases he; exact ⟨rfl, rfl⟩
              unfold pcV at hlk
              simp only at hlk
              have h3c := h3
              have hbc := hbv'
              obtain ⟨vg, vo, vc, hv1, hv2, hv3⟩ := h3
              try simp only at hv1
              subst hv1
              obtain ⟨ug, uo, uc, hu1, hu2, hu3⟩ := hbv'
              try simp only at hu1
              subst hu1
              have hs7 := hs6.newCells #[.int .i64 p0, .int .i64 p1, .int .i64 p2, .slice (some ⟨vg, vo, none⟩) p3.length vc] 45
              have h3d : BlkIn B (.slice (some ⟨vg, vo, none⟩) p3.length vc) p3 := h3c
              have hbd : BlkIn B6 (.slice (some ⟨ug, uo, none⟩) p3.length uc) p3 := hbc
              have HH3 := Lib.hid h3d
              have HBD := Lib.hid hbd
              have HC := Lib.hid hc
              have HR6 := Lib.hid hr6
              clear hc hr6 hx6 hb6 h1 h2 hys hg he h3d hbd h3c hbc hv2 hv3 hu2 hu3
              go_wp2_with fail
              generalize w6.heap.size = zt at *
              refine with_sat hs7 ?_
              clear hs7 hs6 hlk
              intro w7 hs7
              have e0 : w7.cell? ⟨zt, 0, none⟩ = some (.int .i64 p0) := hs7.cell m0 0
              have e1 : w7.cell? ⟨zt, 1, none⟩ = some (.int .i64 p1) := hs7.cell m0 1
              have e2 : w7.cell? ⟨zt, 2, none⟩ = some (.int .i64 p2) := hs7.cell m0 2
              have e3 : w7.cell? ⟨zt, 3, none⟩ = some (.slice (some ⟨vg, vo, none⟩) p3.length vc) := hs7.cell m0 3
              have hs8 := Sat.use (M := R6 ++ (cellsA zt #[.int .i64 p0, .int .i64 p1, .int .i64 p2, .slice (some ⟨vg, vo, none⟩) p3.length vc] 45 :: (mapA m (.int .i64) f cn :: (A6 ++ (B ++ (B6 ++ aW)))))) hs7 (by intro x; simp only [cnt_append, cnt_cons, cnt_nil]; omega)
              have hr6 := HR6.out
              have hcl := fun f' u hu => (hr6.cells hs8 rfl f' (List.getElem?_eq_some_iff.1 (HC.out f' u hu)).1).1.trans (HC.out f' u hu)
              have c0 : w7.cell? ⟨gg, go, none⟩ = some (.int .i64 p0) := hcl 0 _ rfl
              have c1 : w7.cell? ⟨gg, go + 1, none⟩ = some (.int .i64 p1) := hcl 1 _ rfl
              have c2 : w7.cell? ⟨gg, go + 2, none⟩ = some (.int .i64 p2) := hcl 2 _ rfl
              have c3 : w7.cell? ⟨gg, go + 3, none⟩ = some (.slice (some ⟨ug, uo, none⟩) p3.length uc) := hcl 3 _ rfl
              have hsm := ref_same ⟨p0, p1, p2, p3⟩ ⟨p0, p1, p2, p3⟩ (.slice (some ⟨ug, uo, none⟩) p3.length uc) (.slice (some ⟨vg, vo, none⟩) p3.length vc) W w7.drew _ hs7.drew (fun y hy => HBD.out.reads hy (fun x hx => .tail _ (.tail _ (List.mem_append_right _ (List.mem_append_right _ (List.mem_append_right _ (List.mem_append_left _ hx))))))) (fun y hy => HH3.out.reads hy (fun x hx => .tail _ (.tail _ (List.mem_append_right _ (List.mem_append_left _ hx))))) hl32 hl32
              rw [decide_eq_true (rfl : (⟨p0, p1, p2, p3⟩ : Pc) = ⟨p0, p1, p2, p3⟩)] at hsm
              unfold pcV at hsm
              simp only at hsm
              have HSM := Lib.hid hsm
              clear hsm hcl hr6 hs8 hs7
              refine wp_region_one [8] [] [] [] [0, 1, 2, 3, 4, 5, 6, 7, 8, 9, 10] (by kernel_rfl) (by kernel_rfl) ?_
              repeat (first | (refine can_pu1 rfl rfl rfl rfl rfl rfl (fun K hK => ?_); go_big_quiet_op; refine hK _ ?_; clear hK K) | (refine can_st1 rfl rfl rfl rfl rfl rfl (fun K hK => ?_); go_big_quiet_op; refine hK _ ?_; clear hK K) | (refine can_early1 rfl rfl rfl rfl rfl (fun K hK => ?_); go_big_quiet_op; refine hK _ ?_; clear hK K) | (refine can_skip rfl rfl rfl ?_; simp only [Act.put, List.setIfInBounds_toArray, List.set_cons_zero, List.set_cons_succ]))
              refine can_act1 rfl rfl rfl (fun K hK => ?_)
              go_wp2_with fail
              refine HSM.out.mono ?_; rintro r8 w8 ⟨rfl, hs9⟩
              apply hK
              clear hK c0 c1 c2 c3 e0 e1 e2 e3
              repeat (first | (refine can_pu1 rfl rfl rfl rfl rfl rfl (fun K hK => ?_); go_big_quiet_op; refine hK _ ?_; clear hK K) | (refine can_st1 rfl rfl rfl rfl rfl rfl (fun K hK => ?_); go_big_quiet_op; refine hK _ ?_; clear hK K) | (refine can_early1 rfl rfl rfl rfl rfl (fun K hK => ?_); go_big_quiet_op; refine hK _ ?_; clear hK K) | (refine can_skip rfl rfl rfl ?_; simp only [Act.put, List.setIfInBounds_toArray, List.set_cons_zero, List.set_cons_succ]))
              refine can_end1 ?_; (try simp only [Exit.then])
              go_wp2_with fail
              refine ⟨⟨s + 1, A6, rfl, by omega, by omega, hA6, hs9.use (by intro x; simp only [cnt_append, cnt_cons, cnt_nil]; omega)⟩, ?_⟩
              simp [intOf]
              omega
          case neg =>
            obtain rfl : s = 5 := by omega
            go_wp2_with fail
            go_ret
            exact ⟨rfl, HB.out _ hs5.tail.right.right⟩
      case true =>
        have hls := node_lose b (2 * i + 1) n1 A3 W w3 _ hA3 hs3 HOK1.out (by omega)
        have HLO := Lib.hid hls
        obtain ⟨n2, hn2⟩ : ∃ n2, n2 = n1.lose := ⟨_, rfl⟩
        have HOK2 := Lib.hid (show NdOk n2 (2 * i + 2) by rw [hn2]; exact HOK1.out.lose)
        have HLG := Lib.hid (show ∀ s, getL n2.q s = [] by rw [hn2]; exact lose_get n1)
        rw [← hn2] at HLO
        clear hls hs3 hA3 hn2
        go_wp2_with fail
        refine HLO.out.mono ?_; rintro r w4 ⟨A4, rfl, hA3, hs4'⟩
        have hs4 := Sat.use (M := mapA m (.int .i64) f cn :: (A4 ++ (B ++ aW))) hs4' (by intro x; simp only [cnt_append, cnt_cons, cnt_nil]; omega)
        clear hs4' HLO
        go_wp2_with fail
        go_loopw [11] (fun sv wr => ∃ (s : Int) (A : List Atom), sv = .int .i64 s ∧ 0 ≤ s ∧ s ≤ 5 ∧ NodA b n2 A ∧ Sat W wr (mapA m (.int .i64) f cn :: (A ++ (B ++ aW)))) (fun sv _ => (5 - intOf sv).toNat)
        case atStart => exact ⟨0, _, rfl, by omega, by omega, hA3, hs4⟩
        case round =>
          clear hs4 hA3
          obtain ⟨s, A5, rfl, s0, s5, hA5, hs5⟩ := hrel
          by_cases hs5' : s < 5
          case pos =>
            have hgt := do_get b (2 * i + 2) n2 A5 s 0 0 none 0 0 W wr (mapA m (.int .i64) f cn :: (B ++ aW)) hA5 (hs5.use (by intro x; simp only [cnt_append, cnt_cons, cnt_nil]; omega)) s0 (by omega) HOK2.out
            have HGT := Lib.hid hgt
            clear hgt hs5 hA5
            have hf2 := rep_f2
            go_wp2_with fail
            refine HGT.out.mono ?_; rintro r w6 ⟨pa, pc, ys, R6, B6, A6, rfl, hr6, hx6, hb6, hA6, hs6'⟩
            have hs6 := Sat.use (M := mapA m (.int .i64) f cn :: (A6 ++ (B ++ (R6 ++ (B6 ++ aW))))) hs6' (by intro x; simp only [cnt_append, cnt_cons, cnt_nil]; omega)
            have hlk := lookup_sl (P := Try.prog) (t := 87) (key := .int .i64 s) (z := .agg #[.int .i64 0, .int .i64 0, .int .i64 0, .slice none 0 0]) hs6 m0 Try.underlying87 Try.underlying3 rfl (Try.zeroValue45 _) true
            clear HGT hs6'
            unfold repV
            rw [HLG.out s] at hx6
            obtain rfl : ys = [] := by simpa using hx6
            clear hx6 hb6 hr6
            rcases HMR.out s s0 (by omega) with ⟨h1, h2⟩ | ⟨p, v, h1, h2, h3⟩
            · rw [h2] at hlk
              simp only [if_true, Option.getD_none, Option.isSome_none] at hlk
              have hs7 := fun (cs : Array Value) => Sat.alloc hs6 (.cells cs 45)
              go_wp2_with fail
              refine ⟨⟨s + 1, A6, rfl, by omega, by omega, hA6, (hs7 _).use (by intro x; simp only [cnt_append, cnt_cons, cnt_nil]; omega)⟩, ?_⟩
              simp [intOf]
              omega
            · rw [h2] at hlk
              simp only [if_true, Option.getD_some, Option.isSome_some] at hlk
              obtain ⟨vg, vo, vc, hv1, hv2, hv3⟩ := h3
              subst hv1
              unfold pcV at hlk
              have hs7 := fun (cs : Array Value) => Sat.alloc hs6 (.cells cs 45)
              go_wp2_with fail
              refine ⟨⟨s + 1, A6, rfl, by omega, by omega, hA6, (hs7 _).use (by intro x; simp only [cnt_append, cnt_cons, cnt_nil]; omega)⟩, ?_⟩
              simp [intOf]
              omega
          case neg =>
            obtain rfl : s = 5 := by omega
            go_wp2_with fail
            go_ret
            exact ⟨rfl, HB.out _ hs5.tail.right.right⟩
    case pos =>
    rw [decide_eq_true hgo]
    obtain ⟨hin, hi25⟩ := hgo
    have i1 : (i : Int) < xs.length := by omega
    have i2 : (i : Int) < 25 := by omega
    obtain ⟨x, hx⟩ : ∃ x, xs[i]? = some x := ⟨_, List.getElem?_eq_getElem hin⟩
    obtain ⟨ba, oa, rfl, _⟩ := HRQ.out wc hs.tail.right.right i x hx
    obtain ⟨LL, hLL⟩ : ∃ LL, LL = mapA m (.int .i64) f cn :: (A ++ (B ++ aW)) := ⟨_, rfl⟩
    have hrq : ∀ y, Sat W y aW → y.cell? ⟨ba, oa + i * 6 + 1, none⟩ = some (.int .i64 x.stripe) ∧ y.cell? ⟨ba, oa + i * 6 + 3, none⟩ = some (.int .i64 x.index) ∧ y.cell? ⟨ba, oa + i * 6 + 4, none⟩ = some (.int .i64 x.seed) ∧ y.cell? ⟨ba, oa + i * 6 + 5, none⟩ = some (.int .i64 x.bend) := fun y hy => by
      obtain ⟨b2, o2, e, h0, h1, h2, h3, h4, h5⟩ := HRQ.out y hy i x hx
      cases e
      exact ⟨h1, h3, h4, h5⟩
    have hLa : ∀ y, Sat W y LL → Sat W y aW := fun y hy => by rw [hLL] at hy; exact hy.tail.right.right
    rw [← hLL] at hs
    have c1 : ∀ y : Of W LL, y.v.cell? ⟨ba, oa + i * 6 + 1, none⟩ = some (.int .i64 x.stripe) := fun y => (hrq y.v (hLa _ y.s)).1
    have c3 : ∀ y : Of W LL, y.v.cell? ⟨ba, oa + i * 6 + 3, none⟩ = some (.int .i64 x.index) := fun y => (hrq y.v (hLa _ y.s)).2.1
    have c4 : ∀ y : Of W LL, y.v.cell? ⟨ba, oa + i * 6 + 4, none⟩ = some (.int .i64 x.seed) := fun y => (hrq y.v (hLa _ y.s)).2.2.1
    have HRC := Lib.hid hrq
    have HLL := Lib.hid hLL
    have hpk := fun w => hand_pick x.stripe 5 w (by omega) (by omega)
    obtain ⟨st0, st1⟩ := handPick_bounds x.stripe 5 (by omega)
    generalize handPick x.stripe 5 = st at *
    have HPK := Lib.hid hpk
    have HPP := Lib.hid (last_piece st i x.index x.seed st0 st1 i0 i2)
    have HIX := Lib.hid (handPick_bounds x.index 6 (by omega))
    clear hx hrq hLL hpk hLa
    go_upto_region 8 with fail
    go_cut [10] (fun pv wx => ∃ (z6 : Nat) (R : List Atom) (a5 : Option Addr) (c5 : Nat), pv = .pointer (some ⟨z6, 0, none⟩) ∧ RowA 5 1 (.slice a5 (bytesOf x.seed 32).length c5) (bytesOf x.seed 32).length (bts (bytesOf x.seed 32)) R ∧ Sat W wx (cellsA z6 #[.int .i64 st, .int .i64 (1 + handPick i 9), .int .i64 (handPick x.index 6), .slice a5 (bytesOf x.seed 32).length c5] 45 :: (R ++ LL)))
    case first =>
      refine wp_region_plan [5, 17, 18, 19] [0, 1, 2, 3, 4, 6, 7, 8, 9, 10, 11, 12, 13, 14, 15, 16] [0, 1, 2, 3, 6, 7, 8, 9, 10, 12, 13, 14, 15] [5, 18] [0, 1, 2, 3, 4, 6, 7, 8, 9, 10, 11, 12, 13, 14, 15, 16] (.two [5] (.two [17, 18, 19] .nil [18, 17, 19] .nil) [18, 5, 17, 19] .nil) (Held W LL) (by kernel_rfl) (by kernel_rfl) ?_ ?_
      · exact Held.mk hs.drew
      have hne : Nonempty (Of W LL) := ⟨⟨_, hs⟩⟩
      have hsT : Sat W wc.drew LL := hs.drew
      repeat (first | (refine can_pu1 rfl rfl rfl rfl rfl rfl (fun K hK => ?_); go_big_quiet_op; refine hK _ ?_; clear hK K) | (refine can_st1 rfl rfl rfl rfl rfl rfl (fun K hK => ?_); go_big_quiet_op; refine hK _ ?_; clear hK K) | (refine can_early1 rfl rfl rfl rfl rfl (fun K hK => ?_); go_big_quiet_op; refine hK _ ?_; clear hK K) | (refine can_skip rfl rfl rfl ?_; simp only [Act.put, List.setIfInBounds_toArray, List.set_cons_zero, List.set_cons_succ]))
      clear c1 c3 c4 hne hs
      refine with_sat hsT ?_
      clear hsT
      intro wt hsT
      refine can_two ?_ ?_
      · skip
        refine can_actS rfl rfl rfl rfl (fun K hK => ?_)
        go_wp2_with fail
        refine (HPK.out _).mono ?_; rintro r w4 ⟨rfl, rfl⟩
        apply hK
        refine ⟨Held.mk hsT, ?_⟩
        clear hK
        refine can_two ?_ ?_
        · skip
          refine can_actF rfl rfl rfl rfl (fun K hK => ?_)
          go_wp2_with fail
          refine (hand_piece st i x.index x.seed 0 W _ _ hsT (by decide) (by decide)).mono ?_; rintro r w5 ⟨v5, R5, rfl, hr5, hs5⟩
          rw [HPP.out] at hr5 ⊢
          apply hK
          clear hK
          simp only at hr5
          obtain ⟨a5, c5, rfl⟩ := Ch.RowA.slice hr5
          unfold pcV
          simp only []
          refine can_actS rfl rfl rfl rfl (fun K hK => ?_)
          go_wp2_with fail
          refine ⟨Held.mk (Sat.alloc hs5.right _), ?_⟩
          have hs6 := Sat.newCells hs5 #[.int .i64 0, .int .i64 0, .int .i64 0, .slice none 0 0] 45
          generalize (w5).heap.size = z6 at *
          refine with_sat hs6 ?_
          clear hs6
          intro w6 hs6
          have hsF := hs6
          have g0 := hsF.cell m0 0
          have g1 := hsF.cell m0 1
          have g2 := hsF.cell m0 2
          have g3 := hsF.cell m0 3
          have j0 := hsF.free m0 0
          have j1 := hsF.free m0 1
          have j2 := hsF.free m0 2
          have j3 := hsF.free m0 3
          refine can_actF rfl rfl rfl rfl (fun K hK => ?_)
          go_wp2_with fail
          have hz := Sat.setCell (Sat.setCell (Sat.setCell (Sat.setCell hsF 0 (.int .i64 st)) 1 (.int .i64 (1 + handPick i 9))) 2 (.int .i64 (handPick x.index 6))) 3 (.slice a5 (bytesOf x.seed 32).length c5)
          simp only [List.setIfInBounds_toArray, List.set_cons_zero, List.set_cons_succ] at hz
          refine can_end1 ?_; (try simp only [Exit.then])
          go_wp2_with fail
          go_meet
          exact ⟨z6, R5, a5, c5, rfl, hr5, hz⟩
        · skip
          refine can_actS rfl rfl rfl rfl (fun K hK => ?_)
          go_wp2_with fail
          refine ⟨Held.mk (Sat.alloc hsT _), ?_⟩
          have hs6 := Sat.newCells hsT #[.int .i64 0, .int .i64 0, .int .i64 0, .slice none 0 0] 45
          generalize (wt).heap.size = z6 at *
          refine with_sat hs6 ?_
          clear hs6
          intro w6 hs6
          refine can_actF rfl rfl rfl rfl (fun K hK => ?_)
          go_wp2_with fail
          refine (hand_piece st i x.index x.seed 0 W _ _ hs6 (by decide) (by decide)).mono ?_; rintro r w5 ⟨v5, R5, rfl, hr5, hs5⟩
          rw [HPP.out] at hr5 ⊢
          apply hK
          clear hK
          simp only at hr5
          obtain ⟨a5, c5, rfl⟩ := Ch.RowA.slice hr5
          unfold pcV
          simp only []
          have hsF := Sat.use (M := cellsA z6 #[.int .i64 0, .int .i64 0, .int .i64 0, .slice none 0 0] 45 :: (R5 ++ LL)) hs5 (by intro x; simp only [cnt_append, cnt_cons, cnt_nil]; omega)
          have g0 := hsF.cell m0 0
          have g1 := hsF.cell m0 1
          have g2 := hsF.cell m0 2
          have g3 := hsF.cell m0 3
          have j0 := hsF.free m0 0
          have j1 := hsF.free m0 1
          have j2 := hsF.free m0 2
          have j3 := hsF.free m0 3
          refine can_actF rfl rfl rfl rfl (fun K hK => ?_)
          go_wp2_with fail
          have hz := Sat.setCell (Sat.setCell (Sat.setCell (Sat.setCell hsF 0 (.int .i64 st)) 1 (.int .i64 (1 + handPick i 9))) 2 (.int .i64 (handPick x.index 6))) 3 (.slice a5 (bytesOf x.seed 32).length c5)
          simp only [List.setIfInBounds_toArray, List.set_cons_zero, List.set_cons_succ] at hz
          refine can_end1 ?_; (try simp only [Exit.then])
          go_wp2_with fail
          go_meet
          exact ⟨z6, R5, a5, c5, rfl, hr5, hz⟩
      · skip
        refine can_actS rfl rfl rfl rfl (fun K hK => ?_)
        go_wp2_with fail
        refine ⟨Held.mk (Sat.alloc hsT _), ?_⟩
        have hs6 := Sat.newCells hsT #[.int .i64 0, .int .i64 0, .int .i64 0, .slice none 0 0] 45
        generalize (wt).heap.size = z6 at *
        refine with_sat hs6 ?_
        clear hs6
        intro w6 hs6
        refine can_actS rfl rfl rfl rfl (fun K hK => ?_)
        go_wp2_with fail
        refine (HPK.out _).mono ?_; rintro r w4 ⟨rfl, rfl⟩
        apply hK
        refine ⟨Held.mk hs6.tail, ?_⟩
        clear hK
        refine can_actF rfl rfl rfl rfl (fun K hK => ?_)
        go_wp2_with fail
        refine (hand_piece st i x.index x.seed 0 W _ _ hs6 (by decide) (by decide)).mono ?_; rintro r w5 ⟨v5, R5, rfl, hr5, hs5⟩
        rw [HPP.out] at hr5 ⊢
        apply hK
        clear hK
        simp only at hr5
        obtain ⟨a5, c5, rfl⟩ := Ch.RowA.slice hr5
        unfold pcV
        simp only []
        have hsF := Sat.use (M := cellsA z6 #[.int .i64 0, .int .i64 0, .int .i64 0, .slice none 0 0] 45 :: (R5 ++ LL)) hs5 (by intro x; simp only [cnt_append, cnt_cons, cnt_nil]; omega)
        have g0 := hsF.cell m0 0
        have g1 := hsF.cell m0 1
        have g2 := hsF.cell m0 2
        have g3 := hsF.cell m0 3
        have j0 := hsF.free m0 0
        have j1 := hsF.free m0 1
        have j2 := hsF.free m0 2
        have j3 := hsF.free m0 3
        refine can_actF rfl rfl rfl rfl (fun K hK => ?_)
        go_wp2_with fail
        have hz := Sat.setCell (Sat.setCell (Sat.setCell (Sat.setCell hsF 0 (.int .i64 st)) 1 (.int .i64 (1 + handPick i 9))) 2 (.int .i64 (handPick x.index 6))) 3 (.slice a5 (bytesOf x.seed 32).length c5)
        simp only [List.setIfInBounds_toArray, List.set_cons_zero, List.set_cons_succ] at hz
        refine can_end1 ?_; (try simp only [Exit.then])
        go_wp2_with fail
        go_meet
        exact ⟨z6, R5, a5, c5, rfl, hr5, hz⟩
    case rest =>
      clear hs c1 c3 c4
      obtain ⟨z6, R, a5, c5, rfl, hv, hs⟩ := hcut
      have hbl := bytesOf_length x.seed 32
      have hix := HIX.out
      generalize handPick x.index 6 = ix at *
      generalize bytesOf x.seed 32 = D at *
      obtain ⟨p, hp⟩ : ∃ p : Pc, p = ⟨st, 1 + i, ix, D⟩ := ⟨_, rfl⟩
      have hpr : rightP p := by
        rw [hp]
        exact ⟨st0, by show st < 40; omega, by show (1 : Int) ≤ 1 + i; omega, by show (1 : Int) + i ≤ 1099511627776; omega, hix.1, hix.2, hbl⟩
      have HP := Lib.hid hp
      have HPR := Lib.hid hpr
      have HBL := Lib.hid hbl
      have HV := Lib.hid hv
      clear hp hpr hv hix
      have g1 := hs.cell m0 1
      have f1 := hs.free m0 1
      have hs1 := Sat.setCell hs 1 (.int .i64 (1 + i))
      simp only [List.setIfInBounds_toArray, List.set_cons_zero, List.set_cons_succ] at hs1
      go_upto_region 10 with fail
      refine with_sat hs1 ?_
      clear hs hs1 g1 f1
      intro w1 hs1
      have e0 := hs1.cell m0 0
      have e1 := hs1.cell m0 1
      have e2 := hs1.cell m0 2
      have e3 := hs1.cell m0 3
      have hs2 := Sat.use (M := A ++ (cellsA z6 #[.int .i64 st, .int .i64 (1 + i), .int .i64 ix, .slice a5 D.length c5] 45 :: (R ++ (mapA m (.int .i64) f cn :: (B ++ aW))))) (by rw [HLL.out] at hs1; exact hs1) (by intro x; simp only [cnt_append, cnt_cons, cnt_nil]; omega)
      have hpu := do_put b (2 * i) n A p a5 c5 W w1 _ HA.out hs2 (fun y hy => by have h := HV.out.reads (F := mapA m (.int .i64) f cn :: (B ++ aW)) hy.tail; rw [HP.out]; exact h) HPR.out HLS.out.ok (by omega)
      rw [show p.stripe = st by rw [HP.out], show p.gen = 1 + (i : Int) by rw [HP.out], show p.index = ix by rw [HP.out], show p.data = D by rw [HP.out]] at hpu
      have hKb := placeI_bounds st (1 + i) st0 (by omega)
      obtain ⟨n1, hn1⟩ : ∃ n1 : Nd, n1 = ⟨n.q.wr (placeN st (1 + (i : Int))) (layB p), n.g, n.boot⟩ := ⟨_, rfl⟩
      rw [← hn1] at hpu
      have HPU := Lib.hid hpu
      have HN1 := Lib.hid hn1
      have hok1 := HLS.out.ok.wr (placeN st (1 + (i : Int))) (layB p) (by unfold placeN; omega) (by rw [layB_length _ HPR.out.2.2.2.2.2.2]; omega)
      rw [← hn1] at hok1
      have HOK1 := Lib.hid hok1
      clear hpu hs1 hs2 hn1 hok1 hKb hbl
      go_wp2_with fail
      refine HPU.out.mono ?_; rintro r w5 ⟨A5, rfl, hA5, hs5⟩
      have hf0 := rep_f0
      clear HPU e0 e1 e2 e3
      unfold repV
      have d5 := (HRC.out w5 hs5.right.tail.right.tail.right).2.2.2
      by_cases hb : x.bend.tmod 2 = 0
      case pos =>
        have hfl := do_flush b (2 * i + 1) n1 A5 0 0 0 none 0 0 W w5 _ hA5 hs5 HOK1.out
        have HFL := Lib.hid hfl
        clear hfl hs5 hA5
        go_wp2_with fail
        refine HFL.out.mono ?_; rintro r w6 ⟨A6, rfl, hA6, hs6⟩
        clear HFL d5
        unfold repV
        have d6 := (HRC.out w6 hs6.right.tail.right.tail.right).2.2.2
        have e0 : w6.cell? ⟨z6, 0, none⟩ = some (.int .i64 st) := hs6.cell (List.mem_append_right A6 m0) 0
        have e1 : w6.cell? ⟨z6, 1, none⟩ = some (.int .i64 (1 + i)) := hs6.cell (List.mem_append_right A6 m0) 1
        have e2 : w6.cell? ⟨z6, 2, none⟩ = some (.int .i64 ix) := hs6.cell (List.mem_append_right A6 m0) 2
        have e3 : w6.cell? ⟨z6, 3, none⟩ = some (.slice a5 D.length c5) := hs6.cell (List.mem_append_right A6 m0) 3
        have hs7 := Sat.use (M := mapA m (.int .i64) f cn :: (A6 ++ ((R ++ B) ++ aW))) hs6 (by intro x; simp only [cnt_append, cnt_cons, cnt_nil]; omega)
        obtain ⟨w7, hr7, hs8⟩ := mapUpdate_sl (P := Try.prog) (t := 87) (key := .int .i64 st) hs7 Try.underlying87 Try.underlying3 rfl (.agg #[.int .i64 st, .int .i64 (1 + i), .int .i64 ix, .slice a5 D.length c5])
        clear hs6 hs7
        go_wp2_with fail
        have hbi := (BlkIn.of_row HV.out (by rw [HBL.out]; decide)).mono (B' := R ++ B) (fun x hx => List.mem_append_left _ hx)
        have hmr := (HMR.out.mono (B' := R ++ B) (fun x hx => List.mem_append_right _ hx)).upd p (.slice a5 D.length c5) (by rw [show p.data = D by rw [HP.out]]; exact hbi)
        have hls := HLS.out.flush p HPR.out (by rw [HP.out]; exact st1) (by rw [HP.out]; show 1 + (i : Int) = i + 1; omega)
        rw [show p.stripe = st by rw [HP.out], show p.gen = 1 + (i : Int) by rw [HP.out], show n.q.wr (placeN st (1 + (i : Int))) (layB p) = n1.q by rw [HN1.out], show n.g = n1.g by rw [HN1.out], show n.boot = n1.boot by rw [HN1.out]] at hls
        rw [show pcV p (.slice a5 D.length c5) = .agg #[.int .i64 st, .int .i64 (1 + i), .int .i64 ix, .slice a5 D.length c5] by rw [HP.out]; rfl, show p.stripe = st by rw [HP.out]] at hmr
        refine ⟨⟨i + 1, _, A6, _, _, _, R ++ B, by simp, by omega, hA6, hls, hmr, hs8⟩, ?_⟩
        simp [intOf]
        omega
      case neg =>
        have hb' : (x.bend.tmod 2 == 0) = false := by simpa using hb
        have hcr := node_crash b (2 * i + 1) n1 A5 (.slice none 0 0) [] W w5 _ hA5 hs5 (fun y hy => .inl ⟨rfl, rfl, rfl⟩) (by decide) HOK1.out (by omega)
        have HCR := Lib.hid hcr
        clear hcr hs5 hA5
        go_wp2_with fail
        refine HCR.out.mono ?_; rintro r w6 ⟨A6, rfl, hA6, hs6⟩
        clear HCR d5
        go_wp2_with fail
        have hls := HLS.out.fall (placeN st (1 + (i : Int))) (layB p) (by have := placeI_bounds st (1 + i) st0 (by omega); unfold placeN; omega) (by rw [layB_length _ HPR.out.2.2.2.2.2.2]; omega)
        rw [← HN1.out] at hls
        refine ⟨⟨i + 1, _, A6, _, f, cn, B, by simp, by omega, hA6, hls, HMR.out, hs6.use (by intro x; simp only [cnt_append, cnt_cons, cnt_nil]; omega)⟩, ?_⟩
        simp [intOf]
        omega
end Go.Proofs.Ytdkhgkkdnjejmaa.Ch
