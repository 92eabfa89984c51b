/-
  CauseTells: the walk.
-/
import Derived.Test.YtoknokbbggnmjaaDoorCaV
import Derived.Test.YtoknokbbggnmjaaDoorCaW
namespace Go.Proofs.YtoknokbbggnmjaaDoor.Ca
set_option linter.unusedSimpArgs false
open Go Go.RowKit Go.Sl Go.Extern.Stop Go.Stop Go.Extern
set_option linter.unusedVariables false

mutual
theorem code1_has : ∀ {e : ET} {c : Int}, code1 e = some c → hasC c e = true
  | .code n, c, h => by
    unfold code1 at h
    cases h
    simp [hasC, hasE, eqv]
  | .other b s, c, h => by unfold code1 at h; cases h
  | .on b n e, c, h => by
    unfold code1 at h
    have := code1_has h
    unfold hasC at this ⊢
    unfold hasE
    rw [this, Bool.or_true]
  | .of b n e, c, h => by
    unfold code1 at h
    have := code1_has h
    unfold hasC at this ⊢
    unfold hasE
    rw [this, Bool.or_true]
  | .all b v es, c, h => by
    unfold code1 at h
    have := codeL_has h
    unfold hasC
    unfold hasE
    rw [this, Bool.or_true]
theorem codeL_has : ∀ {es : List ET} {c : Int}, codeL es = some c → hasEL (.code c) es = true
  | [], c, h => by unfold codeL at h; cases h
  | e :: es, c, h => by
    unfold codeL at h
    unfold hasEL
    cases hc : code1 e with
    | none => rw [hc] at h; rw [codeL_has h, Bool.or_true]
    | some n =>
      rw [hc] at h
      cases h
      have := code1_has hc
      unfold hasC at this
      rw [this, Bool.true_or]
end
theorem stripe_same (o : Option (Nat × Int)) : stripeN o = stripeO o := by cases o <;> rfl
theorem code0_of {e : ET} (hp : Pos e) : codeOf (some e) = if code0 e = 0 then 8 else code0 e := by
  have h := code1_ne hp
  unfold codeOf code0
  cases hc : code1 e with
  | none => simp [hc]
  | some n =>
    rw [hc] at h
    have hn : n ≠ 0 := fun h0 => h (by rw [h0])
    simp [hc, hn]


set_option maxRecDepth 100000 in
set_option maxHeartbeats 8000000 in
theorem causeTells_walk (lv : Value) (ls : List (Int × Int)) (cd : Int) (W : World) (hlv : RawsAt W lv ls) (hG : ErrT W) :
    Calls Tryd.prog 7 #[lv, .int .i64 cd] W fun e w' => e = .returned (.bool true) ∧ Below W.heap.size W w' := by
  have hGW : ∀ w, Below W.heap.size W w → ErrT w := fun w hb => by
    unfold ErrT at hG ⊢
    rw [hb.cell (World.block_lt_of_cell? _ _ hG), hG]
  have hgrow := fun w0 (h : Sat W w0 ([] ++ allOf W)) => grow_any lv ls W w0 hlv [] h
  obtain ⟨gl, cl, rfl, hll, hl⟩ := hlv
  clear hl
  have HGR := Lib.hid hgrow
  clear hgrow
  go_enter Tryd.func7, Tryd.ntmps7
  go_wp2_with fail
  refine (known_true W W (allOf W) (allOf_sat W) (fun w h => hGW w (Sat.below_all (L := []) h))).mono ?_; rintro r w1 ⟨rfl, hs1⟩
  go_wp2_with fail
  refine (HGR.out w1 hs1).mono ?_
  rintro r w2 (⟨rfl, hs2⟩ | ⟨p, T, rfl, ht, hl, hs2⟩)
  · have hs3 := hs2.newCells zeroSaid 43
    unfold zeroSaid at hs3 ⊢
    go_wp2_with fail
    refine (code_nil _).mono ?_; rintro r w3 ⟨rfl, rfl⟩
    go_wp2_with fail
    go_ret
    exact ⟨by simp, (Sat.below_all (L := []) hs3.tail)⟩
  · obtain ⟨av, nv, cv, hp2⟩ := ht.nodes.slice
    have hs3 := hs2.newCells #[.int .i64 (code0 p.1), .slice av nv cv, .int .i64 (stripeO (of1 p.1)), .bool (of1 p.1).isSome, str (textE p.1)] 43
    have n1 := val_nil p.1
    have n2 := guard_nil p.1
    unfold cells5
    rw [hp2]
    have HP2 := Lib.hid hp2
    clear hp2
    obtain ⟨G, hG'⟩ : ∃ G, G = cellsA w2.heap.size #[.int .i64 (code0 p.1), .slice av nv cv, .int .i64 (stripeO (of1 p.1)), .bool (of1 p.1).isSome, str (textE p.1)] 43 :: allOf W := ⟨_, rfl⟩
    obtain ⟨LL, hLL⟩ : ∃ LL, LL = cellsA w2.heap.size #[.int .i64 (code0 p.1), .slice av nv cv, .int .i64 (stripeO (of1 p.1)), .bool (of1 p.1).isSome, str (textE p.1)] 43 :: (T ++ allOf W) := ⟨_, rfl⟩
    have hLT : ∀ w, Sat W w LL → Sat W w (T ++ G) := fun w h => by rw [hLL] at h; rw [hG']; exact h.use (by intro x; simp only [cnt_append, cnt_cons, cnt_nil]; omega)
    have hTL : ∀ w, Sat W w (T ++ G) → Sat W w LL := fun w h => by rw [hG'] at h; rw [hLL]; exact h.use (by intro x; simp only [cnt_append, cnt_cons, cnt_nil]; omega)
    have hGL : ∀ w, Sat W w LL → ErrT w := fun w h => hGW w (Sat.below_all (L := cellsA w2.heap.size #[.int .i64 (code0 p.1), .slice av nv cv, .int .i64 (stripeO (of1 p.1)), .bool (of1 p.1).isSome, str (textE p.1)] 43 :: T) (by rw [hLL] at h; simpa using h))
    have hcl1 : ∀ y : Of W LL, y.v.cell? ⟨w2.heap.size, 1, none⟩ = some (.slice av nv cv) := fun y => by
      obtain ⟨y, h⟩ := y
      rw [hLL] at h
      exact h.cell m0 1
    have hcl4 : ∀ y : Of W LL, y.v.cell? ⟨w2.heap.size, 4, none⟩ = some (str (textE p.1)) := fun y => by
      obtain ⟨y, h⟩ := y
      rw [hLL] at h
      exact h.cell m0 4
    have HLL := Lib.hid hLL
    have HG := Lib.hid hG'
    have hco := code0_of ht.pos
    have HCO := Lib.hid hco
    have hs4 : Sat W (w2.alloc (.cells #[.int .i64 (code0 p.1), .slice av nv cv, .int .i64 (stripeO (of1 p.1)), .bool (of1 p.1).isSome, str (textE p.1)] 43)) LL := by rw [hLL]; simpa using hs3
    clear hLL hG' hco hs3 hs2
    go_upto_if 26 with fail
    go_cut [7] (fun wv wx => wv = .int .i64 (codeOf (some p.1)) ∧ Sat W wx LL)
    case first =>
      by_cases hc0 : code0 p.1 = 0
      · have e1 : codeOf (some p.1) = 8 := by rw [HCO.out, if_pos hc0]
        have HE1 := Lib.hid e1
        clear e1
        go_wp2_with fail
        go_meet
        exact ⟨by rw [HE1.out], hs4⟩
      · have e1 : codeOf (some p.1) = code0 p.1 := by rw [HCO.out, if_neg hc0]
        have HE1 := Lib.hid e1
        clear e1
        go_wp2_with fail
        go_meet
        exact ⟨by rw [HE1.out], hs4⟩
    case rest =>
      clear hs4
      obtain ⟨rfl, hsL0⟩ := hcut
      generalize w2.heap.size = zc at *
      obtain ⟨co, hco⟩ : ∃ co, co = codeOf (some p.1) := ⟨_, rfl⟩
      rw [← hco]
      have HCW := Lib.hid hco
      clear hco
      go_wp2_with fail
      refine (stripe_any p.1 W _ T G ht.inT (hGL _ hsL0) (hLT _ hsL0)).mono ?_; rintro r w4 ⟨rfl, hs4⟩
      rw [stripe_same]
      have hsL : Sat W w4 LL := hTL _ hs4
      clear hs4 hsL0
      go_wp2_with fail
      refine (hand_pick cd 12 _ (by omega) (by omega)).mono ?_; rintro r w5 ⟨rfl, rfl⟩
      go_wp2_with fail
      refine wp_region_held1 [1, 6, 9, 25, 33, 37, 48] [2, 7, 8, 26, 27, 34, 35, 36] [2, 7, 26, 34, 35, 36] [1, 6, 9, 25] (0 :: 2 :: 1 :: 3 :: 4 :: 5 :: 7 :: 8 :: 6 :: 9 :: 10 :: 11 :: 12 :: 13 :: 14 :: 15 :: 16 :: 17 :: 18 :: 19 :: 20 :: 21 :: 22 :: 23 :: 24 :: 26 :: 27 :: 25 :: 28 :: 29 :: 30 :: 31 :: 32 :: 34 :: 35 :: 36 :: 33 :: 37 :: 38 :: 39 :: 40 :: 41 :: 42 :: 43 :: 44 :: 45 :: 46 :: 47 :: 48 :: 49 :: 50 :: 51 :: []) (Held W LL) (by kernel_rfl) (by kernel_rfl) ?_ ?_
      · exact Held.mk hsL.drew
      have hne0 : Nonempty (Of W LL) := ⟨⟨_, hsL⟩⟩
      repeat (first | (refine can_pu1 rfl rfl rfl rfl rfl rfl (fun K hK => ?_); go_big_quiet_op; refine hK _ ?_; clear hK K) | (refine can_st1 rfl rfl rfl rfl rfl rfl (fun K hK => ?_); go_big_quiet_op; refine hK _ ?_; clear hK K) | (refine can_early1 rfl rfl rfl rfl rfl (fun K hK => ?_); go_big_quiet_op; refine hK _ ?_; clear hK K) | (refine can_skip rfl rfl rfl ?_; simp only [Act.put, List.setIfInBounds_toArray, List.set_cons_zero, List.set_cons_succ]))
      refine can_actS rfl rfl rfl rfl (fun K hK => ?_)
      go_wp2_with fail
      refine (code_any p.1 W _ T G ht.inT (hGL _ hsL.drew) (hLT _ hsL.drew)).mono ?_; rintro r w6 ⟨rfl, hs6⟩
      have hsL6 : Sat W w6 LL := hTL _ hs6
      rw [← HCW.out]
      apply hK
      refine ⟨Held.mk hsL6, ?_⟩
      clear hK hs6
      repeat (first | (refine can_pu1 rfl rfl rfl rfl rfl rfl (fun K hK => ?_); go_big_quiet_op; refine hK _ ?_; clear hK K) | (refine can_st1 rfl rfl rfl rfl rfl rfl (fun K hK => ?_); go_big_quiet_op; refine hK _ ?_; clear hK K) | (refine can_early1 rfl rfl rfl rfl rfl (fun K hK => ?_); go_big_quiet_op; refine hK _ ?_; clear hK K) | (refine can_skip rfl rfl rfl ?_; simp only [Act.put, List.setIfInBounds_toArray, List.set_cons_zero, List.set_cons_succ]))
      refine can_actS rfl rfl rfl rfl (fun K hK => ?_)
      go_wp2_with fail
      refine (nodes_any p.1.size p.1 (Nat.le_refl _) (by have := nodes_text p.1; omega) W w6 T G ht.inT (hLT _ hsL6)).mono ?_; rintro r w7 ⟨v7, R7, rfl, hr7, hs7⟩
      apply hK
      have hsL7 : Sat W w7 (R7 ++ LL) := by rw [HLL.out]; rw [HG.out] at hs7; exact hs7.use (by intro x; simp only [cnt_append, cnt_cons, cnt_nil]; omega)
      refine ⟨Held.mk hsL7.right, ?_⟩
      clear hK hs7
      repeat (first | (refine can_pu1 rfl rfl rfl rfl rfl rfl (fun K hK => ?_); go_big_quiet_op; refine hK _ ?_; clear hK K) | (refine can_st1 rfl rfl rfl rfl rfl rfl (fun K hK => ?_); go_big_quiet_op; refine hK _ ?_; clear hK K) | (refine can_early1 rfl rfl rfl rfl rfl (fun K hK => ?_); go_big_quiet_op; refine hK _ ?_; clear hK K) | (refine can_skip rfl rfl rfl ?_; simp only [Act.put, List.setIfInBounds_toArray, List.set_cons_zero, List.set_cons_succ]))
      refine can_actS rfl rfl rfl rfl (fun K hK => ?_)
      go_wp2_with fail
      obtain ⟨Rn, hrn, hRn⟩ := ht.nodes
      rw [HP2.out] at hrn
      refine (same_any W _ _ v7 _ (nodesE p.1) (nodesE p.1) R7 Rn hsL7 hr7 hrn (fun x hx => List.mem_append_left _ hx) (fun x hx => List.mem_append_right _ (by rw [HLL.out]; exact List.mem_cons_of_mem _ (List.mem_append_left _ (hRn x hx)))) (by have := nodes_text p.1; omega)).mono ?_; rintro r w8 ⟨rfl, hs8⟩
      apply hK
      have hsL8 : Sat W w8 LL := hs8.right
      refine ⟨Held.mk hsL8, ?_⟩
      clear hK hs8
      simp only [decide_true]
      have hsZ := hsL8
      rw [HLL.out] at hsZ
      have z2 : w8.cell? ⟨zc, 2, none⟩ = some (.int .i64 (stripeO (of1 p.1))) := hsZ.cell m0 2
      have z3 : w8.cell? ⟨zc, 3, none⟩ = some (.bool (of1 p.1).isSome) := hsZ.cell m0 3
      repeat (first | (refine can_pu1 rfl rfl rfl rfl rfl rfl (fun K hK => ?_); go_big_quiet_op; refine hK _ ?_; clear hK K) | (refine can_st1 rfl rfl rfl rfl rfl rfl (fun K hK => ?_); go_big_quiet_op; refine hK _ ?_; clear hK K) | (refine can_early1 rfl rfl rfl rfl rfl (fun K hK => ?_); go_big_quiet_op; refine hK _ ?_; clear hK K) | (refine can_skip rfl rfl rfl ?_; simp only [Act.put, List.setIfInBounds_toArray, List.set_cons_zero, List.set_cons_succ]))
      refine can_actS rfl rfl rfl rfl (fun K hK => ?_)
      refine wp_error p.1 rfl rfl (error_any p.1 ht.digs (by omega) W w8 T G ht.inT (hLT _ hsL8)) (fun w9 hs9 => ?_)
      apply hK
      have hsL9 : Sat W w9 LL := hTL _ hs9
      refine ⟨Held.mk hsL9, ?_⟩
      clear hK hs9 hsZ z2 z3
      simp only [Act.put, List.setIfInBounds_toArray, List.set_cons_zero, List.set_cons_succ]
      repeat (first | (refine can_pu1 rfl rfl rfl rfl rfl rfl (fun K hK => ?_); go_big_quiet_op; refine hK _ ?_; clear hK K) | (refine can_st1 rfl rfl rfl rfl rfl rfl (fun K hK => ?_); go_big_quiet_op; refine hK _ ?_; clear hK K) | (refine can_early1 rfl rfl rfl rfl rfl (fun K hK => ?_); go_big_quiet_op; refine hK _ ?_; clear hK K) | (refine can_skip rfl rfl rfl ?_; simp only [Act.put, List.setIfInBounds_toArray, List.set_cons_zero, List.set_cons_succ]))
      refine can_actF rfl rfl rfl rfl (fun K hK => ?_)
      go_wp2_with fail
      refine (causeIs p.1 _ W w9 T G ht.inT (hLT _ hsL9)).mono ?_; rintro r w10 ⟨rfl, hs10⟩
      apply hK
      clear hK
      repeat (first | (refine can_pu1 rfl rfl rfl rfl rfl rfl (fun K hK => ?_); go_big_quiet_op; refine hK _ ?_; clear hK K) | (refine can_st1 rfl rfl rfl rfl rfl rfl (fun K hK => ?_); go_big_quiet_op; refine hK _ ?_; clear hK K) | (refine can_early1 rfl rfl rfl rfl rfl (fun K hK => ?_); go_big_quiet_op; refine hK _ ?_; clear hK K) | (refine can_skip rfl rfl rfl ?_; simp only [Act.put, List.setIfInBounds_toArray, List.set_cons_zero, List.set_cons_succ]))
      refine can_actF rfl rfl rfl rfl (fun K hK => ?_)
      go_wp2_with fail
      refine (Is_code p.1 _ W w10 T G ht.inT hs10).mono ?_; rintro r w11 ⟨rfl, hs11⟩
      apply hK
      clear hK hs10
      have hsL11 : Sat W w11 LL := hTL _ hs11
      have hsZ := hsL11
      rw [HLL.out] at hsZ
      have z0 : w11.cell? ⟨zc, 0, none⟩ = some (.int .i64 (code0 p.1)) := hsZ.cell m0 0
      have hbe : Below W.heap.size W w11 := Sat.below_all (L := cellsA zc #[.int .i64 (code0 p.1), .slice av nv cv, .int .i64 (stripeO (of1 p.1)), .bool (of1 p.1).isSome, str (textE p.1)] 43 :: T) (by simpa using hsZ)
      by_cases hc0 : code0 p.1 = 0
      · rw [hc0] at z0
        clear hc0
        repeat (first | (refine can_pu1 rfl rfl rfl rfl rfl rfl (fun K hK => ?_); go_big_quiet_op; refine hK _ ?_; clear hK K) | (refine can_st1 rfl rfl rfl rfl rfl rfl (fun K hK => ?_); go_big_quiet_op; refine hK _ ?_; clear hK K) | (refine can_early1 rfl rfl rfl rfl rfl (fun K hK => ?_); go_big_quiet_op; refine hK _ ?_; clear hK K) | (refine can_skip rfl rfl rfl ?_; simp only [Act.put, List.setIfInBounds_toArray, List.set_cons_zero, List.set_cons_succ]))
        refine can_act_skip rfl rfl rfl (fun wz hx => ⟨(fun h => absurd h (by decide)), ?_⟩)
        obtain rfl : wz = w11 := hx
        simp only [Act.put, List.setIfInBounds_toArray, List.set_cons_zero, List.set_cons_succ]
        repeat (first | (refine can_pu1 rfl rfl rfl rfl rfl rfl (fun K hK => ?_); go_big_quiet_op; refine hK _ ?_; clear hK K) | (refine can_st1 rfl rfl rfl rfl rfl rfl (fun K hK => ?_); go_big_quiet_op; refine hK _ ?_; clear hK K) | (refine can_early1 rfl rfl rfl rfl rfl (fun K hK => ?_); go_big_quiet_op; refine hK _ ?_; clear hK K) | (refine can_skip rfl rfl rfl ?_; simp only [Act.put, List.setIfInBounds_toArray, List.set_cons_zero, List.set_cons_succ]))
        refine can_end1 ?_; (try simp only [Exit.then])
        go_wp2_with fail
        go_ret
        exact ⟨by simp, hbe⟩
      · have hcode : code1 p.1 = some (code0 p.1) := by
          unfold code0 at hc0 ⊢
          cases hq : code1 p.1 with
          | none => rw [hq] at hc0; exact absurd rfl hc0
          | some n => rfl
        have hhas := code1_has hcode
        have HHAS := Lib.hid hhas
        clear hhas hcode
        generalize code0 p.1 = cc at *
        have e1 : decide (cc = 0) = false := by simpa using hc0
        have e2 : (cc == 0) = false := by simpa using hc0
        repeat (first | (refine can_pu1 rfl rfl rfl rfl rfl rfl (fun K hK => ?_); go_big_quiet_op; refine hK _ ?_; clear hK K) | (refine can_st1 rfl rfl rfl rfl rfl rfl (fun K hK => ?_); go_big_quiet_op; refine hK _ ?_; clear hK K) | (refine can_early1 rfl rfl rfl rfl rfl (fun K hK => ?_); go_big_quiet_op; refine hK _ ?_; clear hK K) | (refine can_skip rfl rfl rfl ?_; simp only [Act.put, List.setIfInBounds_toArray, List.set_cons_zero, List.set_cons_succ]))
        refine can_actF rfl rfl rfl rfl (fun K hK => ?_)
        go_wp2_with fail
        refine (causeIs p.1 _ W w11 T G ht.inT hs11).mono ?_; rintro r w12 ⟨rfl, hs12⟩
        rw [HHAS.out]
        apply hK
        clear hK
        repeat (first | (refine can_pu1 rfl rfl rfl rfl rfl rfl (fun K hK => ?_); go_big_quiet_op; refine hK _ ?_; clear hK K) | (refine can_st1 rfl rfl rfl rfl rfl rfl (fun K hK => ?_); go_big_quiet_op; refine hK _ ?_; clear hK K) | (refine can_early1 rfl rfl rfl rfl rfl (fun K hK => ?_); go_big_quiet_op; refine hK _ ?_; clear hK K) | (refine can_skip rfl rfl rfl ?_; simp only [Act.put, List.setIfInBounds_toArray, List.set_cons_zero, List.set_cons_succ]))
        refine can_end1 ?_; (try simp only [Exit.then])
        go_wp2_with fail
        go_ret
        have hsL12 := hTL _ hs12
        rw [HLL.out] at hsL12
        exact ⟨by simp, Sat.below_all (L := cellsA zc #[.int .i64 cc, .slice av nv cv, .int .i64 (stripeO (of1 p.1)), .bool (of1 p.1).isSome, str (textE p.1)] 43 :: T) (by simpa using hsL12)⟩
end Go.Proofs.YtoknokbbggnmjaaDoor.Ca
