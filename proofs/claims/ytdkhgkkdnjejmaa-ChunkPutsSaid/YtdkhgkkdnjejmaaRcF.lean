/-
  The document's Open.
-/
import Derived.Test.YtdkhgkkdnjejmaaRcE
import Derived.Test.YtdkhgkkdnjejmaaChH
namespace Go.Proofs.Ytdkhgkkdnjejmaa.Ch
set_option linter.unusedSimpArgs false
open Go Go.RowKit Go.Sl Go.BigFrame
set_option linter.unusedVariables false

/-- A sealed block's own size. -/
theorem seal_size {kind : Int} {m b : List UInt8} (h : sealB kind m = b) (hm : m.length = 153) : b.getD 1 0 = 0 ∧ b.getD 2 0 = 153 := by
  subst h
  unfold sealB headB
  rw [hm]
  exact ⟨rfl, rfl⟩

set_option pp.deepTerms true in
set_option maxRecDepth 100000 in
set_option maxHeartbeats 4000000 in
theorem ref_open (W w : World) (L : List Atom) (v : Value) (b : List UInt8) (hs : Sat W w L) (hin : ∀ y, Sat W y L → Reads y v b.length (bts b)) (hl : b.length < 1000000) (hcap : ∀ a n c, v = .slice a n c → n ≤ c) :
    Calls Try.prog 78 #[v] w fun r w' => ∃ bv R, r = .returned (.tuple #[.int .i64 (openB b).1, bv, .int .i64 (openB b).2.2]) ∧ RowA 5 1 bv (openB b).2.1.length (bts (openB b).2.1) R ∧ Sat W w' (R ++ L) := by
  by_cases h160 : b.length = 160
  · obtain ⟨k0, i0⟩ : ∃ c, b[0]? = some c := ⟨_, List.getElem?_eq_getElem (by omega)⟩
    obtain ⟨k1, i1⟩ : ∃ c, b[1]? = some c := ⟨_, List.getElem?_eq_getElem (by omega)⟩
    obtain ⟨k2, i2⟩ : ∃ c, b[2]? = some c := ⟨_, List.getElem?_eq_getElem (by omega)⟩
    have hr := hin w hs
    have hr' := hr
    rcases hr' with ⟨_, hz, _⟩ | ⟨⟨g, o, sp⟩, c, rfl, hc⟩
    · omega
    have hcell : ∀ y, Sat W y L → ∀ k u, b[k]? = some u → y.cell? ((⟨g, o, sp⟩ : Addr).add k) = some (.int .u8 (u.toNat : Int)) := fun y hy k u hu => by
      rcases hin y hy with ⟨h1, _⟩ | ⟨a', c', e1, hc'⟩
      · cases h1
      · cases e1
        exact hc' k _ (bts_get hu)
    have u4 := u8_lt k1
    have u5 := u8_lt k2
    have v4 : (0 : Int) ≤ k1.toNat := by omega
    have v5 : (0 : Int) ≤ k2.toNat := by omega
    have u6 := u8_lt k0
    have v6 : (0 : Int) ≤ k0.toNat := by omega
    have hcp : 160 ≤ c := by have := hcap _ _ _ rfl; omega
    have hcp2 : (156 : Int) ≤ c := by omega
    have hO : openB b = (if sumB (b.take 156) ≠ numB (b.drop 156) then ((0 : Int), ([] : List UInt8), (3 : Int)) else
      if (k0.toNat : Int) < 1 ∨ sealB (k0.toNat : Int) ((b.drop 3).take (min (k1.toNat * 256 + k2.toNat) 153)) ≠ b then ((0 : Int), ([] : List UInt8), (2 : Int)) else ((k0.toNat : Int), (b.drop 3).take (min (k1.toNat * 256 + k2.toNat) 153), 0)) := by
      unfold openB
      rw [if_neg (by omega), getD_of i0, getD_of i1, getD_of i2]
    have HO := Lib.hid hO
    have HC := Lib.hid hcell
    have HIN := Lib.hid hin
    have HI0 := Lib.hid i0
    have HI1 := Lib.hid i1
    have HI2 := Lib.hid i2
    have H160 := Lib.hid h160
    have hS : Sat W w L := hs
    clear hcap hin hO hcell i0 i1 i2
    clear hc hr hs
    rw [h160]
    clear h160
    go_enter Try.func78, Try.ntmps78
    go_wp2_with fail
    go_loop [7, 6] (fun kv hv => ∃ j : Nat, kv = .int .i64 j ∧ 156 ≤ j ∧ j ≤ 160 ∧ hv = .int .i64 (numB ((b.drop 156).take (j - 156)))) (fun kv _ => (160 - (intOf kv).toNat))
    case atStart => exact ⟨156, rfl, by omega, by omega, by simp [numB]⟩
    case round =>
      obtain ⟨j, rfl, hj, hj2, rfl⟩ := hrel
      have j0 : (0 : Int) ≤ j := by omega
      by_cases hkl : j < 160
      · have k1' : (j : Int) < 160 := by omega
        obtain ⟨x, hx⟩ : ∃ x, b[j]? = some x := ⟨_, List.getElem?_eq_getElem (by rw [H160.out]; exact hkl)⟩
        have d0 : w.cell? ((⟨g, o, sp⟩ : Addr).add j) = some (.int .u8 (x.toNat : Int)) := HC.out w hS j _ hx
        have hst : numB ((b.drop 156).take (j + 1 - 156)) = numB ((b.drop 156).take (j - 156)) * 256 + x.toNat := by
          rw [show j + 1 - 156 = (j - 156) + 1 by omega, take_snoc (l := b.drop 156) (k := j - 156) (by rw [List.getElem?_drop, show 156 + (j - 156) = j by omega]; exact hx), numB_snoc]
        obtain ⟨s1, s2⟩ := numB_bounds ((b.drop 156).take (j - 156)) (j - 156) (by rw [List.length_take, List.length_drop, H160.out]; omega)
        have s3 : numB ((b.drop 156).take (j - 156)) < 1099511627776 := by
          have : (256 : Int) ^ (j - 156) ≤ 256 ^ 5 := by
            have : (256 : Nat) ^ (j - 156) ≤ 256 ^ 5 := Nat.pow_le_pow_right (by decide) (by omega)
            exact_mod_cast this
          have e : (256 : Int) ^ 5 = 1099511627776 := by decide
          omega
        have c1 := u8_lt x
        have c0 : (0 : Int) ≤ x.toNat := by omega
        have HST := Lib.hid hst
        clear hst hx s2
        generalize numB ((b.drop 156).take (j - 156)) = s at *
        have hor : bits .or .i64 (s * 256) x.toNat = s * 256 + x.toNat := by
          have h := or_low 8 s.toNat x.toNat (by have := x.toNat_lt; omega) (by omega) (by decide)
          rw [show ((s.toNat * 2 ^ 8 : Nat) : Int) = s * 256 by omega, show ((s.toNat * 2 ^ 8 + x.toNat : Nat) : Int) = s * 256 + x.toNat by omega] at h
          exact h
        have HOR := Lib.hid hor
        clear hor
        go_wp2_with fail
        refine ⟨⟨j + 1, by simp, by omega, by omega, by rw [HST.out, HOR.out]⟩, ?_⟩
        simp [intOf]
        omega
      · obtain rfl : j = 160 := by omega
        rw [show (b.drop 156).take (160 - 156) = b.drop 156 from List.take_of_length_le (by rw [List.length_drop, H160.out]; exact Nat.le_refl _)]
        clear hj hj2 hkl j0
        generalize numB (b.drop 156) = S2 at *
        go_wp2_with fail
        have hrc : ∀ y, Sat W y L → Reads y (Value.slice (some ⟨g, o, sp⟩) 156 c) (b.take 156).length (bts (b.take 156)) := fun y hy => by
          rcases reads_cut (m := 156) (HIN.out _ hy) (by rw [H160.out]; omega) c with h | h
          · exact h
          · cases h
        refine (ref_sum _ (b.take 156) W w _ hS hrc (by rw [List.length_take]; omega)).mono ?_; rintro r w4 ⟨rfl, hs4⟩
        clear hrc hS
        have HO' := HO.out
        by_cases hse : sumB (b.take 156) = S2
        · rw [if_neg (by simpa using hse)] at HO'
          have qs : (sumB (b.take 156) != S2) = false := by simpa using hse
          have HO2 := Lib.hid HO'
          clear hse HO' HO
          generalize sumB (b.take 156) = S1 at *
          have hor := or2 k1 k2
          have d4 : w4.cell? ⟨g, o + 1, none⟩ = some (.int .u8 (k1.toNat : Int)) := HC.out _ hs4 1 _ HI1.out
          have d5 : w4.cell? ⟨g, o + 2, none⟩ = some (.int .u8 (k2.toNat : Int)) := HC.out _ hs4 2 _ HI2.out
          go_wp2_with fail
          refine wp_region_one [] [] [] [] [0, 1, 2, 3, 4, 5, 6, 7, 8, 9, 10] (by kernel_rfl) (by kernel_rfl) ?_
          repeat (first | (refine can_pu1 rfl rfl rfl rfl rfl rfl (fun K hK => ?_); go_big_quiet_op; refine hK _ ?_; clear hK K) | (refine can_st1 rfl rfl rfl rfl rfl rfl (fun K hK => ?_); go_big_quiet_op; refine hK _ ?_; clear hK K) | (refine can_early1 rfl rfl rfl rfl rfl (fun K hK => ?_); go_big_quiet_op; refine hK _ ?_; clear hK K) | (refine can_skip rfl rfl rfl ?_; simp only [Act.put, List.setIfInBounds_toArray, List.set_cons_zero, List.set_cons_succ]))
          refine can_end1 ?_; (try simp only [Exit.then])
          rw [show (k1.toNat : Int) * 256 + k2.toNat = ((k1.toNat * 256 + k2.toNat : Nat) : Int) by omega]
          clear hor
          generalize hm : k1.toNat * 256 + k2.toNat = m at *
          rcases Nat.lt_or_ge 153 m with hm1 | hm1
          · have hm2 : 153 < (m : Int) := by omega
            rw [show min m 153 = 153 by omega] at HO2
            have hbad : sealB (k0.toNat : Int) ((b.drop 3).take 153) ≠ b := fun h => by
              obtain ⟨a1, a2⟩ := seal_size h (by rw [List.length_take, List.length_drop, H160.out]; rfl)
              rw [getD_of HI1.out] at a1
              rw [getD_of HI2.out] at a2
              rw [a1, a2] at hm
              have e : (0 : UInt8).toNat * 256 + (153 : UInt8).toNat = 153 := rfl
              omega
            have HO3 := HO2.out
            rw [if_pos (.inr hbad)] at HO3
            have HO4 := Lib.hid HO3
            clear HO3 HO2 hbad hm1 hm
            go_wp2_with fail
            go_ret3
            rw [HO4.out]
            exact ⟨_, _, rfl, RowA.nil _ _, hs4.drew⟩
          · have hm2 : (m : Int) ≤ 153 := by omega
            have hm0 : (0 : Int) ≤ m := by omega
            rw [show min m 153 = m by omega] at HO2
            have hs5 := hs4.drew
            have hsrc : ∀ y c', Sat W y L → Reads y (.slice (some ⟨g, o + 3, none⟩) (3 + m - 3) c') ((b.drop 3).take m).length (bts ((b.drop 3).take m)) := fun y c' hy => by
              rw [show 3 + m - 3 = m by omega]
              exact reads_sub (HC.out y hy) 3 m c' (by rw [H160.out]; omega) (add_three g o sp)
            have hlb : ((b.drop 3).take m).length = m := by rw [List.length_take, List.length_drop, H160.out]; omega
            have hblk : ∀ y, Sat W y L → Reads y (Value.slice (some { block := g, off := o, spot := sp }) b.length c) b.length (bts b) := HIN.out
            rw [H160.out] at hblk
            have hblk0 : ∀ y, Sat W y L → Reads y (Value.slice (some { block := g, off := o, spot := sp }) 160 c) b.length (bts b) := fun y hy => by
              have h := HIN.out y hy
              rw [H160.out] at h ⊢
              exact h
            have HBK := Lib.hid hblk0
            have HSR := Lib.hid hsrc
            have HLB := Lib.hid hlb
            clear hm hm1 hblk hblk0 hsrc hlb d4 d5 hs4
            generalize w4.drew = w5 at *
            generalize (b.drop 3).take m = B at *
            go_wp2_with (at_builtin; go_loud (refine wpList_plain rfl (fun K hK => ?_); refine wp_append_u8 rfl [] B rfl rfl (none_row _) (none_sat hs5) (HSR.out _ _ (none_sat hs5).right) (by rw [HLB.out]; show 0 + m < 1000000; omega) (fun v2 w6 R2 hr2 hs6 => ?_); refine hK _ _ ?_; simp only [Act.put, List.setIfInBounds_toArray, List.set_cons_zero, List.set_cons_succ]; clear hK; obtain ⟨a2, q2, rfl⟩ := Ch.RowA.slice hr2; simp only [List.nil_append] at hr2 ⊢; have d6 : w6.cell? ⟨g, o, sp⟩ = some (.int .u8 (k0.toNat : Int)) := HC.out _ hs6.right 0 _ HI0.out))
            have hBl : B.length ≤ 153 := by rw [HLB.out]; omega
            by_cases hk1 : (k0.toNat : Int) < 1
            · have hO2 := HO2.out
              rw [if_pos (.inl hk1)] at hO2
              have HO3 := Lib.hid hO2
              clear hO2 HO2
              refine (ref_seal_bad _ _ _ _ (hr2.reads hs6) (.inl hk1)).mono ?_; rintro r w7 ⟨rfl, rfl⟩
              go_wp2_with fail
              go_ret3
              rw [HO3.out]
              exact ⟨_, _, rfl, RowA.nil _ _, hs6.right⟩
            · refine (ref_seal _ _ _ W _ _ (by omega) (by omega) hBl hs6 (fun y hy => hr2.reads (hs6.below hy))).mono ?_; rintro r w7 ⟨v3, R3, rfl, hr3, hs7⟩
              have d7 : w7.cell? ⟨g, o, sp⟩ = some (.int .u8 (k0.toNat : Int)) := HC.out _ hs7.right.right 0 _ HI0.out
              have hc1 := str_of _ (sealB (k0.toNat : Int) B) w7 (hr3.reads hs7)
              have hc2 := str_of _ b w7 (HBK.out _ hs7.right.right)
              have hK0 := Lib.hid hk1
              have hO2 := HO2.out
              have hcond : ((k0.toNat : Int) < 1 ∨ sealB (k0.toNat : Int) B ≠ b) ↔ ¬ sealB (k0.toNat : Int) B = b := ⟨fun h => h.elim (fun h => absurd h hk1) id, .inr⟩
              simp only [hcond] at hO2
              clear HO2 hcond d6 hk1
              generalize sealB (k0.toNat : Int) B = Z at *
              by_cases hz : Z = b
              · rw [if_neg (fun h => h hz)] at hO2
                have HO3 := Lib.hid hO2
                have qz : (Z == b) = true := by simpa using hz
                clear hO2 hz
                go_wp2_with fail
                go_ret3
                rw [HO3.out]
                exact ⟨_, R2, rfl, hr2, hs7.use (by intro x; simp only [cnt_append, cnt_cons, cnt_nil]; omega)⟩
              · rw [if_pos hz] at hO2
                have HO3 := Lib.hid hO2
                have qz : (Z == b) = false := by simpa using hz
                clear hO2 hz
                go_wp2_with fail
                go_ret3
                rw [HO3.out]
                exact ⟨_, _, rfl, RowA.nil _ _, hs7.right.right⟩
        · rw [if_pos hse] at HO'
          have qs : (sumB (b.take 156) != S2) = true := by simpa using hse
          have HO2 := Lib.hid HO'
          clear hse HO' HO
          generalize sumB (b.take 156) = S1 at *
          go_wp2_with fail
          go_ret3
          rw [HO2.out]
          exact ⟨_, _, rfl, RowA.nil _ _, hs4⟩
  · have hr := hin w hs
    have q0 : ((b.length : Int) != 160) = true := by simp; omega
    have hb : openB b = (0, [], 2) := by unfold openB; rw [if_pos h160]
    obtain ⟨a1, c1, rfl⟩ := reads_shape hr
    rw [hb]
    clear hb
    go_enter Try.func78, Try.ntmps78
    go_wp2_with fail
    go_ret3
    exact ⟨_, _, rfl, RowA.nil _ _, hs⟩
end Go.Proofs.Ytdkhgkkdnjejmaa.Ch
