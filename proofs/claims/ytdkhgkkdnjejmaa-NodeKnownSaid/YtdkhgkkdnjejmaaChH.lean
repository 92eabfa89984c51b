/-
  mark.Open, walked.
-/
import Derived.Test.YtdkhgkkdnjejmaaChG
namespace Go.Proofs.Ytdkhgkkdnjejmaa.Ch
set_option linter.unusedSimpArgs false
open Go Go.RowKit Go.Sl Go.BigFrame
set_option linter.unusedVariables false

theorem drop_four {b : List UInt8} (h : b.length = 160) {c0 c1 c2 c3 : UInt8} (h0 : b[156]? = some c0) (h1 : b[157]? = some c1) (h2 : b[158]? = some c2) (h3 : b[159]? = some c3) : b.drop 156 = [c0, c1, c2, c3] := by
  apply List.ext_getElem?
  intro i
  rw [List.getElem?_drop]
  rcases i with _ | _ | _ | _ | i
  · simpa using h0
  · simpa using h1
  · simpa using h2
  · simpa using h3
  · rw [List.getElem?_eq_none (by omega)]; simp
theorem getD_of {b : List UInt8} {k : Nat} {c : UInt8} (h : b[k]? = some c) : b.getD k 0 = c := by simp [List.getD, h]

theorem or2 (k1 k2 : UInt8) : bits .or .i64 ((k1.toNat : Int) * 256) (k2.toNat : Int) = ((k1.toNat * 256 + k2.toNat : Nat) : Int) := by
  have h1 : k1.toNat < 256 := k1.toNat_lt
  have h2 : k2.toNat < 256 := k2.toNat_lt
  have a := or_low 8 k1.toNat k2.toNat (by omega) (by omega) (by omega)
  rw [← a]
  congr 1

theorem reads_sub {w : World} {a a' : Addr} {l : List UInt8} (h : ∀ k u, l[k]? = some u → w.cell? (a.add k) = some (.int .u8 (u.toNat : Int))) (i m c : Nat) (hi : i + m ≤ l.length) (ha : ∀ j, a'.add j = a.add (i + j)) : Reads w (.slice (some a') m c) ((l.drop i).take m).length (bts ((l.drop i).take m)) := by
  have hlen : ((l.drop i).take m).length = m := by simp; omega
  refine .inr ⟨a', c, by rw [hlen], fun j u hu => ?_⟩
  rw [bts, List.getElem?_map] at hu
  obtain ⟨x, hx, rfl⟩ := Option.map_eq_some_iff.1 hu
  rw [List.getElem?_take] at hx
  split at hx
  · rw [List.getElem?_drop] at hx
    rw [ha j]
    exact h _ _ hx
  · cases hx
theorem add_three (g o : Nat) (sp : Option Nat) (j : Nat) : (⟨g, o + 3, none⟩ : Addr).add j = (⟨g, o, sp⟩ : Addr).add (3 + j) := by
  rw [add_row]
  unfold Addr.add
  rw [if_neg (by omega), Nat.add_assoc]

set_option maxRecDepth 100000 in
set_option maxHeartbeats 4000000 in
theorem open_any (W w : World) (L : List Atom) (v : Value) (b : List UInt8) (hs : Sat W w L) (hin : ∀ y, Sat W y L → Reads y v b.length (bts b)) (hl : b.length < 1000000) (hcap : ∀ a n c, v = .slice a n c → n ≤ c) :
    Calls Try.prog 69 #[v] w fun r w' => ∃ bv R, r = .returned (.tuple #[.int .i64 (openB b).1, bv, .int .i64 (openB b).2.2]) ∧ RowA 5 1 bv (openB b).2.1.length (bts (openB b).2.1) R ∧ Sat W w' (R ++ L) := by
  by_cases h160 : b.length = 160
  · obtain ⟨c0, h0⟩ : ∃ c, b[156]? = some c := ⟨_, List.getElem?_eq_getElem (by omega)⟩
    obtain ⟨c1, h1⟩ : ∃ c, b[157]? = some c := ⟨_, List.getElem?_eq_getElem (by omega)⟩
    obtain ⟨c2, h2⟩ : ∃ c, b[158]? = some c := ⟨_, List.getElem?_eq_getElem (by omega)⟩
    obtain ⟨c3, h3⟩ : ∃ c, b[159]? = some c := ⟨_, List.getElem?_eq_getElem (by omega)⟩
    obtain ⟨k0, i0⟩ : ∃ c, b[0]? = some c := ⟨_, List.getElem?_eq_getElem (by omega)⟩
    obtain ⟨k1, i1⟩ : ∃ c, b[1]? = some c := ⟨_, List.getElem?_eq_getElem (by omega)⟩
    obtain ⟨k2, i2⟩ : ∃ c, b[2]? = some c := ⟨_, List.getElem?_eq_getElem (by omega)⟩
    have hr := hin w hs
    have hr' := hr
    rcases hr' with ⟨_, hz, _⟩ | ⟨⟨g, o, sp⟩, c, rfl, hc⟩
    · omega
    have hcell : ∀ y, Sat W y L → ∀ k u, b[k]? = some u → y.cell? ((⟨g, o, sp⟩ : Addr).add k) = some (.int .u8 (u.toNat : Int)) := fun y hy k u hu => by
      rcases hin y hy with ⟨h1, _⟩ | ⟨a', c', e1, hc'⟩
      · cases h1
      · cases e1
        exact hc' k _ (bts_get hu)
    have d0 : w.cell? ⟨g, o + 156, none⟩ = some (.int .u8 (c0.toNat : Int)) := hcell w hs 156 _ h0
    have d1 : w.cell? ⟨g, o + 157, none⟩ = some (.int .u8 (c1.toNat : Int)) := hcell w hs 157 _ h1
    have d2 : w.cell? ⟨g, o + 158, none⟩ = some (.int .u8 (c2.toNat : Int)) := hcell w hs 158 _ h2
    have d3 : w.cell? ⟨g, o + 159, none⟩ = some (.int .u8 (c3.toNat : Int)) := hcell w hs 159 _ h3
    have d4 : w.cell? ⟨g, o + 1, none⟩ = some (.int .u8 (k1.toNat : Int)) := hcell w hs 1 _ i1
    have d5 : w.cell? ⟨g, o + 2, none⟩ = some (.int .u8 (k2.toNat : Int)) := hcell w hs 2 _ i2
    have u0 := u8_lt c0
    have u1 := u8_lt c1
    have u2 := u8_lt c2
    have u3 := u8_lt c3
    have v0 : (0 : Int) ≤ c0.toNat := by omega
    have v1 : (0 : Int) ≤ c1.toNat := by omega
    have v2 : (0 : Int) ≤ c2.toNat := by omega
    have v3 : (0 : Int) ≤ c3.toNat := by omega
    have u4 := u8_lt k1
    have u5 := u8_lt k2
    have v4 : (0 : Int) ≤ k1.toNat := by omega
    have v5 : (0 : Int) ≤ k2.toNat := by omega
    have u6 := u8_lt k0
    have v6 : (0 : Int) ≤ k0.toNat := by omega
    have hcp : 160 ≤ c := by have := hcap _ _ _ rfl; omega
    have hcp2 : (156 : Int) ≤ c := by omega
    have hd4 : b.drop 156 = [c0, c1, c2, c3] := drop_four h160 h0 h1 h2 h3
    have hO : openB b = (if sumB (b.take 156) ≠ numB [c0, c1, c2, c3] then ((0 : Int), ([] : List UInt8), (3 : Int)) else
      if (k0.toNat : Int) < 1 ∨ sealB (k0.toNat : Int) ((b.drop 3).take (min (k1.toNat * 256 + k2.toNat) 153)) ≠ b then ((0 : Int), ([] : List UInt8), (2 : Int)) else ((k0.toNat : Int), (b.drop 3).take (min (k1.toNat * 256 + k2.toNat) 153), 0)) := by
      unfold openB
      rw [if_neg (by omega), hd4, getD_of i0, getD_of i1, getD_of i2]
    have hsum : Calls Try.prog 91 #[.slice (some ⟨g, o, sp⟩) 156 c] w.drew fun e w' => e = .returned (.int .i64 (sumB (b.take 156))) ∧ w.drew = w' := by
      rcases reads_cut (m := 156) (hin _ hs.drew) (by omega) c with h | h
      · exact sum_any _ _ _ h (by simp; omega)
      · cases h
    have HO := Lib.hid hO
    have HC := Lib.hid hcell
    have HIN := Lib.hid hin
    have HI0 := Lib.hid i0
    clear hcap hin hO hd4 hcell i0 i1 i2
    clear h0 h1 h2 h3 hc hr
    rw [h160]
    go_enter Try.func69, Try.ntmps69
    go_wp2_with fail
    refine wp_region_one [] [] [] [] [0, 1, 2, 3, 4, 5, 6, 7, 8, 9, 10, 11, 12, 13, 14, 15, 16, 17, 18, 19, 20, 21, 22, 23, 24, 25, 26, 27, 28, 29] (by kernel_rfl) (by kernel_rfl) ?_
    repeat (first | (refine can_pu1 rfl rfl rfl rfl rfl rfl (fun K hK => ?_); go_big_quiet_op; refine hK _ ?_; clear hK K) | (refine can_st1 rfl rfl rfl rfl rfl rfl (fun K hK => ?_); go_big_quiet_op; refine hK _ ?_; clear hK K) | (refine can_early1 rfl rfl rfl rfl rfl (fun K hK => ?_); go_big_quiet_op; refine hK _ ?_; clear hK K) | (refine can_skip rfl rfl rfl ?_; simp only [Act.put, List.setIfInBounds_toArray, List.set_cons_zero, List.set_cons_succ]))
    refine can_end1 ?_; (try simp only [Exit.then])
    go_wp2_with fail
    refine hsum.mono ?_; rintro r w4 ⟨rfl, rfl⟩
    rw [or4]
    clear hsum
    by_cases hse : sumB (b.take 156) = numB [c0, c1, c2, c3]
    · have hO := HO.out
      rw [if_neg (by simpa using hse)] at hO
      have qs : (sumB (b.take 156) != numB [c0, c1, c2, c3]) = false := by simpa using hse
      have HO2 := Lib.hid hO
      clear hse hO HO d0 d1 d2 d3 u0 u1 u2 u3 v0 v1 v2 v3
      generalize sumB (b.take 156) = S1 at *
      generalize numB [c0, c1, c2, c3] = S2 at *
      have hor := or2 k1 k2
      generalize k1.toNat * 256 + k2.toNat = m at hor HO2
      rcases Nat.lt_or_ge 153 m with hm | hm
      · have hm2 : 153 < (m : Int) := by omega
        rw [show min m 153 = 153 by omega] at HO2
        clear hm
        go_wp2_with fail
        refine wp_region_one [] [] [] [] [0, 1, 2, 3, 4, 5, 6, 7, 8, 9, 10, 11] (by kernel_rfl) (by kernel_rfl) ?_
        repeat (first | (refine can_pu1 rfl rfl rfl rfl rfl rfl (fun K hK => ?_); go_big_quiet_op; refine hK _ ?_; clear hK K) | (refine can_st1 rfl rfl rfl rfl rfl rfl (fun K hK => ?_); go_big_quiet_op; refine hK _ ?_; clear hK K) | (refine can_early1 rfl rfl rfl rfl rfl (fun K hK => ?_); go_big_quiet_op; refine hK _ ?_; clear hK K) | (refine can_skip rfl rfl rfl ?_; simp only [Act.put, List.setIfInBounds_toArray, List.set_cons_zero, List.set_cons_succ]))
        refine can_end1 ?_; (try simp only [Exit.then])
        go_wp2_with fail
        refine wp_region_held1 [8] [0, 1, 2, 3] [0, 1, 3] [8] [0, 1, 2, 3, 4, 5, 6, 7, 8, 9, 10] (Held W L) (by kernel_rfl) (by kernel_rfl) ?_ ?_
        · exact Held.mk hs.drew.drew.drew
        have hne : Nonempty (Of W L) := ⟨⟨_, hs⟩⟩
        repeat (first | (refine can_pu1 rfl rfl rfl rfl rfl rfl (fun K hK => ?_); go_big_quiet_op; refine hK _ ?_; clear hK K) | (refine can_st1 rfl rfl rfl rfl rfl rfl (fun K hK => ?_); go_big_quiet_op; refine hK _ ?_; clear hK K) | (refine can_early1 rfl rfl rfl rfl rfl (fun K hK => ?_); go_big_quiet_op; refine hK _ ?_; clear hK K) | (refine can_skip rfl rfl rfl ?_; simp only [Act.put, List.setIfInBounds_toArray, List.set_cons_zero, List.set_cons_succ]))
        refine can_st1 rfl rfl rfl rfl rfl rfl (fun K hK => ?_)
        refine quiet_load (a := ⟨g, o, sp⟩) (v := .int .u8 (k0.toNat : Int)) rfl (fun w => Try.isAgg5 w) (by go_simp) (fun y hy => by obtain ⟨y, rfl⟩ := hy; exact HC.out _ y.s 0 _ HI0.out) ?_
        refine hK _ ?_; clear hK K; simp only [Act.put, List.setIfInBounds_toArray, List.set_cons_zero, List.set_cons_succ]
        repeat (first | (refine can_pu1 rfl rfl rfl rfl rfl rfl (fun K hK => ?_); go_big_quiet_op; refine hK _ ?_; clear hK K) | (refine can_st1 rfl rfl rfl rfl rfl rfl (fun K hK => ?_); go_big_quiet_op; refine hK _ ?_; clear hK K) | (refine can_early1 rfl rfl rfl rfl rfl (fun K hK => ?_); go_big_quiet_op; refine hK _ ?_; clear hK K) | (refine can_skip rfl rfl rfl ?_; simp only [Act.put, List.setIfInBounds_toArray, List.set_cons_zero, List.set_cons_succ]))
        refine can_actS rfl rfl rfl rfl (fun K hK => ?_)
        go_wp2_with fail
        have hlb : ((b.drop 3).take 153).length = 153 := by simp; omega
        have hs3 : Sat W w.drew.drew.drew L := hs.drew.drew.drew
        refine (clone_any _ _ W _ L (reads_sub (HC.out _ hs3) 3 153 _ (by omega) (add_three g o sp)) (by rw [hlb]; omega) hs3).mono ?_; rintro r w5 ⟨bv, R, rfl, hbr, hs5⟩
        apply hK
        refine ⟨Held.mk hs5.right, ?_⟩
        clear hK hs3 d4 d5 hne
        repeat (first | (refine can_pu1 rfl rfl rfl rfl rfl rfl (fun K hK => ?_); go_big_quiet_op; refine hK _ ?_; clear hK K) | (refine can_st1 rfl rfl rfl rfl rfl rfl (fun K hK => ?_); go_big_quiet_op; refine hK _ ?_; clear hK K) | (refine can_early1 rfl rfl rfl rfl rfl (fun K hK => ?_); go_big_quiet_op; refine hK _ ?_; clear hK K) | (refine can_skip rfl rfl rfl ?_; simp only [Act.put, List.setIfInBounds_toArray, List.set_cons_zero, List.set_cons_succ]))
        refine can_end1 ?_; (try simp only [Exit.then])
        have hbl : ((b.drop 3).take 153).length ≤ 153 := by omega
        have hk0 := k0.toNat_lt
        have hblk : ∀ y, Sat W y L → Reads y (Value.slice (some { block := g, off := o, spot := sp }) b.length c) b.length (bts b) := HIN.out
        rw [h160] at hblk
        clear hlb
        generalize (b.drop 3).take 153 = B at *
        by_cases hk1 : (k0.toNat : Int) < 1
        · have hO2 := HO2.out
          rw [if_pos (.inl hk1)] at hO2
          have HO3 := Lib.hid hO2
          clear hO2 HO2 hblk
          go_wp2_with fail
          refine (seal_bad _ _ _ _ (hbr.reads hs5) (.inl hk1)).mono ?_; rintro r w6 ⟨rfl, rfl⟩
          go_wp2_with fail
          go_ret3
          rw [HO3.out]
          exact ⟨_, _, rfl, RowA.nil _ _, hs5.right⟩
        · go_wp2_with fail
          refine (seal_any _ _ _ W _ _ (by omega) (by omega) hbl (hbr.reads hs5) hs5).mono ?_; rintro r w6 ⟨sv, R6, rfl, hsr, hs6⟩
          go_wp2_with fail
          have hbr2 := hblk _ hs6.right.right
          rw [← h160] at hbr2
          rw [← h160]
          have hsl : (sealB (k0.toNat : Int) B).length = 160 := sealB_length _ _ hbl
          refine (equal_any W _ _ _ _ _ _ hs6 (hsr.reads hs6) hbr2 (by omega) (by omega)).mono ?_; rintro r w7 ⟨rfl, hs7, _⟩
          have hO2 := HO2.out
          have hK0 := Lib.hid hk1
          clear HO2 hblk hbr2 hk1
          by_cases hsb : sealB (k0.toNat : Int) B = b
          · rw [if_neg (by simp only [hsb]; simpa using hK0.out)] at hO2
            have HO3 := Lib.hid hO2
            rw [decide_eq_true hsb]
            clear hO2 hsb hsl
            go_wp2_with fail
            go_ret3
            rw [HO3.out]
            exact ⟨_, R, rfl, hbr, hs7.use (by intro x; simp only [cnt_append, cnt_cons, cnt_nil]; omega)⟩
          · rw [if_pos (.inr hsb)] at hO2
            have HO3 := Lib.hid hO2
            rw [decide_eq_false hsb]
            clear hO2 hsb hsl
            go_wp2_with fail
            go_ret3
            rw [HO3.out]
            exact ⟨_, _, rfl, RowA.nil _ _, hs7.right.right⟩
      · have hm2 : (m : Int) ≤ 153 := by omega
        have hm0 : (0 : Int) ≤ m := by omega
        rw [show min m 153 = m by omega] at HO2
        go_wp2_with fail
        refine wp_region_one [] [] [] [] [0, 1, 2, 3, 4, 5, 6, 7, 8, 9, 10, 11] (by kernel_rfl) (by kernel_rfl) ?_
        repeat (first | (refine can_pu1 rfl rfl rfl rfl rfl rfl (fun K hK => ?_); go_big_quiet_op; refine hK _ ?_; clear hK K) | (refine can_st1 rfl rfl rfl rfl rfl rfl (fun K hK => ?_); go_big_quiet_op; refine hK _ ?_; clear hK K) | (refine can_early1 rfl rfl rfl rfl rfl (fun K hK => ?_); go_big_quiet_op; refine hK _ ?_; clear hK K) | (refine can_skip rfl rfl rfl ?_; simp only [Act.put, List.setIfInBounds_toArray, List.set_cons_zero, List.set_cons_succ]))
        refine can_end1 ?_; (try simp only [Exit.then])
        go_wp2_with fail
        refine wp_region_held1 [8] [0, 1, 2, 3] [0, 1, 3] [8] [0, 1, 2, 3, 4, 5, 6, 7, 8, 9, 10] (Held W L) (by kernel_rfl) (by kernel_rfl) ?_ ?_
        · exact Held.mk hs.drew.drew.drew
        have hne : Nonempty (Of W L) := ⟨⟨_, hs⟩⟩
        repeat (first | (refine can_pu1 rfl rfl rfl rfl rfl rfl (fun K hK => ?_); go_big_quiet_op; refine hK _ ?_; clear hK K) | (refine can_st1 rfl rfl rfl rfl rfl rfl (fun K hK => ?_); go_big_quiet_op; refine hK _ ?_; clear hK K) | (refine can_early1 rfl rfl rfl rfl rfl (fun K hK => ?_); go_big_quiet_op; refine hK _ ?_; clear hK K) | (refine can_skip rfl rfl rfl ?_; simp only [Act.put, List.setIfInBounds_toArray, List.set_cons_zero, List.set_cons_succ]))
        refine can_st1 rfl rfl rfl rfl rfl rfl (fun K hK => ?_)
        refine quiet_load (a := ⟨g, o, sp⟩) (v := .int .u8 (k0.toNat : Int)) rfl (fun w => Try.isAgg5 w) (by go_simp) (fun y hy => by obtain ⟨y, rfl⟩ := hy; exact HC.out _ y.s 0 _ HI0.out) ?_
        refine hK _ ?_; clear hK K; simp only [Act.put, List.setIfInBounds_toArray, List.set_cons_zero, List.set_cons_succ]
        repeat (first | (refine can_pu1 rfl rfl rfl rfl rfl rfl (fun K hK => ?_); go_big_quiet_op; refine hK _ ?_; clear hK K) | (refine can_st1 rfl rfl rfl rfl rfl rfl (fun K hK => ?_); go_big_quiet_op; refine hK _ ?_; clear hK K) | (refine can_early1 rfl rfl rfl rfl rfl (fun K hK => ?_); go_big_quiet_op; refine hK _ ?_; clear hK K) | (refine can_skip rfl rfl rfl ?_; simp only [Act.put, List.setIfInBounds_toArray, List.set_cons_zero, List.set_cons_succ]))
        refine can_actS rfl rfl rfl rfl (fun K hK => ?_)
        go_wp2_with fail
        have hlb : ((b.drop 3).take m).length = m := by simp; omega
        have hs3 : Sat W w.drew.drew.drew L := hs.drew.drew.drew
        refine (clone_any _ _ W _ L (reads_sub (HC.out _ hs3) 3 m _ (by omega) (add_three g o sp)) (by rw [hlb]; omega) hs3).mono ?_; rintro r w5 ⟨bv, R, rfl, hbr, hs5⟩
        apply hK
        refine ⟨Held.mk hs5.right, ?_⟩
        clear hK hs3 d4 d5 hne
        repeat (first | (refine can_pu1 rfl rfl rfl rfl rfl rfl (fun K hK => ?_); go_big_quiet_op; refine hK _ ?_; clear hK K) | (refine can_st1 rfl rfl rfl rfl rfl rfl (fun K hK => ?_); go_big_quiet_op; refine hK _ ?_; clear hK K) | (refine can_early1 rfl rfl rfl rfl rfl (fun K hK => ?_); go_big_quiet_op; refine hK _ ?_; clear hK K) | (refine can_skip rfl rfl rfl ?_; simp only [Act.put, List.setIfInBounds_toArray, List.set_cons_zero, List.set_cons_succ]))
        refine can_end1 ?_; (try simp only [Exit.then])
        have hbl : ((b.drop 3).take m).length ≤ 153 := by omega
        have hk0 := k0.toNat_lt
        have hblk : ∀ y, Sat W y L → Reads y (Value.slice (some { block := g, off := o, spot := sp }) b.length c) b.length (bts b) := HIN.out
        rw [h160] at hblk
        clear hlb
        generalize (b.drop 3).take m = B at *
        by_cases hk1 : (k0.toNat : Int) < 1
        · have hO2 := HO2.out
          rw [if_pos (.inl hk1)] at hO2
          have HO3 := Lib.hid hO2
          clear hO2 HO2 hblk
          go_wp2_with fail
          refine (seal_bad _ _ _ _ (hbr.reads hs5) (.inl hk1)).mono ?_; rintro r w6 ⟨rfl, rfl⟩
          go_wp2_with fail
          go_ret3
          rw [HO3.out]
          exact ⟨_, _, rfl, RowA.nil _ _, hs5.right⟩
        · go_wp2_with fail
          refine (seal_any _ _ _ W _ _ (by omega) (by omega) hbl (hbr.reads hs5) hs5).mono ?_; rintro r w6 ⟨sv, R6, rfl, hsr, hs6⟩
          go_wp2_with fail
          have hbr2 := hblk _ hs6.right.right
          rw [← h160] at hbr2
          rw [← h160]
          have hsl : (sealB (k0.toNat : Int) B).length = 160 := sealB_length _ _ hbl
          refine (equal_any W _ _ _ _ _ _ hs6 (hsr.reads hs6) hbr2 (by omega) (by omega)).mono ?_; rintro r w7 ⟨rfl, hs7, _⟩
          have hO2 := HO2.out
          have hK0 := Lib.hid hk1
          clear HO2 hblk hbr2 hk1
          by_cases hsb : sealB (k0.toNat : Int) B = b
          · rw [if_neg (by simp only [hsb]; simpa using hK0.out)] at hO2
            have HO3 := Lib.hid hO2
            rw [decide_eq_true hsb]
            clear hO2 hsb hsl
            go_wp2_with fail
            go_ret3
            rw [HO3.out]
            exact ⟨_, R, rfl, hbr, hs7.use (by intro x; simp only [cnt_append, cnt_cons, cnt_nil]; omega)⟩
          · rw [if_pos (.inr hsb)] at hO2
            have HO3 := Lib.hid hO2
            rw [decide_eq_false hsb]
            clear hO2 hsb hsl
            go_wp2_with fail
            go_ret3
            rw [HO3.out]
            exact ⟨_, _, rfl, RowA.nil _ _, hs7.right.right⟩
    · have hO := HO.out
      rw [if_pos hse] at hO
      have qs : (sumB (b.take 156) != numB [c0, c1, c2, c3]) = true := by simpa using hse
      have HO2 := Lib.hid hO
      clear hse hO HO
      generalize sumB (b.take 156) = S1 at *
      generalize numB [c0, c1, c2, c3] = S2 at *
      go_wp2_with fail
      go_ret3
      rw [HO2.out]
      exact ⟨_, _, rfl, RowA.nil _ _, hs.drew⟩
  · have hr := hin w hs
    have q0 : ((b.length : Int) != 160) = true := by simp; omega
    have hb : openB b = (0, [], 2) := by unfold openB; rw [if_pos h160]
    obtain ⟨a1, c1, rfl⟩ : ∃ a c, v = .slice a b.length c := by
      rcases hr with ⟨h1, h2, _⟩ | ⟨a, c, h1, _⟩
      · exact ⟨_, _, by rw [h1, h2]⟩
      · exact ⟨_, _, h1⟩
    rw [hb]
    clear hb
    go_enter Try.func69, Try.ntmps69
    go_wp2_with fail
    go_ret3
    exact ⟨_, _, rfl, RowA.nil _ _, hs⟩
end Go.Proofs.Ytdkhgkkdnjejmaa.Ch
