/-
  Package refs: the chapter's example; RefsCounts.
-/
import Derived.Test.YtelcaeapflhadaaRfB
namespace Go.Proofs.Ytelcaeapflhadaa.Rf
set_option linter.unusedSimpArgs false
open Go Go.RowKit Go.Sl Go.BigFrame Go.Proofs.Ytelcaeapflhadaa.Pk
set_option linter.unusedVariables false

theorem known_true (W w : World) (F : List Atom) (hs : Sat W w F) :
    Calls Try.prog 18 #[] w fun e w' => e = .returned (.bool true) ∧ Sat W w' F := by
  have s1 : run 17 3 = [(17, 17), (18, 18), (19, 19)] := by decide
  have S1 := Lib.hid s1
  clear s1
  go_enter Try.func18, Try.ntmps18
  go_wp2_with fail
  refine (refs_new 17 19 17 19 3 W _ F hs (.inr (.inl ⟨by omega, by omega, rfl⟩)) (.inr (.inl ⟨by omega, by omega, rfl⟩)) (by decide)).mono ?_; rintro e w1 ⟨r, A1, rfl, hA1, hs1⟩
  rw [S1.out] at hA1
  go_wp2_with fail
  refine (refs_free r _ _ _ A1 F W _ hA1 hs1).mono ?_; rintro e w2 ⟨rfl, rfl⟩
  go_wp2_with fail
  refine (refs_take_some r _ _ _ _ A1 F W _ hA1 hs1 (by decide)).mono ?_; rintro e w3 ⟨rfl, A3, hA3, hs3⟩
  clear hA1 hs1
  go_wp2_with fail
  refine (refs_take_some r _ _ _ _ A3 F W _ hA3 hs3 (by decide)).mono ?_; rintro e w4 ⟨rfl, A4, hA4, hs4⟩
  clear hA3 hs3
  go_wp2_with fail
  refine (refs_drop_last r _ _ _ 17 A4 F W _ hA4 hs4 (by simp [upd]) (by simp)).mono ?_; rintro e w5 ⟨rfl, A5, hA5, hs5⟩
  clear hA4 hs4
  go_wp2_with fail
  refine (refs_take_some r _ _ _ _ A5 F W _ hA5 hs5 (by decide)).mono ?_; rintro e w6 ⟨rfl, A6, hA6, hs6⟩
  clear hA5 hs5
  go_wp2_with fail
  refine (refs_take_none r _ _ A6 F W _ hA6 hs6).mono ?_; rintro e w7 ⟨rfl, hs7⟩
  clear hs6
  go_wp2_with fail
  refine (refs_held r _ _ _ A6 F W _ hA6 hs7).mono ?_; rintro e w8 ⟨rfl, rfl⟩
  go_wp2_with fail
  go_ret
  exact ⟨rfl, hs7.right⟩

theorem RefsA.srt {r : Nat} {S : List It} {c : Int → Int} {hs : List Int} {A : List Atom} (h : RefsA r S c hs A) : Srt S := by
  obtain ⟨lo, hi, h, mc, mh, fc, nc, fh, A0, rfl, hH, hC, hD⟩ := h
  exact heap_srt hH

theorem refs_settle_nil (r : Nat) (S : List It) (c : Int → Int) (A F : List Atom) (W w : World) (hA : RefsA r S c [] A) (hw : Sat W w (A ++ F)) (hb : S.length < 900000) :
    Calls Try.prog 23 #[.pointer (some ⟨r, 0, none⟩)] w fun e w' => e = .returned (.tuple #[]) ∧ ∃ A', RefsA r S c [] A' ∧ Sat W w' (A' ++ F) :=
  (refs_settle r S c [] A F W w hA hw (by simpa using hb)).mono fun e w' ⟨he, S', A', h1, h2, h3⟩ => by
    have : S' = S := srt_ext h1.srt hA.srt fun q => by rw [h3 q]; simp
    subst this
    exact ⟨he, A', h1, h2⟩

theorem handPick_bounds (x m : Int) (hm : 0 < m) : 0 ≤ handPick x m ∧ handPick x m < m := by
  have b1 : x.tmod m < m := Int.tmod_lt_of_pos _ hm
  have b2 : -m < x.tmod m := by
    have := Int.tmod_lt_of_pos (-x) hm
    rw [Int.neg_tmod] at this
    omega
  unfold handPick
  split <;> omega

set_option maxRecDepth 100000 in
set_option maxHeartbeats 2000000 in
theorem counts_walk (a : Int) (W : World) :
    Calls Try.prog 7 #[.int .i64 a] W fun e w' => e = .returned (.bool true) ∧ Below W.heap.size W w' := by
  have s1 : run 5 5 = (5, 5) :: run 6 4 := by decide
  have S1 := Lib.hid s1
  clear s1
  obtain ⟨b1, b2⟩ := handPick_bounds a 30 (by omega)
  obtain ⟨n, hn⟩ : ∃ n : Nat, handPick a 30 = n := ⟨(handPick a 30).toNat, by omega⟩
  have HP := hand_pick a 30
  rw [hn] at HP b1 b2
  go_enter Try.func7, Try.ntmps7
  go_wp2_with fail
  refine (refs_new 5 9 5 9 5 W _ (allOf W) (allOf_sat W) (.inr (.inl ⟨by omega, by omega, rfl⟩)) (.inr (.inl ⟨by omega, by omega, rfl⟩)) (by decide)).mono ?_; rintro e w1 ⟨r, A1, rfl, hA1, hs1⟩
  rw [S1.out] at hA1
  go_wp2_with fail
  refine (HP _ (by omega) (by omega)).mono ?_; rintro e w2 ⟨rfl, rfl⟩
  clear HP hn
  go_wp2_with fail
  refine (known_true W _ _ hs1).mono ?_; rintro e w2 ⟨rfl, hs2⟩
  clear hs1
  go_wp2_with fail
  refine (refs_take_some r _ _ _ _ A1 _ W _ hA1 hs2 (by decide)).mono ?_; rintro e w3 ⟨rfl, A3, hA3, hs3⟩
  clear hA1 hs2
  go_wp2_with fail
  go_loopw [6] (fun iv wr => ∃ (i : Nat) (c : Int → Int) (A : List Atom), iv = .int .i64 i ∧ i ≤ n ∧ c 5 = 1 + i ∧ RefsA r (run 6 4) c [] A ∧ Sat W wr (A ++ allOf W)) (fun iv _ => n - (intOf iv).toNat)
  case atStart => exact ⟨0, _, A3, rfl, Nat.zero_le _, by simp [upd], hA3, hs3⟩
  case round =>
    clear hs3 hA3
    obtain ⟨i, c, A, rfl, hi, hc, hA, hs⟩ := hrel
    have b0 : (0 : Int) ≤ i := by omega
    by_cases hin : i < n
    · have b3 : (i : Int) < n := by omega
      have HC := Lib.hid hc
      clear hc
      go_wp2_with fail
      refine (refs_add_some r _ c [] 5 A _ W _ hA hs (by rw [HC.out]; omega) (by rw [HC.out]; omega)).mono ?_; rintro e w4 ⟨rfl, A4, hA4, hs4⟩
      go_wp2_with fail
      refine ⟨⟨i + 1, _, A4, by simp, by omega, by rw [upd_same, HC.out]; omega, hA4, hs4⟩, ?_⟩
      simp [intOf]
      omega
    · have hin' : i = n := by omega
      subst hin'
      clear hin
      have HC := Lib.hid hc
      clear hc
      go_wp2_with fail
      go_loopw [7] (fun iv wr => ∃ (k : Nat) (c : Int → Int) (hs : List Int) (A : List Atom), iv = .int .i64 k ∧ k ≤ i + 1 ∧ c 5 = 1 + i - k ∧ hs = (if k ≤ i then [] else [5]) ∧ RefsA r (run 6 4) c hs A ∧ Sat W wr (A ++ allOf W)) (fun iv _ => i + 1 - (intOf iv).toNat)
      case atStart => exact ⟨0, c, [], A, rfl, Nat.zero_le _, by rw [HC.out]; simp, by simp, hA, hs⟩
      case round =>
        clear hs hA HC
        clear c A
        obtain ⟨k, c, hs, A, rfl, hk, hc, hh, hA, hw⟩ := hrel
        have b4 : (0 : Int) ≤ k := by omega
        have HC := Lib.hid hc
        clear hc
        by_cases hki : k ≤ i
        · have b5 : (k : Int) ≤ i := by omega
          rw [if_pos hki] at hh
          subst hh
          go_wp2_with fail
          refine (refs_settle_nil r _ c A _ W _ hA hw (by decide)).mono ?_; rintro e w4 ⟨rfl, A4, hA4, hw4⟩
          clear hA hw
          go_wp2_with fail
          refine (refs_count r _ c [] 5 A4 _ W _ hA4 hw4).mono ?_; rintro e w5 ⟨rfl, rfl⟩
          rw [HC.out]
          go_wp2_with fail
          refine (refs_free r _ c [] A4 _ W _ hA4 hw4).mono ?_; rintro e w5 ⟨rfl, rfl⟩
          go_wp2_with fail
          by_cases hke : k = i
          · subst hke
            refine (refs_drop_last r _ c [] 5 A4 _ W _ hA4 hw4 (by rw [HC.out]; omega) (by simp)).mono ?_; rintro e w6 ⟨rfl, A6, hA6, hw6⟩
            go_wp2_with fail
            refine ⟨⟨k + 1, _, _, A6, by simp, by omega, by rw [upd_same]; omega, by rw [if_neg (by omega)], hA6, hw6⟩, ?_⟩
            simp [intOf] <;> omega
          · refine (refs_drop_more r _ c [] 5 A4 _ W _ hA4 hw4 (by rw [HC.out]; omega) (by rw [HC.out]; omega)).mono ?_; rintro e w6 ⟨rfl, A6, hA6, hw6⟩
            go_wp2_with fail
            refine ⟨⟨k + 1, _, _, A6, by simp, by omega, by rw [upd_same, HC.out]; omega, by rw [if_pos (by omega)], hA6, hw6⟩, ?_⟩
            simp [intOf] <;> omega
        · have hk' : k = i + 1 := by omega
          subst hk'
          rw [if_neg hki] at hh
          subst hh
          clear hki
          go_wp2_with fail
          refine (refs_held r _ c [5] A _ W _ hA hw).mono ?_; rintro e w4 ⟨rfl, rfl⟩
          go_wp2_with fail
          refine (refs_settle r _ c [5] A _ W _ hA hw (by decide)).mono ?_; rintro e w5 ⟨rfl, S', A5, hA5, hw5, hmem⟩
          have hS : S' = run 5 5 := srt_ext hA5.srt (by unfold Srt; rw [S1.out]; decide) fun q => by
            rw [hmem q, S1.out]
            simp [run]
            constructor
            · rintro (⟨h, _⟩ | h)
              · exact .inr h
              · exact .inl h
            · rintro (h | h)
              · exact .inr h
              · refine .inl ⟨h, ?_⟩
                rcases h with rfl | rfl | rfl | rfl <;> decide
          subst hS
          clear hmem hA hw
          go_wp2_with fail
          refine (refs_free r _ c [] A5 _ W _ hA5 hw5).mono ?_; rintro e w6 ⟨rfl, rfl⟩
          go_wp2_with fail
          refine (refs_drop_none r _ c [] 5 A5 _ W _ hA5 hw5 (by rw [HC.out]; omega)).mono ?_; rintro e w6 ⟨rfl, rfl⟩
          go_wp2_with fail
          refine (refs_add_none r _ c [] 5 A5 _ W _ hA5 hw5 (by rw [HC.out]; omega)).mono ?_; rintro e w6 ⟨rfl, rfl⟩
          go_wp2_with fail
          go_ret
          exact ⟨rfl, Sat.below_all (L := []) (hw5.use (M := [] ++ allOf W) (by intro x; simp only [cnt_append, cnt_cons, cnt_nil]; omega))⟩
end Go.Proofs.Ytelcaeapflhadaa.Rf
