/-
  RefsKnown: the walk.
-/
import Derived.Test.YtelcaeapflhadaaRfC
namespace Go.Proofs.Ytelcaeapflhadaa.Rf
set_option linter.unusedSimpArgs false
open Go Go.RowKit Go.Sl Go.BigFrame Go.Proofs.Ytelcaeapflhadaa.Pk
set_option linter.unusedVariables false

/-- n at 5, else 0. -/
def At5 (c : Int → Int) (n : Int) : Prop := ∀ j, c j = if j = 5 then n else 0
theorem At5.five {c : Int → Int} {n : Int} (h : At5 c n) : c 5 = n := by rw [h]; simp
theorem At5.upd {c : Int → Int} {n : Int} (h : At5 c n) (m : Int) : At5 (upd c 5 m) m := fun j => by
  unfold Rf.upd
  split
  · rfl
  · rename_i hj; rw [h j, if_neg hj]
theorem At5.other {c : Int → Int} {n : Int} (h : At5 c n) {j : Int} (hj : j ≠ 5) : c j = 0 := by rw [h j, if_neg hj]

set_option maxRecDepth 100000 in
set_option maxHeartbeats 4000000 in
theorem known_walk (W : World) :
    Calls Try.prog 6 #[] W fun e w' => e = .returned (.bool true) ∧ Below W.heap.size W w' := by
  have s1 : run 5 2 = [(5, 5), (6, 6)] := by decide
  have S1 := Lib.hid s1
  clear s1
  go_enter Try.func6, Try.ntmps6
  go_wp2_with fail
  refine (refs_new 5 6 5 6 2 W _ (allOf W) (allOf_sat W) (.inr (.inl ⟨by omega, by omega, rfl⟩)) (.inr (.inl ⟨by omega, by omega, rfl⟩)) (by decide)).mono ?_; rintro e w1 ⟨r, A1, rfl, hA1, hs1⟩
  rw [S1.out] at hA1
  go_wp2_with fail
  refine (refs_new 9 3 9 3 0 W _ _ hs1 (.inr (.inl ⟨by omega, by omega, rfl⟩)) (.inr (.inl ⟨by omega, by omega, rfl⟩)) (by decide)).mono ?_; rintro e w2 ⟨n, B, rfl, hB, hs2⟩
  clear hs1
  go_wp2_with fail
  refine (known_true W _ _ hs2).mono ?_; rintro e w3 ⟨rfl, hs3⟩
  clear hs2
  have hw : Sat W w3 (A1 ++ (B ++ allOf W)) := hs3.use (by intro x; simp only [cnt_append, cnt_cons, cnt_nil]; omega)
  clear hs3
  obtain ⟨c0, hA0, k0⟩ : ∃ c : Int → Int, RefsA r [(5, 5), (6, 6)] c [] A1 ∧ At5 c 0 := ⟨_, hA1, fun j => by simp⟩
  clear hA1
  go_wp2_with fail
  refine (refs_add_none r _ c0 [] 5 A1 _ W _ hA0 hw k0.five).mono ?_; rintro e w4 ⟨rfl, rfl⟩
  go_wp2_with fail
  refine (refs_take_some r _ _ c0 [] A1 _ W _ hA0 hw (by decide)).mono ?_; rintro e w5 ⟨rfl, A2, hA2, hw2⟩
  obtain ⟨c1, hA1, k1⟩ : ∃ c : Int → Int, RefsA r [(6, 6)] c [] A2 ∧ At5 c 1 := ⟨_, hA2, k0.upd 1⟩
  clear hA2 hA0 hw k0
  go_wp2_with fail
  refine (refs_add_some r _ c1 [] 5 A2 _ W _ hA1 hw2 (by rw [k1.five]; decide) (by rw [k1.five]; decide)).mono ?_; rintro e w6 ⟨rfl, A3, hA3, hw3⟩
  obtain ⟨c2, hA4, k2⟩ : ∃ c : Int → Int, RefsA r [(6, 6)] c [] A3 ∧ At5 c 2 := ⟨_, hA3, by rw [k1.five]; exact k1.upd 2⟩
  clear hA3 hA1 hw2 k1
  go_wp2_with fail
  refine (refs_count r _ c2 [] 5 A3 _ W _ hA4 hw3).mono ?_; rintro e w7 ⟨rfl, rfl⟩
  rw [k2.five]
  go_wp2_with fail
  refine (refs_drop_more r _ c2 [] 5 A3 _ W _ hA4 hw3 (by rw [k2.five]; decide) (by rw [k2.five]; decide)).mono ?_; rintro e w8 ⟨rfl, A5, hA5, hw5⟩
  obtain ⟨c3, hA6, k3⟩ : ∃ c : Int → Int, RefsA r [(6, 6)] c [] A5 ∧ At5 c 1 := ⟨_, hA5, by rw [k2.five]; exact k2.upd 1⟩
  clear hA5 hA4 hw3 k2
  go_wp2_with fail
  refine (refs_held r _ c3 [] A5 _ W _ hA6 hw5).mono ?_; rintro e w9 ⟨rfl, rfl⟩
  go_wp2_with fail
  refine (refs_drop_last r _ c3 [] 5 A5 _ W _ hA6 hw5 k3.five (by simp)).mono ?_; rintro e w10 ⟨rfl, A7, hA7, hw7⟩
  obtain ⟨c4, hA8, k4⟩ : ∃ c : Int → Int, RefsA r [(6, 6)] c [5] A7 ∧ At5 c 0 := ⟨_, hA7, k3.upd 0⟩
  clear hA7 hA6 hw5 k3
  go_wp2_with fail
  refine (refs_drop_none r _ c4 [5] 5 A7 _ W _ hA8 hw7 k4.five).mono ?_; rintro e w11 ⟨rfl, rfl⟩
  go_wp2_with fail
  refine (refs_held r _ c4 [5] A7 _ W _ hA8 hw7).mono ?_; rintro e w12 ⟨rfl, rfl⟩
  go_wp2_with fail
  refine (refs_count r _ c4 [5] 5 A7 _ W _ hA8 hw7).mono ?_; rintro e w13 ⟨rfl, rfl⟩
  rw [k4.five]
  go_wp2_with fail
  refine (refs_settle r _ c4 [5] A7 _ W _ hA8 hw7 (by decide)).mono ?_; rintro e w14 ⟨rfl, S', A9, hA9, hw9, hmem⟩
  have hS : S' = [(5, 5), (6, 6)] := srt_ext hA9.srt (by unfold Srt; decide) fun q => by
    rw [hmem q]
    simp
    constructor
    · rintro (⟨h, _⟩ | h)
      · exact .inr h
      · exact .inl h
    · rintro (h | h)
      · exact .inr h
      · refine .inl ⟨h, ?_⟩
        rw [h]; decide
  subst hS
  clear hmem hA8 hw7
  have hwB : Sat W w14 (B ++ (A9 ++ allOf W)) := hw9.use (by intro x; simp only [cnt_append, cnt_cons, cnt_nil]; omega)
  clear hw9
  go_wp2_with fail
  refine (refs_take_none n _ _ B _ W _ hB hwB).mono ?_; rintro e w15 ⟨rfl, hwC⟩
  clear hwB
  have hwD : Sat W w15 (A9 ++ (B ++ allOf W)) := hwC.use (by intro x; simp only [cnt_append, cnt_cons, cnt_nil]; omega)
  clear hwC
  go_wp2_with fail
  refine (refs_take_some r _ _ c4 [] A9 _ W _ hA9 hwD (by decide)).mono ?_; rintro e w16 ⟨rfl, A10, hA10, hw10⟩
  obtain ⟨c5, hA11, k5⟩ : ∃ c : Int → Int, RefsA r [(6, 6)] c [] A10 ∧ At5 c 1 := ⟨_, hA10, k4.upd 1⟩
  clear hA9 hA10 hwD k4
  have hwB : Sat W w16 (B ++ (A10 ++ allOf W)) := hw10.use (by intro x; simp only [cnt_append, cnt_cons, cnt_nil]; omega)
  go_wp2_with fail
  refine (refs_free n _ _ _ B _ W _ hB hwB).mono ?_; rintro e w17 ⟨rfl, rfl⟩
  go_wp2_with fail
  refine (refs_count r _ c5 [] (-3) A10 _ W _ hA11 hw10).mono ?_; rintro e w18 ⟨rfl, rfl⟩
  rw [k5.other (by decide)]
  go_wp2_with fail
  refine (refs_add_none r _ c5 [] 99 A10 _ W _ hA11 hw10 (k5.other (by decide))).mono ?_; rintro e w19 ⟨rfl, rfl⟩
  go_wp2_with fail
  refine (refs_drop_none r _ c5 [] 99 A10 _ W _ hA11 hw10 (k5.other (by decide))).mono ?_; rintro e w20 ⟨rfl, rfl⟩
  go_wp2_with fail
  refine (refs_new (-4) 2 1 2 2 W _ _ hwB (.inl ⟨by omega, rfl⟩) (.inr (.inl ⟨by omega, by omega, rfl⟩)) (by decide)).mono ?_; rintro e w21 ⟨x, X, rfl, hX, hwX⟩
  clear hw10 hwB hA11 hB
  go_wp2_with fail
  refine (refs_free x _ _ _ X _ W _ hX hwX).mono ?_; rintro e w22 ⟨rfl, rfl⟩
  rw [run_len]
  go_wp2_with fail
  refine (refs_new 999 5000 999 1000 2 W _ _ hwX (.inr (.inl ⟨by omega, by omega, rfl⟩)) (.inr (.inr ⟨by omega, rfl⟩)) (by decide)).mono ?_; rintro e w23 ⟨y, Y, rfl, hY, hwY⟩
  go_wp2_with fail
  refine (refs_free y _ _ _ Y _ W _ hY hwY).mono ?_; rintro e w24 ⟨rfl, rfl⟩
  rw [run_len]
  go_wp2_with fail
  go_ret
  exact ⟨rfl, Sat.below_all (L := []) (hwY.use (M := [] ++ allOf W) (by intro x; simp only [cnt_append, cnt_cons, cnt_nil]; omega))⟩
end Go.Proofs.Ytelcaeapflhadaa.Rf
