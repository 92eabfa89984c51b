/-
  RefsLowest: the walk.
-/
import Derived.Test.YtelcaeapflhadaaRfD
namespace Go.Proofs.Ytelcaeapflhadaa.Rf
set_option linter.unusedSimpArgs false
open Go Go.RowKit Go.Sl Go.BigFrame Go.Proofs.Ytelcaeapflhadaa.Pk
set_option linter.unusedVariables false

theorem HeldOk.same {f : Value → Option Value} {hs : List Int} (h : HeldOk f hs) {i : Int} (hi : i ∈ hs) : HeldOk (updV f (.int .i64 i) (.bool true)) hs := by
  refine ⟨fun k v hk => ?_, fun j hj => ?_, h.apart⟩
  · by_cases e : k = .int .i64 i
    · subst e
      rw [updV_same] at hk
      cases hk
      exact ⟨i, hi, rfl, rfl⟩
    · rw [updV_other _ _ e] at hk
      exact h.gives _ _ hk
  · by_cases e : j = i
    · subst e; exact updV_same _ _ _
    · rw [updV_other]
      · exact h.all j hj
      · intro e'; cases e'; exact e rfl

theorem srt_len : ∀ (S : List It) (hs : List Int), Srt S → (∀ q ∈ S, ∃ j ∈ hs, q = (j, j)) → S.length ≤ hs.length
  | [], _, _, _ => Nat.zero_le _
  | p :: S, hs, h, hm => by
    obtain ⟨h1, h2⟩ := List.pairwise_cons.1 h
    obtain ⟨j, hj, rfl⟩ := hm p (List.mem_cons_self ..)
    have := srt_len S (hs.erase j) h2 fun q hq => by
      obtain ⟨i, hi, rfl⟩ := hm q (List.mem_cons_of_mem _ hq)
      refine ⟨i, (List.mem_erase_of_ne ?_).2 hi, rfl⟩
      intro e
      subst e
      exact absurd (h1 _ hq) (lt_irrefl _)
    rw [List.length_erase_of_mem hj] at this
    have := List.length_pos_of_mem hj
    simp only [List.length_cons]
    omega

set_option maxRecDepth 100000 in
set_option maxHeartbeats 4000000 in
theorem lowest_walk (a0 b0 : Int) (kv : Value) (ks : List Int) (W : World) (g : Option Addr) (cp : Nat) (hkv : kv = .slice g ks.length cp) (hlen : ks.length ≤ maxLen)
    (hk : ∀ w, Below W.heap.size W w → ∀ j, j < ks.length → ∃ b o, g = some ⟨b, o, none⟩ ∧ w.cell? ⟨b, o + j, none⟩ = some (.int .i64 (ks.getD j 0))) :
    Calls Try.prog 5 #[.int .i64 a0, .int .i64 b0, kv] W fun e w' => e = .returned (.bool true) ∧ Below W.heap.size W w' := by
  subst hkv
  unfold maxLen at hlen
  obtain ⟨p1, p2⟩ := handPick_bounds a0 100 (by omega)
  obtain ⟨q1, q2⟩ := handPick_bounds b0 40 (by omega)
  have HP := hand_pick a0 100
  have HQ := hand_pick b0 40
  generalize handPick a0 100 = f at *
  generalize handPick b0 40 = n1 at *
  go_enter Try.func5, Try.ntmps5
  go_wp2_with fail
  refine (HP _ (by omega) (by omega)).mono ?_; rintro e w1 ⟨rfl, rfl⟩
  go_wp2_with fail
  refine (HQ _ (by omega) (by omega)).mono ?_; rintro e w1 ⟨rfl, rfl⟩
  clear HP HQ
  obtain ⟨m, hm⟩ : ∃ m : Nat, n1 = m - 1 ∧ 1 ≤ m ∧ m ≤ 40 := ⟨(n1 + 1).toNat, by omega, by omega, by omega⟩
  obtain ⟨rfl, hm1, hm2⟩ := hm
  have he : (1 : Int) + ((m : Int) - 1) = m := by omega
  go_wp2_with fail
  refine (refs_new _ _ (1 + f) (f + m) m W _ (allOf W) (allOf_sat W) (by omega) (by omega) (by omega)).mono ?_; rintro e w1 ⟨r, A1, rfl, hA1, hs1⟩
  go_wp2_with fail
  refine (known_true W _ _ hs1).mono ?_; rintro e w2 ⟨rfl, hs2⟩
  clear hs1
  go_wp2_with fail
  refine (refs_free r _ _ _ A1 _ W _ hA1 hs2).mono ?_; rintro e w3 ⟨rfl, rfl⟩
  rw [run_len]
  go_wp2_with fail
  obtain ⟨x, hx⟩ : ∃ x : Int, x = 1 + f := ⟨_, rfl⟩
  rw [← hx] at hA1 ⊢
  have x1 : 1 ≤ x := by omega
  have x2 : x ≤ 100 := by omega
  have HX := Lib.hid hx
  clear he hx
  go_loopw [8] (fun iv wr => ∃ (i : Nat) (c : Int → Int) (A : List Atom), iv = .int .i64 i ∧ i ≤ m ∧ (∀ j, c j = if x ≤ j ∧ j < x + i then 1 else 0) ∧ RefsA r (run (x + i) (m - i)) c [] A ∧ Sat W wr (A ++ allOf W)) (fun iv _ => m - (intOf iv).toNat)
  case atStart => exact ⟨0, _, A1, rfl, Nat.zero_le _, fun j => by rw [if_neg (by omega)], by simpa using hA1, hs2⟩
  case round =>
    clear hs2 hA1
    obtain ⟨i, c, A, rfl, hi, hc, hA, hs⟩ := hrel
    have b0 : (0 : Int) ≤ i := by omega
    by_cases hin : i < m
    · have b1 : (i : Int) < m := by omega
      have hr : run (x + i) (m - i) = (x + i, x + i) :: run (x + (i + 1 : Nat)) (m - (i + 1)) := by
        obtain ⟨k, hk⟩ : ∃ k, m - i = k + 1 := ⟨m - i - 1, by omega⟩
        rw [hk, run_cons, show m - (i + 1) = k by omega]
        congr 2
        omega
      rw [hr] at hA
      have HC := Lib.hid hc
      clear hc hr
      go_wp2_with fail
      refine (refs_take_some r _ _ c [] A _ W _ hA hs (by rw [run_len]; omega)).mono ?_; rintro e w4 ⟨rfl, A4, hA4, hs4⟩
      clear hA hs
      go_wp2_with fail
      refine ⟨⟨i + 1, _, A4, by simp, by omega, fun j => ?_, hA4, hs4⟩, ?_⟩
      · unfold upd
        rw [HC.out j]
        split <;> split <;> simp <;> omega
      · simp [intOf]
        omega
    · have hin' : i = m := by omega
      subst hin'
      have hmm := @run_makeMap Try.prog
      rw [Nat.sub_self] at hA
      have HC := Lib.hid hc
      clear hc hin
      have hs5 := newMap_sl hs (.int .i64)
      go_wp2_with fail
      clear hmm hs
      generalize wr.heap.size = z at *
      go_loopw [12] (fun iv wr => ∃ (k : Nat) (c : Int → Int) (hs : List Int) (gf : Value → Option Value) (A : List Atom), iv = .int .i64 k ∧ k ≤ 30 ∧ k ≤ ks.length ∧ hs.length ≤ k ∧ (∀ j, c j = if x ≤ j ∧ j < x + i ∧ j ∉ hs then 1 else 0) ∧ HeldOk gf hs ∧ (∀ j ∈ hs, x ≤ j ∧ j < x + i) ∧ RefsA r [] c hs A ∧ Sat W wr (mapA z (.int .i64) gf hs.length :: (A ++ allOf W))) (fun iv _ => 30 - (intOf iv).toNat)
      case atStart => exact ⟨0, c, [], _, A, rfl, Nat.zero_le _, Nat.zero_le _, Nat.le_refl _, fun j => by rw [HC.out j]; simp, HeldOk.nil, fun j hj => (by cases hj), hA, hs5⟩
      case round =>
        clear hs5 hA HC
        clear c A
        obtain ⟨k, c, hs, gf, A, rfl, hk30, hkl, hhk, hc, hD, hrg, hA, hw⟩ := hrel
        have c0 : (0 : Int) ≤ k := by omega
        have HC := Lib.hid hc
        clear hc
        by_cases hin : k < ks.length ∧ k < 30
        · obtain ⟨hin1, hin2⟩ := hin
          have c1 : (k : Int) < ks.length := by omega
          have c2 : (k : Int) < 30 := by omega
          obtain ⟨b, o, rfl, hcell⟩ := hk wr (Sat.below_all (L := []) (hw.use (M := [] ++ allOf W) (by intro x; simp only [cnt_append, cnt_cons, cnt_nil]; omega))) k hin1
          generalize ks.getD k 0 = kx at hcell
          obtain ⟨q1, q2⟩ := handPick_bounds kx i (by omega)
          go_wp2_with fail
          refine (hand_pick kx i _ (by omega) (by omega)).mono ?_; rintro e w4 ⟨rfl, rfl⟩
          generalize handPick kx i = q at *
          go_wp2_with fail
          have hlk : ∀ y : Of W (mapA z (.int .i64) gf hs.length :: allOf W), (Instr.lookup 40 (.map (some z)) (.int .i64 (x + q)) false).run Try.prog y.v = .ok (.bool (decide (x + q ∈ hs))) y.v := fun y => by
            have h1 := lookup_sl (P := Try.prog) (t := 40) (key := .int .i64 (x + q)) (z := .bool false) y.s m0 Try.underlying40 Try.underlying3 rfl (Try.zeroValue4 _) false
            by_cases hq : x + q ∈ hs
            · rw [hD.all _ hq] at h1; simpa [hq] using h1
            · rw [hD.none hq] at h1; simpa [hq] using h1
          refine wp_region_held1 [2] [3, 4, 5] [3, 4] [2] [0, 1, 3, 4, 5, 2, 6] (Held W (mapA z (.int .i64) gf hs.length :: allOf W)) (by kernel_rfl) (by kernel_rfl) ?_ ?_
          · exact Held.mk (Sat.use (M := mapA z (.int .i64) gf hs.length :: allOf W) hw.drew (by intro x; simp only [cnt_append, cnt_cons, cnt_nil]; omega))
          have hne : Nonempty (Of W (mapA z (.int .i64) gf hs.length :: allOf W)) := ⟨⟨_, Sat.use (M := mapA z (.int .i64) gf hs.length :: allOf W) hw.drew (by intro x; simp only [cnt_append, cnt_cons, cnt_nil]; omega)⟩⟩
          repeat (first | (refine can_pu1 rfl rfl rfl rfl rfl rfl (fun K hK => ?_); go_big_quiet_op; refine hK _ ?_; clear hK K) | (refine can_st1 rfl rfl rfl rfl rfl rfl (fun K hK => ?_); go_big_quiet_op; refine hK _ ?_; clear hK K) | (refine can_early1 rfl rfl rfl rfl rfl (fun K hK => ?_); go_big_quiet_op; refine hK _ ?_; clear hK K) | (refine can_skip rfl rfl rfl ?_; simp only [Act.put, List.setIfInBounds_toArray, List.set_cons_zero, List.set_cons_succ]))
          have hwd : Sat W wr.drew (A ++ (mapA z (.int .i64) gf hs.length :: allOf W)) := hw.drew.use (by intro x; simp only [cnt_append, cnt_cons, cnt_nil]; omega)
          refine can_actS rfl rfl rfl rfl (fun K hK => ?_)
          go_wp2_with fail
          by_cases hq : x + q ∈ hs
          · have hcq : c (x + q) = 0 := by rw [HC.out, if_neg (fun h => h.2.2 hq)]
            refine (refs_drop_none r _ c hs (x + q) A _ W _ hA hwd hcq).mono ?_; rintro ev w5 ⟨rfl, rfl⟩
            apply hK
            refine ⟨Held.mk (hwd.use (by intro x; simp only [cnt_append, cnt_cons, cnt_nil]; omega)), ?_⟩
            have hdq : decide (x + q ∈ hs) = true := by simpa using hq
            rw [hdq] at hlk
            repeat (first | (refine can_pu1 rfl rfl rfl rfl rfl rfl (fun K hK => ?_); go_big_quiet_op; refine hK _ ?_; clear hK K) | (refine can_st1 rfl rfl rfl rfl rfl rfl (fun K hK => ?_); go_big_quiet_op; refine hK _ ?_; clear hK K) | (refine can_early1 rfl rfl rfl rfl rfl (fun K hK => ?_); go_big_quiet_op; refine hK _ ?_; clear hK K) | (refine can_skip rfl rfl rfl ?_; simp only [Act.put, List.setIfInBounds_toArray, List.set_cons_zero, List.set_cons_succ]))
            refine can_end1 ?_; (try simp only [Exit.then])
            have hw6 : Sat W wr.drew (mapA z (.int .i64) gf hs.length :: (A ++ allOf W)) := hwd.use (by intro x; simp only [cnt_append, cnt_cons, cnt_nil]; omega)
            obtain ⟨w6, hr6, hs6⟩ := mapUpdate_sl (P := Try.prog) (t := 40) (key := .int .i64 (x + q)) hw6 Try.underlying40 Try.underlying3 rfl (.bool true)
            rw [hD.all _ hq] at hs6
            simp only [Option.isSome_some, if_true] at hs6
            have hD' := hD.same hq
            clear hlk hw hwd hw6
            go_wp2_with fail
            refine ⟨⟨k + 1, c, hs, _, A, by simp, by omega, by omega, by omega, HC.out, hD', hrg, hA, hs6⟩, ?_⟩
            simp [intOf]
            omega
          · have hcq : c (x + q) = 1 := by rw [HC.out, if_pos ⟨by omega, by omega, hq⟩]
            refine (refs_drop_last r _ c hs (x + q) A _ W _ hA hwd hcq hq).mono ?_; rintro ev w5 ⟨rfl, A5, hA5, hs5⟩
            apply hK
            refine ⟨Held.mk (hs5.use (by intro x; simp only [cnt_append, cnt_cons, cnt_nil]; omega)), ?_⟩
            have hdq : decide (x + q ∈ hs) = false := by simpa using hq
            rw [hdq] at hlk
            repeat (first | (refine can_pu1 rfl rfl rfl rfl rfl rfl (fun K hK => ?_); go_big_quiet_op; refine hK _ ?_; clear hK K) | (refine can_st1 rfl rfl rfl rfl rfl rfl (fun K hK => ?_); go_big_quiet_op; refine hK _ ?_; clear hK K) | (refine can_early1 rfl rfl rfl rfl rfl (fun K hK => ?_); go_big_quiet_op; refine hK _ ?_; clear hK K) | (refine can_skip rfl rfl rfl ?_; simp only [Act.put, List.setIfInBounds_toArray, List.set_cons_zero, List.set_cons_succ]))
            refine can_end1 ?_; (try simp only [Exit.then])
            have hw6 : Sat W w5 (mapA z (.int .i64) gf hs.length :: (A5 ++ allOf W)) := hs5.use (by intro x; simp only [cnt_append, cnt_cons, cnt_nil]; omega)
            obtain ⟨w6, hr6, hs6⟩ := mapUpdate_sl (P := Try.prog) (t := 40) (key := .int .i64 (x + q)) hw6 Try.underlying40 Try.underlying3 rfl (.bool true)
            rw [hD.none hq] at hs6
            simp only [Option.isSome_none, Bool.false_eq_true, if_false] at hs6
            have hD' := hD.add hq
            clear hlk hw hwd hw6 hs5
            go_wp2_with fail
            refine ⟨⟨k + 1, _, (x + q) :: hs, _, A5, by simp, by omega, by omega, by simp; omega, fun j => ?_, hD', fun j hj => ?_, hA5, by rw [List.length_cons]; exact hs6⟩, ?_⟩
            · unfold upd
              rw [HC.out j]
              by_cases e : j = x + q
              · subst e; simp
              · simp [e]
            · rcases List.mem_cons.1 hj with e | hj
              · rw [e]; omega
              · exact hrg j hj
            · simp [intOf]
              omega
        · have hwA : Sat W wr (A ++ (mapA z (.int .i64) gf hs.length :: allOf W)) := hw.use (by intro x; simp only [cnt_append, cnt_cons, cnt_nil]; omega)
          go_wp2_with fail
          all_goals
            refine (refs_take_none r c hs A _ W _ hA hwA).mono ?_
            rintro ev w5 ⟨rfl, hw5⟩
            go_wp2_with fail
            refine (refs_held r _ c hs A _ W _ hA hw5).mono ?_
            rintro ev w6 ⟨rfl, rfl⟩
            have hl0 := len_sl (P := Try.prog) (t := 40) (L := mapA z (.int .i64) gf hs.length :: (A ++ allOf W)) (hw5.use (by intro x; simp only [cnt_append, cnt_cons, cnt_nil]; omega)) m0 Try.underlying40 3
            go_wp2_with fail
            refine (refs_settle r [] c hs A _ W _ hA hw5 (by simp; omega)).mono ?_
            rintro ev w7 ⟨rfl, S', A7, hA7, hw7, hmem⟩
            clear hA hwA hw5 hl0
            go_wp2_with fail
            go_loopw [16] (fun iv wr => ∃ (t : Nat) (S : List It) (c : Int → Int) (A : List Atom), iv = .int .i64 (x + t) ∧ t ≤ i ∧ (∀ q, q ∈ S ↔ ∃ j ∈ hs, x + t ≤ j ∧ q = (j, j)) ∧ S.length ≤ 100 ∧ RefsA r S c [] A ∧ Sat W wr (A ++ (mapA z (.int .i64) gf hs.length :: allOf W))) (fun iv _ => i - (intOf iv - x).toNat)
            case atStart => exact ⟨0, S', c, A7, by simp, Nat.zero_le _, fun q => by
                rw [hmem q]
                constructor
                · rintro (⟨h, _⟩ | ⟨j, hj, e⟩)
                  · cases h
                  · exact ⟨j, hj, by have := hrg j hj; omega, e⟩
                · rintro ⟨j, hj, _, e⟩
                  exact .inr ⟨j, hj, e⟩, by
                  have hl := srt_len S' hs hA7.srt fun q hq => by
                    rcases (hmem q).1 hq with ⟨h, _⟩ | ⟨j, hj, e⟩
                    · cases h
                    · exact ⟨j, hj, e⟩
                  omega, hA7, hw7⟩
            case round =>
              clear hA7 hw7 hmem
              obtain ⟨t, S, c1, A1, rfl, ht, hS, hSl, hA, hw⟩ := hrel
              have t0 : (0 : Int) ≤ t := by omega
              have hw6 : Sat W wr (mapA z (.int .i64) gf hs.length :: (A1 ++ allOf W)) := hw.use (by intro x; simp only [cnt_append, cnt_cons, cnt_nil]; omega)
              have hlk := lookup_sl (P := Try.prog) (t := 40) (key := .int .i64 (x + t)) (z := .bool false) hw6 m0 Try.underlying40 Try.underlying3 rfl (Try.zeroValue4 _) false
              by_cases hti : t < i
              · have t1 : (t : Int) < i := by omega
                have d1 : decide (x + (t : Int) < x + i) = true := by simp; omega
                by_cases hq : x + (t : Int) ∈ hs
                · rw [hD.all _ hq] at hlk
                  simp only [Option.getD_some, Bool.false_eq_true, if_false] at hlk
                  clear hw6
                  have hin0 : (x + (t : Int), x + (t : Int)) ∈ S := (hS _).2 ⟨_, hq, by omega, rfl⟩
                  cases S with
                  | nil => cases hin0
                  | cons p S2 =>
                  obtain ⟨m1, m2⟩ := List.pairwise_cons.1 hA.srt
                  obtain ⟨j, hj, hjt, hp⟩ := (hS p).1 (List.mem_cons_self ..)
                  have hjx : j = x + t := by
                    rcases List.mem_cons.1 hin0 with e | h
                    · rw [hp] at e; simpa using congrArg Prod.fst e.symm
                    · have := m1 _ h
                      rw [hp] at this
                      unfold lt at this
                      simp at this
                      omega
                  subst hjx
                  subst hp
                  go_wp2_with fail
                  refine (refs_take_some r _ S2 c1 [] A1 _ W _ hA hw (by simp at hSl; omega)).mono ?_
                  rintro ev w8 ⟨rfl, A8, hA8, hw8⟩
                  go_wp2_with fail
                  refine ⟨⟨t + 1, S2, _, A8, by simp; omega, by omega, fun q => ?_, by simp at hSl; omega, hA8, hw8⟩, ?_⟩
                  · constructor
                    · intro hq2
                      obtain ⟨j, hj, h1, e⟩ := (hS q).1 (List.mem_cons_of_mem _ hq2)
                      refine ⟨j, hj, ?_, e⟩
                      have := m1 q hq2
                      rw [e] at this
                      unfold lt at this
                      simp at this
                      simp
                      omega
                    · rintro ⟨j, hj, h1, e⟩
                      have hq2 := (hS q).2 ⟨j, hj, by simp at h1; omega, e⟩
                      rcases List.mem_cons.1 hq2 with e2 | h
                      · rw [e] at e2
                        have := congrArg Prod.fst e2
                        simp at this h1
                        omega
                      · exact h
                  · simp [intOf]
                    omega
                · rw [hD.none hq] at hlk
                  simp only [Option.getD_none, Bool.false_eq_true, if_false] at hlk
                  clear hw6
                  go_wp2_with fail
                  refine ⟨⟨t + 1, S, c1, A1, by simp; omega, by omega, fun q => ?_, hSl, hA, hw⟩, ?_⟩
                  · rw [hS q]
                    constructor
                    · rintro ⟨j, hj, h1, e⟩
                      refine ⟨j, hj, ?_, e⟩
                      have : j ≠ x + t := fun e => hq (e ▸ hj)
                      simp; omega
                    · rintro ⟨j, hj, h1, e⟩
                      refine ⟨j, hj, ?_, e⟩
                      simp at h1; omega
                  · simp [intOf]
                    omega
              · have hti' : t = i := by omega
                subst hti'
                have hS0 : S = [] := by
                  cases S with
                  | nil => rfl
                  | cons p S2 =>
                    obtain ⟨j, hj, h1, _⟩ := (hS p).1 (List.mem_cons_self ..)
                    have := hrg j hj
                    omega
                subst hS0
                clear hlk hw6
                go_wp2_with fail
                refine (refs_free r [] c1 [] A1 _ W _ hA hw).mono ?_
                rintro ev w8 ⟨rfl, rfl⟩
                go_wp2_with fail
                refine (refs_held r [] c1 [] A1 _ W _ hA hw).mono ?_
                rintro ev w8 ⟨rfl, rfl⟩
                go_wp2_with fail
                go_ret
                exact ⟨rfl, Sat.below_all (L := []) (hw.use (M := [] ++ allOf W) (by intro x; simp only [cnt_append, cnt_cons, cnt_nil]; omega))⟩
end Go.Proofs.Ytelcaeapflhadaa.Rf
