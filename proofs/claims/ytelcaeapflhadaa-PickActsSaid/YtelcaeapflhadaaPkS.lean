/-
  PickActs: the walk.
-/
import Derived.Test.YtelcaeapflhadaaPkR
namespace Go.Proofs.Ytelcaeapflhadaa.Pk
set_option linter.unusedSimpArgs false
open Go Go.RowKit Go.Sl Go.BigFrame
set_option linter.unusedVariables false

set_option maxRecDepth 100000 in
set_option maxHeartbeats 16000000 in
theorem acts_walk (kv : Value) (xs : List (Int × Int × Int)) (wide : Bool) (W : World) (hkv : ActsAt W kv xs) :
    Calls Try.prog 10 #[kv, .bool wide] W fun e w' => e = .returned (.bool true) ∧ Below W.heap.size W w' := by
  obtain ⟨gk, ck, rfl, hlen, hk⟩ := hkv
  unfold maxLen at hlen
  obtain ⟨ac, hac⟩ : ∃ ac : Nat → Int × Int × Int, ∀ w, Below W.heap.size W w → ∀ j, j < xs.length → ∃ b o, gk = some ⟨b, o, none⟩ ∧ w.cell? ⟨b, o + j * 3, none⟩ = some (.int .i64 (ac j).1) ∧
      w.cell? ⟨b, o + j * 3 + 1, none⟩ = some (.int .i64 (ac j).2.1) ∧ w.cell? ⟨b, o + j * 3 + 2, none⟩ = some (.int .i64 (ac j).2.2) := ⟨_, hk⟩
  clear hk
  go_enter Try.func10, Try.ntmps10
  go_wp2_with fail
  refine (heap_new W _ (allOf W) (allOf_sat W)).mono ?_; rintro e w1 ⟨h, A1, rfl, hA1, hs1⟩
  go_wp2_with fail
  refine (known_true W _ _ hs1).mono ?_; rintro e w2 ⟨rfl, hs⟩
  clear hs1
  go_wp2_with fail
  go_loopw [6, 7] (fun hv iv wr => ∃ (i : Nat) (S : List It) (A R : List Atom), iv = .int .i64 i ∧ i ≤ 80 ∧ i ≤ xs.length ∧ HeapA h S A ∧ RowA 28 2 hv S.length (flat S) R ∧ Apart S ∧ S.length ≤ i ∧ Sat W wr (A ++ (R ++ allOf W))) (fun _ iv _ => (80 - (intOf iv).toNat))
  case atStart => exact ⟨0, [], A1, [], rfl, Nat.zero_le _, Nat.zero_le _, hA1, RowA.nil _ _, .nil, Nat.le_refl _, hs⟩
  case round =>
    clear hs hA1
    obtain ⟨i, S, A, R, rfl, hi, hil, hA, hr, hap, hSl, hs⟩ := hrel
    have b0 : (0 : Int) ≤ i := by omega
    by_cases hin : i < xs.length ∧ i < 80
    · obtain ⟨hin1, hin2⟩ := hin
      have b1 : (i : Int) < xs.length := by omega
      have b2 : (i : Int) < 80 := by omega
      obtain ⟨b, o, rfl, k0, k1, k2⟩ := hac wr (Sat.below_all (L := A ++ R) (by simpa using hs)) i hin1
      generalize ac i = ai at *
      obtain ⟨a0, a1, a2⟩ := ai
      simp only at k0 k1 k2
      obtain ⟨u, c, rfl⟩ := Pk.RowA.slice hr
      go_wp2_with fail
      have hs1 : Sat W _ (cellsA wr.heap.size #[.int .i64 a0, .int .i64 a1, .int .i64 a2] 50 :: (A ++ (R ++ allOf W))) := hs.newCells _ _
      refine (hand_pick a1 15 _ (by omega) (by omega)).mono ?_; rintro e w4 ⟨rfl, rfl⟩
      generalize handPick a1 15 = id
      clear hs k0 k1 k2
      generalize wr.heap.size = z at *
      refine with_sat hs1 ?_
      clear hs1
      intro w hs
      have z0 : w.cell? ⟨z, 0, none⟩ = some (.int .i64 a0) := hs.cell m0 0
      have z2 : w.cell? ⟨z, 2, none⟩ = some (.int .i64 a2) := hs.cell m0 2
      go_wp2_with fail
      refine (hand_pick a2 9 _ (by omega) (by omega)).mono ?_; rintro e w4 ⟨rfl, rfl⟩
      generalize handPick a2 9 = key0
      go_upto_if 49 with fail
      go_cut [10] (fun kk wx => (∃ key : Int, kk = .int .i64 key) ∧ Sat W wx (cellsA z #[.int .i64 a0, .int .i64 a1, .int .i64 a2] 50 :: (A ++ (R ++ allOf W))))
      case first =>
        go_wp2_with fail
        all_goals go_meet
        all_goals exact ⟨⟨_, rfl⟩, hs⟩
      case rest =>
        clear hs z0 z2
        obtain ⟨⟨key, rfl⟩, hs⟩ := hcut
        go_wp2_with fail
        have c0 : wc.cell? ⟨z, 0, none⟩ = some (.int .i64 a0) := hs.cell m0 0
        have hfl := flat_length S
        have hcg := hr.2
        go_loopw [54, 11] (fun kv av wr => ∃ k : Nat, kv = .int .i64 k ∧ k ≤ S.length ∧ av = .int .i64 (atF S id k) ∧ Sat W wr (cellsA z #[.int .i64 a0, .int .i64 a1, .int .i64 a2] 50 :: (A ++ (R ++ allOf W)))) (fun kv _ _ => (S.length - (intOf kv).toNat))
        case atStart => exact ⟨0, rfl, Nat.zero_le _, rfl, hs⟩
        case round =>
          clear hs c0
          obtain ⟨k, rfl, hkl, rfl, hs⟩ := hrel
          have d0 : (0 : Int) ≤ k := by omega
          by_cases hks : k < S.length
          · have d1 : (k : Int) < S.length := by omega
            have d2 : (k : Int) < 80 := by omega
            have hs2 : Sat W wr (R ++ (cellsA z #[.int .i64 a0, .int .i64 a1, .int .i64 a2] 50 :: (A ++ allOf W))) := hs.use (by intro x; simp only [cnt_append, cnt_cons, cnt_nil]; omega)
            obtain ⟨f0, f1⟩ := flat_get (get_at hks)
            rcases hcg with ⟨_, hz, _⟩ | ⟨g1, o1, cap1, e1, _, _, _⟩
            · omega
            cases e1
            have e0 : wr.cell? ⟨g1, o1 + k * 2, none⟩ = some (.int .i64 (at_ S k).1) := by rw [(hr.cells hs2 rfl (k * 2) (by omega)).1, f0]
            clear f0 f1 hs2
            generalize hat : atF S id k = av
            have hat1 : atF S id (k + 1) = if (at_ S k).1 = id then (k : Int) else av := by rw [← hat]; rfl
            have HAT := Lib.hid hat1
            clear hat hat1
            generalize (at_ S k).1 = p1 at *
            by_cases hp : p1 = id
            · have HA2 : atF S id (k + 1) = k := by rw [HAT.out, if_pos hp]
              have HB := Lib.hid HA2
              clear HA2 HAT
              subst hp
              go_wp2_with fail
              refine ⟨⟨k + 1, by simp, by omega, by rw [HB.out], hs⟩, ?_⟩
              simp [intOf]
              omega
            · have HA2 : atF S id (k + 1) = av := by rw [HAT.out, if_neg hp]
              have HB := Lib.hid HA2
              clear HA2 HAT
              have hp2 : (p1 == id) = false := by simpa using hp
              go_wp2_with fail
              refine ⟨⟨k + 1, by simp, by omega, by rw [HB.out], hs⟩, ?_⟩
              simp [intOf]
              omega
          · obtain rfl : k = S.length := by omega
            have c0 : wr.cell? ⟨z, 0, none⟩ = some (.int .i64 a0) := hs.cell m0 0
            have d1 : ¬ (S.length : Int) < S.length := by omega
            generalize hat : atF S id S.length = av at *
            have hac := at_cases S id
            rw [hat] at hac
            clear hat
            have HAC := Lib.hid hac
            clear hac
            go_wp2_with fail
            refine (hand_pick a0 7 _ (by omega) (by omega)).mono ?_; rintro e w4 ⟨rfl, rfl⟩
            generalize handPick a0 7 = what
            clear c0
            go_upto_block 4 with fail
            go_cut [6] (fun hv wx => ∃ (S' : List It) (A' R' : List Atom), HeapA h S' A' ∧ RowA 28 2 hv S'.length (flat S') R' ∧ Apart S' ∧ S'.length ≤ i + 1 ∧ Sat W wx (A' ++ (R' ++ allOf W)))
            case first =>
              have hs' : Sat W wr (A ++ (R ++ (cellsA z #[.int .i64 a0, .int .i64 a1, .int .i64 a2] 50 :: allOf W))) := hs.use (by intro x; simp only [cnt_append, cnt_cons, cnt_nil]; omega)
              clear hs
              by_cases hw4 : what < 4
              · as_aux_lemma =>
                rcases HAC.out with ⟨hany, rfl⟩ | ⟨j, k', hj, hget, hany, rfl⟩
                · have HANY := Lib.hid hany
                  clear hany
                  go_wp2_with fail
                  refine (heap_put h S id key A _ W _ hA hs' (by omega) false HANY.out).mono ?_; rintro e w5 ⟨rfl, A5, hA5, hs5⟩
                  clear hA hs'
                  go_wp2_with fail
                  have hs6 : Sat W w5 (R ++ (A5 ++ (cellsA z #[.int .i64 a0, .int .i64 a1, .int .i64 a2] 50 :: allOf W))) := hs5.use (by intro x; simp only [cnt_append, cnt_cons, cnt_nil]; omega)
                  refine (sorted_any W w5 _ _ S R (id, key) hr hs6 (by omega)).mono ?_; rintro e w6 ⟨v6, R6, rfl, hr6, hs7⟩
                  clear hs5 hs6
                  go_wp2_with fail
                  go_meet
                  refine ⟨putS S id key, A5, R6, hA5, ?_, apart_put hap id key, ?_, hs7.use (by intro x; simp only [cnt_append, cnt_cons, cnt_nil]; omega)⟩
                  · unfold putS; rw [filter_absent HANY.out]; exact hr6
                  · have := putS_len S id key; omega
                · have HANY := Lib.hid hany
                  have HGET := Lib.hid hget
                  clear hany hget
                  have j0 : (0 : Int) ≤ j := by omega
                  have j1 : (j : Int) + 1 ≤ S.length := by omega
                  have j2 : (j : Int) < 80 := by omega
                  rcases hcg with ⟨_, hz, _⟩ | ⟨g1, o1, cap1, e1, hnc, hcm, hR⟩
                  · omega
                  cases e1
                  have j3 : (j : Int) + 1 ≤ c := by omega
                  have j4 : (j : Int) ≤ c := by omega
                  go_wp2_with fail
                  refine (heap_put h S id key A _ W _ hA hs' (by omega) true HANY.out).mono ?_; rintro e w5 ⟨rfl, A5, hA5, hs5⟩
                  clear hA hs'
                  have hs6 : Sat W w5 (R ++ (A5 ++ (cellsA z #[.int .i64 a0, .int .i64 a1, .int .i64 a2] 50 :: allOf W))) := hs5.use (by intro x; simp only [cnt_append, cnt_cons, cnt_nil]; omega)
                  clear hs5
                  go_wp2_with fail
                  by_cases hcj : c = j + 1
                  · subst hcj
                    have hjl : S.length = j + 1 := by omega
                    have HJL := Lib.hid hjl
                    clear hjl
                    refine wp_region_one [0, 4, 9] [1, 2, 3, 5, 6, 7, 8] [1, 2, 3, 5, 6, 7, 8] [] [1, 2, 3, 5, 6, 7, 8, 0, 4, 9, 10] (by kernel_rfl) (by kernel_rfl) ?_
                    repeat (first | (refine can_pu1 rfl rfl rfl rfl rfl rfl (fun K hK => ?_); go_big_quiet_op; refine hK _ ?_; clear hK K) | (refine can_st1 rfl rfl rfl rfl rfl rfl (fun K hK => ?_); go_big_quiet_op; refine hK _ ?_; clear hK K) | (refine can_early1 rfl rfl rfl rfl rfl (fun K hK => ?_); go_big_quiet_op; refine hK _ ?_; clear hK K) | (refine can_skip rfl rfl rfl ?_; simp only [Act.put, List.setIfInBounds_toArray, List.set_cons_zero, List.set_cons_succ]))
                    refine can_act1 rfl rfl rfl (fun K hK => ?_)
                    go_wp2
                    repeat (first | (refine can_pu1 rfl rfl rfl rfl rfl rfl (fun K hK => ?_); go_big_quiet_op; refine hK _ ?_; clear hK K) | (refine can_st1 rfl rfl rfl rfl rfl rfl (fun K hK => ?_); go_big_quiet_op; refine hK _ ?_; clear hK K) | (refine can_early1 rfl rfl rfl rfl rfl (fun K hK => ?_); go_big_quiet_op; refine hK _ ?_; clear hK K) | (refine can_skip rfl rfl rfl ?_; simp only [Act.put, List.setIfInBounds_toArray, List.set_cons_zero, List.set_cons_succ]))
                    refine can_actF rfl rfl rfl rfl (fun K hK => ?_)
                    refine wp_append_it rfl [] (S.take j) rfl rfl (none_row w5 _) (none_sat hs6).drew (hd_reads hr (Sat.use (M := R ++ ([(w5.heap.size, rowP 28 0 (0 * 2) [])] ++ (A5 ++ (cellsA z #[.int .i64 a0, .int .i64 a1, .int .i64 a2] 50 :: allOf W)))) (none_sat hs6).drew (by intro x; simp only [cnt_append, cnt_cons, cnt_nil]; omega)) j (by omega)) (by simp <;> omega) (fun v7 w7 A7 hr7 hs7 => ?_)
                    simp only [Act.put, List.setIfInBounds_toArray, List.set_cons_zero, List.set_cons_succ]
                    refine hK _ _ ?_
                    clear hK K
                    repeat (first | (refine can_pu1 rfl rfl rfl rfl rfl rfl (fun K hK => ?_); go_big_quiet_op; refine hK _ ?_; clear hK K) | (refine can_st1 rfl rfl rfl rfl rfl rfl (fun K hK => ?_); go_big_quiet_op; refine hK _ ?_; clear hK K) | (refine can_early1 rfl rfl rfl rfl rfl (fun K hK => ?_); go_big_quiet_op; refine hK _ ?_; clear hK K) | (refine can_skip rfl rfl rfl ?_; simp only [Act.put, List.setIfInBounds_toArray, List.set_cons_zero, List.set_cons_succ]))
                    refine can_actF rfl rfl rfl rfl (fun K hK => ?_)
                    refine wp_append_it rfl ([] ++ S.take j) (S.drop (j + 1)) rfl rfl hr7 hs7 (nil_reads _ _ _ _ _ (by have := HJL.out; omega) (List.drop_eq_nil_of_le (by have := HJL.out; omega))) (by simp <;> omega) (fun v8 w8 R8 hr8 hs8 => ?_)
                    simp only [Act.put, List.setIfInBounds_toArray, List.set_cons_zero, List.set_cons_succ]
                    refine hK _ _ ?_
                    clear hK K hr7 hs7
                    have he : [] ++ S.take j ++ S.drop (j + 1) = S.eraseIdx j := by rw [List.eraseIdx_eq_take_drop_succ]; simp
                    rw [he] at hr8
                    clear he
                    repeat (first | (refine can_pu1 rfl rfl rfl rfl rfl rfl (fun K hK => ?_); go_big_quiet_op; refine hK _ ?_; clear hK K) | (refine can_st1 rfl rfl rfl rfl rfl rfl (fun K hK => ?_); go_big_quiet_op; refine hK _ ?_; clear hK K) | (refine can_early1 rfl rfl rfl rfl rfl (fun K hK => ?_); go_big_quiet_op; refine hK _ ?_; clear hK K) | (refine can_skip rfl rfl rfl ?_; simp only [Act.put, List.setIfInBounds_toArray, List.set_cons_zero, List.set_cons_succ]))
                    refine can_end1 ?_; (try simp only [Exit.then])
                    go_wp2_with fail
                    refine (sorted_any W w8 _ _ (S.eraseIdx j) R8 (id, key) hr8 hs8 (by have := List.length_eraseIdx_le S j; omega)).mono ?_; rintro e w9 ⟨v9, R9, rfl, hr9, hs9⟩
                    go_wp2_with fail
                    go_meet
                    refine ⟨putS S id key, A5, R9, hA5, ?_, apart_put hap id key, ?_, hs9.use (by intro x; simp only [cnt_append, cnt_cons, cnt_nil]; omega)⟩
                    · unfold putS; rw [apart_erase hap HGET.out]; exact hr9
                    · have := putS_len S id key; omega
                  · have htl : ∀ (w' : World) (F' : List Atom), Sat W w' (F' ++ (R ++ (A5 ++ (cellsA z #[.int .i64 a0, .int .i64 a1, .int .i64 a2] 50 :: allOf W)))) → Reads w' (.slice (some ⟨g1, o1 + (j + 1) * 2, none⟩) (S.length - (j + 1)) (c - (j + 1))) (S.drop (j + 1)).length (flat (S.drop (j + 1))) := fun w' F' h => tl_reads hr (Sat.use (M := R ++ (F' ++ (A5 ++ (cellsA z #[.int .i64 a0, .int .i64 a1, .int .i64 a2] 50 :: allOf W)))) h (by intro x; simp only [cnt_append, cnt_cons, cnt_nil]; omega)) (j + 1) (by omega)
                    have HTL := Lib.hid htl
                    clear htl
                    refine wp_region_one [0, 4, 9] [1, 2, 3, 5, 6, 7, 8] [1, 2, 3, 5, 6, 7, 8] [] [1, 2, 3, 5, 6, 7, 8, 0, 4, 9, 10] (by kernel_rfl) (by kernel_rfl) ?_
                    repeat (first | (refine can_pu1 rfl rfl rfl rfl rfl rfl (fun K hK => ?_); go_big_quiet_op; refine hK _ ?_; clear hK K) | (refine can_st1 rfl rfl rfl rfl rfl rfl (fun K hK => ?_); go_big_quiet_op; refine hK _ ?_; clear hK K) | (refine can_early1 rfl rfl rfl rfl rfl (fun K hK => ?_); go_big_quiet_op; refine hK _ ?_; clear hK K) | (refine can_skip rfl rfl rfl ?_; simp only [Act.put, List.setIfInBounds_toArray, List.set_cons_zero, List.set_cons_succ]))
                    refine can_act1 rfl rfl rfl (fun K hK => ?_)
                    go_wp2
                    repeat (first | (refine can_pu1 rfl rfl rfl rfl rfl rfl (fun K hK => ?_); go_big_quiet_op; refine hK _ ?_; clear hK K) | (refine can_st1 rfl rfl rfl rfl rfl rfl (fun K hK => ?_); go_big_quiet_op; refine hK _ ?_; clear hK K) | (refine can_early1 rfl rfl rfl rfl rfl (fun K hK => ?_); go_big_quiet_op; refine hK _ ?_; clear hK K) | (refine can_skip rfl rfl rfl ?_; simp only [Act.put, List.setIfInBounds_toArray, List.set_cons_zero, List.set_cons_succ]))
                    refine can_actF rfl rfl rfl rfl (fun K hK => ?_)
                    refine wp_append_it rfl [] (S.take j) rfl rfl (none_row w5 _) (none_sat hs6).drew (hd_reads hr (Sat.use (M := R ++ ([(w5.heap.size, rowP 28 0 (0 * 2) [])] ++ (A5 ++ (cellsA z #[.int .i64 a0, .int .i64 a1, .int .i64 a2] 50 :: allOf W)))) (none_sat hs6).drew (by intro x; simp only [cnt_append, cnt_cons, cnt_nil]; omega)) j (by omega)) (by simp <;> omega) (fun v7 w7 A7 hr7 hs7 => ?_)
                    simp only [Act.put, List.setIfInBounds_toArray, List.set_cons_zero, List.set_cons_succ]
                    refine hK _ _ ?_
                    clear hK K
                    repeat (first | (refine can_pu1 rfl rfl rfl rfl rfl rfl (fun K hK => ?_); go_big_quiet_op; refine hK _ ?_; clear hK K) | (refine can_st1 rfl rfl rfl rfl rfl rfl (fun K hK => ?_); go_big_quiet_op; refine hK _ ?_; clear hK K) | (refine can_early1 rfl rfl rfl rfl rfl (fun K hK => ?_); go_big_quiet_op; refine hK _ ?_; clear hK K) | (refine can_skip rfl rfl rfl ?_; simp only [Act.put, List.setIfInBounds_toArray, List.set_cons_zero, List.set_cons_succ]))
                    refine can_actF rfl rfl rfl rfl (fun K hK => ?_)
                    refine wp_append_it rfl ([] ++ S.take j) (S.drop (j + 1)) rfl rfl hr7 hs7 (HTL.out _ _ hs7) (by simp <;> omega) (fun v8 w8 R8 hr8 hs8 => ?_)
                    simp only [Act.put, List.setIfInBounds_toArray, List.set_cons_zero, List.set_cons_succ]
                    refine hK _ _ ?_
                    clear hK K hr7 hs7
                    have he : [] ++ S.take j ++ S.drop (j + 1) = S.eraseIdx j := by rw [List.eraseIdx_eq_take_drop_succ]; simp
                    rw [he] at hr8
                    clear he
                    repeat (first | (refine can_pu1 rfl rfl rfl rfl rfl rfl (fun K hK => ?_); go_big_quiet_op; refine hK _ ?_; clear hK K) | (refine can_st1 rfl rfl rfl rfl rfl rfl (fun K hK => ?_); go_big_quiet_op; refine hK _ ?_; clear hK K) | (refine can_early1 rfl rfl rfl rfl rfl (fun K hK => ?_); go_big_quiet_op; refine hK _ ?_; clear hK K) | (refine can_skip rfl rfl rfl ?_; simp only [Act.put, List.setIfInBounds_toArray, List.set_cons_zero, List.set_cons_succ]))
                    refine can_end1 ?_; (try simp only [Exit.then])
                    go_wp2_with fail
                    refine (sorted_any W w8 _ _ (S.eraseIdx j) R8 (id, key) hr8 hs8 (by have := List.length_eraseIdx_le S j; omega)).mono ?_; rintro e w9 ⟨v9, R9, rfl, hr9, hs9⟩
                    go_wp2_with fail
                    go_meet
                    refine ⟨putS S id key, A5, R9, hA5, ?_, apart_put hap id key, ?_, hs9.use (by intro x; simp only [cnt_append, cnt_cons, cnt_nil]; omega)⟩
                    · unfold putS; rw [apart_erase hap HGET.out]; exact hr9
                    · have := putS_len S id key; omega
              · as_aux_lemma =>
                by_cases hw6 : what < 6
                · cases S with
                  | nil =>
                    have hany0 : ([] : List It).any (fun q => q.1 == id) = false := rfl
                    go_wp2_with fail
                    refine (heap_pop_none h A _ W _ hA hs').mono ?_; rintro e w5 ⟨rfl, hs5⟩
                    clear hs'
                    have hs6 : Sat W _ (cellsA w5.heap.size #[.int .i64 0, .int .i64 0] 28 :: (A ++ (R ++ (cellsA z #[.int .i64 a0, .int .i64 a1, .int .i64 a2] 50 :: allOf W)))) := hs5.newCells _ _
                    go_wp2_with fail
                    refine wp_region_one [] [] [] [] [0, 1, 2, 3, 4, 5, 6, 7, 8, 9, 10, 11, 12, 13, 14, 15, 16, 17, 18, 19, 20, 21, 22, 23] (by kernel_rfl) (by kernel_rfl) ?_
                    repeat (first | (refine can_pu1 rfl rfl rfl rfl rfl rfl (fun K hK => ?_); go_big_quiet_op; refine hK _ ?_; clear hK K) | (refine can_st1 rfl rfl rfl rfl rfl rfl (fun K hK => ?_); go_big_quiet_op; refine hK _ ?_; clear hK K) | (refine can_early1 rfl rfl rfl rfl rfl (fun K hK => ?_); go_big_quiet_op; refine hK _ ?_; clear hK K) | (refine can_skip rfl rfl rfl ?_; simp only [Act.put, List.setIfInBounds_toArray, List.set_cons_zero, List.set_cons_succ]))
                    refine can_end1 ?_; (try simp only [Exit.then])
                    go_wp2_with fail
                    go_meet
                    exact ⟨[], A, R, hA, hr, .nil, by simp, hs6.drew.use (by intro x; simp only [cnt_append, cnt_cons, cnt_nil]; omega)⟩
                  | cons p S2 =>
                    rcases hcg with ⟨_, hz, _⟩ | ⟨g1, o1, cap1, e1, hnc, hcm, rfl⟩
                    · simp at hz
                    cases e1
                    obtain ⟨p1, p2⟩ := p
                    simp only [List.length_cons] at hSl hnc
                    have n0 : (1 : Int) ≤ S2.length + 1 := by omega
                    have n1 : (1 : Int) ≤ c := by omega
                    go_wp2_with fail
                    refine (heap_pop_some h (p1, p2) S2 A _ W _ hA hs' (by omega)).mono ?_; rintro e w5 ⟨rfl, A5, hA5, hs5⟩
                    clear hs' hA
                    have hs6 : Sat W _ ([(g1, rowP 28 o1 (c * 2) (flat ((p1, p2) :: S2)))] ++ (cellsA w5.heap.size #[.int .i64 p1, .int .i64 p2] 28 :: (A5 ++ (cellsA z #[.int .i64 a0, .int .i64 a1, .int .i64 a2] 50 :: allOf W)))) := (hs5.newCells #[.int .i64 p1, .int .i64 p2] 28).use (by intro x; simp only [cnt_append, cnt_cons, cnt_nil]; omega)
                    clear hs5
                    go_wp2_with fail
                    refine with_sat hs6 ?_
                    clear hs6
                    generalize w5.heap.size = y
                    intro w7 hs7
                    have y0 : w7.cell? ⟨y, 0, none⟩ = some (.int .i64 p1) := hs7.cell m1 0
                    have y1 : w7.cell? ⟨y, 1, none⟩ = some (.int .i64 p2) := hs7.cell m1 1
                    have y2 : w7.cell? ⟨g1, o1, none⟩ = some (.int .i64 p1) := (hr.cells hs7 rfl 0 (by simp [flat])).1
                    have y3 : w7.cell? ⟨g1, o1 + 1, none⟩ = some (.int .i64 p2) := (hr.cells hs7 rfl 1 (by simp [flat])).1
                    obtain ⟨R8, hr8, hs8⟩ := row_tail (W := W) (w := w7.drew) (by simpa using hnc) hcm hs7.drew
                    obtain ⟨_, hap2⟩ := List.pairwise_cons.1 hap
                    refine wp_region_one [] [] [] [] [0, 1, 2, 3, 4, 5, 6, 7, 8, 9, 10, 11, 12, 13, 14, 15, 16, 17, 18, 19, 20, 21, 22, 23] (by kernel_rfl) (by kernel_rfl) ?_
                    repeat (first | (refine can_pu1 rfl rfl rfl rfl rfl rfl (fun K hK => ?_); go_big_quiet_op; refine hK _ ?_; clear hK K) | (refine can_st1 rfl rfl rfl rfl rfl rfl (fun K hK => ?_); go_big_quiet_op; refine hK _ ?_; clear hK K) | (refine can_early1 rfl rfl rfl rfl rfl (fun K hK => ?_); go_big_quiet_op; refine hK _ ?_; clear hK K) | (refine can_skip rfl rfl rfl ?_; simp only [Act.put, List.setIfInBounds_toArray, List.set_cons_zero, List.set_cons_succ]))
                    refine can_end1 ?_; (try simp only [Exit.then])
                    by_cases hc1 : c = 1
                    · rw [if_pos hc1] at hr8
                      subst hc1
                      obtain rfl : S2 = [] := List.eq_nil_of_length_eq_zero (by omega)
                      go_wp2_with fail
                      go_meet
                      exact ⟨[], A5, R8, hA5, hr8, .nil, by simp, hs8.use (by intro x; simp only [cnt_append, cnt_cons, cnt_nil]; omega)⟩
                    · rw [if_neg hc1] at hr8
                      go_wp2_with fail
                      go_meet
                      exact ⟨S2, A5, R8, hA5, hr8, hap2, by omega, hs8.use (by intro x; simp only [cnt_append, cnt_cons, cnt_nil]; omega)⟩
                · rcases HAC.out with ⟨hany, rfl⟩ | ⟨j, k', hj, hget, hany, rfl⟩
                  · have HANY := Lib.hid hany
                    clear hany
                    go_wp2_with fail
                    refine (heap_drop_none h S id A _ W _ hA hs' HANY.out).mono ?_; rintro e w5 ⟨rfl, rfl⟩
                    go_wp2_with fail
                    go_meet
                    exact ⟨S, A, R, hA, hr, hap, by omega, hs'.use (by intro x; simp only [cnt_append, cnt_cons, cnt_nil]; omega)⟩
                  · have HANY := Lib.hid hany
                    have HGET := Lib.hid hget
                    clear hany hget
                    have j0 : (0 : Int) ≤ j := by omega
                    have j1 : (j : Int) + 1 ≤ S.length := by omega
                    have j2 : (j : Int) < 80 := by omega
                    rcases hcg with ⟨_, hz, _⟩ | ⟨g1, o1, cap1, e1, hnc, hcm, hR⟩
                    · omega
                    cases e1
                    have j3 : (j : Int) + 1 ≤ c := by omega
                    have j4 : (j : Int) ≤ c := by omega
                    go_wp2_with fail
                    refine (heap_drop_some h S id A _ W _ hA hs' (by omega) HANY.out).mono ?_; rintro e w5 ⟨rfl, A5, hA5, hs5⟩
                    clear hA hs'
                    have hs6 : Sat W w5 (R ++ (A5 ++ (cellsA z #[.int .i64 a0, .int .i64 a1, .int .i64 a2] 50 :: allOf W))) := hs5.use (by intro x; simp only [cnt_append, cnt_cons, cnt_nil]; omega)
                    clear hs5
                    go_wp2_with fail
                    by_cases hcj : c = j + 1
                    · subst hcj
                      have hjl : S.length = j + 1 := by omega
                      have HJL := Lib.hid hjl
                      clear hjl
                      refine wp_region_one [0, 4, 9] [1, 2, 3, 5, 6, 7, 8] [1, 2, 3, 5, 6, 7, 8] [] [1, 2, 3, 5, 6, 7, 8, 0, 4, 9, 10] (by kernel_rfl) (by kernel_rfl) ?_
                      repeat (first | (refine can_pu1 rfl rfl rfl rfl rfl rfl (fun K hK => ?_); go_big_quiet_op; refine hK _ ?_; clear hK K) | (refine can_st1 rfl rfl rfl rfl rfl rfl (fun K hK => ?_); go_big_quiet_op; refine hK _ ?_; clear hK K) | (refine can_early1 rfl rfl rfl rfl rfl (fun K hK => ?_); go_big_quiet_op; refine hK _ ?_; clear hK K) | (refine can_skip rfl rfl rfl ?_; simp only [Act.put, List.setIfInBounds_toArray, List.set_cons_zero, List.set_cons_succ]))
                      refine can_act1 rfl rfl rfl (fun K hK => ?_)
                      go_wp2
                      repeat (first | (refine can_pu1 rfl rfl rfl rfl rfl rfl (fun K hK => ?_); go_big_quiet_op; refine hK _ ?_; clear hK K) | (refine can_st1 rfl rfl rfl rfl rfl rfl (fun K hK => ?_); go_big_quiet_op; refine hK _ ?_; clear hK K) | (refine can_early1 rfl rfl rfl rfl rfl (fun K hK => ?_); go_big_quiet_op; refine hK _ ?_; clear hK K) | (refine can_skip rfl rfl rfl ?_; simp only [Act.put, List.setIfInBounds_toArray, List.set_cons_zero, List.set_cons_succ]))
                      refine can_actF rfl rfl rfl rfl (fun K hK => ?_)
                      refine wp_append_it rfl [] (S.take j) rfl rfl (none_row w5 _) (none_sat hs6).drew (hd_reads hr (Sat.use (M := R ++ ([(w5.heap.size, rowP 28 0 (0 * 2) [])] ++ (A5 ++ (cellsA z #[.int .i64 a0, .int .i64 a1, .int .i64 a2] 50 :: allOf W)))) (none_sat hs6).drew (by intro x; simp only [cnt_append, cnt_cons, cnt_nil]; omega)) j (by omega)) (by simp <;> omega) (fun v7 w7 A7 hr7 hs7 => ?_)
                      simp only [Act.put, List.setIfInBounds_toArray, List.set_cons_zero, List.set_cons_succ]
                      refine hK _ _ ?_
                      clear hK K
                      repeat (first | (refine can_pu1 rfl rfl rfl rfl rfl rfl (fun K hK => ?_); go_big_quiet_op; refine hK _ ?_; clear hK K) | (refine can_st1 rfl rfl rfl rfl rfl rfl (fun K hK => ?_); go_big_quiet_op; refine hK _ ?_; clear hK K) | (refine can_early1 rfl rfl rfl rfl rfl (fun K hK => ?_); go_big_quiet_op; refine hK _ ?_; clear hK K) | (refine can_skip rfl rfl rfl ?_; simp only [Act.put, List.setIfInBounds_toArray, List.set_cons_zero, List.set_cons_succ]))
                      refine can_actF rfl rfl rfl rfl (fun K hK => ?_)
                      refine wp_append_it rfl ([] ++ S.take j) (S.drop (j + 1)) rfl rfl hr7 hs7 (nil_reads _ _ _ _ _ (by have := HJL.out; omega) (List.drop_eq_nil_of_le (by have := HJL.out; omega))) (by simp <;> omega) (fun v8 w8 R8 hr8 hs8 => ?_)
                      simp only [Act.put, List.setIfInBounds_toArray, List.set_cons_zero, List.set_cons_succ]
                      refine hK _ _ ?_
                      clear hK K hr7 hs7
                      have he : [] ++ S.take j ++ S.drop (j + 1) = S.eraseIdx j := by rw [List.eraseIdx_eq_take_drop_succ]; simp
                      rw [he] at hr8
                      clear he
                      repeat (first | (refine can_pu1 rfl rfl rfl rfl rfl rfl (fun K hK => ?_); go_big_quiet_op; refine hK _ ?_; clear hK K) | (refine can_st1 rfl rfl rfl rfl rfl rfl (fun K hK => ?_); go_big_quiet_op; refine hK _ ?_; clear hK K) | (refine can_early1 rfl rfl rfl rfl rfl (fun K hK => ?_); go_big_quiet_op; refine hK _ ?_; clear hK K) | (refine can_skip rfl rfl rfl ?_; simp only [Act.put, List.setIfInBounds_toArray, List.set_cons_zero, List.set_cons_succ]))
                      refine can_end1 ?_; (try simp only [Exit.then])
                      go_wp2_with fail
                      go_meet
                      refine ⟨dropS S id, A5, R8, hA5, ?_, apart_drop hap id, ?_, hs8.use (by intro x; simp only [cnt_append, cnt_cons, cnt_nil]; omega)⟩
                      · unfold dropS; rw [apart_erase hap HGET.out]; exact hr8
                      · have := len_drop S id; omega
                    · have htl : ∀ (w' : World) (F' : List Atom), Sat W w' (F' ++ (R ++ (A5 ++ (cellsA z #[.int .i64 a0, .int .i64 a1, .int .i64 a2] 50 :: allOf W)))) → Reads w' (.slice (some ⟨g1, o1 + (j + 1) * 2, none⟩) (S.length - (j + 1)) (c - (j + 1))) (S.drop (j + 1)).length (flat (S.drop (j + 1))) := fun w' F' h => tl_reads hr (Sat.use (M := R ++ (F' ++ (A5 ++ (cellsA z #[.int .i64 a0, .int .i64 a1, .int .i64 a2] 50 :: allOf W)))) h (by intro x; simp only [cnt_append, cnt_cons, cnt_nil]; omega)) (j + 1) (by omega)
                      have HTL := Lib.hid htl
                      clear htl
                      refine wp_region_one [0, 4, 9] [1, 2, 3, 5, 6, 7, 8] [1, 2, 3, 5, 6, 7, 8] [] [1, 2, 3, 5, 6, 7, 8, 0, 4, 9, 10] (by kernel_rfl) (by kernel_rfl) ?_
                      repeat (first | (refine can_pu1 rfl rfl rfl rfl rfl rfl (fun K hK => ?_); go_big_quiet_op; refine hK _ ?_; clear hK K) | (refine can_st1 rfl rfl rfl rfl rfl rfl (fun K hK => ?_); go_big_quiet_op; refine hK _ ?_; clear hK K) | (refine can_early1 rfl rfl rfl rfl rfl (fun K hK => ?_); go_big_quiet_op; refine hK _ ?_; clear hK K) | (refine can_skip rfl rfl rfl ?_; simp only [Act.put, List.setIfInBounds_toArray, List.set_cons_zero, List.set_cons_succ]))
                      refine can_act1 rfl rfl rfl (fun K hK => ?_)
                      go_wp2
                      repeat (first | (refine can_pu1 rfl rfl rfl rfl rfl rfl (fun K hK => ?_); go_big_quiet_op; refine hK _ ?_; clear hK K) | (refine can_st1 rfl rfl rfl rfl rfl rfl (fun K hK => ?_); go_big_quiet_op; refine hK _ ?_; clear hK K) | (refine can_early1 rfl rfl rfl rfl rfl (fun K hK => ?_); go_big_quiet_op; refine hK _ ?_; clear hK K) | (refine can_skip rfl rfl rfl ?_; simp only [Act.put, List.setIfInBounds_toArray, List.set_cons_zero, List.set_cons_succ]))
                      refine can_actF rfl rfl rfl rfl (fun K hK => ?_)
                      refine wp_append_it rfl [] (S.take j) rfl rfl (none_row w5 _) (none_sat hs6).drew (hd_reads hr (Sat.use (M := R ++ ([(w5.heap.size, rowP 28 0 (0 * 2) [])] ++ (A5 ++ (cellsA z #[.int .i64 a0, .int .i64 a1, .int .i64 a2] 50 :: allOf W)))) (none_sat hs6).drew (by intro x; simp only [cnt_append, cnt_cons, cnt_nil]; omega)) j (by omega)) (by simp <;> omega) (fun v7 w7 A7 hr7 hs7 => ?_)
                      simp only [Act.put, List.setIfInBounds_toArray, List.set_cons_zero, List.set_cons_succ]
                      refine hK _ _ ?_
                      clear hK K
                      repeat (first | (refine can_pu1 rfl rfl rfl rfl rfl rfl (fun K hK => ?_); go_big_quiet_op; refine hK _ ?_; clear hK K) | (refine can_st1 rfl rfl rfl rfl rfl rfl (fun K hK => ?_); go_big_quiet_op; refine hK _ ?_; clear hK K) | (refine can_early1 rfl rfl rfl rfl rfl (fun K hK => ?_); go_big_quiet_op; refine hK _ ?_; clear hK K) | (refine can_skip rfl rfl rfl ?_; simp only [Act.put, List.setIfInBounds_toArray, List.set_cons_zero, List.set_cons_succ]))
                      refine can_actF rfl rfl rfl rfl (fun K hK => ?_)
                      refine wp_append_it rfl ([] ++ S.take j) (S.drop (j + 1)) rfl rfl hr7 hs7 (HTL.out _ _ hs7) (by simp <;> omega) (fun v8 w8 R8 hr8 hs8 => ?_)
                      simp only [Act.put, List.setIfInBounds_toArray, List.set_cons_zero, List.set_cons_succ]
                      refine hK _ _ ?_
                      clear hK K hr7 hs7
                      have he : [] ++ S.take j ++ S.drop (j + 1) = S.eraseIdx j := by rw [List.eraseIdx_eq_take_drop_succ]; simp
                      rw [he] at hr8
                      clear he
                      repeat (first | (refine can_pu1 rfl rfl rfl rfl rfl rfl (fun K hK => ?_); go_big_quiet_op; refine hK _ ?_; clear hK K) | (refine can_st1 rfl rfl rfl rfl rfl rfl (fun K hK => ?_); go_big_quiet_op; refine hK _ ?_; clear hK K) | (refine can_early1 rfl rfl rfl rfl rfl (fun K hK => ?_); go_big_quiet_op; refine hK _ ?_; clear hK K) | (refine can_skip rfl rfl rfl ?_; simp only [Act.put, List.setIfInBounds_toArray, List.set_cons_zero, List.set_cons_succ]))
                      refine can_end1 ?_; (try simp only [Exit.then])
                      go_wp2_with fail
                      go_meet
                      refine ⟨dropS S id, A5, R8, hA5, ?_, apart_drop hap id, ?_, hs8.use (by intro x; simp only [cnt_append, cnt_cons, cnt_nil]; omega)⟩
                      · unfold dropS; rw [apart_erase hap HGET.out]; exact hr8
                      · have := len_drop S id; omega
            case rest => as_aux_lemma =>
              clear hs hA hr hap hSl hcg HAC hfl
              obtain ⟨S', A', R', hA', hr', hap', hl', hs'⟩ := hcut
              obtain ⟨u', c', rfl⟩ := Pk.RowA.slice hr'
              go_wp2_with fail
              refine (heap_all h S' A' _ W _ hA' hs' (by omega)).mono ?_; rintro e w5 ⟨v5, R5, rfl, hr5, hs5⟩
              have hs6 : Sat W w5 (A' ++ (R5 ++ (R' ++ allOf W))) := hs5.use (by intro x; simp only [cnt_append, cnt_cons, cnt_nil]; omega)
              clear hs' hs5
              obtain ⟨u5, c5, rfl⟩ := Pk.RowA.slice hr5
              go_wp2_with fail
              refine (heap_len h S' A' _ W _ hA' hs6).mono ?_; rintro e w6 ⟨rfl, rfl⟩
              go_wp2_with fail
              go_loopw [165] (fun kv wr => ∃ k : Nat, kv = .int .i64 k ∧ k ≤ S'.length ∧ Sat W wr (A' ++ (R5 ++ (R' ++ allOf W)))) (fun kv _ => (S'.length - (intOf kv).toNat))
              case atStart => exact ⟨0, rfl, Nat.zero_le _, hs6⟩
              case round =>
                clear hs6
                obtain ⟨k, rfl, hkl, hs⟩ := hrel
                have d0 : (0 : Int) ≤ k := by omega
                by_cases hks : k < S'.length
                · have d1 : (k : Int) < S'.length := by omega
                  have d2 : (k : Int) < 90 := by omega
                  have hs2 : Sat W wr (R5 ++ (A' ++ (R' ++ allOf W))) := hs.use (by intro x; simp only [cnt_append, cnt_cons, cnt_nil]; omega)
                  have hs3 : Sat W wr (R' ++ (A' ++ (R5 ++ allOf W))) := hs.use (by intro x; simp only [cnt_append, cnt_cons, cnt_nil]; omega)
                  have hfl := flat_length S'
                  have hget := get_at hks
                  obtain ⟨f0, f1⟩ := flat_get hget
                  have hmem := List.mem_of_getElem? hget
                  rcases hr'.2 with ⟨_, hz, _⟩ | ⟨g1, o1, cap1, e1, _, _, _⟩
                  · omega
                  rcases hr5.2 with ⟨_, hz, _⟩ | ⟨g2, o2, cap2, e2, _, _, _⟩
                  · omega
                  cases e1
                  cases e2
                  have e0 : wr.cell? ⟨g1, o1 + k * 2, none⟩ = some (.int .i64 (at_ S' k).1) := by rw [(hr'.cells hs3 rfl (k * 2) (by omega)).1, f0]
                  have e1 : wr.cell? ⟨g1, o1 + k * 2 + 1, none⟩ = some (.int .i64 (at_ S' k).2) := by rw [Nat.add_assoc, (hr'.cells hs3 rfl (k * 2 + 1) (by omega)).1, f1]
                  have e2 : wr.cell? ⟨g2, o2 + k * 2, none⟩ = some (.int .i64 (at_ S' k).1) := by rw [(hr5.cells hs2 rfl (k * 2) (by omega)).1, f0]
                  have e3 : wr.cell? ⟨g2, o2 + k * 2 + 1, none⟩ = some (.int .i64 (at_ S' k).2) := by rw [Nat.add_assoc, (hr5.cells hs2 rfl (k * 2 + 1) (by omega)).1, f1]
                  clear f0 f1 hs2 hs3 hget
                  generalize at_ S' k = p at *
                  obtain ⟨p1, p2⟩ := p
                  go_wp2_with fail
                  refine (heap_key_some h S' p1 p2 A' _ W _ hA' hs hmem).mono ?_; rintro e w7 ⟨rfl, rfl⟩
                  go_wp2_with fail
                  refine wp_region_one [] [] [] [] [0, 1, 2, 3, 4, 5, 6, 7, 8, 9, 10, 11, 12, 13, 14, 15, 16, 17, 18, 19, 20, 21] (by kernel_rfl) (by kernel_rfl) ?_
                  repeat (first | (refine can_pu1 rfl rfl rfl rfl rfl rfl (fun K hK => ?_); go_big_quiet_op; refine hK _ ?_; clear hK K) | (refine can_st1 rfl rfl rfl rfl rfl rfl (fun K hK => ?_); go_big_quiet_op; refine hK _ ?_; clear hK K) | (refine can_early1 rfl rfl rfl rfl rfl (fun K hK => ?_); go_big_quiet_op; refine hK _ ?_; clear hK K) | (refine can_skip rfl rfl rfl ?_; simp only [Act.put, List.setIfInBounds_toArray, List.set_cons_zero, List.set_cons_succ]))
                  refine can_end1 ?_; (try simp only [Exit.then])
                  go_wp2_with fail
                  refine ⟨⟨k + 1, by simp, by omega, hs.drew⟩, ?_⟩
                  simp [intOf]
                  omega
                · obtain rfl : k = S'.length := by omega
                  have d1 : ¬ (S'.length : Int) < S'.length := by omega
                  cases S' with
                  | nil =>
                    go_wp2_with fail
                    refine (heap_peek_none h A' _ W _ hA' hs).mono ?_; rintro e w7 ⟨rfl, hx⟩
                    have hs7 := (hs.below hx).newCells #[.int .i64 0, .int .i64 0] 28
                    clear hs hx
                    go_wp2_with fail
                    refine wp_region_one [] [] [] [] [0, 1, 2, 3, 4, 5, 6, 7, 8, 9, 10, 11, 12, 13, 14] (by kernel_rfl) (by kernel_rfl) ?_
                    repeat (first | (refine can_pu1 rfl rfl rfl rfl rfl rfl (fun K hK => ?_); go_big_quiet_op; refine hK _ ?_; clear hK K) | (refine can_st1 rfl rfl rfl rfl rfl rfl (fun K hK => ?_); go_big_quiet_op; refine hK _ ?_; clear hK K) | (refine can_early1 rfl rfl rfl rfl rfl (fun K hK => ?_); go_big_quiet_op; refine hK _ ?_; clear hK K) | (refine can_skip rfl rfl rfl ?_; simp only [Act.put, List.setIfInBounds_toArray, List.set_cons_zero, List.set_cons_succ]))
                    refine can_end1 ?_; (try simp only [Exit.then])
                    go_wp2_with fail
                    refine ⟨⟨i + 1, [], A', R', by simp, by omega, by omega, hA', hr', .nil, by simp, hs7.drew.use (by intro x; simp only [cnt_append, cnt_cons, cnt_nil]; omega)⟩, ?_⟩
                    simp [intOf]
                    omega
                  | cons p S2 =>
                    obtain ⟨p1, p2⟩ := p
                    rcases hr'.2 with ⟨_, hz, _⟩ | ⟨g1, o1, cap1, e1, _, _, _⟩
                    · simp at hz
                    cases e1
                    have n0 : (0 : Int) < S2.length + 1 := by omega
                    go_wp2_with fail
                    refine (heap_peek_some h (p1, p2) S2 A' _ W _ hA' hs).mono ?_; rintro e w7 ⟨rfl, hx⟩
                    have hs7 := (hs.below hx).newCells #[.int .i64 p1, .int .i64 p2] 28
                    clear hs hx
                    go_wp2_with fail
                    refine with_sat hs7 ?_
                    clear hs7
                    generalize w7.heap.size = y
                    intro w8 hs8
                    have hs9 : Sat W w8 (R' ++ (cellsA y #[.int .i64 p1, .int .i64 p2] 28 :: (A' ++ (R5 ++ allOf W)))) := hs8.use (by intro x; simp only [cnt_append, cnt_cons, cnt_nil]; omega)
                    have y0 : w8.cell? ⟨y, 0, none⟩ = some (.int .i64 p1) := hs8.cell m0 0
                    have y1 : w8.cell? ⟨y, 1, none⟩ = some (.int .i64 p2) := hs8.cell m0 1
                    have y2 : w8.cell? ⟨g1, o1, none⟩ = some (.int .i64 p1) := (hr'.cells hs9 rfl 0 (by simp [flat])).1
                    have y3 : w8.cell? ⟨g1, o1 + 1, none⟩ = some (.int .i64 p2) := (hr'.cells hs9 rfl 1 (by simp [flat])).1
                    clear hs9
                    refine wp_region_one [] [] [] [] [0, 1, 2, 3, 4, 5, 6, 7, 8, 9, 10, 11, 12, 13, 14] (by kernel_rfl) (by kernel_rfl) ?_
                    repeat (first | (refine can_pu1 rfl rfl rfl rfl rfl rfl (fun K hK => ?_); go_big_quiet_op; refine hK _ ?_; clear hK K) | (refine can_st1 rfl rfl rfl rfl rfl rfl (fun K hK => ?_); go_big_quiet_op; refine hK _ ?_; clear hK K) | (refine can_early1 rfl rfl rfl rfl rfl (fun K hK => ?_); go_big_quiet_op; refine hK _ ?_; clear hK K) | (refine can_skip rfl rfl rfl ?_; simp only [Act.put, List.setIfInBounds_toArray, List.set_cons_zero, List.set_cons_succ]))
                    refine can_end1 ?_; (try simp only [Exit.then])
                    go_wp2_with fail
                    refine ⟨⟨i + 1, (p1, p2) :: S2, A', R', by simp, by omega, by omega, hA', hr', hap', hl', hs8.drew.use (by intro x; simp only [cnt_append, cnt_cons, cnt_nil]; omega)⟩, ?_⟩
                    simp [intOf]
                    omega
    · go_wp2_with fail
      all_goals go_ret
      all_goals exact ⟨rfl, Sat.below_all (L := A ++ R) (by simpa using hs)⟩
end Go.Proofs.Ytelcaeapflhadaa.Pk
