/-
  What is put comes out in order: the walk.
-/
import Derived.Test.YtelcaeapflhadaaPkG
import Derived.Deep.OwnRows
namespace Go.Proofs.Ytelcaeapflhadaa.Pk
set_option linter.unusedSimpArgs false
open Go Go.RowKit Go.Sl Go.BigFrame
set_option linter.unusedVariables false

/-- What the heap holds when i keys are put. -/
def drS (ks : List Int) : Nat → List It
  | 0 => []
  | i + 1 => putS (drS ks i) i (ks.getD i 0)

theorem drS_mem (ks : List Int) : ∀ (i : Nat) (q : It), q ∈ drS ks i → ∃ a : Nat, a < i ∧ q = ((a : Int), ks.getD a 0)
  | 0, q, h => by simp [drS] at h
  | i + 1, q, h => by
    unfold drS putS at h
    rcases List.mem_cons.1 ((ins_perm _ _).mem_iff.1 h) with rfl | h
    · exact ⟨i, by omega, rfl⟩
    · obtain ⟨a, ha, e⟩ := drS_mem ks i q (List.mem_filter.1 h).1
      exact ⟨a, by omega, e⟩
theorem drS_new (ks : List Int) (i : Nat) : (drS ks i).any (fun q => q.1 == (i : Int)) = false := by
  rw [List.any_eq_false]
  intro q hq
  obtain ⟨a, ha, rfl⟩ := drS_mem ks i q hq
  simp
  omega
theorem drS_len (ks : List Int) : ∀ i, (drS ks i).length = i
  | 0 => rfl
  | i + 1 => by
    unfold drS putS
    rw [(ins_perm _ _).length_eq, filter_absent (drS_new ks i)]
    simp [drS_len ks i]
theorem drS_srt (ks : List Int) : ∀ i, Srt (drS ks i)
  | 0 => .nil
  | i + 1 => put_srt (drS_srt ks i) _ _
theorem drS_apart (ks : List Int) : ∀ i, (drS ks i).Pairwise fun p q => p.1 ≠ q.1
  | 0 => .nil
  | i + 1 => by
    unfold drS putS
    rw [filter_absent (drS_new ks i)]
    refine ((ins_perm _ _).pairwise_iff (fun h => Ne.symm h)).2 (List.pairwise_cons.2 ⟨fun q hq => ?_, drS_apart ks i⟩)
    obtain ⟨a, ha, rfl⟩ := drS_mem ks i q hq
    simp
    omega

theorem Sat.newRow {W w : World} {F : List Atom} (h : Sat W w F) (cs : Array Value) (e : TypeId) : Sat W (w.alloc (.cells cs e)) ((w.heap.size, rowP e 0 cs.size cs.toList) :: F) :=
  h.new _ ⟨cs, rfl, by simp, by simp, by rw [List.drop_zero]; exact List.take_of_length_le (by simp)⟩

/-- While i have come out: what is left, what has been had, the last. -/
structure Drain (ks : List Int) (n i : Nat) (S : List It) (hb : List Bool) (last : It) : Prop where
  srt : Srt S
  apart : S.Pairwise fun p q => p.1 ≠ q.1
  mem : ∀ q ∈ S, ∃ a : Nat, a < n ∧ q = ((a : Int), ks.getD a 0) ∧ hb[a]? = some false
  len : S.length + i = n
  size : hb.length = n
  last : 0 < i → ∀ q ∈ S, lt last q

theorem Drain.next {ks : List Int} {n i : Nat} {S : List It} {hb : List Bool} {last : It} {a : Nat} (h : Drain ks n i (((a : Int), ks.getD a 0) :: S) hb last) : Drain ks n (i + 1) S (hb.set a true) ((a : Int), ks.getD a 0) := by
  obtain ⟨s1, s2⟩ := List.pairwise_cons.1 h.srt
  obtain ⟨a1, a2⟩ := List.pairwise_cons.1 h.apart
  refine ⟨s2, a2, fun q hq => ?_, by have := h.len; simp at this; omega, by simpa using h.size, fun _ => s1⟩
  obtain ⟨b, hb1, rfl, hb2⟩ := h.mem q (List.mem_cons_of_mem _ hq)
  refine ⟨b, hb1, rfl, ?_⟩
  have := a1 _ hq
  rw [List.getElem?_set_ne]
  · exact hb2
  · intro e
    subst e
    exact this rfl

def boolsV (hb : List Bool) : List Value := hb.map .bool

set_option maxRecDepth 100000 in
set_option maxHeartbeats 2000000 in
theorem drains_walk (kv : Value) (ks : List Int) (W : World) (g : Option Addr) (c : Nat) (hkv : kv = .slice g ks.length c) (hlen : ks.length ≤ maxLen)
    (hk : ∀ w, Below W.heap.size W w → ∀ j, j < ks.length → ∃ b o, g = some ⟨b, o, none⟩ ∧ w.cell? ⟨b, o + j, none⟩ = some (.int .i64 (ks.getD j 0))) :
    Calls Try.prog 3 #[kv] W fun e w' => e = .returned (.bool true) ∧ Below W.heap.size W w' := by
  subst hkv
  unfold maxLen at hlen
  by_cases hm : ks.length ≤ 60
  · have hd : decide ((60 : Int) < (ks.length : Int)) = false := by simp; omega
    have hd2 : decide ((ks.length : Int) < 60 + 1) = true := by simp; omega
    have hd3 : decide ((ks.length : Int) ≤ 60) = true := by simp; omega
    go_enter Try.func3, Try.ntmps3
    go_wp2_with fail
    refine (heap_new W _ (allOf W) (allOf_sat W)).mono ?_; rintro e w1 ⟨h, A1, rfl, hA1, hs1⟩
    go_wp2_with fail
    refine (known_true W _ _ hs1).mono ?_; rintro e w2 ⟨rfl, hs2⟩
    clear hs1
    go_wp2_with fail
    clear hd hd2 hd3
    have hs : Sat W w2 (A1 ++ allOf W) := hs2
    clear hs2
    go_loopw [5] (fun iv wr => ∃ (i : Nat) (A : List Atom), iv = .int .i64 i ∧ i ≤ ks.length ∧ HeapA h (drS ks i) A ∧ Sat W wr (A ++ allOf W)) (fun iv _ => (ks.length - (intOf iv).toNat))
    case atStart => exact ⟨0, A1, rfl, Nat.zero_le _, hA1, hs⟩
    case round =>
      clear hs hA1
      obtain ⟨i, A, rfl, hi, hA, hs⟩ := hrel
      have b0 : (0 : Int) ≤ i := by omega
      by_cases hin : i < ks.length
      · have b1 : (i : Int) < (ks.length : Int) := by omega
        have b2 : (i : Int) < 60 := by omega
        have b3 : (i : Int) < ks.length := by omega
        obtain ⟨b, o, rfl, hc⟩ := hk wr hs.below_all i (by omega)
        obtain ⟨kx, hkx⟩ : ∃ k : Int, k = ks.getD i 0 := ⟨_, rfl⟩
        have hc' : wr.cell? ⟨b, o + i, none⟩ = some (.int .i64 kx) := by rw [hkx]; exact hc
        have HK := Lib.hid hkx
        clear hc hkx
        go_wp2_with fail
        refine (heap_put h _ i _ A _ W _ hA hs (by rw [drS_len]; omega) false (drS_new ks i)).mono ?_
        rintro e wr' ⟨rfl, A', hA', hs'⟩
        clear hc' hs hA
        go_wp2
        refine ⟨⟨i + 1, A', by simp, by omega, by unfold drS; rw [← HK.out]; exact hA', hs'⟩, ?_⟩
        simp [intOf]
        omega
      · have hin' : i = ks.length := by omega
        subst hin'
        clear hin
        go_wp2_with fail
        have hn1 := Sat.newCells hs #[.int .i64 0, .int .i64 0] 28
        have hmk : ∀ w : World, (Instr.makeSlice 29 (.int .i64 (ks.length : Int)) (.int .i64 (ks.length : Int))).run Try.prog w = .ok (.slice (some ⟨w.heap.size, 0, none⟩) ks.length ks.length) (w.alloc (.cells (madeCells #[.bool false] ks.length) 4)) := run_make_row' (P := Try.prog) 29 4 (.bool false) 1 (by kernel_rfl) (by kernel_rfl) rfl .i64 .i64 ks.length (by omega) (by omega)
        have hn2 := Sat.newRow hn1 (madeCells #[.bool false] ks.length) 4
        rw [toList_madeCells_one, size_madeCells] at hn2
        go_wp2
        rw [hmk]
        go_wp2
        have hn3 : Sat W ((wr.alloc (.cells #[.int .i64 0, .int .i64 0] 28)).alloc (.cells (madeCells #[.bool false] ks.length) 4)) ((wr.heap.size + 1, rowP 4 0 ks.length (boolsV (List.replicate ks.length false))) :: cellsA wr.heap.size #[.int .i64 0, .int .i64 0] 28 :: (A ++ allOf W)) := by
          have hz : boolsV (List.replicate ks.length false) = List.replicate ks.length (.bool false) := by simp [boolsV]
          have hz2 : wr.heap.size + 1 = (wr.alloc (.cells #[.int .i64 0, .int .i64 0] 28)).heap.size := by simp
          rw [hz, hz2]
          exact hn2
        have hD0 : Drain ks ks.length 0 (drS ks ks.length) (List.replicate ks.length false) (0, 0) := by
          refine ⟨drS_srt _ _, drS_apart _ _, fun q hq => ?_, by simp [drS_len], List.length_replicate, fun h0 => by omega⟩
          obtain ⟨a, ha, e⟩ := drS_mem ks _ q hq
          exact ⟨a, ha, e, by rw [List.getElem?_replicate, if_pos ha]⟩
        clear hn1 hn2 hmk
        generalize wr.heap.size = l at *
        generalize l + 1 = e at *
        go_loopw [8] (fun iv wr => ∃ (i : Nat) (S : List It) (A : List Atom) (hb : List Bool) (last : It), iv = .int .i64 i ∧ i ≤ ks.length ∧ HeapA h S A ∧ Drain ks ks.length i S hb last ∧ Sat W wr ((e, rowP 4 0 ks.length (boolsV hb)) :: cellsA l #[.int .i64 last.1, .int .i64 last.2] 28 :: (A ++ allOf W))) (fun iv _ => (ks.length - (intOf iv).toNat))
        case atStart => exact ⟨0, _, A, _, (0, 0), rfl, Nat.zero_le _, hA, hD0, hn3⟩
        case round =>
          clear hs hA hn3 hD0
          obtain ⟨i, S, A, hb, last, rfl, hi, hA, hD, hs⟩ := hrel
          have b0 : (0 : Int) ≤ i := by omega
          by_cases hin : i < ks.length
          · have b1 : (i : Int) < (ks.length : Int) := by omega
            have b2 : (i : Int) < 60 := by omega
            have hSl := hD.len
            cases S with
            | nil => simp at hSl; omega
            | cons q S =>
            obtain ⟨a, ha, rfl, hba⟩ := hD.mem q (List.mem_cons_self ..)
            obtain ⟨kx, hkx⟩ : ∃ k : Int, k = ks.getD a 0 := ⟨_, rfl⟩
            have hD' := hD.next
            have hlast := fun h0 : 0 < i => hD.last h0 _ (List.mem_cons_self ..)
            have hsz := hD.size
            rw [← hkx] at hA hD' hlast
            have HK := Lib.hid hkx
            clear hkx
            have hsA : Sat W wr (A ++ ((e, rowP 4 0 ks.length (boolsV hb)) :: cellsA l #[.int .i64 last.1, .int .i64 last.2] 28 :: allOf W)) := hs.use (by intro x; simp only [cnt_append, cnt_cons, cnt_nil]; omega)
            go_wp2_with fail
            refine (heap_pop_some h _ S A _ W _ hA hsA (by simp at hSl; omega)).mono ?_
            rintro ev wp ⟨rfl, A', hA', hs'⟩
            clear hs hsA hA hD
            have hx := Sat.newCells hs' #[.int .i64 a, .int .i64 kx] 28
            go_wp2
            refine wp_region_one [] [] [] [] (0 :: 1 :: 2 :: 3 :: 4 :: 5 :: 6 :: 7 :: 8 :: 9 :: 10 :: 11 :: 12 :: 13 :: 14 :: 15 :: 16 :: 17 :: 18 :: 19 :: 20 :: 21 :: 22 :: 23 :: 24 :: 25 :: 26 :: 27 :: 28 :: 29 :: 30 :: 31 :: 32 :: 33 :: 34 :: 35 :: 36 :: 37 :: 38 :: 39 :: 40 :: 41 :: 42 :: 43 :: 44 :: 45 :: 46 :: 47 :: 48 :: 49 :: 50 :: 51 :: 52 :: 53 :: 54 :: []) (by kernel_rfl) (by kernel_rfl) ?_
            refine with_sat hx.drew ?_
            generalize wp.heap.size = z
            clear hx hs'
            intro w hs
            obtain ⟨b, o, rfl, hc⟩ := hk w (Sat.below_all (L := []) (hs.use (M := [] ++ allOf W) (by intro x; simp only [cnt_append, cnt_cons, cnt_nil]; omega))) a (by omega)
            have hc' : w.cell? ⟨b, o + a, none⟩ = some (.int .i64 kx) := by rw [HK.out]; exact hc
            clear hc
            have hs1 : Sat W w ((e, rowP 4 0 ks.length (boolsV hb)) :: cellsA l #[.int .i64 last.1, .int .i64 last.2] 28 :: cellsA z #[.int .i64 a, .int .i64 kx] 28 :: (A' ++ allOf W)) := hs.use (by intro x; simp only [cnt_append, cnt_cons, cnt_nil]; omega)
            clear hs
            have hbl : a < (boolsV hb).length := by simp [boolsV]; omega
            have e0 : w.cell? ⟨e, a, none⟩ = some (.bool false) ∧ w.frozen? ⟨e, a, none⟩ = false := by
              obtain ⟨ob, hob, hrp⟩ := hs1.head
              have := hrp.cell hob a hbl
              simp only [Nat.zero_add] at this
              refine ⟨?_, this.2⟩
              rw [this.1, boolsV, List.getElem?_map, hba]
              rfl
            obtain ⟨e0, e1⟩ := e0
            have l0 : w.cell? ⟨l, 0, none⟩ = some (.int .i64 last.1) := hs1.cell m1 0
            have l1 : w.cell? ⟨l, 1, none⟩ = some (.int .i64 last.2) := hs1.cell m1 1
            have l2 : w.frozen? ⟨l, 0, none⟩ = false := hs1.free m1 0
            have l3 : w.frozen? ⟨l, 1, none⟩ = false := hs1.free m1 1
            have x0 : w.cell? ⟨z, 0, none⟩ = some (.int .i64 a) := hs1.cell m2 0
            have x1 : w.cell? ⟨z, 1, none⟩ = some (.int .i64 kx) := hs1.cell m2 1
            have n0 : e ≠ l := hs1.ne
            have n1 : l ≠ z := hs1.tail.ne
            have n2 : e ≠ z := (hs1.use (M := (e, rowP 4 0 ks.length (boolsV hb)) :: [cellsA z #[.int .i64 a, .int .i64 kx] 28]) (by intro x; simp only [cnt_append, cnt_cons, cnt_nil]; omega)).ne
            have a0 : (0 : Int) ≤ a := by omega
            have a1 : (a : Int) < (ks.length : Int) := by omega
            have a2 : (a : Int) < ks.length := by omega
            have d1 : decide ((a : Int) < 0) = false := by simp
            have d2 : decide ((ks.length : Int) ≤ (a : Int)) = false := by simp; omega
            have d4 : decide (ks.length ≤ a) = false := by simp; omega
            have hnext : ∀ w', Sat W w' (cellsA l #[.int .i64 a, .int .i64 kx] 28 :: (e, rowP 4 0 ks.length ((boolsV hb).set a (.bool true))) :: cellsA z #[.int .i64 a, .int .i64 kx] 28 :: (A' ++ allOf W)) →
                Sat W w' ((e, rowP 4 0 ks.length (boolsV (hb.set a true))) :: cellsA l #[.int .i64 ((a : Int), kx).1, .int .i64 ((a : Int), kx).2] 28 :: (A' ++ allOf W)) := fun w' h => by
              have : boolsV (hb.set a true) = (boolsV hb).set a (.bool true) := by simp [boolsV, List.map_set]
              rw [this]
              exact h.use (by intro x; simp only [cnt_append, cnt_cons, cnt_nil]; omega)
            have hst := row_store hs1 a hbl (.bool true)
            rw [Nat.zero_add] at hst
            have hst2 := Sat.setCell (Sat.setCell (Sat.use (M := cellsA l #[.int .i64 last.1, .int .i64 last.2] 28 :: (e, rowP 4 0 ks.length ((boolsV hb).set a (.bool true))) :: cellsA z #[.int .i64 a, .int .i64 kx] 28 :: (A' ++ allOf W)) hst (by intro x; simp only [cnt_append, cnt_cons, cnt_nil]; omega)) 0 (.int .i64 a)) 1 (.int .i64 kx)
            have HN := Lib.hid (hnext _ hst2)
            clear hnext hst hst2 hs1 hba
            have hR : ∀ (i' : Nat), i' = i + 1 → ∀ w', Sat W w' (((e, rowP 4 0 ks.length (boolsV (hb.set a true))) :: cellsA l #[.int .i64 ((a : Int), kx).1, .int .i64 ((a : Int), kx).2] 28 :: (A' ++ allOf W))) → ∃ (i : Nat) (S : List It) (A : List Atom) (hb : List Bool) (last : It), Value.int .i64 i' = .int .i64 i ∧ i ≤ ks.length ∧ HeapA h S A ∧ Drain ks ks.length i S hb last ∧ Sat W w' ((e, rowP 4 0 ks.length (boolsV hb)) :: cellsA l #[.int .i64 last.1, .int .i64 last.2] 28 :: (A ++ allOf W)) :=
              fun i' hi' w' hw => ⟨i', S, A', _, ((a : Int), kx), rfl, by omega, hA', by rw [hi', HK.out]; rw [HK.out] at hD'; exact hD', hw⟩
            have HR := Lib.hid hR
            clear hR hD' hA'
            by_cases h0 : i = 0
            · subst h0
              clear hlast
              repeat (first | (refine can_pu1 rfl rfl rfl rfl rfl rfl (fun K hK => ?_); go_big_quiet_op; refine hK _ ?_; clear hK K) | (refine can_st1 rfl rfl rfl rfl rfl rfl (fun K hK => ?_); go_big_quiet_op; refine hK _ ?_; clear hK K) | (refine can_early1 rfl rfl rfl rfl rfl (fun K hK => ?_); go_big_quiet_op; refine hK _ ?_; clear hK K) | (refine can_skip rfl rfl rfl ?_; simp only [Act.put, List.setIfInBounds_toArray, List.set_cons_zero, List.set_cons_succ]))
              refine can_end1 ?_; (try simp only [Exit.then])
              go_wp2
              refine ⟨HR.out (0 + 1) rfl _ HN.out, ?_⟩
              · simp [intOf] <;> omega
            · have d3 : (0 : Int) < i := by omega
              have d5 : decide ((0 : Int) < i) = true := by simp; omega
              have d6 : decide (0 < i) = true := by simp; omega
              rcases hlast (by omega) with h1 | ⟨h1, h2⟩
              · have d7 : decide (kx < last.2) = false := by simp; omega
                have d8 : (kx == last.2) = false := by simp; omega
                have d9 : decide (kx = last.2) = false := by simp; omega
                clear hlast
                repeat (first | (refine can_pu1 rfl rfl rfl rfl rfl rfl (fun K hK => ?_); go_big_quiet_op; refine hK _ ?_; clear hK K) | (refine can_st1 rfl rfl rfl rfl rfl rfl (fun K hK => ?_); go_big_quiet_op; refine hK _ ?_; clear hK K) | (refine can_early1 rfl rfl rfl rfl rfl (fun K hK => ?_); go_big_quiet_op; refine hK _ ?_; clear hK K) | (refine can_skip rfl rfl rfl ?_; simp only [Act.put, List.setIfInBounds_toArray, List.set_cons_zero, List.set_cons_succ]))
                refine can_end1 ?_; (try simp only [Exit.then])
                go_wp2
                refine ⟨HR.out (i + 1) rfl _ HN.out, ?_⟩
                · simp [intOf] <;> omega
              · have d7 : decide (kx < last.2) = false := by simp; omega
                have d8 : (kx == last.2) = true := by simp; omega
                have d9 : decide (kx = last.2) = true := by simp; omega
                have d10 : decide ((a : Int) < last.1) = false := by simp; exact Int.le_of_lt h2
                clear hlast
                repeat (first | (refine can_pu1 rfl rfl rfl rfl rfl rfl (fun K hK => ?_); go_big_quiet_op; refine hK _ ?_; clear hK K) | (refine can_st1 rfl rfl rfl rfl rfl rfl (fun K hK => ?_); go_big_quiet_op; refine hK _ ?_; clear hK K) | (refine can_early1 rfl rfl rfl rfl rfl (fun K hK => ?_); go_big_quiet_op; refine hK _ ?_; clear hK K) | (refine can_skip rfl rfl rfl ?_; simp only [Act.put, List.setIfInBounds_toArray, List.set_cons_zero, List.set_cons_succ]))
                refine can_end1 ?_; (try simp only [Exit.then])
                go_wp2
                refine ⟨HR.out (i + 1) rfl _ HN.out, ?_⟩
                · simp [intOf] <;> omega
          · have hin' : i = ks.length := by omega
            have hSl := hD.len
            cases S with
            | cons q S => simp at hSl; omega
            | nil =>
            subst hin'
            have hsA : Sat W wr (A ++ ((e, rowP 4 0 ks.length (boolsV hb)) :: cellsA l #[.int .i64 last.1, .int .i64 last.2] 28 :: allOf W)) := hs.use (by intro x; simp only [cnt_append, cnt_cons, cnt_nil]; omega)
            go_wp2_with fail
            refine (heap_len h [] A _ W _ hA hsA).mono ?_
            rintro ev wp ⟨rfl, rfl⟩
            go_wp2
            go_ret
            exact ⟨rfl, Sat.below_all (L := []) (hs.use (M := [] ++ allOf W) (by intro x; simp only [cnt_append, cnt_cons, cnt_nil]; omega))⟩
  · have hd : decide ((60 : Int) < (ks.length : Int)) = true := by simp; omega
    have hd2 : decide ((ks.length : Int) < 60 + 1) = false := by simp; omega
    have hd3 : decide ((ks.length : Int) ≤ 60) = false := by simp; omega
    have hd4 : (60 : Int) < ks.length := by omega
    have hd5 : 60 < ks.length := by omega
    go_enter Try.func3, Try.ntmps3
    go_wp2_with fail
    refine (heap_new W _ (allOf W) (allOf_sat W)).mono ?_; rintro e w1 ⟨h, A1, rfl, hA1, hs1⟩
    go_wp2_with fail
    refine (known_true W _ _ hs1).mono ?_; rintro e w2 ⟨rfl, hs2⟩
    clear hs1
    go_wp2_with fail
    clear hd hd2 hd3 hd4
    have hs : Sat W w2 (A1 ++ allOf W) := hs2
    clear hs2
    go_loopw [5] (fun iv wr => ∃ (i : Nat) (A : List Atom), iv = .int .i64 i ∧ i ≤ 60 ∧ HeapA h (drS ks i) A ∧ Sat W wr (A ++ allOf W)) (fun iv _ => (60 - (intOf iv).toNat))
    case atStart => exact ⟨0, A1, rfl, Nat.zero_le _, hA1, hs⟩
    case round =>
      clear hs hA1
      obtain ⟨i, A, rfl, hi, hA, hs⟩ := hrel
      have b0 : (0 : Int) ≤ i := by omega
      by_cases hin : i < 60
      · have b1 : (i : Int) < (60 : Int) := by omega
        have b2 : (i : Int) < 60 := by omega
        have b3 : (i : Int) < ks.length := by omega
        obtain ⟨b, o, rfl, hc⟩ := hk wr hs.below_all i (by omega)
        obtain ⟨kx, hkx⟩ : ∃ k : Int, k = ks.getD i 0 := ⟨_, rfl⟩
        have hc' : wr.cell? ⟨b, o + i, none⟩ = some (.int .i64 kx) := by rw [hkx]; exact hc
        have HK := Lib.hid hkx
        clear hc hkx
        go_wp2_with fail
        refine (heap_put h _ i _ A _ W _ hA hs (by rw [drS_len]; omega) false (drS_new ks i)).mono ?_
        rintro e wr' ⟨rfl, A', hA', hs'⟩
        clear hc' hs hA
        go_wp2
        refine ⟨⟨i + 1, A', by simp, by omega, by unfold drS; rw [← HK.out]; exact hA', hs'⟩, ?_⟩
        simp [intOf]
        omega
      · have hin' : i = 60 := by omega
        subst hin'
        clear hin
        go_wp2_with fail
        have hn1 := Sat.newCells hs #[.int .i64 0, .int .i64 0] 28
        have hmk : ∀ w : World, (Instr.makeSlice 29 (.int .i64 (60 : Int)) (.int .i64 (60 : Int))).run Try.prog w = .ok (.slice (some ⟨w.heap.size, 0, none⟩) 60 60) (w.alloc (.cells (madeCells #[.bool false] 60) 4)) := run_make_row' (P := Try.prog) 29 4 (.bool false) 1 (by kernel_rfl) (by kernel_rfl) rfl .i64 .i64 60 (by omega) (by omega)
        have hn2 := Sat.newRow hn1 (madeCells #[.bool false] 60) 4
        rw [toList_madeCells_one, size_madeCells] at hn2
        go_wp2
        rw [hmk]
        go_wp2
        have hn3 : Sat W ((wr.alloc (.cells #[.int .i64 0, .int .i64 0] 28)).alloc (.cells (madeCells #[.bool false] 60) 4)) ((wr.heap.size + 1, rowP 4 0 60 (boolsV (List.replicate 60 false))) :: cellsA wr.heap.size #[.int .i64 0, .int .i64 0] 28 :: (A ++ allOf W)) := by
          have hz : boolsV (List.replicate 60 false) = List.replicate 60 (.bool false) := by simp [boolsV]
          have hz2 : wr.heap.size + 1 = (wr.alloc (.cells #[.int .i64 0, .int .i64 0] 28)).heap.size := by simp
          rw [hz, hz2]
          exact hn2
        have hD0 : Drain ks 60 0 (drS ks 60) (List.replicate 60 false) (0, 0) := by
          refine ⟨drS_srt _ _, drS_apart _ _, fun q hq => ?_, by simp [drS_len], List.length_replicate, fun h0 => by omega⟩
          obtain ⟨a, ha, e⟩ := drS_mem ks _ q hq
          exact ⟨a, ha, e, by rw [List.getElem?_replicate, if_pos ha]⟩
        clear hn1 hn2 hmk
        generalize wr.heap.size = l at *
        generalize l + 1 = e at *
        go_loopw [8] (fun iv wr => ∃ (i : Nat) (S : List It) (A : List Atom) (hb : List Bool) (last : It), iv = .int .i64 i ∧ i ≤ 60 ∧ HeapA h S A ∧ Drain ks 60 i S hb last ∧ Sat W wr ((e, rowP 4 0 60 (boolsV hb)) :: cellsA l #[.int .i64 last.1, .int .i64 last.2] 28 :: (A ++ allOf W))) (fun iv _ => (60 - (intOf iv).toNat))
        case atStart => exact ⟨0, _, A, _, (0, 0), rfl, Nat.zero_le _, hA, hD0, hn3⟩
        case round =>
          clear hs hA hn3 hD0
          obtain ⟨i, S, A, hb, last, rfl, hi, hA, hD, hs⟩ := hrel
          have b0 : (0 : Int) ≤ i := by omega
          by_cases hin : i < 60
          · have b1 : (i : Int) < (60 : Int) := by omega
            have b2 : (i : Int) < 60 := by omega
            have hSl := hD.len
            cases S with
            | nil => simp at hSl; omega
            | cons q S =>
            obtain ⟨a, ha, rfl, hba⟩ := hD.mem q (List.mem_cons_self ..)
            obtain ⟨kx, hkx⟩ : ∃ k : Int, k = ks.getD a 0 := ⟨_, rfl⟩
            have hD' := hD.next
            have hlast := fun h0 : 0 < i => hD.last h0 _ (List.mem_cons_self ..)
            have hsz := hD.size
            rw [← hkx] at hA hD' hlast
            have HK := Lib.hid hkx
            clear hkx
            have hsA : Sat W wr (A ++ ((e, rowP 4 0 60 (boolsV hb)) :: cellsA l #[.int .i64 last.1, .int .i64 last.2] 28 :: allOf W)) := hs.use (by intro x; simp only [cnt_append, cnt_cons, cnt_nil]; omega)
            go_wp2_with fail
            refine (heap_pop_some h _ S A _ W _ hA hsA (by simp at hSl; omega)).mono ?_
            rintro ev wp ⟨rfl, A', hA', hs'⟩
            clear hs hsA hA hD
            have hx := Sat.newCells hs' #[.int .i64 a, .int .i64 kx] 28
            go_wp2
            refine wp_region_one [] [] [] [] (0 :: 1 :: 2 :: 3 :: 4 :: 5 :: 6 :: 7 :: 8 :: 9 :: 10 :: 11 :: 12 :: 13 :: 14 :: 15 :: 16 :: 17 :: 18 :: 19 :: 20 :: 21 :: 22 :: 23 :: 24 :: 25 :: 26 :: 27 :: 28 :: 29 :: 30 :: 31 :: 32 :: 33 :: 34 :: 35 :: 36 :: 37 :: 38 :: 39 :: 40 :: 41 :: 42 :: 43 :: 44 :: 45 :: 46 :: 47 :: 48 :: 49 :: 50 :: 51 :: 52 :: 53 :: 54 :: []) (by kernel_rfl) (by kernel_rfl) ?_
            refine with_sat hx.drew ?_
            generalize wp.heap.size = z
            clear hx hs'
            intro w hs
            obtain ⟨b, o, rfl, hc⟩ := hk w (Sat.below_all (L := []) (hs.use (M := [] ++ allOf W) (by intro x; simp only [cnt_append, cnt_cons, cnt_nil]; omega))) a (by omega)
            have hc' : w.cell? ⟨b, o + a, none⟩ = some (.int .i64 kx) := by rw [HK.out]; exact hc
            clear hc
            have hs1 : Sat W w ((e, rowP 4 0 60 (boolsV hb)) :: cellsA l #[.int .i64 last.1, .int .i64 last.2] 28 :: cellsA z #[.int .i64 a, .int .i64 kx] 28 :: (A' ++ allOf W)) := hs.use (by intro x; simp only [cnt_append, cnt_cons, cnt_nil]; omega)
            clear hs
            have hbl : a < (boolsV hb).length := by simp [boolsV]; omega
            have e0 : w.cell? ⟨e, a, none⟩ = some (.bool false) ∧ w.frozen? ⟨e, a, none⟩ = false := by
              obtain ⟨ob, hob, hrp⟩ := hs1.head
              have := hrp.cell hob a hbl
              simp only [Nat.zero_add] at this
              refine ⟨?_, this.2⟩
              rw [this.1, boolsV, List.getElem?_map, hba]
              rfl
            obtain ⟨e0, e1⟩ := e0
            have l0 : w.cell? ⟨l, 0, none⟩ = some (.int .i64 last.1) := hs1.cell m1 0
            have l1 : w.cell? ⟨l, 1, none⟩ = some (.int .i64 last.2) := hs1.cell m1 1
            have l2 : w.frozen? ⟨l, 0, none⟩ = false := hs1.free m1 0
            have l3 : w.frozen? ⟨l, 1, none⟩ = false := hs1.free m1 1
            have x0 : w.cell? ⟨z, 0, none⟩ = some (.int .i64 a) := hs1.cell m2 0
            have x1 : w.cell? ⟨z, 1, none⟩ = some (.int .i64 kx) := hs1.cell m2 1
            have n0 : e ≠ l := hs1.ne
            have n1 : l ≠ z := hs1.tail.ne
            have n2 : e ≠ z := (hs1.use (M := (e, rowP 4 0 60 (boolsV hb)) :: [cellsA z #[.int .i64 a, .int .i64 kx] 28]) (by intro x; simp only [cnt_append, cnt_cons, cnt_nil]; omega)).ne
            have a0 : (0 : Int) ≤ a := by omega
            have a1 : (a : Int) < (60 : Int) := by omega
            have a2 : (a : Int) < ks.length := by omega
            have d1 : decide ((a : Int) < 0) = false := by simp
            have d2 : decide ((60 : Int) ≤ (a : Int)) = false := by simp; omega
            have d4 : decide (60 ≤ a) = false := by simp; omega
            have hnext : ∀ w', Sat W w' (cellsA l #[.int .i64 a, .int .i64 kx] 28 :: (e, rowP 4 0 60 ((boolsV hb).set a (.bool true))) :: cellsA z #[.int .i64 a, .int .i64 kx] 28 :: (A' ++ allOf W)) →
                Sat W w' ((e, rowP 4 0 60 (boolsV (hb.set a true))) :: cellsA l #[.int .i64 ((a : Int), kx).1, .int .i64 ((a : Int), kx).2] 28 :: (A' ++ allOf W)) := fun w' h => by
              have : boolsV (hb.set a true) = (boolsV hb).set a (.bool true) := by simp [boolsV, List.map_set]
              rw [this]
              exact h.use (by intro x; simp only [cnt_append, cnt_cons, cnt_nil]; omega)
            have hst := row_store hs1 a hbl (.bool true)
            rw [Nat.zero_add] at hst
            have hst2 := Sat.setCell (Sat.setCell (Sat.use (M := cellsA l #[.int .i64 last.1, .int .i64 last.2] 28 :: (e, rowP 4 0 60 ((boolsV hb).set a (.bool true))) :: cellsA z #[.int .i64 a, .int .i64 kx] 28 :: (A' ++ allOf W)) hst (by intro x; simp only [cnt_append, cnt_cons, cnt_nil]; omega)) 0 (.int .i64 a)) 1 (.int .i64 kx)
            have HN := Lib.hid (hnext _ hst2)
            clear hnext hst hst2 hs1 hba
            have hR : ∀ (i' : Nat), i' = i + 1 → ∀ w', Sat W w' (((e, rowP 4 0 60 (boolsV (hb.set a true))) :: cellsA l #[.int .i64 ((a : Int), kx).1, .int .i64 ((a : Int), kx).2] 28 :: (A' ++ allOf W))) → ∃ (i : Nat) (S : List It) (A : List Atom) (hb : List Bool) (last : It), Value.int .i64 i' = .int .i64 i ∧ i ≤ 60 ∧ HeapA h S A ∧ Drain ks 60 i S hb last ∧ Sat W w' ((e, rowP 4 0 60 (boolsV hb)) :: cellsA l #[.int .i64 last.1, .int .i64 last.2] 28 :: (A ++ allOf W)) :=
              fun i' hi' w' hw => ⟨i', S, A', _, ((a : Int), kx), rfl, by omega, hA', by rw [hi', HK.out]; rw [HK.out] at hD'; exact hD', hw⟩
            have HR := Lib.hid hR
            clear hR hD' hA'
            by_cases h0 : i = 0
            · subst h0
              clear hlast
              repeat (first | (refine can_pu1 rfl rfl rfl rfl rfl rfl (fun K hK => ?_); go_big_quiet_op; refine hK _ ?_; clear hK K) | (refine can_st1 rfl rfl rfl rfl rfl rfl (fun K hK => ?_); go_big_quiet_op; refine hK _ ?_; clear hK K) | (refine can_early1 rfl rfl rfl rfl rfl (fun K hK => ?_); go_big_quiet_op; refine hK _ ?_; clear hK K) | (refine can_skip rfl rfl rfl ?_; simp only [Act.put, List.setIfInBounds_toArray, List.set_cons_zero, List.set_cons_succ]))
              refine can_end1 ?_; (try simp only [Exit.then])
              go_wp2
              refine ⟨HR.out (0 + 1) rfl _ HN.out, ?_⟩
              · simp [intOf] <;> omega
            · have d3 : (0 : Int) < i := by omega
              have d5 : decide ((0 : Int) < i) = true := by simp; omega
              have d6 : decide (0 < i) = true := by simp; omega
              rcases hlast (by omega) with h1 | ⟨h1, h2⟩
              · have d7 : decide (kx < last.2) = false := by simp; omega
                have d8 : (kx == last.2) = false := by simp; omega
                have d9 : decide (kx = last.2) = false := by simp; omega
                clear hlast
                repeat (first | (refine can_pu1 rfl rfl rfl rfl rfl rfl (fun K hK => ?_); go_big_quiet_op; refine hK _ ?_; clear hK K) | (refine can_st1 rfl rfl rfl rfl rfl rfl (fun K hK => ?_); go_big_quiet_op; refine hK _ ?_; clear hK K) | (refine can_early1 rfl rfl rfl rfl rfl (fun K hK => ?_); go_big_quiet_op; refine hK _ ?_; clear hK K) | (refine can_skip rfl rfl rfl ?_; simp only [Act.put, List.setIfInBounds_toArray, List.set_cons_zero, List.set_cons_succ]))
                refine can_end1 ?_; (try simp only [Exit.then])
                go_wp2
                refine ⟨HR.out (i + 1) rfl _ HN.out, ?_⟩
                · simp [intOf] <;> omega
              · have d7 : decide (kx < last.2) = false := by simp; omega
                have d8 : (kx == last.2) = true := by simp; omega
                have d9 : decide (kx = last.2) = true := by simp; omega
                have d10 : decide ((a : Int) < last.1) = false := by simp; exact Int.le_of_lt h2
                clear hlast
                repeat (first | (refine can_pu1 rfl rfl rfl rfl rfl rfl (fun K hK => ?_); go_big_quiet_op; refine hK _ ?_; clear hK K) | (refine can_st1 rfl rfl rfl rfl rfl rfl (fun K hK => ?_); go_big_quiet_op; refine hK _ ?_; clear hK K) | (refine can_early1 rfl rfl rfl rfl rfl (fun K hK => ?_); go_big_quiet_op; refine hK _ ?_; clear hK K) | (refine can_skip rfl rfl rfl ?_; simp only [Act.put, List.setIfInBounds_toArray, List.set_cons_zero, List.set_cons_succ]))
                refine can_end1 ?_; (try simp only [Exit.then])
                go_wp2
                refine ⟨HR.out (i + 1) rfl _ HN.out, ?_⟩
                · simp [intOf] <;> omega
          · have hin' : i = 60 := by omega
            have hSl := hD.len
            cases S with
            | cons q S => simp at hSl; omega
            | nil =>
            subst hin'
            have hsA : Sat W wr (A ++ ((e, rowP 4 0 60 (boolsV hb)) :: cellsA l #[.int .i64 last.1, .int .i64 last.2] 28 :: allOf W)) := hs.use (by intro x; simp only [cnt_append, cnt_cons, cnt_nil]; omega)
            go_wp2_with fail
            refine (heap_len h [] A _ W _ hA hsA).mono ?_
            rintro ev wp ⟨rfl, rfl⟩
            go_wp2
            go_ret
            exact ⟨rfl, Sat.below_all (L := []) (hs.use (M := [] ++ allOf W) (by intro x; simp only [cnt_append, cnt_cons, cnt_nil]; omega))⟩
end Go.Proofs.Ytelcaeapflhadaa.Pk
