/-
  PickChanges: the walk.
-/
import Derived.Test.YtelcaeapflhadaaPkL
import Derived.Test.YtelcaeapflhadaaRfM
import Derived.Test.YtelcaeapflhadaaPkJ
namespace Go.Proofs.Ytelcaeapflhadaa.Pk
set_option linter.unusedSimpArgs false
open Go Go.RowKit Go.Sl Go.BigFrame
set_option linter.unusedVariables false

/-! ### the heap's items: id j with the key f j, for j below n -/
def canS (f : Nat → Int) : Nat → List It
  | 0 => []
  | n + 1 => putS (canS f n) n (f n)

theorem canS_mem (f : Nat → Int) : ∀ (n : Nat) (q : It), q ∈ canS f n ↔ ∃ j : Nat, j < n ∧ q = ((j : Int), f j)
  | 0, q => by simp [canS]
  | n + 1, q => by
    unfold canS
    rw [mem_putS, canS_mem f n q]
    constructor
    · rintro (rfl | ⟨⟨j, hj, rfl⟩, _⟩)
      · exact ⟨n, by omega, rfl⟩
      · exact ⟨j, by omega, rfl⟩
    · rintro ⟨j, hj, rfl⟩
      by_cases e : j = n
      · subst e; exact .inl rfl
      · exact .inr ⟨⟨j, by omega, rfl⟩, by simp; omega⟩
theorem canS_any (f : Nat → Int) (n i : Nat) : (canS f n).any (fun q => q.1 == (i : Int)) = decide (i < n) := by
  by_cases h : i < n
  · rw [decide_eq_true h, List.any_eq_true]
    exact ⟨((i : Int), f i), (canS_mem f n _).2 ⟨i, h, rfl⟩, by simp⟩
  · rw [decide_eq_false h, List.any_eq_false]
    intro q hq
    obtain ⟨j, hj, rfl⟩ := (canS_mem f n q).1 hq
    simp
    omega
theorem canS_len (f : Nat → Int) : ∀ n, (canS f n).length = n
  | 0 => rfl
  | n + 1 => by
    unfold canS
    rw [len_putS (by rw [canS_any]; simp), canS_len f n]
theorem canS_srt (f : Nat → Int) : ∀ n, Srt (canS f n)
  | 0 => .nil
  | n + 1 => put_srt (canS_srt f n) _ _
theorem canS_ext {f : Nat → Int} {n : Nat} {S : List It} (hS : Srt S) (h : ∀ q, q ∈ S ↔ ∃ j : Nat, j < n ∧ q = ((j : Int), f j)) : S = canS f n :=
  Rf.srt_ext hS (canS_srt f n) fun q => (h q).trans (canS_mem f n q).symm
theorem canS_put {f g : Nat → Int} {n i : Nat} {k : Int} (hi : i < n) (hg : ∀ j, j < n → g j = if j = i then k else f j) : putS (canS f n) i k = canS g n := by
  refine canS_ext (put_srt (canS_srt f n) _ _) fun q => ?_
  rw [mem_putS, canS_mem]
  constructor
  · rintro (rfl | ⟨⟨j, hj, rfl⟩, hne⟩)
    · exact ⟨i, hi, by rw [hg i hi, if_pos rfl]⟩
    · exact ⟨j, hj, by rw [hg j hj, if_neg (fun e => hne (by simp [e]))]⟩
  · rintro ⟨j, hj, rfl⟩
    by_cases e : j = i
    · subst e; exact .inl (by rw [hg j hj, if_pos rfl])
    · exact .inr ⟨⟨j, hj, by rw [hg j hj, if_neg e]⟩, by simp; omega⟩
theorem canS_again (f : Nat → Int) (n : Nat) (i : Int) (k : Int) : putS (dropS (canS f n) i) i k = putS (canS f n) i k := by
  unfold putS dropS
  rw [List.filter_filter]
  congr 1
  exact List.filter_congr fun q _ => by simp
theorem canS_gone (f : Nat → Int) (n : Nat) (i : Int) : (dropS (canS f n) i).any (fun q => q.1 == i) = false := by
  unfold dropS
  rw [List.any_eq_false]
  intro q hq
  have := (List.mem_filter.1 hq).2
  simpa using this
theorem canS_less (f : Nat → Int) (n : Nat) (i : Int) : (dropS (canS f n) i).length ≤ n := by
  have := List.length_filter_le (fun q : It => q.1 != i) (canS f n)
  rw [canS_len] at this
  exact this
theorem canS_back (f : Nat → Int) (n m : Nat) (k : Int) (h : n ≤ m) : dropS (putS (canS f n) m k) m = canS f n := by
  refine canS_ext (filter_srt (put_srt (canS_srt f n) _ _) _) fun q => ?_
  unfold dropS
  rw [List.mem_filter, mem_putS, canS_mem]
  constructor
  · rintro ⟨rfl | ⟨hq, _⟩, hne⟩
    · simp at hne
    · exact hq
  · rintro ⟨j, hj, rfl⟩
    exact ⟨.inr ⟨⟨j, hj, rfl⟩, by simp; omega⟩, by simp; omega⟩
theorem put_any (S : List It) (i k : Int) : (putS S i k).any (fun q => q.1 == i) = true := by
  rw [List.any_eq_true]
  exact ⟨(i, k), mem_putS.2 (.inl rfl), by simp⟩
/-- The keys while i are put anew. -/
def mixF (nw kf : Nat → Int) (i : Nat) : Nat → Int := fun j => if j < i then nw j else kf j
theorem mixF_zero (nw kf : Nat → Int) : mixF nw kf 0 = kf := funext fun j => by simp [mixF]
theorem mixF_put (nw kf : Nat → Int) {i n : Nat} (h : i < n) {k : Int} (hk : k = nw i) : putS (canS (mixF nw kf i) n) i k = canS (mixF nw kf (i + 1)) n :=
  canS_put h fun j hj => by
    unfold mixF
    by_cases e : j = i
    · subst e; simp [hk]
    · rw [if_neg e]
      by_cases e2 : j < i
      · rw [if_pos (by omega), if_pos e2]
      · rw [if_neg (by omega), if_neg e2]
theorem mixF_keep (nw kf : Nat → Int) {i n : Nat} (hk : kf i = nw i) : mixF nw kf i = mixF nw kf (i + 1) :=
  funext fun j => by
    unfold mixF
    by_cases e : j = i
    · subst e; simp [hk]
    · by_cases e2 : j < i
      · rw [if_pos e2, if_pos (by omega)]
      · rw [if_neg e2, if_neg (by omega)]
theorem canS_congr {f g : Nat → Int} : ∀ {n : Nat}, (∀ j, j < n → f j = g j) → canS f n = canS g n
  | 0, _ => rfl
  | n + 1, h => by
    unfold canS
    rw [canS_congr fun j hj => h j (by omega), h n (by omega)]

theorem mixF_all (nw kf : Nat → Int) (n : Nat) : canS (mixF nw kf n) n = canS nw n := canS_congr fun j hj => by unfold mixF; rw [if_pos hj]


/-- What a row of bools is, as far as a walk reads it. -/
def BoolsAt (W : World) (v : Value) (ds : List Bool) : Prop :=
  ∃ g c, v = .slice g ds.length c ∧ ds.length ≤ maxLen ∧
    ∀ w, Below W.heap.size W w → ∀ j, j < ds.length → ∃ b o, g = some ⟨b, o, none⟩ ∧ w.cell? ⟨b, o + j, none⟩ = some (.bool (ds.getD j false))
def IntsAt (W : World) (v : Value) (ks : List Int) : Prop :=
  ∃ g c, v = .slice g ks.length c ∧ ks.length ≤ maxLen ∧
    ∀ w, Below W.heap.size W w → ∀ j, j < ks.length → ∃ b o, g = some ⟨b, o, none⟩ ∧ w.cell? ⟨b, o + j, none⟩ = some (.int .i64 (ks.getD j 0))

set_option maxRecDepth 100000 in
set_option maxHeartbeats 4000000 in
theorem changes_walk (kv lv dv : Value) (ks ls : List Int) (ds : List Bool) (W : World) (hkv : IntsAt W kv ks) (hlv : IntsAt W lv ls) (hdv : BoolsAt W dv ds) :
    Calls Try.prog 8 #[kv, lv, dv] W fun e w' => e = .returned (.bool true) ∧ Below W.heap.size W w' := by
  obtain ⟨gk, ck, rfl, hkl, hk⟩ := hkv
  obtain ⟨gl, cl, rfl, hll, hl⟩ := hlv
  obtain ⟨gd, cd, rfl, hdl, hd⟩ := hdv
  unfold maxLen at hkl hll hdl
  go_enter Try.func8, Try.ntmps8
  go_wp2_with fail
  refine (heap_new W _ (allOf W) (allOf_sat W)).mono ?_; rintro e w1 ⟨ha, A1, rfl, hA1, hs1⟩
  go_wp2_with fail
  refine (heap_new W _ _ hs1).mono ?_; rintro e w1 ⟨hb, B1, rfl, hB1, hs2⟩
  clear hs1
  go_wp2_with fail
  refine (known_true W _ _ hs2).mono ?_; rintro e w2 ⟨rfl, hs3⟩
  clear hs2
  go_wp2_with fail
  have hmin : min (ks.length : Int) 40 = ((min ks.length 40 : Nat) : Int) := by omega
  obtain ⟨n, hn⟩ : ∃ n : Nat, n = min ks.length 40 := ⟨_, rfl⟩
  rw [hmin, ← hn]
  have n1 : n ≤ ks.length := by omega
  have n2 : n ≤ 40 := by omega
  clear hn hmin
  have hA := hA1
  have hB := hB1
  have hs : Sat W w2 (A1 ++ (B1 ++ allOf W)) := hs3.use (by intro x; simp only [cnt_append, cnt_cons, cnt_nil]; omega)
  clear hs3 hA1 hB1
  obtain ⟨kf, hk1⟩ : ∃ kf : Nat → Int, ∀ w, Below W.heap.size W w → ∀ j, j < ks.length → ∃ b o, gk = some ⟨b, o, none⟩ ∧ w.cell? ⟨b, o + j, none⟩ = some (.int .i64 (kf j)) := ⟨_, hk⟩
  obtain ⟨lf, hl1⟩ : ∃ lf : Nat → Int, ∀ w, Below W.heap.size W w → ∀ j, j < ls.length → ∃ b o, gl = some ⟨b, o, none⟩ ∧ w.cell? ⟨b, o + j, none⟩ = some (.int .i64 (lf j)) := ⟨_, hl⟩
  obtain ⟨df, hd1⟩ : ∃ df : Nat → Bool, ∀ w, Below W.heap.size W w → ∀ j, j < ds.length → ∃ b o, gd = some ⟨b, o, none⟩ ∧ w.cell? ⟨b, o + j, none⟩ = some (.bool (df j)) := ⟨_, hd⟩
  clear hk hl hd
  obtain ⟨nw, hn1, hn2⟩ : ∃ nw : Nat → Int, (∀ j, j < ls.length → nw j = lf j) ∧ (∀ j, ¬ j < ls.length → nw j = kf j) := ⟨fun j => if j < ls.length then lf j else kf j, fun j h => if_pos h, fun j h => if_neg h⟩
  have HN1 := Lib.hid hn1
  have HN2 := Lib.hid hn2
  clear hn1 hn2
  go_loopw [10] (fun iv wr => ∃ (i : Nat) (A : List Atom), iv = .int .i64 i ∧ i ≤ n ∧ HeapA ha (canS kf i) A ∧ Sat W wr (A ++ (B1 ++ allOf W))) (fun iv _ => (n - (intOf iv).toNat))
  case atStart => exact ⟨0, A1, rfl, Nat.zero_le _, hA, hs⟩
  case round =>
    clear hs hA
    obtain ⟨i, A, rfl, hi, hA, hs⟩ := hrel
    have b0 : (0 : Int) ≤ i := by omega
    by_cases hin : i < n
    · have b1 : (i : Int) < n := by omega
      have b2 : (i : Int) < 40 := by omega
      have b3 : (i : Int) < ks.length := by omega
      obtain ⟨b, o, rfl, hc⟩ := hk1 wr (Sat.below_all (L := A ++ B1) (by simpa using hs)) i (by omega)
      go_wp2_with fail
      refine (heap_put ha _ i _ A _ W _ hA hs (by rw [canS_len]; omega) false (by rw [canS_any]; simp)).mono ?_
      rintro e wr' ⟨rfl, A', hA', hs'⟩
      clear hc hs hA
      go_wp2_with fail
      refine ⟨⟨i + 1, A', by simp, by omega, hA', hs'⟩, ?_⟩
      simp [intOf]
      omega
    · have hin' : n = i := by omega
      subst hin'
      clear hin
      go_wp2_with fail
      go_loopw [11] (fun iv wr => ∃ (i : Nat) (A B : List Atom), iv = .int .i64 i ∧ i ≤ n ∧ HeapA ha (canS (mixF nw kf i) n) A ∧ HeapA hb (canS nw i) B ∧ Sat W wr (A ++ (B ++ allOf W))) (fun iv _ => (n - (intOf iv).toNat))
      case atStart => exact ⟨0, A, B1, rfl, Nat.zero_le _, by rw [mixF_zero]; exact hA, hB, hs⟩
      case round =>
        clear hs hA hB
        obtain ⟨i, A, B, rfl, hi, hA, hB, hs⟩ := hrel
        have b0 : (0 : Int) ≤ i := by omega
        by_cases hin : i < n
        · have b1 : (i : Int) < n := by omega
          have b2 : (i : Int) < 40 := by omega
          have b3 : (i : Int) < ks.length := by omega
          have b4 : (n : Int) ≤ 40 := by omega
          have hbl := Sat.below_all (L := A ++ B) (by simpa using hs)
          obtain ⟨b, o, rfl, hc⟩ := hk1 wr hbl i (by omega)
          by_cases hil : i < ls.length
          · have b5 : (i : Int) < ls.length := by omega
            obtain ⟨b', o', rfl, hc'⟩ := hl1 wr hbl i hil
            by_cases hid : i < ds.length
            · have b6 : (i : Int) < ds.length := by omega
              obtain ⟨b'', o'', rfl, hc''⟩ := hd1 wr hbl i hid
              by_cases hdi : df i = true
              · rw [hdi] at hc''
                go_wp2_with fail
                refine (heap_drop_some ha _ i A _ W _ hA hs (by rw [canS_len]; omega) (by rw [canS_any]; simpa using hin)).mono ?_; rintro e w4 ⟨rfl, A4, hA4, hs4⟩
                clear hA hs hc hc' hc''
                go_wp2_with fail
                refine (heap_put ha _ i (lf i) A4 _ W _ hA4 hs4 (by have := canS_less (mixF nw kf i) n i; omega) false (canS_gone _ _ _)).mono ?_; rintro e w5 ⟨rfl, A5, hA5, hs5⟩
                rw [canS_again, mixF_put nw kf hin (HN1.out i hil).symm] at hA5
                clear hA4 hs4
                have hs6 : Sat W _ (B ++ (A5 ++ allOf W)) := hs5.use (by intro x; simp only [cnt_append, cnt_cons, cnt_nil]; omega)
                clear hs5
                go_wp2_with fail
                refine (heap_put hb _ ((n : Int) + (i : Int)) 0 B _ W _ hB hs6 (by rw [canS_len]; omega) false (by rw [show ((n : Int) + (i : Int)) = ((n + i : Nat) : Int) by omega, canS_any]; simp)).mono ?_; rintro e w7 ⟨rfl, B1, hB1, hs7⟩
                clear hB hs6
                go_wp2_with fail
                refine (heap_drop_some hb _ ((n : Int) + (i : Int)) B1 _ W _ hB1 hs7 (by have := putS_len (canS nw i) ((n : Int) + (i : Int)) 0; rw [canS_len] at this; omega) (put_any ..)).mono ?_; rintro e w8 ⟨rfl, B2, hB2, hs8⟩
                rw [show ((n : Int) + (i : Int)) = ((n + i : Nat) : Int) by omega, canS_back _ _ _ _ (by omega)] at hB2
                clear hB1 hs7
                go_wp2_with fail
                refine (heap_put hb _ i (lf i) B2 _ W _ hB2 hs8 (by rw [canS_len]; omega) false (by rw [canS_any]; simp)).mono ?_; rintro e w9 ⟨rfl, B3, hB3, hs9⟩
                have hB4 : HeapA hb (canS nw (i + 1)) B3 := by
                  unfold canS
                  rw [HN1.out i hil]
                  exact hB3
                clear hB2 hs8 hB3
                go_wp2_with fail
                refine ⟨⟨i + 1, A5, B3, by simp, by omega, hA5, hB4, hs9.use (by intro x; simp only [cnt_append, cnt_cons, cnt_nil]; omega)⟩, ?_⟩
                simp [intOf]
                omega
              · have hdi' : df i = false := by simpa using hdi
                rw [hdi'] at hc''
                go_wp2_with fail
                refine (heap_put ha _ i (lf i) A _ W _ hA hs (by rw [canS_len]; omega) true (by rw [canS_any]; simpa using hin)).mono ?_; rintro e w5 ⟨rfl, A5, hA5, hs5⟩
                rw [mixF_put nw kf hin (HN1.out i hil).symm] at hA5
                clear hA hs hc hc' hc''
                have hs6 : Sat W _ (B ++ (A5 ++ allOf W)) := hs5.use (by intro x; simp only [cnt_append, cnt_cons, cnt_nil]; omega)
                clear hs5
                go_wp2_with fail
                refine (heap_put hb _ ((n : Int) + (i : Int)) 0 B _ W _ hB hs6 (by rw [canS_len]; omega) false (by rw [show ((n : Int) + (i : Int)) = ((n + i : Nat) : Int) by omega, canS_any]; simp)).mono ?_; rintro e w7 ⟨rfl, B1, hB1, hs7⟩
                clear hB hs6
                go_wp2_with fail
                refine (heap_drop_some hb _ ((n : Int) + (i : Int)) B1 _ W _ hB1 hs7 (by have := putS_len (canS nw i) ((n : Int) + (i : Int)) 0; rw [canS_len] at this; omega) (put_any ..)).mono ?_; rintro e w8 ⟨rfl, B2, hB2, hs8⟩
                rw [show ((n : Int) + (i : Int)) = ((n + i : Nat) : Int) by omega, canS_back _ _ _ _ (by omega)] at hB2
                clear hB1 hs7
                go_wp2_with fail
                refine (heap_put hb _ i (lf i) B2 _ W _ hB2 hs8 (by rw [canS_len]; omega) false (by rw [canS_any]; simp)).mono ?_; rintro e w9 ⟨rfl, B3, hB3, hs9⟩
                have hB4 : HeapA hb (canS nw (i + 1)) B3 := by
                  unfold canS
                  rw [HN1.out i hil]
                  exact hB3
                clear hB2 hs8 hB3
                go_wp2_with fail
                refine ⟨⟨i + 1, A5, B3, by simp, by omega, hA5, hB4, hs9.use (by intro x; simp only [cnt_append, cnt_cons, cnt_nil]; omega)⟩, ?_⟩
                simp [intOf]
                omega
            · have b6 : ¬ (i : Int) < ds.length := by omega
              go_wp2_with fail
              refine (heap_put ha _ i (lf i) A _ W _ hA hs (by rw [canS_len]; omega) true (by rw [canS_any]; simpa using hin)).mono ?_; rintro e w5 ⟨rfl, A5, hA5, hs5⟩
              rw [mixF_put nw kf hin (HN1.out i hil).symm] at hA5
              clear hA hs hc hc'
              have hs6 : Sat W _ (B ++ (A5 ++ allOf W)) := hs5.use (by intro x; simp only [cnt_append, cnt_cons, cnt_nil]; omega)
              clear hs5
              go_wp2_with fail
              refine (heap_put hb _ ((n : Int) + (i : Int)) 0 B _ W _ hB hs6 (by rw [canS_len]; omega) false (by rw [show ((n : Int) + (i : Int)) = ((n + i : Nat) : Int) by omega, canS_any]; simp)).mono ?_; rintro e w7 ⟨rfl, B1, hB1, hs7⟩
              clear hB hs6
              go_wp2_with fail
              refine (heap_drop_some hb _ ((n : Int) + (i : Int)) B1 _ W _ hB1 hs7 (by have := putS_len (canS nw i) ((n : Int) + (i : Int)) 0; rw [canS_len] at this; omega) (put_any ..)).mono ?_; rintro e w8 ⟨rfl, B2, hB2, hs8⟩
              rw [show ((n : Int) + (i : Int)) = ((n + i : Nat) : Int) by omega, canS_back _ _ _ _ (by omega)] at hB2
              clear hB1 hs7
              go_wp2_with fail
              refine (heap_put hb _ i (lf i) B2 _ W _ hB2 hs8 (by rw [canS_len]; omega) false (by rw [canS_any]; simp)).mono ?_; rintro e w9 ⟨rfl, B3, hB3, hs9⟩
              have hB4 : HeapA hb (canS nw (i + 1)) B3 := by
                unfold canS
                rw [HN1.out i hil]
                exact hB3
              clear hB2 hs8 hB3
              go_wp2_with fail
              refine ⟨⟨i + 1, A5, B3, by simp, by omega, hA5, hB4, hs9.use (by intro x; simp only [cnt_append, cnt_cons, cnt_nil]; omega)⟩, ?_⟩
              simp [intOf]
              omega
          · have b5 : ¬ (i : Int) < ls.length := by omega
            obtain ⟨A5, hA5, hs5⟩ : ∃ A5, HeapA ha (canS (mixF nw kf (i + 1)) n) A5 ∧ Sat W wr (A5 ++ (B ++ allOf W)) := ⟨A, by rw [← mixF_keep (n := n) nw kf (HN2.out i hil).symm]; exact hA, hs⟩
            clear hA hs
            have hs6 : Sat W _ (B ++ (A5 ++ allOf W)) := hs5.use (by intro x; simp only [cnt_append, cnt_cons, cnt_nil]; omega)
            clear hs5
            go_wp2_with fail
            refine (heap_put hb _ ((n : Int) + (i : Int)) 0 B _ W _ hB hs6 (by rw [canS_len]; omega) false (by rw [show ((n : Int) + (i : Int)) = ((n + i : Nat) : Int) by omega, canS_any]; simp)).mono ?_; rintro e w7 ⟨rfl, B1, hB1, hs7⟩
            clear hB hs6
            go_wp2_with fail
            refine (heap_drop_some hb _ ((n : Int) + (i : Int)) B1 _ W _ hB1 hs7 (by have := putS_len (canS nw i) ((n : Int) + (i : Int)) 0; rw [canS_len] at this; omega) (put_any ..)).mono ?_; rintro e w8 ⟨rfl, B2, hB2, hs8⟩
            rw [show ((n : Int) + (i : Int)) = ((n + i : Nat) : Int) by omega, canS_back _ _ _ _ (by omega)] at hB2
            clear hB1 hs7
            go_wp2_with fail
            refine (heap_put hb _ i (kf i) B2 _ W _ hB2 hs8 (by rw [canS_len]; omega) false (by rw [canS_any]; simp)).mono ?_; rintro e w9 ⟨rfl, B3, hB3, hs9⟩
            have hB4 : HeapA hb (canS nw (i + 1)) B3 := by
              unfold canS
              rw [HN2.out i hil]
              exact hB3
            clear hB2 hs8 hB3
            go_wp2_with fail
            refine ⟨⟨i + 1, A5, B3, by simp, by omega, hA5, hB4, hs9.use (by intro x; simp only [cnt_append, cnt_cons, cnt_nil]; omega)⟩, ?_⟩
            simp [intOf]
            omega
        · have hin' : n = i := by omega
          subst hin'
          clear hin
          rw [mixF_all] at hA
          go_wp2_with fail
          refine (heap_all ha _ A _ W _ hA hs (by rw [canS_len]; omega)).mono ?_; rintro e w2 ⟨v1, R1, rfl, hr1, hs1⟩
          rw [canS_len] at hr1
          have hs2 : Sat W w2 (B ++ (R1 ++ (A ++ allOf W))) := hs1.use (by intro x; simp only [cnt_append, cnt_cons, cnt_nil]; omega)
          clear hs hs1
          go_wp2_with fail
          refine (heap_all hb _ B _ W _ hB hs2 (by rw [canS_len]; omega)).mono ?_; rintro e w3 ⟨v2, R2, rfl, hr2, hs3⟩
          rw [canS_len] at hr2
          have hs4 : Sat W w3 (R1 ++ (R2 ++ (A ++ allOf W))) := hs3.use (by intro x; simp only [cnt_append, cnt_cons, cnt_nil]; omega)
          clear hs2 hs3
          obtain ⟨a1, c1, rfl⟩ := Pk.RowA.slice hr1
          obtain ⟨a2, c2, rfl⟩ := Pk.RowA.slice hr2
          go_wp2_with fail
          go_loopw [123] (fun iv wr => ∃ (i : Nat), iv = .int .i64 i ∧ i ≤ n ∧ Sat W wr (R1 ++ (R2 ++ (A ++ allOf W)))) (fun iv _ => (n - (intOf iv).toNat))
          case atStart => exact ⟨0, rfl, Nat.zero_le _, hs4⟩
          case round =>
            clear hs4
            obtain ⟨i, rfl, hi, hs⟩ := hrel
            have b0 : (0 : Int) ≤ i := by omega
            by_cases hin : i < n
            · have b1 : (i : Int) < n := by omega
              have b2 : (i : Int) < 40 := by omega
              have hs2 : Sat W wr (R2 ++ (R1 ++ (A ++ allOf W))) := hs.use (by intro x; simp only [cnt_append, cnt_cons, cnt_nil]; omega)
              obtain ⟨p, hp⟩ : ∃ p, (canS nw n)[i]? = some p := ⟨_, List.getElem?_eq_getElem (by rw [canS_len]; exact hin)⟩
              obtain ⟨f0, f1⟩ := flat_get hp
              have hfl : (flat (canS nw n)).length = n * 2 := by rw [flat_length, canS_len]
              rcases hr1.2 with ⟨_, hz, _⟩ | ⟨g1, o1, cap1, e1, _, _, _⟩
              · omega
              rcases hr2.2 with ⟨_, hz, _⟩ | ⟨g2, o2, cap2, e2, _, _, _⟩
              · omega
              cases e1
              cases e2
              have d0 : wr.cell? ⟨g1, o1 + i * 2, none⟩ = some (.int .i64 p.1) := by rw [(hr1.cells hs rfl (i * 2) (by omega)).1, f0]
              have d1 : wr.cell? ⟨g1, o1 + i * 2 + 1, none⟩ = some (.int .i64 p.2) := by rw [Nat.add_assoc, (hr1.cells hs rfl (i * 2 + 1) (by omega)).1, f1]
              have d2 : wr.cell? ⟨g2, o2 + i * 2, none⟩ = some (.int .i64 p.1) := by rw [(hr2.cells hs2 rfl (i * 2) (by omega)).1, f0]
              have d3 : wr.cell? ⟨g2, o2 + i * 2 + 1, none⟩ = some (.int .i64 p.2) := by rw [Nat.add_assoc, (hr2.cells hs2 rfl (i * 2 + 1) (by omega)).1, f1]
              clear f0 f1 hp hs2
              go_wp2_with fail
              refine wp_region_one [] [] [] [] [0, 1, 2, 3, 4, 5, 6, 7, 8] (by kernel_rfl) (by kernel_rfl) ?_
              repeat (first | (refine can_pu1 rfl rfl rfl rfl rfl rfl (fun K hK => ?_); go_big_quiet_op; refine hK _ ?_; clear hK K) | (refine can_st1 rfl rfl rfl rfl rfl rfl (fun K hK => ?_); go_big_quiet_op; refine hK _ ?_; clear hK K) | (refine can_early1 rfl rfl rfl rfl rfl (fun K hK => ?_); go_big_quiet_op; refine hK _ ?_; clear hK K) | (refine can_skip rfl rfl rfl ?_; simp only [Act.put, List.setIfInBounds_toArray, List.set_cons_zero, List.set_cons_succ]))
              refine can_end1 ?_; (try simp only [Exit.then])
              go_wp2_with fail
              refine ⟨⟨i + 1, by simp, by omega, hs.drew⟩, ?_⟩
              simp [intOf]
              omega
            · have hin' : n = i := by omega
              subst hin'
              clear hin
              have hs2 : Sat W wr (A ++ (R1 ++ (R2 ++ allOf W))) := hs.use (by intro x; simp only [cnt_append, cnt_cons, cnt_nil]; omega)
              go_wp2_with fail
              refine (heap_len ha _ A _ W _ hA hs2).mono ?_; rintro e w4 ⟨rfl, rfl⟩
              rw [canS_len]
              go_wp2_with fail
              go_ret
              exact ⟨by simp, Sat.below_all (L := A) (hs.use (by intro x; simp only [cnt_append, cnt_cons, cnt_nil]; omega))⟩
end Go.Proofs.Ytelcaeapflhadaa.Pk
