/-
  Pushes and pops against a map: the walk of PickMixed.
-/
import Derived.Test.YtelcaeapflhadaaPkH
import Derived.Test.YtelcaeapflhadaaSlRange
namespace Go.Proofs.Ytelcaeapflhadaa.Pk
set_option linter.unusedSimpArgs false
open Go Go.RowKit Go.Sl Go.BigFrame
set_option linter.unusedVariables false

theorem mem_putS {S : List It} {id k : Int} {q : It} : q ∈ putS S id k ↔ q = (id, k) ∨ q ∈ S ∧ q.1 ≠ id := by
  unfold putS
  rw [(ins_perm _ _).mem_iff, List.mem_cons, List.mem_filter]
  simp
theorem len_putS {S : List It} {id k : Int} (h : S.any (fun q => q.1 == id) = false) : (putS S id k).length = S.length + 1 := by
  unfold putS
  rw [(ins_perm _ _).length_eq, filter_absent h, List.length_cons]

/-- The map f holds just the items of S. -/
structure HasS (f : Value → Option Value) (S : List It) : Prop where
  gives : ∀ k v, f k = some v → ∃ p ∈ S, k = .int .i64 p.1 ∧ v = .int .i64 p.2
  all : ∀ p ∈ S, f (.int .i64 p.1) = some (.int .i64 p.2)

theorem HasS.nil : HasS (fun _ => none) [] := ⟨fun k v h => (by cases h), fun p h => (by cases h)⟩
theorem HasS.none {f : Value → Option Value} {S : List It} (h : HasS f S) {id : Int} (hn : S.any (fun q => q.1 == id) = false) : f (.int .i64 id) = none := by
  cases hf : f (.int .i64 id) with
  | none => rfl
  | some v =>
    obtain ⟨p, hp, e, _⟩ := h.gives _ _ hf
    have : S.any (fun q => q.1 == id) = true := List.any_eq_true.2 ⟨p, hp, by simpa using (by cases e; rfl)⟩
    rw [hn] at this
    cases this
theorem HasS.put {f : Value → Option Value} {S : List It} (h : HasS f S) (id k : Int) : HasS (updV f (.int .i64 id) (.int .i64 k)) (putS S id k) := by
  refine ⟨fun x v hx => ?_, fun p hp => ?_⟩
  · by_cases e : x = .int .i64 id
    · subst e
      rw [updV_same] at hx
      cases hx
      exact ⟨(id, k), mem_putS.2 (.inl rfl), rfl, rfl⟩
    · rw [updV_other _ _ e] at hx
      obtain ⟨p, hp, rfl, rfl⟩ := h.gives _ _ hx
      exact ⟨p, mem_putS.2 (.inr ⟨hp, fun e' => e (by rw [e'])⟩), rfl, rfl⟩
  · rcases mem_putS.1 hp with rfl | ⟨hp, hne⟩
    · exact updV_same _ _ _
    · rw [updV_other]
      · exact h.all p hp
      · intro e
        cases e
        exact hne rfl
theorem HasS.pop {f : Value → Option Value} {p : It} {S : List It} (h : HasS f (p :: S)) (hs : Srt (p :: S)) : HasS (delV f (.int .i64 p.1)) S := by
  obtain ⟨h1, h2⟩ := List.pairwise_cons.1 hs
  refine ⟨fun x v hx => ?_, fun q hq => ?_⟩
  · by_cases e : x = .int .i64 p.1
    · subst e
      rw [delV_same] at hx
      cases hx
    · rw [delV_other _ e] at hx
      obtain ⟨q, hq, rfl, rfl⟩ := h.gives _ _ hx
      rcases List.mem_cons.1 hq with rfl | hq
      · exact absurd rfl e
      · exact ⟨q, hq, rfl, rfl⟩
  · rw [delV_other]
    · exact h.all q (List.mem_cons_of_mem _ hq)
    · intro e
      have e1 : q.1 = p.1 := by simpa using e
      have e2 := h.all q (List.mem_cons_of_mem _ hq)
      rw [e1, h.all p (List.mem_cons_self ..)] at e2
      have e3 : p.2 = q.2 := by simpa using e2
      have := h1 q hq
      unfold lt at this
      omega

/-- corbelhand.Pick. -/
def handPick (x m : Int) : Int := if x.tmod m < 0 then x.tmod m + m else x.tmod m

theorem hand_pick (x m : Int) (w : World) (hm : 0 < m) (hm2 : m < 1000000) :
    Calls Try.prog 16 #[.int .i64 x, .int .i64 m] w fun e w' => e = .returned (.int .i64 (handPick x m)) ∧ w = w' := by
  have b1 : x.tmod m < m := Int.tmod_lt_of_pos _ hm
  have b2 : -m < x.tmod m := by
    have := Int.tmod_lt_of_pos (-x) hm
    rw [Int.neg_tmod] at this
    omega
  unfold handPick
  by_cases h0 : x.tmod m < 0
  · have d1 : decide (x.tmod m < 0) = true := by simpa using h0
    rw [if_pos h0]
    have b3 : (0 : Int) ≤ x.tmod m + m := by omega
    have b4 : x.tmod m + m < 1000000 := by omega
    go_enter Try.func16, Try.ntmps16
    go_wp2_with fail
    go_ret
    exact ⟨rfl, rfl⟩
  · have d1 : decide (x.tmod m < 0) = false := by simpa using h0
    rw [if_neg h0]
    go_enter Try.func16, Try.ntmps16
    go_wp2_with fail
    go_ret
    exact ⟨rfl, rfl⟩
theorem heap_srt {h : Nat} {S : List It} {A : List Atom} (hA : HeapA h S A) : Srt S := by
  obtain ⟨x, l, A0, rfl, hI, hp, hh, hS⟩ := hA
  exact hS

/-- The entries that the round meets are items of S. -/
theorem HasS.entry {f : Value → Option Value} {S : List It} (h : HasS f S) {es : Array MapEntry} {clock n : Nat} {d : TypeDesc} (hm : MapOk d es clock f n) {e : MapEntry} (he : e ∈ es.toList) : ∃ p ∈ S, e.key = .int .i64 p.1 ∧ e.val = .int .i64 p.2 :=
  h.gives _ _ (hm.gives e he)

set_option maxRecDepth 100000 in
set_option maxHeartbeats 2000000 in
theorem mixed_walk (kv : Value) (ks : List Int) (W : World) (g : Option Addr) (c : Nat) (hkv : kv = .slice g ks.length c) (hlen : ks.length ≤ maxLen)
    (hk : ∀ w, Below W.heap.size W w → ∀ j, j < ks.length → ∃ b o, g = some ⟨b, o, none⟩ ∧ w.cell? ⟨b, o + j, none⟩ = some (.int .i64 (ks.getD j 0))) :
    Calls Try.prog 4 #[kv] W fun e w' => e = .returned (.bool true) ∧ Below W.heap.size W w' := by
  subst hkv
  unfold maxLen at hlen
  go_enter Try.func4, Try.ntmps4
  go_wp2_with fail
  refine (heap_new W _ (allOf W) (allOf_sat W)).mono ?_; rintro e w1 ⟨h, A1, rfl, hA1, hs1⟩
  go_wp2_with fail
  refine (known_true W _ _ hs1).mono ?_; rintro e w2 ⟨rfl, hs2⟩
  clear hs1
  have hmm := @run_makeMap Try.prog
  have hs := newMap_sl hs2 (.int .i64)
  clear hs2
  go_wp2_with fail
  clear hmm
  generalize w2.heap.size = m at *
  go_loopw [5] (fun iv wr => ∃ (i : Nat) (S : List It) (A : List Atom) (f : Value → Option Value), iv = .int .i64 i ∧ i ≤ 90 ∧ i ≤ ks.length ∧ HeapA h S A ∧ HasS f S ∧ (∀ p ∈ S, p.1 < i) ∧ S.length ≤ i ∧ Sat W wr (mapA m (.int .i64) f S.length :: (A ++ allOf W))) (fun iv _ => (90 - (intOf iv).toNat))
  case atStart => exact ⟨0, [], A1, _, rfl, Nat.zero_le _, Nat.zero_le _, hA1, HasS.nil, fun p hp => (by cases hp), Nat.le_refl _, hs⟩
  case round =>
    clear hs hA1
    obtain ⟨i, S, A, f, rfl, hi, hil, hA, hf, hids, hlen, hs⟩ := hrel
    have b0 : (0 : Int) ≤ i := by omega
    by_cases hin : i < ks.length ∧ i < 90
    · obtain ⟨hin1, hin2⟩ := hin
      have b1 : (i : Int) < ks.length := by omega
      have b2 : (i : Int) < 90 := by omega
      obtain ⟨b, o, rfl, hc⟩ := hk wr (Sat.below_all (L := []) (hs.use (M := [] ++ allOf W) (by intro x; simp only [cnt_append, cnt_cons, cnt_nil]; omega))) i hin1
      obtain ⟨kx, hkx⟩ : ∃ k : Int, k = ks.getD i 0 := ⟨_, rfl⟩
      rw [← hkx] at hc
      have HK := Lib.hid hkx
      clear hkx
      go_wp2_with fail
      refine (hand_pick kx 3 _ (by omega) (by omega)).mono ?_; rintro e wr' ⟨rfl, rfl⟩
      generalize handPick kx 3 = r
      by_cases hr : 0 < r
      · have d1 : decide (0 < r) = true := by simpa using hr
        have hfresh : S.any (fun q => q.1 == (i : Int)) = false := by
          rw [List.any_eq_false]
          intro q hq
          have := hids q hq
          simp
          omega
        have hsA : Sat W wr (A ++ (mapA m (.int .i64) f S.length :: allOf W)) := hs.use (by intro x; simp only [cnt_append, cnt_cons, cnt_nil]; omega)
        go_wp2_with fail
        refine (heap_put h S _ _ A _ W _ hA hsA (by omega) false hfresh).mono ?_
        rintro ev w3 ⟨rfl, A', hA', hs'⟩
        obtain ⟨b', o', hg, hc3⟩ := hk w3 (Sat.below_all (L := []) (hs'.use (M := [] ++ allOf W) (by intro x; simp only [cnt_append, cnt_cons, cnt_nil]; omega))) i hin1
        cases hg
        rw [← HK.out] at hc3
        have hs3 : Sat W w3 (mapA m (.int .i64) f S.length :: (A' ++ allOf W)) := hs'.use (by intro x; simp only [cnt_append, cnt_cons, cnt_nil]; omega)
        obtain ⟨w4, hr4, hs4⟩ := mapUpdate_sl (P := Try.prog) (t := 34) (key := .int .i64 i) hs3 Try.underlying34 Try.underlying3 rfl (.int .i64 (wrap64 (kx.tdiv 3)))
        rw [hf.none hfresh] at hs4
        simp only [Option.isSome_none, Bool.false_eq_true, if_false] at hs4
        rw [← len_putS hfresh (k := wrap64 (kx.tdiv 3))] at hs4
        clear hk hA hs hsA hs' hs3
        go_wp2
        refine ⟨⟨i + 1, _, A', _, by simp, by omega, by omega, hA', hf.put _ _, fun q hq => ?_, by rw [len_putS hfresh]; omega, hs4⟩, ?_⟩
        · rcases mem_putS.1 hq with rfl | ⟨hq, _⟩
          · simp; omega
          · have := hids q hq
            omega
        · simp [intOf]
          omega
      · have d1 : decide (0 < r) = false := by simpa using hr
        cases S with
        | nil =>
          rw [List.length_nil] at hs
          have hsA : Sat W wr (A ++ (mapA m (.int .i64) f 0 :: allOf W)) := hs.use (by intro x; simp only [cnt_append, cnt_cons, cnt_nil]; omega)
          go_wp2_with fail
          refine (heap_pop_none h A _ W _ hA hsA).mono ?_
          rintro ev w3 ⟨rfl, hs'⟩
          have hx := Sat.newCells hs' #[.int .i64 0, .int .i64 0] 28
          have hl0 := len_sl (P := Try.prog) (t := 34) (L := mapA m (.int .i64) f 0 :: (A ++ allOf W)) (hx.use (by intro x; simp only [cnt_append, cnt_cons, cnt_nil]; omega)) m0 Try.underlying34 3
          go_wp2_with fail
          refine ⟨⟨i + 1, [], A, f, by simp, by omega, by omega, hA, hf, fun p hp => (by cases hp), Nat.zero_le _, by rw [List.length_nil]; exact hx.use (by intro x; simp only [cnt_append, cnt_cons, cnt_nil]; omega)⟩, ?_⟩
          simp [intOf]
          omega
        | cons p S =>
          rw [List.length_cons] at hs
          have hsA : Sat W wr (A ++ (mapA m (.int .i64) f (S.length + 1) :: allOf W)) := hs.use (by intro x; simp only [cnt_append, cnt_cons, cnt_nil]; omega)
          go_wp2_with fail
          refine (heap_pop_some h p S A _ W _ hA hsA (by simp at hlen; omega)).mono ?_
          rintro ev w3 ⟨rfl, A', hA', hs'⟩
          have hx := Sat.newCells hs' #[.int .i64 p.1, .int .i64 p.2] 28
          have hl0 := len_sl (P := Try.prog) (t := 34) (L := mapA m (.int .i64) f (S.length + 1) :: (A' ++ allOf W)) (hx.use (by intro x; simp only [cnt_append, cnt_cons, cnt_nil]; omega)) m0 Try.underlying34 3
          have hlk := lookup_sl (P := Try.prog) (t := 34) (key := .int .i64 p.1) (z := .int .i64 0) (L := mapA m (.int .i64) f (S.length + 1) :: (A' ++ allOf W)) (hx.use (by intro x; simp only [cnt_append, cnt_cons, cnt_nil]; omega)) m0 Try.underlying34 Try.underlying3 rfl (Try.zeroValue3 _) true
          rw [hf.all p (List.mem_cons_self ..)] at hlk
          simp only [Option.getD_some, Option.isSome_some, if_true] at hlk
          have x0 : (w3.alloc (.cells #[.int .i64 p.1, .int .i64 p.2] 28)).cell? ⟨w3.heap.size, 0, none⟩ = some (.int .i64 p.1) := hx.cell m0 0
          have x1 : (w3.alloc (.cells #[.int .i64 p.1, .int .i64 p.2] 28)).cell? ⟨w3.heap.size, 1, none⟩ = some (.int .i64 p.2) := hx.cell m0 1
          have d2 : decide (0 < ((S.length : Int) + 1)) = true := by simp <;> omega
          have d3 : decide (0 < (S.length + 1)) = true := by simp
          obtain ⟨es, clock, hm, hsE⟩ := Sat.openMap (b := m) (d := .int .i64) (f := f) (n := S.length + 1) (L := cellsA w3.heap.size #[.int .i64 p.1, .int .i64 p.2] 28 :: (A' ++ allOf W)) (hx.use (by intro x; simp only [cnt_append, cnt_cons, cnt_nil]; omega))
          obtain ⟨hrr, hsR⟩ := range_sl (P := Try.prog) Try.underlying34 hsE
          go_wp2_with fail
          try rw [hrr]
          go_wp2_with fail
          have hz : (w3.alloc (.cells #[.int .i64 p.1, .int .i64 p.2] 28)).heap.size = w3.heap.size + 1 := by simp
          rw [hz] at hsR
          have hfp := hf.pop (heap_srt hA)
          have hmin : ∀ q ∈ p :: S, q = p ∨ lt p q := fun q hq => by
            rcases List.mem_cons.1 hq with e | hq
            · exact .inl e
            · exact .inr ((List.pairwise_cons.1 (heap_srt hA)).1 q hq)
          clear hk hA hs hsA hs' hl0 hlk hx hsE hrr hz
          generalize w3.heap.size = z at *
          generalize z + 1 = rr at *
          go_loopw [80] (fun _ wr => ∃ seen, Sat W wr (iterA rr m clock seen :: mapE m es clock :: cellsA z #[.int .i64 p.1, .int .i64 p.2] 28 :: (A' ++ allOf W))) (fun _ wr => (leftOf es (wr.iterSeen rr)).size)
          case atStart => exact ⟨_, hsR⟩
          case round =>
            clear hsR
            obtain ⟨seen, hs⟩ := hrel
            have hseen := hs.iterSeen
            rcases next_sl (P := Try.prog) 0 hm hs with ⟨h0, hn⟩ | ⟨e, he, w4, hn, hs4⟩
            · have hs5 : Sat W wr (mapE m es clock :: iterA rr m clock seen :: cellsA z #[.int .i64 p.1, .int .i64 p.2] 28 :: (A' ++ allOf W)) := hs.use (by intro x; simp only [cnt_append, cnt_cons, cnt_nil]; omega)
              have hs6 := Sat.shutMap hm hs5
              have x0 : wr.cell? ⟨z, 0, none⟩ = some (.int .i64 p.1) := hs.cell m2 0
              obtain ⟨w5, hr5, hs7⟩ := delete_sl (P := Try.prog) (t := 34) (key := .int .i64 p.1) hs6 Try.underlying34 Try.underlying3 rfl 3 0
              clear hs hs5 hs6
              rw [hf.all p (List.mem_cons_self ..)] at hs7
              simp only [Option.isSome_some, if_true, Nat.add_sub_cancel] at hs7
              go_wp2_with fail
              refine ⟨⟨i + 1, S, A', _, by simp, by omega, by omega, hA', hfp, fun q hq => ?_, by simp at hlen; omega, hs7.use (by intro x; simp only [cnt_append, cnt_cons, cnt_nil]; omega)⟩, ?_⟩
              · have := hids q (List.mem_cons_of_mem _ hq)
                omega
              · simp [intOf]
                omega
            · obtain ⟨q, hq, hqk, hqv⟩ := hf.entry hm (mem_left he).1
              have hent := entry_sl (P := Try.prog) hm he hs4
              rw [hqk, hqv] at hn hent
              have x0 : w4.cell? ⟨z, 0, none⟩ = some (.int .i64 p.1) := hs4.cell m2 0
              have x1 : w4.cell? ⟨z, 1, none⟩ = some (.int .i64 p.2) := hs4.cell m2 1
              have hms := left_shrinks es seen e he
              have hseen4 := hs4.iterSeen
              have HM := Lib.hid hms
              have HS := Lib.hid hseen
              have HS4 := Lib.hid hseen4
              clear hs hms hseen hseen4
              have d4 : decide (q.2 < p.2) = false := by
                rcases hmin q hq with rfl | h
                · simp
                · unfold lt at h; simp; omega
              by_cases hq2 : q.2 = p.2
              · have d5 : (q.2 == p.2) = true := by simpa using hq2
                have d6 : decide (q.2 = p.2) = true := by simpa using hq2
                have d7 : decide (q.1 < p.1) = false := by
                  rcases hmin q hq with rfl | h
                  · simp
                  · unfold lt at h; simp; omega
                clear hq2
                go_wp2_with fail
                refine ⟨⟨_, hs4⟩, ?_⟩
                rw [HS.out, HS4.out]
                exact HM.out
              · have d5 : (q.2 == p.2) = false := by simpa using hq2
                have d6 : decide (q.2 = p.2) = false := by simpa using hq2
                clear hq2
                go_wp2_with fail
                refine ⟨⟨_, hs4⟩, ?_⟩
                rw [HS.out, HS4.out]
                exact HM.out
    · have hcon : ∀ w : World, w = wr → Calls Try.prog 15 #[.pointer (some ⟨h, 0, none⟩)] w fun e w' => e = .returned (.int .i64 S.length) ∧ w = w' := fun w hw => by
        subst hw
        exact heap_len h S A _ W _ hA (hs.use (M := A ++ allOf W) (by intro x; simp only [cnt_append, cnt_cons, cnt_nil]; omega))
      have hl0 := len_sl (P := Try.prog) (t := 34) hs m0 Try.underlying34 3
      go_wp2_with fail
      all_goals
        refine (hcon _ rfl).mono ?_
        rintro ev w3 ⟨rfl, rfl⟩
        go_wp2_with fail
        go_ret
        exact ⟨by simp, Sat.below_all (L := []) (hs.use (M := [] ++ allOf W) (by intro x; simp only [cnt_append, cnt_cons, cnt_nil]; omega))⟩
end Go.Proofs.Ytelcaeapflhadaa.Pk
