/-
  Package pick: order, and the methods of its items.
-/
import Derived.Test.YtelcaeapflhadaaRows
import Derived.Test.YtelcaeapflhadaaSlMap
import Derived.Test.YtelcaeapflhadaaSlRegion
import Derived.WalkKit
import Derived.ProofKit
import Derived.Outline
import Derived.BigQuiet
import Derived.Lib.Hide
namespace Go.Proofs.Ytelcaeapflhadaa.Pk
set_option linter.unusedSimpArgs false
open Go Go.RowKit Go.Sl Go.BigFrame
set_option linter.unusedVariables false

theorem isNaN_any (x : Int) (w : World) : Calls Try.prog 54 #[.int .i64 x] w fun e w' => e = .returned (.bool false) ∧ w = w' := by
  go_enter Try.func54, Try.ntmps54
  go_wp2
  all_goals go_ret
  all_goals exact ⟨by simp, rfl⟩

def cmpI (x y : Int) : Int := if x < y then -1 else if y < x then 1 else 0

theorem cmp_any (x y : Int) (w : World) : Calls Try.prog 43 #[.int .i64 x, .int .i64 y] w fun e w' => e = .returned (.int .i64 (cmpI x y)) ∧ w = w' := by
  go_enter Try.func43, Try.ntmps43
  go_wp2_with (go_at_call 54; refine (isNaN_any _ _).mono ?_; rintro e w' ⟨rfl, rfl⟩)
  all_goals go_ret
  · have : x < y := by assumption
    exact ⟨by simp [cmpI, this], rfl⟩
  · have h1 : y ≤ x := by assumption
    have h2 : y < x := by assumption
    exact ⟨by simp [cmpI, Int.not_lt.2 h1, h2], rfl⟩
  · have h1 : y ≤ x := by assumption
    have h2 : x ≤ y := by assumption
    exact ⟨by simp [cmpI, Int.not_lt.2 h1, Int.not_lt.2 h2], rfl⟩

def orI (x y : Int) : Int := if x = 0 then y else x
/-- cmp.Or of two. -/
theorem or_two (x y : Int) (b : Nat) (w : World) (h0 : w.cell? ⟨b, 0, none⟩ = some (.int .i64 x)) (h1 : w.cell? ⟨b, 1, none⟩ = some (.int .i64 y)) :
    Calls Try.prog 42 #[.slice (some ⟨b, 0, none⟩) 2 2] w fun e w' => e = .returned (.int .i64 (orI x y)) ∧ w = w' := by
  by_cases hx : x = 0
  · by_cases hy : y = 0
    · subst hx; subst hy
      go_enter Try.func42, Try.ntmps42
      go_wp2
      refine wp_loop_rounds 3 ?_
      rw [rounds_succ]; go_wp2
      rw [rounds_succ]; go_wp2
      rw [rounds_succ]; go_wp2
      go_ret
      exact ⟨by simp [orI], rfl⟩
    · subst hx
      have hy0 : (y == 0) = false := by simpa using hy
      go_enter Try.func42, Try.ntmps42
      go_wp2
      refine wp_loop_rounds 3 ?_
      rw [rounds_succ]; go_wp2
      rw [rounds_succ]; go_wp2
      go_ret
      exact ⟨by simp [orI], rfl⟩
  · have hx0 : (x == 0) = false := by simpa using hx
    go_enter Try.func42, Try.ntmps42
    go_wp2
    refine wp_loop_rounds 3 ?_
    rw [rounds_succ]; go_wp2
    go_ret
    exact ⟨by simp [orI, hx], rfl⟩

abbrev It := Int × Int
def ordI (p q : It) : Int := orI (cmpI p.2 q.2) (cmpI p.1 q.1)

theorem order_any (p q : It) (w : World) : Calls Try.prog 37 #[.agg #[.int .i64 p.1, .int .i64 p.2], .agg #[.int .i64 q.1, .int .i64 q.2]] w fun e w' => e = .returned (.int .i64 (ordI p q)) ∧ Ext w w' := by
  obtain ⟨p1, p2⟩ := p
  obtain ⟨q1, q2⟩ := q
  go_enter Try.func37, Try.ntmps37
  go_wp2
  refine wp_region_one [10, 11] [] [] [] [0, 1, 2, 3, 4, 5, 6, 7, 8, 9, 10, 11, 12] (by kernel_rfl) (by kernel_rfl) ?_
  repeat (first | (refine can_pu1 rfl rfl rfl rfl rfl rfl (fun K hK => ?_); go_big_quiet_op; refine hK _ ?_; clear hK K) | (refine can_st1 rfl rfl rfl rfl rfl rfl (fun K hK => ?_); go_big_quiet_op; refine hK _ ?_; clear hK K) | (refine can_early1 rfl rfl rfl rfl rfl (fun K hK => ?_); go_big_quiet_op; refine hK _ ?_; clear hK K) | (refine can_skip rfl rfl rfl ?_; simp only [Act.put, List.setIfInBounds_toArray, List.set_cons_zero, List.set_cons_succ]))
  refine can_call1 rfl rfl rfl rfl (by (intro w; go_simp); (try (repeat' apply And.intro)); all_goals rfl) ((cmp_any _ _ _).mono fun e w' h => ⟨h.1, h.2.symm⟩) ?_; simp only [Act.put, List.setIfInBounds_toArray, List.set_cons_zero, List.set_cons_succ]
  repeat (first | (refine can_pu1 rfl rfl rfl rfl rfl rfl (fun K hK => ?_); go_big_quiet_op; refine hK _ ?_; clear hK K) | (refine can_st1 rfl rfl rfl rfl rfl rfl (fun K hK => ?_); go_big_quiet_op; refine hK _ ?_; clear hK K) | (refine can_early1 rfl rfl rfl rfl rfl (fun K hK => ?_); go_big_quiet_op; refine hK _ ?_; clear hK K) | (refine can_skip rfl rfl rfl ?_; simp only [Act.put, List.setIfInBounds_toArray, List.set_cons_zero, List.set_cons_succ]))
  refine can_call1 rfl rfl rfl rfl (by (intro w; go_simp); (try (repeat' apply And.intro)); all_goals rfl) ((cmp_any _ _ _).mono fun e w' h => ⟨h.1, h.2.symm⟩) ?_; simp only [Act.put, List.setIfInBounds_toArray, List.set_cons_zero, List.set_cons_succ]
  repeat (first | (refine can_pu1 rfl rfl rfl rfl rfl rfl (fun K hK => ?_); go_big_quiet_op; refine hK _ ?_; clear hK K) | (refine can_st1 rfl rfl rfl rfl rfl rfl (fun K hK => ?_); go_big_quiet_op; refine hK _ ?_; clear hK K) | (refine can_early1 rfl rfl rfl rfl rfl (fun K hK => ?_); go_big_quiet_op; refine hK _ ?_; clear hK K) | (refine can_skip rfl rfl rfl ?_; simp only [Act.put, List.setIfInBounds_toArray, List.set_cons_zero, List.set_cons_succ]))
  refine can_act1 rfl rfl rfl (fun K hK => ?_)
  go_wp2
  repeat (first | (refine can_pu1 rfl rfl rfl rfl rfl rfl (fun K hK => ?_); go_big_quiet_op; refine hK _ ?_; clear hK K) | (refine can_st1 rfl rfl rfl rfl rfl rfl (fun K hK => ?_); go_big_quiet_op; refine hK _ ?_; clear hK K) | (refine can_early1 rfl rfl rfl rfl rfl (fun K hK => ?_); go_big_quiet_op; refine hK _ ?_; clear hK K) | (refine can_skip rfl rfl rfl ?_; simp only [Act.put, List.setIfInBounds_toArray, List.set_cons_zero, List.set_cons_succ]))
  refine can_act1 rfl rfl rfl (fun K hK => ?_)
  go_wp2_with (go_at_call 42; refine (or_two (cmpI p2 q2) (cmpI p1 q1) _ _ (by go_simp) (by go_simp)).mono ?_; rintro e w' ⟨rfl, rfl⟩)
  repeat (first | (refine can_pu1 rfl rfl rfl rfl rfl rfl (fun K hK => ?_); go_big_quiet_op; refine hK _ ?_; clear hK K) | (refine can_st1 rfl rfl rfl rfl rfl rfl (fun K hK => ?_); go_big_quiet_op; refine hK _ ?_; clear hK K) | (refine can_early1 rfl rfl rfl rfl rfl (fun K hK => ?_); go_big_quiet_op; refine hK _ ?_; clear hK K) | (refine can_skip rfl rfl rfl ?_; simp only [Act.put, List.setIfInBounds_toArray, List.set_cons_zero, List.set_cons_succ]))
  refine can_end1 ?_; (try simp only [Exit.then])
  go_wp2
  go_ret
  exact ⟨rfl, (((Ext.refl w).trans (Ext.alloc _ _)).trans (Ext.alloc _ _)).trans (Ext.alloc _ _) |>.trans (Ext.drew _)⟩

/-! ### the items -/
def flat (l : List It) : List Value := l.flatMap fun p => [.int .i64 p.1, .int .i64 p.2]
theorem flat_length (l : List It) : (flat l).length = l.length * 2 := by
  induction l with
  | nil => rfl
  | cons p l ih => simp only [flat, List.flatMap_cons, List.length_append, List.length_cons, List.length_nil] at *; omega
theorem flat_append (l m : List It) : flat (l ++ m) = flat l ++ flat m := by simp [flat]
theorem flat_get : ∀ {l : List It} {i : Nat} {p : It}, l[i]? = some p → (flat l)[i * 2]? = some (.int .i64 p.1) ∧ (flat l)[i * 2 + 1]? = some (.int .i64 p.2)
  | [], _, _, h => by simp at h
  | q :: l, 0, p, h => by simp at h; subst h; simp [flat]
  | q :: l, i + 1, p, h => by
    have := flat_get (l := l) (by simpa using h)
    simp only [flat, List.flatMap_cons, List.cons_append, List.nil_append]
    rw [show (i + 1) * 2 = i * 2 + 1 + 1 from by omega]
    exact this

/-- Where each id stands. -/
def IdxOk (f : Value → Option Value) (l : List It) : Prop :=
  (∀ k v, f k = some v → ∃ (j : Nat) (p : It), l[j]? = some p ∧ k = .int .i64 p.1 ∧ v = .int .i64 (j : Int)) ∧ ∀ (j : Nat) (p : It), l[j]? = some p → f (.int .i64 p.1) = some (.int .i64 (j : Int))

/-- The struct x of items: the row of l, and the map. -/
def ItemsA (x : Nat) (l : List It) (A : List Atom) : Prop :=
  ∃ v m f R, RowA 28 2 v l.length (flat l) R ∧ IdxOk f l ∧ A = cellsA x #[v, .map (some m)] 55 :: mapA m (.int .i64) f l.length :: R

def ltI (p q : It) : Bool := decide (ordI p q < 0)

theorem Ext.sat {W w w' : World} {L : List Atom} (h : Sat W w L) (hx : Ext w w') : Sat W w' L := h.below hx

theorem items_len (x : Nat) (l : List It) (A F : List Atom) (W w : World) (hA : ItemsA x l A) (hs : Sat W w (A ++ F)) :
    Calls Try.prog 77 #[.pointer (some ⟨x, 0, none⟩)] w fun e w' => e = .returned (.int .i64 l.length) ∧ w = w' := by
  obtain ⟨v, m, f, R, hr, hf, rfl⟩ := hA
  have c0 : w.cell? ⟨x, 0, none⟩ = some v := hs.cell m0 0
  rcases hr.2 with ⟨rfl, hn, _⟩ | ⟨g, off, cap, rfl, hnc, hcm, _⟩
  · go_enter Try.func77, Try.ntmps77
    go_wp2
    go_ret
    exact ⟨by rw [hn]; rfl, rfl⟩
  · go_enter Try.func77, Try.ntmps77
    go_wp2
    go_ret
    exact ⟨rfl, rfl⟩

theorem items_less (x : Nat) (l : List It) (i j : Nat) (p q : It) (A F : List Atom) (W w : World) (hA : ItemsA x l A) (hs : Sat W w (A ++ F)) (hi : l[i]? = some p) (hj : l[j]? = some q) :
    Calls Try.prog 78 #[.pointer (some ⟨x, 0, none⟩), .int .i64 i, .int .i64 j] w fun e w' => e = .returned (.bool (ltI p q)) ∧ Ext w w' := by
  obtain ⟨v, m, f, R, hr, hf, rfl⟩ := hA
  have c0 : w.cell? ⟨x, 0, none⟩ = some v := hs.cell m0 0
  have hil := (List.getElem?_eq_some_iff.1 hi).1
  have hjl := (List.getElem?_eq_some_iff.1 hj).1
  rcases hr.2 with ⟨rfl, hn, _⟩ | ⟨g, off, cap, rfl, hnc, hcm, rfl⟩
  · omega
  · have hl := flat_length l
    have hs2 : Sat W w ([(g, rowP 28 off (cap * 2) (flat l))] ++ F) := hs.use (by intro x; simp only [cnt_append, cnt_cons, cnt_nil]; omega)
    have ci := hr.cells hs2 rfl
    obtain ⟨fi, fi'⟩ := flat_get hi
    obtain ⟨fj, fj'⟩ := flat_get hj
    have d0 : w.cell? ⟨g, off + i * 2, none⟩ = some (.int .i64 p.1) := by rw [(ci (i * 2) (by omega)).1, fi]
    have d1 : w.cell? ⟨g, off + i * 2 + 1, none⟩ = some (.int .i64 p.2) := by rw [Nat.add_assoc, (ci (i * 2 + 1) (by omega)).1, fi']
    have d2 : w.cell? ⟨g, off + j * 2, none⟩ = some (.int .i64 q.1) := by rw [(ci (j * 2) (by omega)).1, fj]
    have d3 : w.cell? ⟨g, off + j * 2 + 1, none⟩ = some (.int .i64 q.2) := by rw [Nat.add_assoc, (ci (j * 2 + 1) (by omega)).1, fj']
    have b1 : (0 : Int) ≤ i := by omega
    have b2 : (0 : Int) ≤ j := by omega
    have b3 : (i : Int) < l.length := by omega
    have b4 : (j : Int) < l.length := by omega
    clear ci fi fi' fj fj' hr hs hs2 hi hj hf
    go_enter Try.func78, Try.ntmps78
    go_wp2
    refine wp_region_one [14] [] [] [] [0, 1, 2, 3, 4, 5, 6, 7, 8, 9, 10, 11, 12, 13, 14, 15, 16] (by kernel_rfl) (by kernel_rfl) ?_
    repeat (first | (refine can_pu1 rfl rfl rfl rfl rfl rfl (fun K hK => ?_); go_big_quiet_op; refine hK _ ?_; clear hK K) | (refine can_st1 rfl rfl rfl rfl rfl rfl (fun K hK => ?_); go_big_quiet_op; refine hK _ ?_; clear hK K) | (refine can_early1 rfl rfl rfl rfl rfl (fun K hK => ?_); go_big_quiet_op; refine hK _ ?_; clear hK K) | (refine can_skip rfl rfl rfl ?_; simp only [Act.put, List.setIfInBounds_toArray, List.set_cons_zero, List.set_cons_succ]))
    refine can_act1 rfl rfl rfl (fun K hK => ?_)
    go_wp2_with (go_at_call 37; refine (order_any p q _).mono ?_; rintro e w' ⟨rfl, hx⟩)
    repeat (first | (refine can_pu1 rfl rfl rfl rfl rfl rfl (fun K hK => ?_); go_big_quiet_op; refine hK _ ?_; clear hK K) | (refine can_st1 rfl rfl rfl rfl rfl rfl (fun K hK => ?_); go_big_quiet_op; refine hK _ ?_; clear hK K) | (refine can_early1 rfl rfl rfl rfl rfl (fun K hK => ?_); go_big_quiet_op; refine hK _ ?_; clear hK K) | (refine can_skip rfl rfl rfl ?_; simp only [Act.put, List.setIfInBounds_toArray, List.set_cons_zero, List.set_cons_succ]))
    refine can_end1 ?_; (try simp only [Exit.then])
    go_wp2
    go_ret
    exact ⟨rfl, (Ext.drew w).trans hx⟩

/-- l with the items i and j in each other's place. -/
def swapL (l : List It) (i j : Nat) : List It := (l.set i (l.getD j (0, 0))).set j (l.getD i (0, 0))

theorem flat_set : ∀ {l : List It} {i : Nat} (p : It), flat (l.set i p) = ((flat l).set (i * 2) (.int .i64 p.1)).set (i * 2 + 1) (.int .i64 p.2)
  | [], _, p => by simp [flat]
  | q :: l, 0, p => by simp [flat]
  | q :: l, i + 1, p => by
    have := flat_set (l := l) (i := i) p
    simp only [List.set_cons_succ, flat, List.flatMap_cons, List.cons_append, List.nil_append] at *
    rw [show (i + 1) * 2 = i * 2 + 1 + 1 from by omega]
    simp only [List.set_cons_succ]
    rw [this]

theorem idx_swap1 {f : Value → Option Value} {l : List It} (hf : IdxOk f l) {i j : Nat} {p q : It} (hi : l[i]? = some p) (hj : l[j]? = some q) (hij : i ≠ j) :
    IdxOk (updV (updV f (.int .i64 q.1) (.int .i64 i)) (.int .i64 p.1) (.int .i64 j)) (swapL l i j) := by
  have hil := (List.getElem?_eq_some_iff.1 hi).1
  have hjl := (List.getElem?_eq_some_iff.1 hj).1
  have hp : l.getD i (0, 0) = p := by simp [hi]
  have hq : l.getD j (0, 0) = q := by simp [hj]
  have inj : ∀ (a b : Nat) (u v : It), l[a]? = some u → l[b]? = some v → u.1 = v.1 → a = b := fun a b u v ha hb e => by
    have h1 := hf.2 a u ha
    have h2 := hf.2 b v hb
    rw [e, h2] at h1
    simp at h1
    omega
  have hpq : (Value.int .i64 q.1 : Value) ≠ .int .i64 p.1 := fun e => hij (inj i j p q hi hj (by simp at e; exact e.symm))
  have get : ∀ k : Nat, (swapL l i j)[k]? = if k = j then some p else if k = i then some q else l[k]? := fun k => by
    unfold swapL
    rw [hp, hq, List.getElem?_set, List.getElem?_set]
    by_cases h1 : j = k
    · subst h1; simp [hjl]
    · by_cases h2 : i = k
      · subst h2; simp [hil, h1, Ne.symm h1]
      · simp [h1, h2, Ne.symm h1, Ne.symm h2]
  refine ⟨fun k v hk => ?_, fun k u hk => ?_⟩
  · by_cases h1 : k = .int .i64 p.1
    · rw [h1, updV_same] at hk
      exact ⟨j, p, by rw [get]; simp, h1, (Option.some.inj hk).symm⟩
    · rw [updV_other _ _ h1] at hk
      by_cases h2 : k = .int .i64 q.1
      · rw [h2, updV_same] at hk
        exact ⟨i, q, by rw [get]; simp [hij], h2, (Option.some.inj hk).symm⟩
      · rw [updV_other _ _ h2] at hk
        obtain ⟨c, u, hc, rfl, rfl⟩ := hf.1 k v hk
        refine ⟨c, u, ?_, rfl, rfl⟩
        have n1 : c ≠ j := by rintro rfl; rw [hj] at hc; cases hc; exact h2 rfl
        have n2 : c ≠ i := by rintro rfl; rw [hi] at hc; cases hc; exact h1 rfl
        rw [get]; simp [n1, n2, hc]
  · rw [get] at hk
    by_cases h1 : k = j
    · simp only [h1, if_true, Option.some.injEq] at hk
      subst hk; rw [h1]; exact updV_same ..
    · simp only [h1, if_false] at hk
      by_cases h2 : k = i
      · simp only [h2, if_true, Option.some.injEq] at hk
        subst hk; rw [h2, updV_other _ _ hpq]; exact updV_same ..
      · simp only [h2, if_false] at hk
        rw [updV_other, updV_other]
        · exact hf.2 k u hk
        · intro e; exact h1 (inj k j u q hk hj (by simpa using e))
        · intro e; exact h2 (inj k i u p hk hi (by simpa using e))

theorem swapL_self (l : List It) (i : Nat) : swapL l i i = l := by
  unfold swapL
  rw [List.set_set]
  apply List.ext_getElem?
  intro k
  rw [List.getElem?_set]
  by_cases h : i = k
  · subst h
    by_cases hk : i < l.length
    · simp [hk]
    · simp [hk, List.getElem?_eq_none (Nat.not_lt.1 hk)]
  · simp [h]
theorem idx_swap {f : Value → Option Value} {l : List It} (hf : IdxOk f l) {i j : Nat} {p q : It} (hi : l[i]? = some p) (hj : l[j]? = some q) :
    IdxOk (updV (updV f (.int .i64 q.1) (.int .i64 i)) (.int .i64 p.1) (.int .i64 j)) (swapL l i j) := by
  by_cases hij : i = j
  · subst hij
    rw [hi] at hj
    cases hj
    rw [swapL_self, updV_updV]
    have : updV f (.int .i64 p.1) (.int .i64 i) = f := by
      funext k
      by_cases hk : k = .int .i64 p.1
      · rw [hk, updV_same, hf.2 i p hi]
      · rw [updV_other _ _ hk]
    rw [this]
    exact hf
  · exact idx_swap1 hf hi hj hij

set_option maxRecDepth 20000 in
theorem items_swap (x : Nat) (l : List It) (i j : Nat) (p q : It) (A F : List Atom) (W w : World) (hA : ItemsA x l A) (hs : Sat W w (A ++ F)) (hi : l[i]? = some p) (hj : l[j]? = some q) :
    Calls Try.prog 81 #[.pointer (some ⟨x, 0, none⟩), .int .i64 i, .int .i64 j] w fun e w' => e = .returned (.tuple #[]) ∧ ∃ A', ItemsA x (swapL l i j) A' ∧ Sat W w' (A' ++ F) := by
  obtain ⟨v, m, f, R, hr, hf, rfl⟩ := hA
  have c0 : w.cell? ⟨x, 0, none⟩ = some v := hs.cell m0 0
  have hil := (List.getElem?_eq_some_iff.1 hi).1
  have hjl := (List.getElem?_eq_some_iff.1 hj).1
  rcases hr.2 with ⟨rfl, hn, _⟩ | ⟨g, off, cap, rfl, hnc, hcm, rfl⟩
  · omega
  · have hl := flat_length l
    have hs2 : Sat W w ([(g, rowP 28 off (cap * 2) (flat l))] ++ F) := hs.use (by intro x; simp only [cnt_append, cnt_cons, cnt_nil]; omega)
    have ci := hr.cells hs2 rfl
    obtain ⟨fi, fi'⟩ := flat_get hi
    obtain ⟨fj, fj'⟩ := flat_get hj
    have d0 : w.cell? ⟨g, off + i * 2, none⟩ = some (.int .i64 p.1) := by rw [(ci (i * 2) (by omega)).1, fi]
    have d1 : w.cell? ⟨g, off + i * 2 + 1, none⟩ = some (.int .i64 p.2) := by rw [Nat.add_assoc, (ci (i * 2 + 1) (by omega)).1, fi']
    have d2 : w.cell? ⟨g, off + j * 2, none⟩ = some (.int .i64 q.1) := by rw [(ci (j * 2) (by omega)).1, fj]
    have d3 : w.cell? ⟨g, off + j * 2 + 1, none⟩ = some (.int .i64 q.2) := by rw [Nat.add_assoc, (ci (j * 2 + 1) (by omega)).1, fj']
    have e0 : w.frozen? ⟨g, off + i * 2, none⟩ = false := (ci (i * 2) (by omega)).2
    have e1 : w.frozen? ⟨g, off + i * 2 + 1, none⟩ = false := (ci (i * 2 + 1) (by omega)).2
    have e2 : w.frozen? ⟨g, off + j * 2, none⟩ = false := (ci (j * 2) (by omega)).2
    have e3 : w.frozen? ⟨g, off + j * 2 + 1, none⟩ = false := (ci (j * 2 + 1) (by omega)).2
    have b1 : (0 : Int) ≤ i := by omega
    have b2 : (0 : Int) ≤ j := by omega
    have b3 : (i : Int) < l.length := by omega
    have b4 : (j : Int) < l.length := by omega
    clear ci fi fi' fj fj'
    go_enter Try.func81, Try.ntmps81
    go_wp2
    refine wp_region_one [25, 27] [9] [9] [] [0, 1, 2, 3, 4, 5, 6, 7, 8, 9, 10, 11, 12, 13, 14, 15, 16, 17, 18, 19, 20, 21, 22, 23, 24, 25, 26, 27] (by kernel_rfl) (by kernel_rfl) ?_
    repeat (first | (refine can_pu1 rfl rfl rfl rfl rfl rfl (fun K hK => ?_); go_big_quiet_op; refine hK _ ?_; clear hK K) | (refine can_st1 rfl rfl rfl rfl rfl rfl (fun K hK => ?_); go_big_quiet_op; refine hK _ ?_; clear hK K) | (refine can_early1 rfl rfl rfl rfl rfl (fun K hK => ?_); go_big_quiet_op; refine hK _ ?_; clear hK K) | (refine can_skip rfl rfl rfl ?_; simp only [Act.put, List.setIfInBounds_toArray, List.set_cons_zero, List.set_cons_succ]))
    refine can_act1 rfl rfl rfl (fun K hK => ?_)
    go_wp2
    have hs3 : Sat W w ((g, rowP 28 off (cap * 2) (flat l)) :: cellsA x #[.slice (some ⟨g, off, none⟩) l.length cap, .map (some m)] 55 :: mapA m (.int .i64) f l.length :: F) := hs.use (by intro x; simp only [cnt_append, cnt_cons, cnt_nil]; omega)
    refine with_sat (row_store (row_store hs3 (i * 2) (by omega) (.int .i64 q.1)) (i * 2 + 1) (by simp; omega) (.int .i64 q.2)).drew ?_
    clear c0 d0 d1 d2 d3 e0 e1 e2 e3 hs hs2 hs3
    generalize hxs1 : ((flat l).set (i * 2) (.int .i64 q.1)).set (i * 2 + 1) (.int .i64 q.2) = xs1
    have hx1 : xs1.length = l.length * 2 := by rw [← hxs1]; simp [hl]
    have HX1 := Lib.hid hxs1
    clear hxs1
    intro w hs
    obtain ⟨o1, ho1, hro1⟩ := hs.get m0
    obtain ⟨u2, d2⟩ : ∃ u, w.cell? ⟨g, off + j * 2, none⟩ = some u := ⟨_, by rw [(hro1.cell ho1 (j * 2) (by omega)).1, List.getElem?_eq_getElem (by omega)]⟩
    obtain ⟨u3, d3⟩ : ∃ u, w.cell? ⟨g, off + j * 2 + 1, none⟩ = some u := ⟨_, by rw [Nat.add_assoc, (hro1.cell ho1 (j * 2 + 1) (by omega)).1, List.getElem?_eq_getElem (by omega)]⟩
    have e2 : w.frozen? ⟨g, off + j * 2, none⟩ = false := (hro1.cell ho1 (j * 2) (by omega)).2
    have e3 : w.frozen? ⟨g, off + j * 2 + 1, none⟩ = false := (hro1.cell ho1 (j * 2 + 1) (by omega)).2
    clear ho1 hro1
    repeat (first | (refine can_pu1 rfl rfl rfl rfl rfl rfl (fun K hK => ?_); go_big_quiet_op; refine hK _ ?_; clear hK K) | (refine can_st1 rfl rfl rfl rfl rfl rfl (fun K hK => ?_); go_big_quiet_op; refine hK _ ?_; clear hK K) | (refine can_early1 rfl rfl rfl rfl rfl (fun K hK => ?_); go_big_quiet_op; refine hK _ ?_; clear hK K) | (refine can_skip rfl rfl rfl ?_; simp only [Act.put, List.setIfInBounds_toArray, List.set_cons_zero, List.set_cons_succ]))
    refine can_act1 rfl rfl rfl (fun K hK => ?_)
    go_wp2
    refine can_end1 ?_; (try simp only [Exit.then])
    have hp : l.getD i (0, 0) = p := by simp [hi]
    have hq : l.getD j (0, 0) = q := by simp [hj]
    have hfl : flat (swapL l i j) = (xs1.set (j * 2) (.int .i64 p.1)).set (j * 2 + 1) (.int .i64 p.2) := by
      unfold swapL
      rw [flat_set, flat_set, hp, hq, HX1.out]
    have hlen : (flat (swapL l i j)).length = l.length * 2 := by rw [flat_length]; simp [swapL]
    refine with_world (fun w' => Sat W w' (cellsA x #[.slice (some ⟨g, off, none⟩) l.length cap, .map (some m)] 55 :: mapA m (.int .i64) f l.length :: (g, rowP 28 off (cap * 2) (flat (swapL l i j))) :: F)) ?_ ?_
    · have hs4 := row_store (row_store hs (j * 2) (by omega) (.int .i64 p.1)) (j * 2 + 1) (by simp; omega) (.int .i64 p.2)
      rw [← hfl] at hs4
      exact hs4.use (by intro x; simp only [cnt_append, cnt_cons, cnt_nil]; omega)
    · clear d2 d3 e2 e3 hs
      intro w hs
      go_wp2
      refine wp_region_one [26, 28, 29, 31] [24, 25] [24, 25] [] [0, 1, 2, 3, 4, 5, 6, 7, 8, 9, 10, 11, 12, 13, 14, 15, 16, 17, 18, 19, 20, 21, 22, 23, 24, 25, 26, 27, 28, 29, 30, 31] (by kernel_rfl) (by kernel_rfl) ?_
      refine with_sat hs.drew ?_
      intro w hs
      have hil' : (swapL l i j)[i]? = some q := by
        by_cases hij : i = j
        · subst hij; rw [swapL_self, hj]
        · unfold swapL; rw [hp, hq, List.getElem?_set, List.getElem?_set]; simp [Ne.symm hij, hil]
      have hjl' : (swapL l i j)[j]? = some p := by unfold swapL; rw [hp, hq, List.getElem?_set]; simp [hjl]
      have c0 : w.cell? ⟨x, 0, none⟩ = some (.slice (some ⟨g, off, none⟩) l.length cap) := hs.cell m0 0
      have c1 : w.cell? ⟨x, 1, none⟩ = some (.map (some m)) := hs.cell m0 1
      have d0 : w.cell? ⟨g, off + i * 2, none⟩ = some (.int .i64 q.1) := by
        obtain ⟨o, ho, hro⟩ := hs.get m2
        rw [(hro.cell ho (i * 2) (by omega)).1, (flat_get hil').1]
      have d2 : w.cell? ⟨g, off + j * 2, none⟩ = some (.int .i64 p.1) := by
        obtain ⟨o, ho, hro⟩ := hs.get m2
        rw [(hro.cell ho (j * 2) (by omega)).1, (flat_get hjl').1]
      repeat (first | (refine can_pu1 rfl rfl rfl rfl rfl rfl (fun K hK => ?_); go_big_quiet_op; refine hK _ ?_; clear hK K) | (refine can_st1 rfl rfl rfl rfl rfl rfl (fun K hK => ?_); go_big_quiet_op; refine hK _ ?_; clear hK K) | (refine can_early1 rfl rfl rfl rfl rfl (fun K hK => ?_); go_big_quiet_op; refine hK _ ?_; clear hK K) | (refine can_skip rfl rfl rfl ?_; simp only [Act.put, List.setIfInBounds_toArray, List.set_cons_zero, List.set_cons_succ]))
      have hsm : Sat W w (mapA m (.int .i64) f l.length :: (cellsA x #[.slice (some ⟨g, off, none⟩) l.length cap, .map (some m)] 55 :: (g, rowP 28 off (cap * 2) (flat (swapL l i j))) :: F)) := hs.use (by intro x; simp only [cnt_append, cnt_cons, cnt_nil]; omega)
      obtain ⟨w1, s1, hr1, hs1⟩ := mapEntry_sl (P := Try.prog) (t := 34) (key := .int .i64 q.1) (z := .int .i64 0) hsm Try.underlying34 Try.underlying3 rfl (Try.zeroValue3 _)
      refine can_act1 rfl rfl rfl (fun K hK => ?_)
      go_wp2
      repeat (first | (refine can_pu1 rfl rfl rfl rfl rfl rfl (fun K hK => ?_); go_big_quiet_op; refine hK _ ?_; clear hK K) | (refine can_st1 rfl rfl rfl rfl rfl rfl (fun K hK => ?_); go_big_quiet_op; refine hK _ ?_; clear hK K) | (refine can_early1 rfl rfl rfl rfl rfl (fun K hK => ?_); go_big_quiet_op; refine hK _ ?_; clear hK K) | (refine can_skip rfl rfl rfl ?_; simp only [Act.put, List.setIfInBounds_toArray, List.set_cons_zero, List.set_cons_succ]))
      obtain ⟨w2, hr2, hs2⟩ := entryStore_sl (P := Try.prog) (t := 34) hs1 (.int .i64 i)
      refine can_act1 rfl rfl rfl (fun K hK => ?_)
      go_wp2
      repeat (first | (refine can_pu1 rfl rfl rfl rfl rfl rfl (fun K hK => ?_); go_big_quiet_op; refine hK _ ?_; clear hK K) | (refine can_st1 rfl rfl rfl rfl rfl rfl (fun K hK => ?_); go_big_quiet_op; refine hK _ ?_; clear hK K) | (refine can_early1 rfl rfl rfl rfl rfl (fun K hK => ?_); go_big_quiet_op; refine hK _ ?_; clear hK K) | (refine can_skip rfl rfl rfl ?_; simp only [Act.put, List.setIfInBounds_toArray, List.set_cons_zero, List.set_cons_succ]))
      obtain ⟨w3, s3, hr3, hs3⟩ := mapEntry_sl (P := Try.prog) (t := 34) (key := .int .i64 p.1) (z := .int .i64 0) hs2 Try.underlying34 Try.underlying3 rfl (Try.zeroValue3 _)
      refine can_act1 rfl rfl rfl (fun K hK => ?_)
      go_wp2
      repeat (first | (refine can_pu1 rfl rfl rfl rfl rfl rfl (fun K hK => ?_); go_big_quiet_op; refine hK _ ?_; clear hK K) | (refine can_st1 rfl rfl rfl rfl rfl rfl (fun K hK => ?_); go_big_quiet_op; refine hK _ ?_; clear hK K) | (refine can_early1 rfl rfl rfl rfl rfl (fun K hK => ?_); go_big_quiet_op; refine hK _ ?_; clear hK K) | (refine can_skip rfl rfl rfl ?_; simp only [Act.put, List.setIfInBounds_toArray, List.set_cons_zero, List.set_cons_succ]))
      obtain ⟨w4, hr4, hs4⟩ := entryStore_sl (P := Try.prog) (t := 34) hs3 (.int .i64 j)
      refine can_act1 rfl rfl rfl (fun K hK => ?_)
      go_wp2
      refine can_end1 ?_; (try simp only [Exit.then])
      go_end0
      refine ⟨rfl, _, ⟨_, m, _, _, ⟨by rw [hlen]; simp [swapL], .inr ⟨g, off, cap, rfl, by simpa [swapL] using hnc, hcm, rfl⟩⟩, idx_swap hf hi hj, rfl⟩, ?_⟩
      have f1 : f (.int .i64 q.1) = some (.int .i64 (j : Int)) := hf.2 j q hj
      have f2 : f (.int .i64 p.1) = some (.int .i64 (i : Int)) := hf.2 i p hi
      obtain ⟨u3, f3⟩ : ∃ u, updV f (.int .i64 q.1) (.int .i64 i) (.int .i64 p.1) = some u := by
        by_cases e : (Value.int .i64 p.1 : Value) = .int .i64 q.1
        · exact ⟨_, by rw [e, updV_same]⟩
        · exact ⟨_, by rw [updV_other _ _ e, f2]⟩
      have hsz : (swapL l i j).length = l.length := by simp [swapL]
      simp only [f1, updV_updV, Option.isSome_some, if_true, Option.getD_some, f3] at hs4
      rw [hsz]
      exact hs4.use (by intro x; simp only [cnt_append, cnt_cons, cnt_nil]; omega)
end Go.Proofs.Ytelcaeapflhadaa.Pk
