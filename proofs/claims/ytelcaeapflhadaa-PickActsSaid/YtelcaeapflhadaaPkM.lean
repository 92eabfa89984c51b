/-
  Heaps, without any program: what up, down, pop, fix, remove leave is a heap of the same items; a heap's least is the first of the sorted list.
-/
import Derived.Test.YtelcaeapflhadaaPkD
namespace Go.Proofs.Ytelcaeapflhadaa.Pk
set_option linter.unusedVariables false
set_option linter.unusedSimpArgs false
open Go Go.RowKit Go.Sl

def lt (p q : It) : Prop := p.2 < q.2 ∨ p.2 = q.2 ∧ p.1 < q.1
instance (p q : It) : Decidable (lt p q) := inferInstanceAs (Decidable (_ ∨ _))
def le (p q : It) : Prop := ¬ lt q p

theorem ltI_iff (p q : It) : ltI p q = true ↔ lt p q := by
  unfold ltI ordI orI cmpI lt
  rw [decide_eq_true_eq]
  by_cases h1 : p.2 < q.2
  · simp [h1]
  · by_cases h2 : q.2 < p.2
    · simp [h1, h2]; omega
    · simp [h1, h2]
      by_cases h3 : p.1 < q.1
      · simp [h3]; omega
      · by_cases h4 : q.1 < p.1
        · simp [h3, h4]
        · simp [h3, h4]
theorem ltI_false (p q : It) : ltI p q = false ↔ le q p := by
  unfold le
  rw [← ltI_iff]
  simp

theorem le_refl (p : It) : le p p := by unfold le lt; omega
theorem le_trans {p q r : It} (h : le p q) (k : le q r) : le p r := by unfold le lt at *; omega
theorem le_of_lt {p q : It} (h : lt p q) : le p q := by unfold le lt at *; omega
theorem le_antisymm {p q : It} (h : le p q) (k : le q p) : p = q := by
  unfold le lt at *
  obtain ⟨a, b⟩ := p
  obtain ⟨c, d⟩ := q
  simp only [Prod.mk.injEq] at *
  omega
theorem lt_trans {p q r : It} (h : lt p q) (k : lt q r) : lt p r := by unfold lt at *; omega
theorem lt_of_le_ne {p q : It} (h : le p q) (k : p ≠ q) : lt p q := by
  obtain ⟨a, b⟩ := p
  obtain ⟨c, d⟩ := q
  unfold le lt at *
  simp only [ne_eq, Prod.mk.injEq] at *
  omega

abbrev at_ (l : List It) (i : Nat) : It := l.getD i (0, 0)

theorem at_swap (l : List It) {i j : Nat} (hi : i < l.length) (hj : j < l.length) (k : Nat) : at_ (swapL l i j) k = if k = j then at_ l i else if k = i then at_ l j else at_ l k := by
  unfold at_ swapL
  simp only [List.getD_eq_getElem?_getD, List.getElem?_set, List.length_set]
  by_cases h1 : j = k
  · subst h1; simp [hj]
  · by_cases h2 : i = k
    · subst h2; simp [hi, h1, Ne.symm h1]
    · simp [h1, h2, Ne.symm h1, Ne.symm h2]

theorem swap_perm (l : List It) {i j : Nat} (hi : i < l.length) (hj : j < l.length) : (swapL l i j).Perm l := by
  rw [List.perm_iff_count]
  intro a
  unfold swapL
  have e1 : l.getD i (0, 0) = l[i] := by simp [hi]
  have e2 : l.getD j (0, 0) = l[j] := by simp [hj]
  rw [e1, e2, List.count_set (by simpa using hj), List.count_set hi]
  by_cases hij : i = j
  · subst hij
    have h1 : (l[i] == a) = true → 0 < List.count a l := fun h => List.count_pos_iff.2 (by rw [← beq_iff_eq.1 h]; exact List.getElem_mem hi)
    simp only [List.getElem_set_self]
    by_cases h : (l[i] == a) = true
    · have := h1 h
      simp only [h, if_true]
      omega
    · simp [h]
  · rw [List.getElem_set_ne (by omega)]
    have h1 : (l[i] == a) = true → 0 < List.count a l := fun h => List.count_pos_iff.2 (by rw [← beq_iff_eq.1 h]; exact List.getElem_mem hi)
    by_cases h : (l[i] == a) = true <;> by_cases h' : (l[j] == a) = true <;> simp [h, h'] <;> (try have := h1 h) <;> omega

/-- Each but the first is not ahead of its parent. -/
def Hp (l : List It) (n : Nat) : Prop := ∀ k, 0 < k → k < n → le (at_ l ((k - 1) / 2)) (at_ l k)

theorem up_perm : ∀ (n : Nat) (l : List It) (j : Nat), j < l.length → (upF n l j).Perm l
  | 0, _, _, _ => .refl _
  | n + 1, l, j, h => by
    unfold upF
    split
    · exact .refl _
    · split
      · exact (up_perm n _ _ (by rw [length_swapL]; omega)).trans (swap_perm l (by omega) h)
      · exact .refl _

theorem up_heap (N : Nat) : ∀ (n : Nat) (l : List It) (j : Nat), j ≤ n → N ≤ l.length → j < N →
    (∀ k, 0 < k → k < N → k ≠ j → le (at_ l ((k - 1) / 2)) (at_ l k)) →
    (∀ k, 0 < k → k < N → (k - 1) / 2 = j → 0 < j → le (at_ l ((j - 1) / 2)) (at_ l k)) → Hp (upF n l j) N
  | 0, l, j, hn, hN, hj, h1, h2 => by
    obtain rfl : j = 0 := by omega
    exact fun k k0 kl => h1 k k0 kl (by omega)
  | n + 1, l, j, hn, hN, hj, h1, h2 => by
    unfold upF
    by_cases h0 : j = 0
    · rw [if_pos h0]
      exact fun k k0 kl => h1 k k0 kl (by omega)
    · rw [if_neg h0]
      by_cases hlt : ltI (l.getD j (0, 0)) (l.getD ((j - 1) / 2) (0, 0)) = true
      · rw [if_pos hlt]
        have hl := (ltI_iff _ _).1 hlt
        have hp : (j - 1) / 2 < N := by omega
        have hpj : (j - 1) / 2 ≠ j := by omega
        refine up_heap N n (swapL l ((j - 1) / 2) j) ((j - 1) / 2) (by omega) (by rw [length_swapL]; exact hN) hp (fun k k0 kl hk => ?_) (fun k k0 kl hk hp0 => ?_)
        · rw [at_swap l (by omega) (by omega), at_swap l (by omega) (by omega)]
          by_cases e1 : k = j
          · subst e1
            rw [if_neg hpj, if_pos rfl, if_pos rfl]
            exact le_of_lt hl
          · rw [if_neg e1, if_neg hk]
            by_cases e2 : (k - 1) / 2 = j
            · rw [if_pos e2]
              exact h2 k k0 kl e2 (by omega)
            · rw [if_neg e2]
              by_cases e3 : (k - 1) / 2 = (j - 1) / 2
              · rw [if_pos e3]
                have := h1 k k0 kl e1
                rw [e3] at this
                exact le_trans (le_of_lt hl) this
              · rw [if_neg e3]
                exact h1 k k0 kl e1
        · rw [at_swap l (by omega) (by omega), at_swap l (by omega) (by omega)]
          rw [if_neg (by omega), if_neg (by omega)]
          have hpp := h1 ((j - 1) / 2) hp0 hp hpj
          by_cases e1 : k = j
          · rw [if_pos e1]; exact hpp
          · rw [if_neg e1, if_neg (by omega)]
            have := h1 k k0 kl e1
            rw [hk] at this
            exact le_trans hpp this
      · rw [if_neg hlt]
        have hl : le (at_ l ((j - 1) / 2)) (at_ l j) := (ltI_false _ _).1 (by simpa using hlt)
        intro k k0 kl
        by_cases e : k = j
        · subst e; exact hl
        · exact h1 k k0 kl e

theorem child_lt (l : List It) {i n : Nat} (h : 2 * i + 1 < n) : child l i n < n := by unfold child; split <;> omega
theorem child_par (l : List It) (i n : Nat) : (child l i n - 1) / 2 = i := by unfold child; split <;> omega
theorem child_min (l : List It) {i n k : Nat} (hk : k < n) (k0 : 0 < k) (hp : (k - 1) / 2 = i) : le (at_ l (child l i n)) (at_ l k) := by
  have h : k = 2 * i + 1 ∨ k = 2 * i + 2 := by omega
  unfold child
  by_cases c : 2 * i + 2 < n ∧ ltI (l.getD (2 * i + 2) (0, 0)) (l.getD (2 * i + 1) (0, 0)) = true
  · rw [if_pos c]
    rcases h with rfl | rfl
    · exact le_of_lt ((ltI_iff _ _).1 c.2)
    · exact le_refl _
  · rw [if_neg c]
    rcases h with rfl | rfl
    · exact le_refl _
    · have : ltI (l.getD (2 * i + 2) (0, 0)) (l.getD (2 * i + 1) (0, 0)) = false := by
        cases hc : ltI (l.getD (2 * i + 2) (0, 0)) (l.getD (2 * i + 1) (0, 0)) with
        | false => rfl
        | true => exact absurd ⟨hk, hc⟩ c
      exact (ltI_false _ _).1 this

theorem down_perm : ∀ (k : Nat) (l : List It) (i n : Nat), n ≤ l.length → (downF k l i n).1.Perm l
  | 0, _, _, _, _ => .refl _
  | k + 1, l, i, n, h => by
    unfold downF
    split
    · exact .refl _
    · rename_i h1
      split
      · have := child_lt l (i := i) (n := n) (by omega)
        have := child_ge l i n
        exact (down_perm k _ _ _ (by rw [length_swapL]; exact h)).trans (swap_perm l (by omega) (by omega))
      · exact .refl _

theorem down_above : ∀ (k : Nat) (l : List It) (i n : Nat), n ≤ l.length → ∀ m, n ≤ m → at_ (downF k l i n).1 m = at_ l m
  | 0, _, _, _, _, _, _ => rfl
  | k + 1, l, i, n, h, m, hm => by
    unfold downF
    split
    · rfl
    · rename_i h1
      split
      · have := child_lt l (i := i) (n := n) (by omega)
        have := child_ge l i n
        rw [down_above k _ _ _ (by rw [length_swapL]; exact h) m hm, at_swap l (by omega) (by omega), if_neg (by omega), if_neg (by omega)]
      · rfl

theorem down_heap : ∀ (f : Nat) (l : List It) (i n : Nat), n ≤ f + i → n ≤ l.length →
    (∀ k, 0 < k → k < n → (k - 1) / 2 ≠ i → le (at_ l ((k - 1) / 2)) (at_ l k)) →
    (∀ k, 0 < k → k < n → (k - 1) / 2 = i → 0 < i → le (at_ l ((i - 1) / 2)) (at_ l k)) → Hp (downF f l i n).1 n
  | 0, l, i, n, hf, hn, h1, h2 => by
    simp only [downF]
    exact fun k k0 kl => h1 k k0 kl (by omega)
  | f + 1, l, i, n, hf, hn, h1, h2 => by
    unfold downF
    by_cases h0 : n ≤ 2 * i + 1
    · rw [if_pos h0]
      exact fun k k0 kl => h1 k k0 kl (by omega)
    · rw [if_neg h0]
      have hc1 := child_lt l (i := i) (n := n) (by omega)
      have hc2 := child_ge l i n
      have hc3 := child_par l i n
      have hmin := fun k hk k0 hp => child_min l (i := i) (n := n) (k := k) hk k0 hp
      generalize hcd : child l i n = c at *
      by_cases hlt : ltI (l.getD c (0, 0)) (l.getD i (0, 0)) = true
      · rw [if_pos hlt]
        have hl := (ltI_iff _ _).1 hlt
        refine down_heap f (swapL l i c) c n (by omega) (by rw [length_swapL]; exact hn) (fun k k0 kl hk => ?_) (fun k k0 kl hk hp0 => ?_)
        · rw [at_swap l (by omega) (by omega), at_swap l (by omega) (by omega), if_neg hk]
          by_cases e1 : (k - 1) / 2 = i
          · rw [if_pos e1]
            by_cases e2 : k = c
            · rw [if_pos e2]; exact le_of_lt hl
            · rw [if_neg e2, if_neg (by omega)]
              exact hmin k kl k0 e1
          · rw [if_neg e1]
            rw [if_neg (by omega)]
            by_cases e2 : k = i
            · rw [if_pos e2, e2]
              exact h2 c (by omega) hc1 hc3 (by omega)
            · rw [if_neg e2]
              exact h1 k k0 kl e1
        · rw [at_swap l (by omega) (by omega), at_swap l (by omega) (by omega), hc3, if_neg (by omega), if_pos rfl, if_neg (by omega), if_neg (by omega)]
          have := h1 k k0 kl (by omega)
          rw [hk] at this
          exact this
      · rw [if_neg hlt]
        have hl : le (at_ l i) (at_ l c) := (ltI_false _ _).1 (by simpa using hlt)
        intro k k0 kl
        by_cases e : (k - 1) / 2 = i
        · rw [e]; exact le_trans hl (hmin k kl k0 e)
        · exact h1 k k0 kl e

theorem heap_min {l : List It} (h : Hp l l.length) : ∀ k, k < l.length → le (at_ l 0) (at_ l k) := by
  intro k
  induction k using Nat.strongRecOn with
  | _ k ih =>
    intro hk
    by_cases h0 : k = 0
    · subst h0; exact le_refl _
    · exact le_trans (ih ((k - 1) / 2) (by omega) (by omega)) (h k (by omega) hk)

theorem at_take (l : List It) {n k : Nat} (h : k < n) : at_ (l.take n) k = at_ l k := by
  unfold at_
  simp only [List.getD_eq_getElem?_getD]
  rw [List.getElem?_take, if_pos h]

theorem at_append_left (l m : List It) {k : Nat} (h : k < l.length) : at_ (l ++ m) k = at_ l k := by
  unfold at_
  simp only [List.getD_eq_getElem?_getD]
  rw [List.getElem?_append_left h]

/-- Push. -/
theorem push_heap {l : List It} (p : It) (h : Hp l l.length) : Hp (upF l.length (l ++ [p]) l.length) (l.length + 1) := by
  refine up_heap (l.length + 1) l.length (l ++ [p]) l.length (Nat.le_refl _) (by simp) (by omega) (fun k k0 kl hk => ?_) (fun k k0 kl hk hj => ?_)
  · have kl' : k < l.length := by omega
    rw [at_append_left l _ (by omega), at_append_left l _ kl']
    exact h k k0 kl'
  · omega
theorem push_perm (l : List It) (p : It) : (upF l.length (l ++ [p]) l.length).Perm (p :: l) :=
  (up_perm _ _ _ (by simp)).trans (List.perm_append_comm (l₁ := l) (l₂ := [p]))

/-- Pop. -/
theorem pop_perm {l : List It} (h0 : 0 < l.length) : l.Perm (at_ l 0 :: popL l) := by
  obtain ⟨n, hn⟩ : ∃ n, l.length = n + 1 := ⟨l.length - 1, by omega⟩
  unfold popL
  rw [hn, Nat.add_sub_cancel]
  have h1 := down_perm n (swapL l 0 n) 0 n (by rw [length_swapL]; omega)
  have h2 := split_last (downF n (swapL l 0 n) 0 n).1 n (by rw [length_downF, length_swapL, hn])
  have h3 : (downF n (swapL l 0 n) 0 n).1.getD n (0, 0) = at_ l 0 := by
    have := down_above n (swapL l 0 n) 0 n (by rw [length_swapL]; omega) n (Nat.le_refl _)
    unfold at_ at this
    rw [this]
    have := at_swap l (i := 0) (j := n) (by omega) (by omega) n
    unfold at_ at this
    rw [this, if_pos rfl]
  rw [h3] at h2
  generalize hd : (downF n (swapL l 0 n) 0 n).1 = d at *
  have h4 : d.Perm (at_ l 0 :: d.take n) := by
    have : d.Perm (d.take n ++ [at_ l 0]) := by rw [← h2]
    exact this.trans (List.perm_append_comm (l₁ := d.take n) (l₂ := [at_ l 0]))
  exact ((swap_perm l (by omega) (by omega)).symm.trans h1.symm).trans h4
theorem pop_heap {l : List It} (h0 : 0 < l.length) (h : Hp l l.length) : Hp (popL l) (popL l).length := by
  obtain ⟨n, hn⟩ : ∃ n, l.length = n + 1 := ⟨l.length - 1, by omega⟩
  have hlen : (popL l).length = n := by
    unfold popL
    rw [List.length_take, length_downF, length_swapL]; omega
  rw [hlen]
  have := down_heap n (swapL l 0 n) 0 n (by omega) (by rw [length_swapL]; omega) (fun k k0 kl hk => ?_) (fun k k0 kl hk h0 => by omega)
  · intro k k0 kl
    unfold popL
    rw [hn, Nat.add_sub_cancel, at_take _ (by omega), at_take _ kl]
    exact this k k0 kl
  · rw [at_swap l (by omega) (by omega), at_swap l (by omega) (by omega), if_neg (by omega), if_neg hk, if_neg (by omega), if_neg (by omega)]
    exact h k k0 (by omega)

/-- Fix: one item has been changed. -/
theorem fix_perm {l : List It} {i : Nat} (hi : i < l.length) : (fixL l i).Perm l := by
  unfold fixL
  split
  · exact down_perm _ _ _ _ (Nat.le_refl _)
  · exact up_perm _ _ _ hi

/-- All but at i is a heap, and i's children are not ahead of i's parent. -/
structure Near (l : List It) (i n : Nat) : Prop where
  other : ∀ k, 0 < k → k < n → k ≠ i → (k - 1) / 2 ≠ i → le (at_ l ((k - 1) / 2)) (at_ l k)
  grand : ∀ k, 0 < k → k < n → (k - 1) / 2 = i → 0 < i → le (at_ l ((i - 1) / 2)) (at_ l k)

theorem down_or_up {l : List It} {i n : Nat} (hn : n ≤ l.length) (hi : i < n) (h : Near l i n) :
    Hp (if i < (downF n l i n).2 then (downF n l i n).1 else upF i l i) n := by
  by_cases hc : 2 * i + 1 < n ∧ ltI (at_ l (child l i n)) (at_ l i) = true
  · -- it goes down: then its parent is not behind it
    have hpar : 0 < i → le (at_ l ((i - 1) / 2)) (at_ l i) := fun h0 => by
      have h1 := child_lt l hc.1
      have h2 := child_ge l i n
      exact le_trans (h.grand (child l i n) (by omega) h1 (child_par l i n) h0) (le_of_lt ((ltI_iff _ _).1 hc.2))
    have hd := down_heap n l i n (by omega) hn (fun k k0 kl hk => by
      by_cases e : k = i
      · subst e; exact hpar k0
      · exact h.other k k0 kl e hk) (fun k k0 kl hk h0 => h.grand k k0 kl hk h0)
    have hm : i < (downF n l i n).2 := by
      obtain ⟨m, rfl⟩ : ∃ m, n = m + 1 := ⟨n - 1, by omega⟩
      rw [downF, if_neg (by omega), if_pos hc.2]
      have := downF_snd m (swapL l i (child l i (m + 1))) (child l i (m + 1)) (m + 1)
      have := child_ge l i (m + 1)
      omega
    rw [if_pos hm]
    exact hd
  · have hm : (downF n l i n) = (l, i) := by
      cases n with
      | zero => rfl
      | succ m =>
        unfold downF
        by_cases h0 : m + 1 ≤ 2 * i + 1
        · rw [if_pos h0]
        · rw [if_neg h0, if_neg]
          intro hh
          exact hc ⟨by omega, hh⟩
    rw [hm, if_neg (by simp)]
    refine up_heap n i l i (Nat.le_refl _) hn hi (fun k k0 kl hk => ?_) (fun k k0 kl hk h0 => h.grand k k0 kl hk h0)
    by_cases e : (k - 1) / 2 = i
    · have h1 : 2 * i + 1 < n := by omega
      have h2 : ltI (at_ l (child l i n)) (at_ l i) = false := by
        cases hx : ltI (at_ l (child l i n)) (at_ l i) with
        | false => rfl
        | true => exact absurd ⟨h1, hx⟩ hc
      rw [e]
      exact le_trans ((ltI_false _ _).1 h2) (child_min l kl k0 e)
    · exact h.other k k0 kl hk e

theorem fix_heap {l : List It} {i : Nat} (hi : i < l.length) (h : Near l i l.length) : Hp (fixL l i) l.length :=
  down_or_up (Nat.le_refl _) hi h

theorem length_fixL (l : List It) (i : Nat) : (fixL l i).length = l.length := by
  unfold fixL
  split
  · rw [length_downF]
  · rw [length_upF]

/-- A heap with one item written anew. -/
theorem near_set {l : List It} {i : Nat} (p : It) (h : Hp l l.length) : Near (l.set i p) i l.length := by
  have e : ∀ k, k ≠ i → at_ (l.set i p) k = at_ l k := fun k hk => by
    unfold at_
    simp only [List.getD_eq_getElem?_getD]
    rw [List.getElem?_set_ne (Ne.symm hk)]
  refine ⟨fun k k0 kl hk hp => ?_, fun k k0 kl hk h0 => ?_⟩
  · rw [e _ hp, e _ hk]
    exact h k k0 kl
  · rw [e _ (by omega), e _ (by omega)]
    have h1 := h k k0 kl
    have h2 := h i h0 (by omega)
    rw [hk] at h1
    exact le_trans h2 h1

/-- Remove. -/
theorem rem_heap {l : List It} {i : Nat} (hi : i < l.length) (h : Hp l l.length) : Hp (remL l i) (l.length - 1) := by
  obtain ⟨n, hn⟩ : ∃ n, l.length = n + 1 := ⟨l.length - 1, by omega⟩
  unfold remL
  rw [hn, Nat.add_sub_cancel]
  by_cases hni : n = i
  · rw [if_pos hni]
    intro k k0 kl
    rw [at_take _ (by omega), at_take _ kl]
    exact h k k0 (by omega)
  · rw [if_neg hni]
    simp only
    have hnear : Near (swapL l i n) i n := by
      refine ⟨fun k k0 kl hk hp => ?_, fun k k0 kl hk h0 => ?_⟩
      · rw [at_swap l (by omega) (by omega), at_swap l (by omega) (by omega), if_neg (by omega), if_neg hp, if_neg (by omega), if_neg hk]
        exact h k k0 (by omega)
      · rw [at_swap l (by omega) (by omega), at_swap l (by omega) (by omega), if_neg (by omega), if_neg (by omega), if_neg (by omega), if_neg (by omega)]
        have h1 := h k k0 (by omega)
        have h2 := h i h0 (by omega)
        rw [hk] at h1
        exact le_trans h2 h1
    have := down_or_up (l := swapL l i n) (i := i) (n := n) (by rw [length_swapL]; omega) (by omega) hnear
    intro k k0 kl
    rw [at_take _ (by omega), at_take _ kl]
    exact this k k0 kl

theorem up_above : ∀ (n : Nat) (l : List It) (j : Nat), j < l.length → ∀ m, j < m → at_ (upF n l j) m = at_ l m
  | 0, _, _, _, _, _ => rfl
  | n + 1, l, j, h, m, hm => by
    unfold upF
    split
    · rfl
    · split
      · rw [up_above n _ _ (by rw [length_swapL]; omega) m (by omega), at_swap l (by omega) h, if_neg (by omega), if_neg (by omega)]
      · rfl

theorem rem_perm {l : List It} {i : Nat} (hi : i < l.length) : l.Perm (at_ l i :: remL l i) := by
  obtain ⟨n, hn⟩ : ∃ n, l.length = n + 1 := ⟨l.length - 1, by omega⟩
  unfold remL
  rw [hn, Nat.add_sub_cancel]
  have last : ∀ d : List It, d.length = n + 1 → d.getD n (0, 0) = at_ l i → d.Perm l → l.Perm (at_ l i :: d.take n) := fun d h1 h2 h3 => by
    have h4 := split_last d n h1
    rw [h2] at h4
    have : d.Perm (d.take n ++ [at_ l i]) := by rw [← h4]
    exact h3.symm.trans (this.trans (List.perm_append_comm (l₁ := d.take n) (l₂ := [at_ l i])))
  by_cases hni : n = i
  · rw [if_pos hni]
    exact last l hn (by rw [hni]) (.refl _)
  · rw [if_neg hni]
    simp only
    have hsw : at_ (swapL l i n) n = at_ l i := by rw [at_swap l (by omega) (by omega), if_pos rfl]
    have hp := swap_perm l (i := i) (j := n) (by omega) (by omega)
    split
    · refine last _ (by rw [length_downF, length_swapL, hn]) ?_ ((down_perm _ _ _ _ (by rw [length_swapL]; omega)).trans hp)
      exact (down_above n _ _ _ (by rw [length_swapL]; omega) n (Nat.le_refl _)).trans hsw
    · refine last _ (by rw [length_upF, length_swapL, hn]) ?_ ((up_perm _ _ _ (by rw [length_swapL]; omega)).trans hp)
      exact (up_above i _ _ (by rw [length_swapL]; omega) n (by omega)).trans hsw
theorem length_remL {l : List It} {i : Nat} (hi : i < l.length) : (remL l i).length = l.length - 1 := by
  have := (rem_perm hi).length_eq
  simp at this
  omega
theorem length_popL {l : List It} (h : 0 < l.length) : (popL l).length = l.length - 1 := by
  have := (pop_perm h).length_eq
  simp at this
  omega

/-! ### the sorted list -/
def Srt (S : List It) : Prop := S.Pairwise lt
def ins (p : It) : List It → List It
  | [] => [p]
  | q :: S => if lt q p then q :: ins p S else p :: q :: S
theorem ins_perm (p : It) : ∀ S, (ins p S).Perm (p :: S)
  | [] => .refl _
  | q :: S => by
    unfold ins
    split
    · exact ((ins_perm p S).cons q).trans (.swap ..)
    · exact .refl _
theorem ins_srt {p : It} : ∀ {S : List It}, Srt S → p ∉ S → Srt (ins p S)
  | [], _, _ => List.pairwise_singleton _ _
  | q :: S, h, hp => by
    obtain ⟨h1, h2⟩ := List.pairwise_cons.1 h
    unfold ins
    split
    · rename_i hq
      refine List.pairwise_cons.2 ⟨fun x hx => ?_, ins_srt h2 (fun hm => hp (List.mem_cons_of_mem _ hm))⟩
      rcases List.mem_cons.1 ((ins_perm p S).mem_iff.1 hx) with rfl | hx
      · exact hq
      · exact h1 x hx
    · rename_i hq
      have hpq : lt p q := lt_of_le_ne hq (fun e => hp (by rw [e]; exact List.mem_cons_self ..))
      exact List.pairwise_cons.2 ⟨fun x hx => by
        rcases List.mem_cons.1 hx with rfl | hx
        · exact hpq
        · exact lt_trans hpq (h1 x hx), h⟩
theorem srt_eq {S T : List It} (hS : Srt S) (hT : Srt T) (h : S.Perm T) : S = T := by
  refine List.Perm.eq_of_pairwise (le := lt) (fun a b _ _ h1 h2 => ?_) hS hT h
  unfold lt at h1 h2
  omega
end Go.Proofs.Ytelcaeapflhadaa.Pk
