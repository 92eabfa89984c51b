/-
  container/heap: Push, Pop, Fix, Remove over the items.
-/
import Derived.Test.YtelcaeapflhadaaPkC
namespace Go.Proofs.Ytelcaeapflhadaa.Pk
set_option linter.unusedSimpArgs false
open Go Go.RowKit Go.Sl Go.BigFrame
set_option linter.unusedVariables false

theorem length_upF : ∀ (n : Nat) (l : List It) (j : Nat), (upF n l j).length = l.length
  | 0, _, _ => rfl
  | n + 1, l, j => by
    unfold upF
    split
    · rfl
    · split
      · rw [length_upF, length_swapL]
      · rfl
theorem length_downF : ∀ (k : Nat) (l : List It) (i n : Nat), (downF k l i n).1.length = l.length
  | 0, _, _, _ => rfl
  | k + 1, l, i, n => by
    unfold downF
    split
    · rfl
    · split
      · rw [length_downF, length_swapL]
      · rfl
theorem downF_snd : ∀ (k : Nat) (l : List It) (i n : Nat), i ≤ (downF k l i n).2
  | 0, _, _, _ => Nat.le_refl _
  | k + 1, l, i, n => by
    unfold downF
    split
    · exact Nat.le_refl _
    · split
      · have := downF_snd k (swapL l i (child l i n)) (child l i n) n
        have := child_ge l i n
        omega
      · exact Nat.le_refl _
theorem downF_still : ∀ (k : Nat) (l : List It) (i n : Nat), (downF k l i n).2 = i → (downF k l i n).1 = l
  | 0, _, _, _, _ => rfl
  | k + 1, l, i, n, h => by
    unfold downF at h ⊢
    split
    · rfl
    · rename_i h1
      rw [if_neg h1] at h
      split
      · rename_i h2
        rw [if_pos h2] at h
        have := downF_snd k (swapL l i (child l i n)) (child l i n) n
        have := child_ge l i n
        omega
      · rfl

theorem items_len' (x : Nat) (l : List It) (A F : List Atom) (W w : World) (hA : ItemsA x l A) (hs : Sat W w (A ++ F)) (n : Nat) (hn : l.length = n) :
    Calls Try.prog 77 #[.pointer (some ⟨x, 0, none⟩)] w fun e w' => e = .returned (.int .i64 n) ∧ w = w' := by
  subst hn
  exact items_len x l A F W w hA hs

theorem heap_push (x : Nat) (l : List It) (p : It) (A F : List Atom) (W w : World) (hA : ItemsA x l A) (hs : Sat W w (A ++ F)) (hn : ∀ q ∈ l, q.1 ≠ p.1) (hb : l.length < 999999) :
    Calls Try.prog 32 #[hI x, .iface 28 (.agg #[.int .i64 p.1, .int .i64 p.2])] w fun e w' => e = .returned (.tuple #[]) ∧ ∃ A', ItemsA x (upF l.length (l ++ [p]) l.length) A' ∧ Sat W w' (A' ++ F) := by
  have hm1 := m_push x
  have hm2 := m_len x
  have b1 : (0 : Int) ≤ l.length := by omega
  have b2 : (l.length : Int) < 999999 := by omega
  go_enter Try.func32, Try.ntmps32
  go_wp2_with fail
  refine (items_push x l p A F W _ hA hs hn (by omega)).mono ?_; rintro e w1 ⟨rfl, A1, hA1, hs1⟩
  clear hA hs
  go_wp2_with fail
  refine (items_len' x (l ++ [p]) A1 F W _ hA1 hs1 (l.length + 1) (by simp)).mono ?_; rintro e w2 ⟨rfl, rfl⟩
  go_wp2_with fail
  refine (heap_up x (l ++ [p]) l.length (by simp) (by simp; omega) A1 F W _ hA1 hs1).mono ?_; rintro e w2 ⟨rfl, A2, hA2, hs2⟩
  go_wp2_with fail
  go_end0
  exact ⟨rfl, A2, hA2, hs2⟩

/-- What Pop leaves. -/
def popL (l : List It) : List It := ((downF (l.length - 1) (swapL l 0 (l.length - 1)) 0 (l.length - 1)).1).take (l.length - 1)

theorem split_last (l : List It) (n : Nat) (h : l.length = n + 1) : l = l.take n ++ [l.getD n (0, 0)] := by
  have h1 := List.take_append_drop n l
  have h2 : l.drop n = [l.getD n (0, 0)] := by
    rw [List.drop_eq_getElem_cons (by omega), List.drop_eq_nil_of_le (by omega)]
    simp [show n < l.length by omega]
  rw [h2] at h1
  exact h1.symm

theorem heap_pop (x : Nat) (l : List It) (A F : List Atom) (W w : World) (hA : ItemsA x l A) (hs : Sat W w (A ++ F)) (h0 : 0 < l.length) (hb : l.length < 999999) :
    Calls Try.prog 33 #[hI x] w fun e w' => (∃ v, e = .returned v) ∧ ∃ A', ItemsA x (popL l) A' ∧ Sat W w' (A' ++ F) := by
  obtain ⟨n, hn⟩ : ∃ n, l.length = n + 1 := ⟨l.length - 1, by omega⟩
  have hm1 := m_pop x
  have hm2 := m_len x
  have hm3 := m_swap x
  have b1 : (0 : Int) ≤ n := by omega
  have b2 : (n : Int) < 999999 := by omega
  have HN := Lib.hid hn
  clear hn
  go_enter Try.func33, Try.ntmps33
  go_wp2_with fail
  refine (items_len' x l A F W _ hA hs (n + 1) HN.out).mono ?_; rintro e w2 ⟨rfl, rfl⟩
  go_wp2_with fail
  refine (items_swap' x l 0 n _ _ rfl rfl A F W _ hA hs (by have := HN.out; omega) (by have := HN.out; omega)).mono ?_; rintro e w1 ⟨rfl, A1, hA1, hs1⟩
  clear hA hs
  go_wp2_with fail
  refine (heap_down x (swapL l 0 n) 0 n (by rw [length_swapL]; have := HN.out; omega) (by omega) (by rw [length_swapL]; have := HN.out; omega) A1 F W _ hA1 hs1).mono ?_; rintro e w2 ⟨rfl, A2, hA2, hs2⟩
  have hsp := split_last (downF n (swapL l 0 n) 0 n).1 n (by rw [length_downF, length_swapL, HN.out])
  rw [hsp] at hA2
  have HS := Lib.hid hsp
  clear hA1 hs1 hsp
  go_wp2_with fail
  refine (items_pop x _ _ A2 F W _ hA2 hs2).mono ?_; rintro e w3 ⟨rfl, A3, hA3, hs3⟩
  go_wp2_with fail
  go_ret
  refine ⟨⟨_, rfl⟩, A3, ?_, hs3⟩
  unfold popL
  rw [HN.out, Nat.add_sub_cancel]
  exact hA3

/-- What Fix leaves. -/
def fixL (l : List It) (i : Nat) : List It := if i < (downF l.length l i l.length).2 then (downF l.length l i l.length).1 else upF i l i

theorem heap_fix (x : Nat) (l : List It) (i : Nat) (iv : Int) (hiv : iv = i) (A F : List Atom) (W w : World) (hA : ItemsA x l A) (hs : Sat W w (A ++ F)) (hi : i < l.length) (hb : l.length < 999999) :
    Calls Try.prog 31 #[hI x, .int .i64 iv] w fun e w' => e = .returned (.tuple #[]) ∧ ∃ A', ItemsA x (fixL l i) A' ∧ Sat W w' (A' ++ F) := by
  subst hiv
  have hm2 := m_len x
  go_enter Try.func31, Try.ntmps31
  go_wp2_with fail
  refine (items_len' x l A F W _ hA hs l.length rfl).mono ?_; rintro e w2 ⟨rfl, rfl⟩
  go_wp2_with fail
  by_cases hlt : i < (downF l.length l i l.length).2
  · refine (heap_down x l i l.length (Nat.le_refl _) (by omega) (by omega) A F W _ hA hs).mono ?_; rintro e w1 ⟨rfl, A1, hA1, hs1⟩
    rw [decide_eq_true hlt]
    have HL := Lib.hid hlt
    clear hlt hA hs
    go_wp2_with fail
    go_end0
    exact ⟨rfl, A1, by unfold fixL; rw [if_pos HL.out]; exact hA1, hs1⟩
  · refine (heap_down x l i l.length (Nat.le_refl _) (by omega) (by omega) A F W _ hA hs).mono ?_; rintro e w1 ⟨rfl, A1, hA1, hs1⟩
    rw [decide_eq_false hlt]
    have hst := downF_still l.length l i l.length (by have := downF_snd l.length l i l.length; omega)
    rw [hst] at hA1
    have HL := Lib.hid hlt
    clear hlt hA hs hst
    go_wp2_with fail
    refine (heap_up x l i hi (by omega) A1 F W _ hA1 hs1).mono ?_; rintro e w2 ⟨rfl, A2, hA2, hs2⟩
    go_wp2_with fail
    go_end0
    exact ⟨rfl, A2, by unfold fixL; rw [if_neg HL.out]; exact hA2, hs2⟩

/-- What Remove leaves. -/
def remL (l : List It) (i : Nat) : List It :=
  if l.length - 1 = i then l.take (l.length - 1)
  else let m := swapL l i (l.length - 1)
    (if i < (downF (l.length - 1) m i (l.length - 1)).2 then (downF (l.length - 1) m i (l.length - 1)).1 else upF i m i).take (l.length - 1)

theorem heap_remove (x : Nat) (l : List It) (i : Nat) (iv : Int) (hiv : iv = i) (A F : List Atom) (W w : World) (hA : ItemsA x l A) (hs : Sat W w (A ++ F)) (hi : i < l.length) (hb : l.length < 999999) :
    Calls Try.prog 34 #[hI x, .int .i64 iv] w fun e w' => (∃ v, e = .returned v) ∧ ∃ A', ItemsA x (remL l i) A' ∧ Sat W w' (A' ++ F) := by
  subst hiv
  obtain ⟨n, hn⟩ : ∃ n, l.length = n + 1 := ⟨l.length - 1, by omega⟩
  have hm1 := m_pop x
  have hm2 := m_len x
  have hm3 := m_swap x
  have b1 : (0 : Int) ≤ n := by omega
  have b2 : (n : Int) < 999999 := by omega
  have b3 : (0 : Int) ≤ i := by omega
  have HN := Lib.hid hn
  clear hn
  by_cases hni : n = i
  · subst hni
    have q : ((n : Int) != (n : Int)) = false := by simp
    have hsp := split_last l n HN.out
    rw [hsp] at hA
    have HS := Lib.hid hsp
    clear hsp
    go_enter Try.func34, Try.ntmps34
    go_wp2_with fail
    refine (items_len' x _ A F W _ hA hs (n + 1) (by rw [← HS.out]; exact HN.out)).mono ?_; rintro e w2 ⟨rfl, rfl⟩
    go_wp2_with fail
    refine (items_pop x _ _ A F W _ hA hs).mono ?_; rintro e w3 ⟨rfl, A3, hA3, hs3⟩
    go_wp2_with fail
    go_ret
    refine ⟨⟨_, rfl⟩, A3, ?_, hs3⟩
    unfold remL
    rw [HN.out, Nat.add_sub_cancel, if_pos rfl]
    exact hA3
  · have q : ((n : Int) != (i : Int)) = true := by simp; omega
    have HI := Lib.hid hni
    clear hni
    have hi' : i ≤ n := by have := HN.out; omega
    go_enter Try.func34, Try.ntmps34
    go_wp2_with fail
    refine (items_len' x l A F W _ hA hs (n + 1) HN.out).mono ?_; rintro e w2 ⟨rfl, rfl⟩
    go_wp2_with fail
    refine (items_swap' x l i n _ _ rfl rfl A F W _ hA hs hi (by have := HN.out; omega)).mono ?_; rintro e w1 ⟨rfl, A1, hA1, hs1⟩
    clear hA hs
    go_wp2_with fail
    by_cases hlt : i < (downF n (swapL l i n) i n).2
    · refine (heap_down x (swapL l i n) i n (by rw [length_swapL]; have := HN.out; omega) (by rw [length_swapL]; omega) (by rw [length_swapL]; omega) A1 F W _ hA1 hs1).mono ?_; rintro e w2 ⟨rfl, A2, hA2, hs2⟩
      rw [decide_eq_true hlt]
      have HL := Lib.hid hlt
      have hsp := split_last (downF n (swapL l i n) i n).1 n (by rw [length_downF, length_swapL, HN.out])
      rw [hsp] at hA2
      clear hlt hA1 hs1 hsp
      go_wp2_with fail
      refine (items_pop x _ _ A2 F W _ hA2 hs2).mono ?_; rintro e w3 ⟨rfl, A3, hA3, hs3⟩
      go_wp2_with fail
      go_ret
      refine ⟨⟨_, rfl⟩, A3, ?_, hs3⟩
      unfold remL
      rw [HN.out, Nat.add_sub_cancel, if_neg HI.out]
      simp only [if_pos HL.out]
      exact hA3
    · refine (heap_down x (swapL l i n) i n (by rw [length_swapL]; have := HN.out; omega) (by rw [length_swapL]; omega) (by rw [length_swapL]; omega) A1 F W _ hA1 hs1).mono ?_; rintro e w2 ⟨rfl, A2, hA2, hs2⟩
      rw [decide_eq_false hlt]
      have hst := downF_still n (swapL l i n) i n (by have := downF_snd n (swapL l i n) i n; omega)
      rw [hst] at hA2
      have HL := Lib.hid hlt
      clear hlt hA1 hs1 hst
      go_wp2_with fail
      refine (heap_up x (swapL l i n) i (by rw [length_swapL]; exact hi) (by rw [length_swapL]; omega) A2 F W _ hA2 hs2).mono ?_; rintro e w4 ⟨rfl, A4, hA4, hs4⟩
      have hsp := split_last (upF i (swapL l i n) i) n (by rw [length_upF, length_swapL, HN.out])
      rw [hsp] at hA4
      clear hA2 hs2 hsp
      go_wp2_with fail
      refine (items_pop x _ _ A4 F W _ hA4 hs4).mono ?_; rintro e w3 ⟨rfl, A3, hA3, hs3⟩
      go_wp2_with fail
      go_ret
      refine ⟨⟨_, rfl⟩, A3, ?_, hs3⟩
      unfold remL
      rw [HN.out, Nat.add_sub_cancel, if_neg HI.out]
      simp only [if_neg HL.out]
      exact hA3
end Go.Proofs.Ytelcaeapflhadaa.Pk
