/-
  container/heap over the items.
-/
import Derived.Test.YtelcaeapflhadaaPkB
namespace Go.Proofs.Ytelcaeapflhadaa.Pk
set_option linter.unusedSimpArgs false
open Go Go.RowKit Go.Sl Go.BigFrame
set_option linter.unusedVariables false

/-- The interface value that holds the items x. -/
abbrev hI (x : Nat) : Value := .iface 53 (.pointer (some ⟨x, 0, none⟩))

theorem m_less (x : Nat) : ∀ w : World, (method 212 53 (.pointer (some ⟨x, 0, none⟩)) "Less").run Try.prog w = .ok (78, .pointer (some ⟨x, 0, none⟩)) w := fun w => by kernel_rfl
theorem m_swap (x : Nat) : ∀ w : World, (method 212 53 (.pointer (some ⟨x, 0, none⟩)) "Swap").run Try.prog w = .ok (81, .pointer (some ⟨x, 0, none⟩)) w := fun w => by kernel_rfl
theorem m_len (x : Nat) : ∀ w : World, (method 212 53 (.pointer (some ⟨x, 0, none⟩)) "Len").run Try.prog w = .ok (77, .pointer (some ⟨x, 0, none⟩)) w := fun w => by kernel_rfl
theorem m_push (x : Nat) : ∀ w : World, (method 212 53 (.pointer (some ⟨x, 0, none⟩)) "Push").run Try.prog w = .ok (80, .pointer (some ⟨x, 0, none⟩)) w := fun w => by kernel_rfl
theorem m_pop (x : Nat) : ∀ w : World, (method 212 53 (.pointer (some ⟨x, 0, none⟩)) "Pop").run Try.prog w = .ok (79, .pointer (some ⟨x, 0, none⟩)) w := fun w => by kernel_rfl

def upF : Nat → List It → Nat → List It
  | 0, l, _ => l
  | n + 1, l, j => if j = 0 then l else if ltI (l.getD j (0, 0)) (l.getD ((j - 1) / 2) (0, 0)) then upF n (swapL l ((j - 1) / 2) j) ((j - 1) / 2) else l

theorem upF_fuel : ∀ (n m : Nat) (l : List It) (j : Nat), j ≤ n → j ≤ m → upF n l j = upF m l j
  | 0, 0, _, _, _, _ => rfl
  | 0, m + 1, l, j, h, _ => by
    obtain rfl : j = 0 := by omega
    simp [upF]
  | n + 1, 0, l, j, _, h => by
    obtain rfl : j = 0 := by omega
    simp [upF]
  | n + 1, m + 1, l, j, h1, h2 => by
    unfold upF
    by_cases h0 : j = 0
    · simp [h0]
    · rw [if_neg h0, if_neg h0]
      split
      · exact upF_fuel n m _ _ (by omega) (by omega)
      · rfl

theorem length_swapL (l : List It) (i j : Nat) : (swapL l i j).length = l.length := by simp [swapL]

theorem items_less' (x : Nat) (l : List It) (i j : Nat) (iv jv : Int) (hiv : iv = i) (hjv : jv = j) (b : Bool) (A F : List Atom) (W w : World) (hA : ItemsA x l A) (hs : Sat W w (A ++ F)) (hi : i < l.length) (hj : j < l.length) (hb : ltI (l.getD i (0, 0)) (l.getD j (0, 0)) = b) :
    Calls Try.prog 78 #[.pointer (some ⟨x, 0, none⟩), .int .i64 iv, .int .i64 jv] w fun e w' => e = .returned (.bool b) ∧ Sat W w' (A ++ F) := by
  subst hiv; subst hjv; subst hb
  exact (items_less x l i j _ _ A F W w hA hs (by simp [hi]) (by simp [hj])).mono fun e w' ⟨h1, h2⟩ => ⟨h1, hs.below h2⟩
theorem items_swap' (x : Nat) (l : List It) (i j : Nat) (iv jv : Int) (hiv : iv = i) (hjv : jv = j) (A F : List Atom) (W w : World) (hA : ItemsA x l A) (hs : Sat W w (A ++ F)) (hi : i < l.length) (hj : j < l.length) :
    Calls Try.prog 81 #[.pointer (some ⟨x, 0, none⟩), .int .i64 iv, .int .i64 jv] w fun e w' => e = .returned (.tuple #[]) ∧ ∃ A', ItemsA x (swapL l i j) A' ∧ Sat W w' (A' ++ F) := by
  subst hiv; subst hjv
  exact items_swap x l i j _ _ A F W w hA hs (by simp [hi]; rfl) (by simp [hj]; rfl)

theorem heap_up (x : Nat) (l : List It) (j : Nat) (hj : j < l.length) (hb : l.length < 1000000) (A F : List Atom) (W w : World) (hA : ItemsA x l A) (hs : Sat W w (A ++ F)) :
    Calls Try.prog 39 #[hI x, .int .i64 j] w fun e w' => e = .returned (.tuple #[]) ∧ ∃ A', ItemsA x (upF j l j) A' ∧ Sat W w' (A' ++ F) := by
  have hm1 := m_less x
  have hm2 := m_swap x
  go_enter Try.func39, Try.ntmps39
  go_wp2
  go_loopw [1] (fun jv wr => ∃ (jn : Nat) (l' : List It) (A' : List Atom), jv = .int .i64 jn ∧ jn < l'.length ∧ l'.length = l.length ∧ ItemsA x l' A' ∧ Sat W wr (A' ++ F) ∧ upF jn l' jn = upF j l j) (fun jv _ => (intOf jv).toNat)
  case atStart => exact ⟨j, l, A, rfl, hj, rfl, hA, hs, rfl⟩
  case round =>
    obtain ⟨jn, l', A', rfl, hjn, hll, hA', hs', hup⟩ := hrel
    clear hA hs
    have b1 : (0 : Int) ≤ jn := by omega
    have b0 : (jn : Int) < 1000000 := by omega
    have HU := Lib.hid hup
    have HL := Lib.hid hll
    clear hup hll
    by_cases h0 : jn = 0
    · subst h0
      go_wp2
      go_end0
      exact ⟨rfl, A', by rw [← HU.out]; exact hA', hs'⟩
    · have b2 : (1 : Int) ≤ jn := by omega
      have b3 : (((jn : Int) - 1) / 2 == (jn : Int)) = false := by simp; omega
      have hi : (jn - 1) / 2 < l'.length := by omega
      have hij : (jn - 1) / 2 ≠ jn := by omega
      cases hlt : ltI (l'.getD jn (0, 0)) (l'.getD ((jn - 1) / 2) (0, 0)) with
      | false =>
        have HT := Lib.hid hlt
        clear hlt
        go_wp2_with (go_at_call 78; refine (items_less' x l' jn ((jn - 1) / 2) _ _ rfl (by omega) false A' F W _ hA' hs' hjn hi HT.out).mono ?_; rintro e w' ⟨rfl, hs2⟩)
        go_end0
        refine ⟨rfl, A', ?_, hs2⟩
        rw [← HU.out]
        obtain ⟨n, rfl⟩ : ∃ n, jn = n + 1 := ⟨jn - 1, by omega⟩
        rw [upF, if_neg h0, HT.out]
        exact hA'
      | true =>
        have HT := Lib.hid hlt
        clear hlt
        go_wp2_with (go_at_call 78; refine (items_less' x l' jn ((jn - 1) / 2) _ _ rfl (by omega) true A' F W _ hA' hs' hjn hi HT.out).mono ?_; rintro e w1 ⟨rfl, hs1⟩)
        refine (items_swap' x l' ((jn - 1) / 2) jn _ _ (by omega) rfl A' F W _ hA' hs1 hi hjn).mono ?_
        rintro e w2 ⟨rfl, A2, hA2, hs2⟩
        go_wp2
        go_roundw
        case rel =>
          refine ⟨(jn - 1) / 2, swapL l' ((jn - 1) / 2) jn, A2, by congr 1; omega, by rw [length_swapL]; exact hi, by rw [length_swapL, HL.out], hA2, hs2, ?_⟩
          rw [← HU.out]
          obtain ⟨n, rfl⟩ : ∃ n, jn = n + 1 := ⟨jn - 1, by omega⟩
          rw [upF, if_neg h0, HT.out, if_pos rfl]
          exact upF_fuel _ _ _ _ (Nat.le_refl _) (by omega)
        case measure =>
          simp [intOf]
          omega

def child (l : List It) (i n : Nat) : Nat := if 2 * i + 2 < n ∧ ltI (l.getD (2 * i + 2) (0, 0)) (l.getD (2 * i + 1) (0, 0)) = true then 2 * i + 2 else 2 * i + 1
def downF : Nat → List It → Nat → Nat → List It × Nat
  | 0, l, i, _ => (l, i)
  | k + 1, l, i, n => if n ≤ 2 * i + 1 then (l, i) else if ltI (l.getD (child l i n) (0, 0)) (l.getD i (0, 0)) then downF k (swapL l i (child l i n)) (child l i n) n else (l, i)

theorem child_ge (l : List It) (i n : Nat) : 2 * i + 1 ≤ child l i n := by unfold child; split <;> omega
theorem downF_fuel : ∀ (k m : Nat) (l : List It) (i n : Nat), n ≤ k + i → n ≤ m + i → downF k l i n = downF m l i n
  | 0, 0, _, _, _, _, _ => rfl
  | 0, m + 1, l, i, n, h, _ => by simp only [downF]; rw [if_pos (by omega)]
  | k + 1, 0, l, i, n, _, h => by simp only [downF]; rw [if_pos (by omega)]
  | k + 1, m + 1, l, i, n, h1, h2 => by
    simp only [downF]
    split
    · rfl
    · split
      · have := child_ge l i n
        exact downF_fuel k m _ _ _ (by omega) (by omega)
      · rfl

set_option maxRecDepth 100000 in
set_option maxHeartbeats 2000000 in
theorem heap_down (x : Nat) (l : List It) (i n : Nat) (hn : n ≤ l.length) (hi : i ≤ l.length) (hb : l.length < 1000000) (A F : List Atom) (W w : World) (hA : ItemsA x l A) (hs : Sat W w (A ++ F)) :
    Calls Try.prog 38 #[hI x, .int .i64 i, .int .i64 n] w fun e w' => e = .returned (.bool (decide (i < (downF n l i n).2))) ∧ ∃ A', ItemsA x (downF n l i n).1 A' ∧ Sat W w' (A' ++ F) := by
  have hm1 := m_less x
  have hm2 := m_swap x
  have b5 : (i : Int) < 1000000 := by omega
  have b6 : (n : Int) < 1000000 := by omega
  have b7 : (0 : Int) ≤ i := by omega
  have b8 : (0 : Int) ≤ n := by omega
  go_enter Try.func38, Try.ntmps38
  go_wp2
  go_loopw [7] (fun iv wr => ∃ (k : Nat) (l' : List It) (A' : List Atom), iv = .int .i64 k ∧ k ≤ l'.length ∧ i ≤ k ∧ l'.length = l.length ∧ ItemsA x l' A' ∧ Sat W wr (A' ++ F) ∧ downF n l' k n = downF n l i n) (fun iv _ => (l.length - (intOf iv).toNat))
  case atStart => exact ⟨i, l, A, rfl, hi, Nat.le_refl _, rfl, hA, hs, rfl⟩
  case round =>
    obtain ⟨k, l', A', rfl, hk, hik, hll, hA', hs', hup⟩ := hrel
    clear hA hs b5 b7
    have b9 : (k : Int) < 1000000 := by omega
    have b10 : (0 : Int) ≤ k := by omega
    have b11 : (i : Int) ≤ k := by omega
    have hn' : n ≤ l'.length := by omega
    have HU := Lib.hid hup
    have HL := Lib.hid hll
    clear hup hll
    by_cases h0 : n ≤ 2 * k + 1
    · have b12 : (n : Int) ≤ 2 * k + 1 := by omega
      have hd : downF n l' k n = (l', k) := by
        cases n with
        | zero => rfl
        | succ n => rw [downF, if_pos h0]
      have HD := Lib.hid hd
      clear hd
      go_wp2
      go_ret
      refine ⟨?_, A', ?_, hs'⟩
      · rw [← HU.out, HD.out]; simp
      · rw [← HU.out, HD.out]; exact hA'
    · have b12 : 2 * (k : Int) + 1 < n := by omega
      have d1 : decide ((n : Int) ≤ 2 * (k : Int) + 1) = false := by simp; omega
      have d2 : decide (2 * (k : Int) + 1 < 0) = false := by simp; omega
      have hd : downF n l' k n = if ltI (l'.getD (child l' k n) (0, 0)) (l'.getD k (0, 0)) then downF (n - 1) (swapL l' k (child l' k n)) (child l' k n) n else (l', k) := by
        obtain ⟨m, rfl⟩ : ∃ m, n = m + 1 := ⟨n - 1, by omega⟩
        rw [downF, if_neg h0]; rfl
      have HD := Lib.hid hd
      clear hd
      have hkl : k < l'.length := by omega
      by_cases h2 : 2 * k + 2 < n
      · have b13 : 2 * (k : Int) + 1 + 1 < n := by omega
        have d3 : decide (2 * (k : Int) + 1 + 1 < n) = true := by simp; omega
        cases h21 : ltI (l'.getD (2 * k + 2) (0, 0)) (l'.getD (2 * k + 1) (0, 0)) with
        | true =>
          have hc : child l' k n = 2 * k + 2 := by unfold child; rw [if_pos ⟨h2, h21⟩]
          have H21 := Lib.hid h21
          clear h21
          rw [hc] at HD
          clear hc
          cases hlt : ltI (l'.getD (2 * k + 2) (0, 0)) (l'.getD k (0, 0)) with
          | false =>
            have HT := Lib.hid hlt
            clear hlt
            go_wp2_with fail
            refine (items_less' x l' (2 * k + 2) (2 * k + 1) _ _ (by omega) (by omega) true A' F W _ hA' hs' (by omega) (by omega) H21.out).mono ?_; rintro e w1 ⟨rfl, hs1⟩; go_wp2_with fail
            refine (items_less' x l' (2 * k + 2) k _ _ (by omega) rfl false A' F W _ hA' (by assumption) (by omega) hkl HT.out).mono ?_; rintro e w2 ⟨rfl, hs2⟩
            go_wp2_with fail
            go_ret
            refine ⟨?_, A', ?_, hs2⟩
            · rw [← HU.out, HD.out, HT.out]; simp
            · rw [← HU.out, HD.out, HT.out]; exact hA'
          | true =>
            have HT := Lib.hid hlt
            clear hlt
            go_wp2_with fail
            refine (items_less' x l' (2 * k + 2) (2 * k + 1) _ _ (by omega) (by omega) true A' F W _ hA' hs' (by omega) (by omega) H21.out).mono ?_; rintro e w1 ⟨rfl, hs1⟩; go_wp2_with fail
            refine (items_less' x l' (2 * k + 2) k _ _ (by omega) rfl true A' F W _ hA' (by assumption) (by omega) hkl HT.out).mono ?_; rintro e w2 ⟨rfl, hs2⟩
            go_wp2_with fail
            refine (items_swap' x l' k (2 * k + 2) _ _ rfl (by omega) A' F W _ hA' hs2 hkl (by omega)).mono ?_; rintro e w3 ⟨rfl, A2, hA2, hs3⟩
            go_wp2_with fail
            go_roundw
            case rel =>
              refine ⟨2 * k + 2, swapL l' k (2 * k + 2), A2, by congr 1, by rw [length_swapL]; omega, by omega, by rw [length_swapL, HL.out], hA2, hs3, ?_⟩
              rw [← HU.out, HD.out, HT.out, if_pos rfl]
              exact downF_fuel _ _ _ _ _ (by omega) (by omega)
            case measure =>
              have := HL.out
              simp [intOf]
              omega
        | false =>
          have hc : child l' k n = 2 * k + 1 := by unfold child; rw [if_neg (by rw [h21]; simp)]
          have H21 := Lib.hid h21
          clear h21
          rw [hc] at HD
          clear hc
          cases hlt : ltI (l'.getD (2 * k + 1) (0, 0)) (l'.getD k (0, 0)) with
          | false =>
            have HT := Lib.hid hlt
            clear hlt
            go_wp2_with fail
            refine (items_less' x l' (2 * k + 2) (2 * k + 1) _ _ (by omega) (by omega) false A' F W _ hA' hs' (by omega) (by omega) H21.out).mono ?_; rintro e w1 ⟨rfl, hs1⟩; go_wp2_with fail
            refine (items_less' x l' (2 * k + 1) k _ _ (by omega) rfl false A' F W _ hA' (by assumption) (by omega) hkl HT.out).mono ?_; rintro e w2 ⟨rfl, hs2⟩
            go_wp2_with fail
            go_ret
            refine ⟨?_, A', ?_, hs2⟩
            · rw [← HU.out, HD.out, HT.out]; simp
            · rw [← HU.out, HD.out, HT.out]; exact hA'
          | true =>
            have HT := Lib.hid hlt
            clear hlt
            go_wp2_with fail
            refine (items_less' x l' (2 * k + 2) (2 * k + 1) _ _ (by omega) (by omega) false A' F W _ hA' hs' (by omega) (by omega) H21.out).mono ?_; rintro e w1 ⟨rfl, hs1⟩; go_wp2_with fail
            refine (items_less' x l' (2 * k + 1) k _ _ (by omega) rfl true A' F W _ hA' (by assumption) (by omega) hkl HT.out).mono ?_; rintro e w2 ⟨rfl, hs2⟩
            go_wp2_with fail
            refine (items_swap' x l' k (2 * k + 1) _ _ rfl (by omega) A' F W _ hA' hs2 hkl (by omega)).mono ?_; rintro e w3 ⟨rfl, A2, hA2, hs3⟩
            go_wp2_with fail
            go_roundw
            case rel =>
              refine ⟨2 * k + 1, swapL l' k (2 * k + 1), A2, by congr 1, by rw [length_swapL]; omega, by omega, by rw [length_swapL, HL.out], hA2, hs3, ?_⟩
              rw [← HU.out, HD.out, HT.out, if_pos rfl]
              exact downF_fuel _ _ _ _ _ (by omega) (by omega)
            case measure =>
              have := HL.out
              simp [intOf]
              omega
      · have b13 : (n : Int) ≤ 2 * k + 1 + 1 := by omega
        have d3 : decide (2 * (k : Int) + 1 + 1 < n) = false := by simp; omega
        have hc : child l' k n = 2 * k + 1 := by unfold child; rw [if_neg (by omega)]
        have H21 := Lib.hid (show true = true from rfl)
        rw [hc] at HD
        clear hc
        cases hlt : ltI (l'.getD (2 * k + 1) (0, 0)) (l'.getD k (0, 0)) with
        | false =>
          have HT := Lib.hid hlt
          clear hlt
          go_wp2_with fail
          skip
          refine (items_less' x l' (2 * k + 1) k _ _ (by omega) rfl false A' F W _ hA' (by assumption) (by omega) hkl HT.out).mono ?_; rintro e w2 ⟨rfl, hs2⟩
          go_wp2_with fail
          go_ret
          refine ⟨?_, A', ?_, hs2⟩
          · rw [← HU.out, HD.out, HT.out]; simp
          · rw [← HU.out, HD.out, HT.out]; exact hA'
        | true =>
          have HT := Lib.hid hlt
          clear hlt
          go_wp2_with fail
          skip
          refine (items_less' x l' (2 * k + 1) k _ _ (by omega) rfl true A' F W _ hA' (by assumption) (by omega) hkl HT.out).mono ?_; rintro e w2 ⟨rfl, hs2⟩
          go_wp2_with fail
          refine (items_swap' x l' k (2 * k + 1) _ _ rfl (by omega) A' F W _ hA' hs2 hkl (by omega)).mono ?_; rintro e w3 ⟨rfl, A2, hA2, hs3⟩
          go_wp2_with fail
          go_roundw
          case rel =>
            refine ⟨2 * k + 1, swapL l' k (2 * k + 1), A2, by congr 1, by rw [length_swapL]; omega, by omega, by rw [length_swapL, HL.out], hA2, hs3, ?_⟩
            rw [← HU.out, HD.out, HT.out, if_pos rfl]
            exact downF_fuel _ _ _ _ _ (by omega) (by omega)
          case measure =>
            have := HL.out
            simp [intOf]
            omega
end Go.Proofs.Ytelcaeapflhadaa.Pk
