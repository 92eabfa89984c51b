/-
  ChunkPlaces, walked.
-/
import Derived.Test.YtdkhgkkdnjejmaaChX
namespace Go.Proofs.Ytdkhgkkdnjejmaa.Ch
set_option linter.unusedSimpArgs false
open Go Go.RowKit Go.Sl Go.BigFrame
set_option linter.unusedVariables false

theorem below_of {W w : World} (h : Sat W w (allOf W)) : Below W.heap.size W w := Sat.below_all (L := []) h
set_option maxRecDepth 100000 in
set_option maxHeartbeats 4000000 in
theorem places_walk (a b g h : Int) (W : World) :
    Calls Try.prog 6 #[.int .i64 a, .int .i64 b, .int .i64 g, .int .i64 h] W fun e w' => e = .returned (.bool true) ∧ Below W.heap.size W w' := by
  obtain ⟨a1, a2⟩ := handPick_bounds a 40 (by omega)
  obtain ⟨b1, b2⟩ := handPick_bounds b 40 (by omega)
  obtain ⟨g1, g2⟩ := handPick_bounds g 1099511627776 (by omega)
  obtain ⟨h1, h2⟩ := handPick_bounds h 1099511627776 (by omega)
  go_enter Try.func6, Try.ntmps6
  go_wp2_with fail
  refine (hand_pick a 40 _ (by omega) (by omega)).mono ?_; rintro r w4 ⟨rfl, rfl⟩
  go_wp2_with fail
  refine (hand_pick b 40 _ (by omega) (by omega)).mono ?_; rintro r w4 ⟨rfl, rfl⟩
  go_wp2_with fail
  refine (hand_pick g 1099511627776 _ (by omega) (by omega)).mono ?_; rintro r w4 ⟨rfl, rfl⟩
  go_wp2_with fail
  refine (hand_pick h 1099511627776 _ (by omega) (by omega)).mono ?_; rintro r w4 ⟨rfl, rfl⟩
  generalize handPick a 40 = A at *
  generalize handPick b 40 = B at *
  generalize handPick g 1099511627776 = g' at *
  generalize handPick h 1099511627776 = h' at *
  obtain ⟨G, hG⟩ : ∃ G, G = 1 + g' := ⟨_, rfl⟩
  obtain ⟨H, hH⟩ : ∃ H, H = 1 + h' := ⟨_, rfl⟩
  have G1 : 1 ≤ G := by omega
  have G2 : G ≤ 1099511627776 := by omega
  have H1 : 1 ≤ H := by omega
  have H2 : H ≤ 1099511627776 := by omega
  go_wp2_with fail
  rw [← hG, ← hH]
  clear hG hH g1 g2 h1 h2
  refine (place_any A G _ a1 (by omega)).mono ?_; rintro r w4 ⟨rfl, rfl⟩
  go_wp2_with fail
  refine (place_any B H _ b1 (by omega)).mono ?_; rintro r w4 ⟨rfl, rfl⟩
  obtain ⟨X1, X2⟩ := placeI_bounds A G a1 a2
  obtain ⟨Y1, Y2⟩ := placeI_bounds B H b1 b2
  have hx2 : placeI A (G + 2) = placeI A G := by unfold placeI; omega
  have HX2 := Lib.hid hx2
  clear hx2
  have hrem : (G - H).tmod 2 = 0 ↔ G % 2 = H % 2 := by
    rcases Int.le_total 0 (G - H) with h0 | h0
    · rw [Int.tmod_eq_emod_of_nonneg h0]; omega
    · have e : (G - H).tmod 2 = -((H - G).tmod 2) := by rw [← Int.neg_tmod]; congr 1; omega
      rw [e, Int.tmod_eq_emod_of_nonneg (by omega)]; omega
  have hxy : placeI A G = placeI B H ↔ A = B ∧ G % 2 = H % 2 := by
    unfold placeI
    omega
  by_cases hab : A = B
  · subst hab
    by_cases hgh : (G - H).tmod 2 = 0
    · have e : placeI A H = placeI A G := (hxy.2 ⟨rfl, hrem.1 hgh⟩).symm
      rw [e]
      clear hxy hrem e
      go_wp2_with fail
      refine (known_any W _ _ (allOf_sat W)).mono ?_; rintro r w2 ⟨rfl, hs2⟩
      go_wp2_with fail
      refine (place_any A (G + 2) _ a1 (by omega)).mono ?_; rintro r w4 ⟨rfl, rfl⟩
      rw [HX2.out]
      go_wp2_with fail
      go_ret
      exact ⟨rfl, Sat.below_all (L := []) hs2⟩
    · have e : (placeI A G == placeI A H) = false := by
        have : ¬ placeI A G = placeI A H := fun h => hgh (hrem.2 (hxy.1 h).2)
        simpa using this
      have e2 : ((G - H).tmod 2 == 0) = false := by simpa using hgh
      clear hxy hrem hgh
      go_wp2_with fail
      refine (known_any W _ _ (allOf_sat W)).mono ?_; rintro r w2 ⟨rfl, hs2⟩
      go_wp2_with fail
      refine (place_any A (G + 2) _ a1 (by omega)).mono ?_; rintro r w4 ⟨rfl, rfl⟩
      rw [HX2.out]
      go_wp2_with fail
      go_ret
      exact ⟨rfl, Sat.below_all (L := []) hs2⟩
  · have e : (placeI A G == placeI B H) = false := by
      have : ¬ placeI A G = placeI B H := fun h => hab (hxy.1 h).1
      simpa using this
    have e2 : (A == B) = false := by simpa using hab
    clear hxy hrem hab
    go_wp2_with fail
    refine (known_any W _ _ (allOf_sat W)).mono ?_; rintro r w2 ⟨rfl, hs2⟩
    go_wp2_with fail
    refine (place_any A (G + 2) _ a1 (by omega)).mono ?_; rintro r w4 ⟨rfl, rfl⟩
    rw [HX2.out]
    go_wp2_with fail
    go_ret
    exact ⟨rfl, Sat.below_all (L := []) hs2⟩
end Go.Proofs.Ytdkhgkkdnjejmaa.Ch
