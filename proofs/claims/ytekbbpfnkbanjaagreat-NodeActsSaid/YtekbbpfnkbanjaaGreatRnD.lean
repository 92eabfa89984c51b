
/-
  The document's ring: Release; SameIntent, SameIntents.
-/
import Derived.Test.YtekbbpfnkbanjaaGreatRnC
namespace Go.Proofs.YtekbbpfnkbanjaaGreat.Ch
open Go Go.RowKit Go.Sl Go.BigFrame
set_option linter.unusedVariables false
set_option linter.unusedSimpArgs false

theorem relX_rest (xs : List (Sl5 × Value)) (s g : Int) : ∀ (k j : Nat), k ≤ j → (relX xs s g k)[j]? = xs[j]?
  | 0, j, _ => rfl
  | k + 1, j, h => by
    unfold relX
    split
    · split
      · rw [List.getElem?_set_ne (by omega)]
        exact relX_rest xs s g k j (by omega)
      · exact relX_rest xs s g k j (by omega)
    · exact relX_rest xs s g k j (by omega)
set_option maxRecDepth 100000 in
set_option maxHeartbeats 4000000 in
theorem ref_release (b bp : Nat) (xs : List (Sl5 × Value)) (nx : Int) (B : List Atom) (s g : Int) (W w : World) (L : List Atom) (hxl : xs.length = 16) (hok : ∀ x ∈ xs, SlOk x.1) (hs : Sat W w (cellsA b (rringC bp xs nx) 96 :: L)) :
    Calls Tryz.prog 40 #[.pointer (some ⟨b, 0, none⟩), .int .i64 s, .int .i64 g] w fun e w' => ∃ n : Int, e = .returned (.int .i64 n) ∧ Sat W w' (cellsA b (rringC bp (relX xs s g 16) nx) 96 :: L) := by
  have HXL := Lib.hid hxl
  have HOK := Lib.hid hok
  clear hxl hok
  go_enter Tryz.func40, Tryz.ntmps40
  go_wp2_with fail
  go_loopw [8, 7] (fun kv nv wr => ∃ (k : Nat) (n : Int), kv = .int .i64 k ∧ nv = .int .i64 n ∧ 0 ≤ n ∧ n ≤ k ∧ k ≤ 16 ∧ Sat W wr (cellsA b (rringC bp (relX xs s g k) nx) 96 :: L)) (fun kv _ _ => (16 - (intOf kv).toNat))
  case atStart => exact ⟨0, 0, rfl, rfl, by omega, by omega, by omega, hs⟩
  case round =>
    clear hs
    obtain ⟨k, n, rfl, rfl, n0, nk, hk, hs⟩ := hrel
    have k0 : (0 : Int) ≤ k := by omega
    by_cases hkn : k < 16
    · have k1 : (k : Int) < 16 := by omega
      obtain ⟨⟨⟨sl, sn, ⟨ss, sg, sd⟩⟩, v⟩, hx⟩ : ∃ x, xs[k]? = some x := ⟨_, List.getElem?_eq_getElem (by have := HXL.out; omega)⟩
      have hso := HOK.out _ (List.mem_of_getElem? hx)
      simp only at hso
      have hrk : (relX xs s g k)[k]? = some (⟨sl, sn, ⟨ss, sg, sd⟩⟩, v) := by rw [relX_rest xs s g k k (Nat.le_refl _)]; exact hx
      have hrx : relX xs s g (k + 1) = if sl = true ∧ ss = s ∧ sg = g then (relX xs s g k).set k (sl0, .slice none 0 0) else relX xs s g k := by
        rw [relX, hx]
      have HRX := Lib.hid hrx
      have hrl : (relX xs s g k).length = 16 := by rw [relX_length, HXL.out]
      have HRL := Lib.hid hrl
      have e0 : wr.cell? ⟨b, 1 + k * 4, none⟩ = some (.int .i64 sn) := by rw [hs.cell m0]; exact rring_get hrk 0 _ rfl
      have e1 : wr.cell? ⟨b, 1 + k * 4 + 1, none⟩ = some (.int .i64 ss) := by rw [hs.cell m0]; exact rring_get hrk 1 _ rfl
      have e2 : wr.cell? ⟨b, 1 + k * 4 + 2, none⟩ = some (.int .i64 sg) := by rw [hs.cell m0]; exact rring_get hrk 2 _ rfl
      have e3 : wr.cell? ⟨b, 1 + k * 4 + 3, none⟩ = some v := by rw [hs.cell m0]; exact rring_get hrk 3 _ rfl
      clear hrx hx hrl hrk
      by_cases hl : sl = true
      · subst hl
        have h1 : 0 < sn := by
          rcases hso with h | ⟨_, h, _⟩
          · cases h
          · simp only at h; omega
        clear hso
        by_cases h2 : ss = s
        · subst h2
          by_cases h3 : sg = g
          · subst h3
            rw [if_pos ⟨rfl, rfl, rfl⟩] at HRX
            have f0 := hs.free m0 (1 + k * 4)
            have f1 := hs.free m0 (1 + k * 4 + 1)
            have f2 := hs.free m0 (1 + k * 4 + 2)
            have f3 := hs.free m0 (1 + k * 4 + 3)
            have hz := Sat.setCell (Sat.setCell (Sat.setCell (Sat.setCell hs (1 + k * 4) (.int .i64 0)) (1 + k * 4 + 1) (.int .i64 0)) (1 + k * 4 + 2) (.int .i64 0)) (1 + k * 4 + 3) (.slice none 0 0)
            have hrs : ((((rringC bp (relX xs ss sg k) nx).setIfInBounds (1 + k * 4) (.int .i64 0)).setIfInBounds (1 + k * 4 + 1) (.int .i64 0)).setIfInBounds (1 + k * 4 + 2) (.int .i64 0)).setIfInBounds (1 + k * 4 + 3) (.slice none 0 0) = rringC bp ((relX xs ss sg k).set k (sl0, .slice none 0 0)) nx := rring_set sl0 (.slice none 0 0) (by rw [HRL.out]; exact hkn)
            rw [hrs, ← HRX.out] at hz
            clear hrs hs
            go_wp2_with fail
            refine ⟨⟨k + 1, n + 1, by simp, rfl, by omega, by omega, by omega, hz⟩, ?_⟩
            simp [intOf]
            omega
          · rw [if_neg (fun h => h3 h.2.2)] at HRX
            have q : (sg == g) = false := by simpa using h3
            clear h3
            rw [← HRX.out] at hs
            go_wp2_with fail
            refine ⟨⟨k + 1, n, by simp, rfl, by omega, by omega, by omega, hs⟩, ?_⟩
            simp [intOf]
            omega
        · rw [if_neg (fun h => h2 h.2.1)] at HRX
          have q : (ss == s) = false := by simpa using h2
          clear h2
          rw [← HRX.out] at hs
          go_wp2_with fail
          refine ⟨⟨k + 1, n, by simp, rfl, by omega, by omega, by omega, hs⟩, ?_⟩
          simp [intOf]
          omega
      · rw [if_neg (fun h => hl h.1)] at HRX
        have h1 : sn = 0 := by
          rcases hso with h | ⟨h, _⟩
          · injection h
          · exact absurd h hl
        subst h1
        clear hl hso
        rw [← HRX.out] at hs
        go_wp2_with fail
        refine ⟨⟨k + 1, n, by simp, rfl, by omega, by omega, by omega, hs⟩, ?_⟩
        simp [intOf]
        omega
    · have e : k = 16 := by omega
      subst e
      go_wp2_with fail
      go_ret
      exact ⟨n, rfl, hs⟩

set_option maxRecDepth 100000 in
theorem ref_sameI (p q : It) (v v2 : Value) (W w : World) (L : List Atom) (hs : Sat W w L) (h1 : ∀ y, Sat W y L → Reads y v p.data.length (bts p.data)) (h2 : ∀ y, Sat W y L → Reads y v2 q.data.length (bts q.data)) :
    Calls Tryz.prog 51 #[itV p v, itV q v2] w fun e w' => e = .returned (.bool (decide (p = q))) ∧ Sat W w' L := by
  obtain ⟨s, g, d⟩ := p
  obtain ⟨s2, g2, d2⟩ := q
  obtain ⟨av, cv, rfl⟩ := reads_shape (h1 w hs)
  obtain ⟨av2, cv2, rfl⟩ := reads_shape (h2 w hs)
  simp only at h1 h2
  unfold itV
  simp only []
  by_cases e1 : s = s2
  case neg =>
    have hne : ¬ (⟨s, g, d⟩ : It) = ⟨s2, g2, d2⟩ := fun h => e1 (by injection h)
    have q0 : (s == s2) = false := by simpa using e1
    rw [decide_eq_false hne]
    clear hne
    have hs2 : Sat W _ L := (hs.alloc (.cells #[.int .i64 s, .int .i64 g, .slice av d.length cv] 77)).alloc (.cells #[.int .i64 s2, .int .i64 g2, .slice av2 d2.length cv2] 77)
    go_enter Tryz.func51, Tryz.ntmps51
    go_wp2_with fail
    go_ret
    exact ⟨rfl, hs2⟩
  case pos =>
  subst e1
  by_cases e2 : g = g2
  case neg =>
    have hne : ¬ (⟨s, g, d⟩ : It) = ⟨s, g2, d2⟩ := fun h => e2 (by injection h)
    have q0 : (g == g2) = false := by simpa using e2
    rw [decide_eq_false hne]
    clear hne
    have hs2 : Sat W _ L := (hs.alloc (.cells #[.int .i64 s, .int .i64 g, .slice av d.length cv] 77)).alloc (.cells #[.int .i64 s, .int .i64 g2, .slice av2 d2.length cv2] 77)
    go_enter Tryz.func51, Tryz.ntmps51
    go_wp2_with fail
    go_ret
    exact ⟨rfl, hs2⟩
  case pos =>
  subst e2
  have hs2 : Sat W _ L := (hs.alloc (.cells #[.int .i64 s, .int .i64 g, .slice av d.length cv] 77)).alloc (.cells #[.int .i64 s, .int .i64 g, .slice av2 d2.length cv2] 77)
  have he : decide ((⟨s, g, d⟩ : It) = ⟨s, g, d2⟩) = (d == d2) := by
    by_cases h : d = d2
    · rw [decide_eq_true (by rw [h]), h]; simp
    · rw [decide_eq_false (fun e => h (by injection e))]
      exact (beq_eq_false_iff_ne.2 h).symm
  rw [he]
  have hc1 := str_of _ d _ (h1 _ hs2)
  have hc2 := str_of _ d2 _ (h2 _ hs2)
  clear he h1 h2
  go_enter Tryz.func51, Tryz.ntmps51
  go_wp2_with fail
  go_ret
  exact ⟨rfl, hs2⟩
end Go.Proofs.YtekbbpfnkbanjaaGreat.Ch
