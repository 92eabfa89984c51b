/-
  The ring: Same, the searches.
-/
import Derived.Test.YtdkhgkkdnjejmaaNdF
namespace Go.Proofs.Ytdkhgkkdnjejmaa.Ch
set_option linter.unusedSimpArgs false
open Go Go.RowKit Go.Sl Go.BigFrame
set_option linter.unusedVariables false

noncomputable instance : DecidableEq It := fun _ _ => Classical.propDecidable _
set_option maxRecDepth 100000 in
theorem isame_any (p q : It) (v v2 : Value) (W w : World) (L : List Atom) (hs : Sat W w L) (h1 : ∀ y, Sat W y L → Reads y v p.data.length (bts p.data)) (h2 : ∀ y, Sat W y L → Reads y v2 q.data.length (bts q.data)) (hl : p.data.length < 1000000) (hl2 : q.data.length < 1000000) :
    Calls Try.prog 119 #[itV p v, itV q v2] w fun e w' => e = .returned (.bool (decide (p = q))) ∧ Sat W w' L := by
  obtain ⟨s, g, d⟩ := p
  obtain ⟨s2, g2, d2⟩ := q
  obtain ⟨av, cv, rfl⟩ := reads_shape (h1 w hs)
  obtain ⟨av2, cv2, rfl⟩ := reads_shape (h2 w hs)
  simp only at h1 h2 hl hl2
  unfold itV
  simp only []
  by_cases e1 : s = s2
  case neg =>
    have hne : ¬ (⟨s, g, d⟩ : It) = ⟨s2, g2, d2⟩ := fun h => e1 (by injection h)
    have q0 : (s == s2) = false := by simpa using e1
    rw [decide_eq_false hne]
    clear hne
    have hs2 : Sat W _ L := (hs.alloc (.cells #[.int .i64 s, .int .i64 g, .slice av d.length cv] 141)).alloc (.cells #[.int .i64 s2, .int .i64 g2, .slice av2 d2.length cv2] 141)
    go_enter Try.func119, Try.ntmps119
    go_wp2_with fail
    go_ret
    exact ⟨rfl, hs2⟩
  case pos =>
  subst e1
  by_cases e2 : g = g2
  case neg =>
    have hne : ¬ (⟨s, g, d⟩ : It) = ⟨s, g2, d2⟩ := fun h => e2 (by injection h)
    have q0 : (g == g2) = false := by simpa using e2
    rw [decide_eq_false hne]
    clear hne
    have hs2 : Sat W _ L := (hs.alloc (.cells #[.int .i64 s, .int .i64 g, .slice av d.length cv] 141)).alloc (.cells #[.int .i64 s, .int .i64 g2, .slice av2 d2.length cv2] 141)
    go_enter Try.func119, Try.ntmps119
    go_wp2_with fail
    go_ret
    exact ⟨rfl, hs2⟩
  case pos =>
  subst e2
  have hs2 : Sat W _ L := (hs.alloc (.cells #[.int .i64 s, .int .i64 g, .slice av d.length cv] 141)).alloc (.cells #[.int .i64 s, .int .i64 g, .slice av2 d2.length cv2] 141)
  have heq := equal_any W _ L _ _ d d2 hs2 (h1 _ hs2) (h2 _ hs2) hl hl2
  have he : decide ((⟨s, g, d⟩ : It) = ⟨s, g, d2⟩) = decide (d = d2) := decide_eq_decide.2 ⟨fun h => by injection h, fun h => by rw [h]⟩
  rw [he]
  have HEQ := Lib.hid heq
  clear heq he h1 h2
  go_enter Try.func119, Try.ntmps119
  go_wp2_with fail
  refine HEQ.out.mono ?_; rintro r w5 ⟨rfl, hs5, _⟩
  go_wp2_with fail
  go_ret
  exact ⟨rfl, hs5⟩

set_option maxRecDepth 100000 in
theorem log2_any (s : Sl5) (v : Value) (hv : ∃ a n c, v = .slice a n c) (w : World) :
    Calls Try.prog 121 #[slV s v] w fun e w' => e = .returned (.bool (!s.live)) ∧ Ext w w' := by
  obtain ⟨a, n, c, rfl⟩ := hv
  unfold slV
  go_enter Try.func121, Try.ntmps121
  go_wp2_with fail
  go_ret
  exact ⟨rfl, Ext.alloc _ _⟩

theorem ring_of {b bp : Nat} {xs : List (Sl5 × Value)} {nx : Int} {W w : World} {F : List Atom} (hs : Sat W w (cellsA b (ringC bp xs nx) 160 :: F)) {k : Nat} {s : Sl5} {v : Value} (h : xs[k]? = some (s, v)) :
    w.cell? ⟨b, 1 + k * 5, none⟩ = some (.bool s.live) ∧ w.cell? ⟨b, 1 + k * 5 + 1, none⟩ = some (.int .i64 s.num) ∧ w.cell? ⟨b, 1 + k * 5 + 2, none⟩ = some (.int .i64 s.i.stripe) ∧ w.cell? ⟨b, 1 + k * 5 + 3, none⟩ = some (.int .i64 s.i.gen) ∧ w.cell? ⟨b, 1 + k * 5 + 4, none⟩ = some v :=
  ⟨by rw [hs.cell m0]; exact ring_get h 0 _ rfl, by rw [hs.cell m0]; exact ring_get h 1 _ rfl, by rw [hs.cell m0]; exact ring_get h 2 _ rfl, by rw [hs.cell m0]; exact ring_get h 3 _ rfl, by rw [hs.cell m0]; exact ring_get h 4 _ rfl⟩
/-- The first that is free, or -1. -/
def freeI : List (Sl5 × Value) → Int → Int
  | [], _ => -1
  | x :: xs, k => if x.1.live then freeI xs (k + 1) else k
theorem freeI_step (xs : List (Sl5 × Value)) (k : Nat) (x : Sl5 × Value) (h : xs[k]? = some x) (d : Int) : freeI (xs.drop k) d = if x.1.live then freeI (xs.drop (k + 1)) (d + 1) else d := by
  have e : xs.drop k = x :: xs.drop (k + 1) := by
    have := List.drop_eq_getElem_cons (List.getElem?_eq_some_iff.1 h).1
    rw [this, (List.getElem?_eq_some_iff.1 h).2]
  rw [e]
  rfl

set_option maxRecDepth 100000 in
set_option maxHeartbeats 4000000 in
theorem index_free (b bp : Nat) (xs : List (Sl5 × Value)) (nx : Int) (W w : World) (F : List Atom) (hs : Sat W w (cellsA b (ringC bp xs nx) 160 :: F)) (hl : xs.length = 16) (hsh : ∀ x ∈ xs, ∃ a n c, x.2 = .slice a n c) :
    Calls Try.prog 120 #[.slice (some ⟨b, 1, none⟩) 16 16, .func (.func 121) #[] #[]] w fun e w' => e = .returned (.int .i64 (freeI xs 0)) ∧ Sat W w' (cellsA b (ringC bp xs nx) 160 :: F) := by
  go_enter Try.func120, Try.ntmps120
  go_wp2_with fail
  go_loopw [8] (fun kv wr => ∃ k : Nat, kv = .int .i64 k ∧ k ≤ 16 ∧ freeI xs 0 = freeI (xs.drop k) k ∧ Sat W wr (cellsA b (ringC bp xs nx) 160 :: F)) (fun kv _ => (16 - (intOf kv).toNat))
  case atStart => exact ⟨0, rfl, by omega, rfl, hs⟩
  case round =>
    clear hs
    obtain ⟨k, rfl, hk, hf, hs⟩ := hrel
    have HF := Lib.hid hf
    have k0 : (0 : Int) ≤ k := by omega
    clear hf
    by_cases hkn : k < 16
    · have k1 : (k : Int) < 16 := by omega
      obtain ⟨⟨⟨sl, sn, ⟨ss, sg, sd⟩⟩, v⟩, hx⟩ : ∃ x, xs[k]? = some x := ⟨_, List.getElem?_eq_getElem (by omega)⟩
      obtain ⟨c0, c1, c2, c3, c4⟩ := ring_of hs hx
      obtain ⟨va, vn, vc, hv⟩ := hsh _ (List.mem_of_getElem? hx)
      try simp only at hv
      subst hv
      have hst := freeI_step xs k _ hx k
      have HST := Lib.hid hst
      have hlg := fun w => log2_any ⟨sl, sn, ⟨ss, sg, sd⟩⟩ (.slice va vn vc) ⟨_, _, _, rfl⟩ w
      unfold slV at hlg
      simp only at hlg
      have HLG := Lib.hid hlg
      clear hst hlg hx
      go_wp2_with fail
      refine (HLG.out _).mono ?_; rintro r w2 ⟨rfl, hx2⟩
      have hs2 := hs.below hx2
      clear hx2 c0 c1 c2 c3 c4
      cases sl
      · go_wp2_with fail
        go_ret
        refine ⟨?_, hs2⟩
        rw [HF.out, HST.out]
        rfl
      · go_wp2_with fail
        refine ⟨⟨k + 1, by simp, by omega, ?_, hs2⟩, ?_⟩
        · rw [HF.out, HST.out]
          rfl
        · simp [intOf]
          omega
    · have e : k = 16 := by omega
      subst e
      go_wp2_with fail
      go_ret
      refine ⟨?_, hs⟩
      rw [HF.out, List.drop_eq_nil_of_le (by omega)]
      rfl
end Go.Proofs.Ytdkhgkkdnjejmaa.Ch
