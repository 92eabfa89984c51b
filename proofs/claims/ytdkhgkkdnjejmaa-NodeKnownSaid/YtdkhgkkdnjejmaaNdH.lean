/-
  The ring: is it there already; Release.
-/
import Derived.Test.YtdkhgkkdnjejmaaNdG
namespace Go.Proofs.Ytdkhgkkdnjejmaa.Ch
set_option linter.unusedSimpArgs false
open Go Go.RowKit Go.Sl Go.BigFrame
set_option linter.unusedVariables false

set_option maxRecDepth 100000 in
theorem log1_any (z : Nat) (i0 : It) (v0 : Value) (s : Sl5) (v : Value) (W w : World) (L : List Atom) (hs : Sat W w L) (hm : cellsA z #[.int .i64 i0.stripe, .int .i64 i0.gen, v0] 141 ∈ L)
    (h0 : ∀ y, Sat W y L → Reads y v0 i0.data.length (bts i0.data)) (h1 : ∀ y, Sat W y L → Reads y v s.i.data.length (bts s.i.data)) (hl0 : i0.data.length < 1000000) (hl : s.i.data.length < 1000000) :
    Calls Try.prog 118 #[slV s v, .pointer (some ⟨z, 0, none⟩)] w fun e w' => e = .returned (.bool (decide (s.live = true ∧ s.i = i0))) ∧ Sat W w' L := by
  obtain ⟨av0, cv0, rfl⟩ := reads_shape (h0 w hs)
  obtain ⟨av, cv, rfl⟩ := reads_shape (h1 w hs)
  obtain ⟨sl, sn, ⟨ss, sg, sd⟩⟩ := s
  obtain ⟨i0s, i0g, i0d⟩ := i0
  simp only at h0 h1 hl0 hl hm
  unfold slV
  simp only []
  have hs2 := hs.newCells #[.bool sl, .int .i64 sn, .int .i64 ss, .int .i64 sg, .slice av sd.length cv] 157
  cases sl
  · rw [decide_eq_false (fun h => absurd h.1 (by decide))]
    clear hm h0 h1
    go_enter Try.func118, Try.ntmps118
    go_wp2_with fail
    go_ret
    exact ⟨rfl, hs2.tail⟩
  · rw [show decide (true = true ∧ (⟨ss, sg, sd⟩ : It) = ⟨i0s, i0g, i0d⟩) = decide ((⟨ss, sg, sd⟩ : It) = ⟨i0s, i0g, i0d⟩) from decide_eq_decide.2 ⟨fun h => h.2, fun h => ⟨rfl, h⟩⟩]
    have e0 : w.cell? ⟨z, 0, none⟩ = some (.int .i64 i0s) := hs.cell hm 0
    have e1 : w.cell? ⟨z, 1, none⟩ = some (.int .i64 i0g) := hs.cell hm 1
    have e2 : w.cell? ⟨z, 2, none⟩ = some (.slice av0 i0d.length cv0) := hs.cell hm 2
    have hzw : z < w.heap.size := hs.lt hm
    have hsm := isame_any ⟨ss, sg, sd⟩ ⟨i0s, i0g, i0d⟩ _ _ W _ L hs2.tail h1 h0 hl hl0
    generalize decide ((⟨ss, sg, sd⟩ : It) = ⟨i0s, i0g, i0d⟩) = dd at *
    unfold itV at hsm
    simp only at hsm
    have HSM := Lib.hid hsm
    clear hsm hs hs2 h0 h1 hm
    go_enter Try.func118, Try.ntmps118
    go_wp2_with fail
    refine HSM.out.mono ?_; rintro r w5 ⟨rfl, hs5⟩
    go_wp2_with fail
    go_ret
    exact ⟨rfl, hs5⟩

/-- Is the intent live among them? -/
def liveIn (xs : List (Sl5 × Value)) (i0 : It) : Prop := ∃ x ∈ xs, x.1.live = true ∧ x.1.i = i0
set_option maxRecDepth 100000 in
set_option maxHeartbeats 4000000 in
theorem contains_same (b bp z : Nat) (i0 : It) (v0 : Value) (xs : List (Sl5 × Value)) (nx : Int) (W w : World) (F : List Atom) (hs : Sat W w (cellsA b (ringC bp xs nx) 160 :: F)) (hl : xs.length = 16) (hm : cellsA z #[.int .i64 i0.stripe, .int .i64 i0.gen, v0] 141 ∈ F)
    (h0 : ∀ y, Sat W y F → Reads y v0 i0.data.length (bts i0.data)) (h1 : ∀ y, Sat W y F → ∀ x ∈ xs, Reads y x.2 x.1.i.data.length (bts x.1.i.data)) (hl0 : i0.data.length < 1000000) (hl1 : ∀ x ∈ xs, x.1.i.data.length < 1000000) :
    Calls Try.prog 117 #[.slice (some ⟨b, 1, none⟩) 16 16, .func (.func 118) #[] #[.pointer (some ⟨z, 0, none⟩)]] w fun e w' => ∃ c : Bool, (c = true ↔ liveIn xs i0) ∧ e = .returned (.bool c) ∧ Sat W w' (cellsA b (ringC bp xs nx) 160 :: F) := by
  have hix : Calls Try.prog 120 #[.slice (some ⟨b, 1, none⟩) 16 16, .func (.func 118) #[] #[.pointer (some ⟨z, 0, none⟩)]] w fun e w' => ∃ k : Int, (0 ≤ k ↔ liveIn xs i0) ∧ e = .returned (.int .i64 k) ∧ Sat W w' (cellsA b (ringC bp xs nx) 160 :: F) := by
    go_enter Try.func120, Try.ntmps120
    go_wp2_with fail
    go_loopw [8] (fun kv wr => ∃ k : Nat, kv = .int .i64 k ∧ k ≤ 16 ∧ (∀ x ∈ xs.take k, ¬ (x.1.live = true ∧ x.1.i = i0)) ∧ Sat W wr (cellsA b (ringC bp xs nx) 160 :: F)) (fun kv _ => (16 - (intOf kv).toNat))
    case atStart => exact ⟨0, rfl, by omega, (fun x hx => by simp at hx), hs⟩
    case round =>
      clear hs
      obtain ⟨k, rfl, hk, hf, hs⟩ := hrel
      have HF := Lib.hid hf
      have k0 : (0 : Int) ≤ k := by omega
      clear hf
      by_cases hkn : k < 16
      · have k1 : (k : Int) < 16 := by omega
        obtain ⟨⟨⟨sl, sn, ⟨ss, sg, sd⟩⟩, v⟩, hx⟩ : ∃ x, xs[k]? = some x := ⟨_, List.getElem?_eq_getElem (by omega)⟩
        obtain ⟨c0, c1, c2, c3, c4⟩ := ring_of hs hx
        have hmx := List.mem_of_getElem? hx
        have hrx := fun y hy => h1 y hy _ hmx
        have hlx := hl1 _ hmx
        simp only at hrx hlx
        obtain ⟨va, vc, rfl⟩ := reads_shape (hrx wr hs.tail)
        have hlg := log1_any z i0 v0 ⟨sl, sn, ⟨ss, sg, sd⟩⟩ (.slice va sd.length vc) W wr _ hs (.tail _ hm) (fun y hy => h0 y hy.tail) (fun y hy => hrx y hy.tail) hl0 hlx
        unfold slV at hlg
        simp only at hlg
        have HLG := Lib.hid hlg
        have HX := Lib.hid hx
        have H0 := Lib.hid h0
        have H1 := Lib.hid h1
        have HM := Lib.hid hm
        clear hlg hx h0 h1 hm hrx
        go_wp2_with fail
        refine HLG.out.mono ?_; rintro r w2 ⟨rfl, hs2⟩
        clear c0 c1 c2 c3 c4 hs
        by_cases hq : sl = true ∧ (⟨ss, sg, sd⟩ : It) = i0
        · rw [decide_eq_true hq]
          have HQ := Lib.hid hq
          clear hq
          go_wp2_with fail
          go_ret
          refine ⟨k, ⟨fun _ => ⟨_, hmx, HQ.out⟩, fun _ => k0⟩, rfl, hs2⟩
        · rw [decide_eq_false hq]
          have HQ := Lib.hid hq
          clear hq
          go_wp2_with fail
          refine ⟨⟨k + 1, by simp, by omega, ?_, hs2⟩, ?_⟩
          · intro x hx
            rw [take_snoc HX.out, List.mem_append, List.mem_singleton] at hx
            rcases hx with hx | rfl
            · exact HF.out x hx
            · exact HQ.out
          · simp [intOf]
            omega
      · have e : k = 16 := by omega
        subst e
        go_wp2_with fail
        go_ret
        have h := HF.out
        rw [List.take_of_length_le (by omega)] at h
        exact ⟨-1, ⟨fun h2 => absurd h2 (by decide), fun ⟨x, hx, hq⟩ => absurd hq (h x hx)⟩, rfl, hs⟩
  have HIX := Lib.hid hix
  clear hix hs h0 h1 hm
  go_enter Try.func117, Try.ntmps117
  go_wp2_with fail
  refine HIX.out.mono ?_; rintro r w2 ⟨k, hk, rfl, hs2⟩
  go_wp2_with fail
  go_ret
  exact ⟨decide (0 ≤ k), by simpa using hk, rfl, hs2⟩
end Go.Proofs.Ytdkhgkkdnjejmaa.Ch
