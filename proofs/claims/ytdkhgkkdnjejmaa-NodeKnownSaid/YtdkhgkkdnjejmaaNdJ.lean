/-
  The ring: Release.
-/
import Derived.Test.YtdkhgkkdnjejmaaNdI
import Derived.Deep.MidRow
namespace Go.Proofs.Ytdkhgkkdnjejmaa.Ch
set_option linter.unusedSimpArgs false
open Go Go.RowKit Go.Sl Go.BigFrame
set_option linter.unusedVariables false

/-- The slots, those of an intent made free. -/
noncomputable def relX (xs : List (Sl5 × Value)) (s g : Int) : Nat → List (Sl5 × Value)
  | 0 => xs
  | k + 1 => match xs[k]? with
    | some x => if x.1.live = true ∧ x.1.i.stripe = s ∧ x.1.i.gen = g then (relX xs s g k).set k (sl0, .slice none 0 0) else relX xs s g k
    | none => relX xs s g k
theorem relX_length (xs : List (Sl5 × Value)) (s g : Int) : ∀ k, (relX xs s g k).length = xs.length
  | 0 => rfl
  | k + 1 => by
    unfold relX
    split
    · split
      · rw [List.length_set, relX_length xs s g k]
      · exact relX_length xs s g k
    · exact relX_length xs s g k
theorem relX_rows {B : List Atom} {xs : List (Sl5 × Value)} (h : RowsIn B xs) (s g : Int) : ∀ k, RowsIn B (relX xs s g k)
  | 0 => h
  | k + 1 => by
    unfold relX
    split
    · split
      · exact (relX_rows h s g k).set k (RowIn.nil _)
      · exact relX_rows h s g k
    · exact relX_rows h s g k

theorem slots_range {b bp : Nat} {xs : List (Sl5 × Value)} {nx : Int} {W w : World} {F : List Atom} (hs : Sat W w (cellsA b (ringC bp xs nx) 160 :: F)) : w.rangeAt b 1 (slotsC xs) := fun j v hv => by
  rw [hs.cell m0]
  unfold ringC
  rw [List.getElem?_toArray, show 1 + j = j + 1 by omega, List.getElem?_cons_succ, List.getElem?_append_left (List.getElem?_eq_some_iff.1 hv).1]
  exact hv
theorem infoSlots : (Try.prog.info? 158).map (·.size) = some 80 := by kernel_rfl
theorem slots_extract {xs : List (Sl5 × Value)} : ∀ {k : Nat} {s : Sl5} {v : Value}, xs[k]? = some (s, v) → (slotsC xs).toArray.extract (k * 5) (k * 5 + 5) = (slCells s v).toArray := by
  intro k s v h
  have hk := (List.getElem?_eq_some_iff.1 h).1
  have hl := slotsC_length xs
  apply Array.ext_getElem?
  intro i
  by_cases hi : i < 5
  · have h1 : ∃ u, (slCells s v)[i]? = some u := ⟨_, List.getElem?_eq_getElem (by exact hi)⟩
    obtain ⟨u, hu⟩ := h1
    have hg := List.getElem?_eq_some_iff.1 (slotsC_get h i u hu)
    rw [Array.getElem?_extract_of_lt (by simp; omega), List.getElem?_toArray, hu]
    congr 1
    simpa using hg.2
  · rw [Array.getElem?_eq_none (by simp; omega), List.getElem?_toArray, List.getElem?_eq_none (by show 5 ≤ i; omega)]
theorem slot_index {xs : List (Sl5 × Value)} {k : Nat} {s : Sl5} {v : Value} (h : xs[k]? = some (s, v)) (hk : k < 16) (w : World) : (Instr.index 158 (.agg (slotsC xs).toArray) (.int .i64 k)).run Try.prog w = .ok (slV s v) w := by
  have hx := slots_extract h
  have hs5 : (sizeOf 157).run Try.prog w = .ok 5 w := by kernel_rfl
  have hag : (isAgg 157).run Try.prog w = .ok true w := by kernel_rfl
  have k0 : (0 : Int) ≤ k ∧ (k : Int) < 16 := by omega
  have hpt : (part 157 (slotsC xs).toArray (k * 5)).run Try.prog w = .ok (slV s v) w := by
    unfold part
    rw [Sem.run_bind, hag]
    simp only [Result.andThen_ok, if_true]
    rw [Sem.run_bind, hs5]
    simp only [Result.andThen_ok]
    rw [hx]
    rfl
  have e : ((k : Int)).toNat = k := by omega
  simp only [Instr.index, asIntOf, Sem.run_bind, Sem.run_pure, Result.andThen_ok, run_underlying Try.underlying158]
  rw [if_pos (show (0 : Int) ≤ k ∧ (k : Int) < ((16 : Nat) : Int) by omega)]
  rw [Sem.run_bind, hs5]
  simp only [Result.andThen_ok]
  rw [e]
  exact hpt

set_option maxRecDepth 100000 in
set_option maxHeartbeats 4000000 in
theorem release_any (b bp : Nat) (xs : List (Sl5 × Value)) (nx : Int) (B : List Atom) (s g : Int) (W w : World) (L : List Atom) (hri : RowsIn B xs) (hxl : xs.length = 16) (hs : Sat W w (cellsA b (ringC bp xs nx) 160 :: (B ++ L))) :
    Calls Try.prog 101 #[.pointer (some ⟨b, 0, none⟩), .int .i64 s, .int .i64 g] w fun e w' => ∃ n : Int, e = .returned (.int .i64 n) ∧ Sat W w' (cellsA b (ringC bp (relX xs s g 16) nx) 160 :: (B ++ L)) := by
  have HRI := Lib.hid hri
  have HXL := Lib.hid hxl
  clear hri hxl
  go_enter Try.func101, Try.ntmps101
  go_wp2_with fail
  refine wp_load_mid 158 _ rfl b 1 rfl (slotsC xs) _ (slots_range hs) Try.underlying158 rfl (by rw [slotsC_length, HXL.out]; exact infoSlots) ?_
  simp only [Act.put, List.setIfInBounds_toArray, List.set_cons_zero, List.set_cons_succ]
  generalize hav : (Value.agg (slotsC xs).toArray) = av at *
  have HAV := Lib.hid hav
  clear hav
  go_wp2_with fail
  go_loopw [14, 7] (fun kv nv wr => ∃ (k : Nat) (n : Int), kv = .int .i64 k ∧ nv = .int .i64 n ∧ 0 ≤ n ∧ n ≤ k ∧ k ≤ 16 ∧ Sat W wr (cellsA b (ringC bp (relX xs s g k) nx) 160 :: (B ++ L))) (fun kv _ _ => (16 - (intOf kv).toNat))
  case atStart => exact ⟨0, 0, rfl, rfl, by omega, by omega, by omega, hs⟩
  case round =>
    clear hs
    obtain ⟨k, n, rfl, rfl, n0, nk, hk, hs⟩ := hrel
    have k0 : (0 : Int) ≤ k := by omega
    by_cases hkn : k < 16
    · have k1 : (k : Int) < 16 := by omega
      obtain ⟨⟨⟨sl, sn, ⟨ss, sg, sd⟩⟩, v⟩, hx⟩ : ∃ x, xs[k]? = some x := ⟨_, List.getElem?_eq_getElem (by have := HXL.out; omega)⟩
      obtain ⟨va, vc, hv⟩ := (HRI.out _ (List.mem_of_getElem? hx)).shape
      try simp only at hv
      subst hv
      have hix := slot_index hx hkn
      rw [HAV.out] at hix
      unfold slV at hix
      simp only at hix
      have hrx : relX xs s g (k + 1) = if sl = true ∧ ss = s ∧ sg = g then (relX xs s g k).set k (sl0, .slice none 0 0) else relX xs s g k := by
        rw [relX, hx]
      have HRX := Lib.hid hrx
      have hrl : (relX xs s g k).length = 16 := by rw [relX_length, HXL.out]
      have HRL := Lib.hid hrl
      clear hrx hx hrl
      by_cases hq : sl = true ∧ ss = s ∧ sg = g
      · rw [if_pos hq] at HRX
        obtain ⟨rfl, rfl, rfl⟩ := hq
        obtain ⟨⟨⟨ol, on, ⟨os, og, od⟩⟩, ov⟩, hxk⟩ : ∃ y, (relX xs ss sg k)[k]? = some y := ⟨_, List.getElem?_eq_getElem (by rw [HRL.out]; exact hkn)⟩
        have hsn := Sat.use (M := cellsA b (ringC bp (relX xs ss sg k) nx) 160 :: (B ++ L)) (hs.newCells #[.bool true, .int .i64 sn, .int .i64 ss, .int .i64 sg, .slice va sd.length vc] 157) (by intro x; simp only [cnt_append, cnt_cons, cnt_nil]; omega)
        obtain ⟨e0, e1, e2, e3, e4⟩ := ring_of hsn hxk
        have f0 := hsn.free m0 (1 + k * 5)
        have f1 := hsn.free m0 (1 + k * 5 + 1)
        have f2 := hsn.free m0 (1 + k * 5 + 2)
        have f3 := hsn.free m0 (1 + k * 5 + 3)
        have f4 := hsn.free m0 (1 + k * 5 + 4)
        have hz := Sat.setCell (Sat.setCell (Sat.setCell (Sat.setCell (Sat.setCell hsn (1 + k * 5) (.bool false)) (1 + k * 5 + 1) (.int .i64 0)) (1 + k * 5 + 2) (.int .i64 0)) (1 + k * 5 + 3) (.int .i64 0)) (1 + k * 5 + 4) (.slice none 0 0)
        have hrs : (((((ringC bp (relX xs ss sg k) nx).setIfInBounds (1 + k * 5) (.bool false)).setIfInBounds (1 + k * 5 + 1) (.int .i64 0)).setIfInBounds (1 + k * 5 + 2) (.int .i64 0)).setIfInBounds (1 + k * 5 + 3) (.int .i64 0)).setIfInBounds (1 + k * 5 + 4) (.slice none 0 0) = ringC bp ((relX xs ss sg k).set k (sl0, .slice none 0 0)) nx := ring_set sl0 (.slice none 0 0) (by rw [HRL.out]; exact hkn)
        rw [hrs, ← HRX.out] at hz
        clear hrs
        clear hs hsn hxk
        go_wp2_with fail
        refine ⟨⟨k + 1, n + 1, by simp, rfl, by omega, by omega, by omega, hz⟩, ?_⟩
        simp [intOf]
        omega
      · rw [if_neg hq] at HRX
        have hsn := hs.alloc (.cells #[.bool sl, .int .i64 sn, .int .i64 ss, .int .i64 sg, .slice va sd.length vc] 157)
        rw [← HRX.out] at hsn
        clear hs
        cases sl
        · go_wp2_with fail
          refine ⟨⟨k + 1, n, by simp, rfl, by omega, by omega, by omega, hsn⟩, ?_⟩
          simp [intOf]
          omega
        · by_cases h1 : ss = s
          · subst h1
            have h2 : (sg == g) = false := by
              have : ¬ sg = g := fun h => hq ⟨rfl, rfl, h⟩
              simpa using this
            clear hq
            go_wp2_with fail
            refine ⟨⟨k + 1, n, by simp, rfl, by omega, by omega, by omega, hsn⟩, ?_⟩
            simp [intOf]
            omega
          · have h2 : (ss == s) = false := by simpa using h1
            clear hq h1
            go_wp2_with fail
            refine ⟨⟨k + 1, n, by simp, rfl, by omega, by omega, by omega, hsn⟩, ?_⟩
            simp [intOf]
            omega
    · have e : k = 16 := by omega
      subst e
      go_wp2_with fail
      go_ret
      exact ⟨n, rfl, hs⟩
end Go.Proofs.Ytdkhgkkdnjejmaa.Ch
