/-
  slices.Grow of nothing and slices.Concat at bytes.
-/
import Derived.Test.YtdkhgkkdnjejmaaChH
import Derived.Lib.AppendZeros
namespace Go.Proofs.Ytdkhgkkdnjejmaa.Ch
set_option linter.unusedSimpArgs false
open Go Go.RowKit Go.Sl Go.BigFrame
set_option linter.unusedVariables false

theorem append_none {W w : World} {L : List Atom} (ty : TypeId) (n : Nat) (h0 : 0 < n) (hn : n < 1000000) (hs : Sat W w L) :
    ∃ g c w', (Builtin.append_ #[32, 3] ty #[.slice none 0 0, .int .i64 n]).run Try.prog w = .ok (.slice (some ⟨g, 0, none⟩) n c) w' ∧ 0 ≤ c ∧ c ≤ maxLen ∧ Sat W w' ([(g, rowP 5 0 (c * 1) [])] ++ L) := by
  obtain ⟨i0, hi, hz0, hz1, hz2⟩ := info_parts infoU8
  have hr := Lib.run_append_nil_zeros (P := Try.prog) w 32 3 ty 5 i0 (.int .u8 0) .i64 .i64 Try.underlying32 Try.underlying3 hi hz0 n h0 (by rw [hz1]; decide) (by omega) (by rw [hz2]; omega)
  have hge := grownCap_ge w n 0 5
  have hcm : grownCap w n 0 5 ≤ maxLen := grownCap_le_maxLen w n 0 5 (by unfold maxLen; omega)
  refine ⟨_, _, _, hr, Nat.zero_le _, hcm, hs.drew.new _ ⟨_, rfl, ?_, by simp, by simp⟩⟩
  have e : (Value.int .u8 0).cells.size = 1 := rfl
  simp only [Array.size_append, size_zeroCells, e]
  omega

set_option maxRecDepth 100000 in
theorem grow_none (n : Nat) (W w : World) (L : List Atom) (hn : n < 1000000) (hs : Sat W w L) :
    Calls Try.prog 92 #[.slice none 0 0, .int .i64 n] w fun e w' => ∃ v R, e = .returned v ∧ RowA 5 1 v ([] : List UInt8).length (bts []) R ∧ Sat W w' (R ++ L) := by
  rcases Nat.eq_zero_or_pos n with rfl | h0
  · go_enter Try.func92, Try.ntmps92
    go_wp2_with fail
    go_ret
    exact ⟨_, _, rfl, RowA.nil _ _, hs⟩
  · have h1 : (0 : Int) < n := by omega
    have h2 : (n : Int) < 1000000 := by omega
    obtain ⟨g, c, w', ha, hc0, hc, hs'⟩ := append_none 32 n h0 hn hs
    have q2 : (0 : Int) ≤ c := by omega
    obtain ⟨x, hx⟩ : ∃ x : Int, x = n := ⟨_, rfl⟩
    rw [← hx] at ha h1 h2
    rw [← hx]
    clear hx
    have HA := Lib.hid ha
    have HC := Lib.hid hc
    clear hs ha hc hc0 hn h0
    go_enter Try.func92, Try.ntmps92
    go_wp2_with (at_builtin; refine wpList_plain rfl (fun K hK => ?_); refine wp_append rfl HA.out ?_; refine hK _ _ ?_; simp only [Act.put, List.setIfInBounds_toArray, List.set_cons_zero, List.set_cons_succ]; clear hK)
    go_ret
    exact ⟨_, _, rfl, ⟨by simp [bts], .inr ⟨_, _, _, rfl, Nat.zero_le _, HC.out, rfl⟩⟩, hs'⟩

/-- Values that are slices of bytes, each as it reads. -/
def Vals (y : World) : List Value → List (List UInt8) → Prop
  | [], [] => True
  | v :: vs, l :: ls => Reads y v l.length (bts l) ∧ Vals y vs ls
  | _, _ => False
theorem Vals.at {y : World} : ∀ {vs : List Value} {ls : List (List UInt8)}, Vals y vs ls → ∀ (k : Nat) (v : Value), vs[k]? = some v → ∃ l, ls[k]? = some l ∧ Reads y v l.length (bts l)
  | [], [], _, k, v, h => by simp at h
  | w :: vs, l :: ls, h, 0, v, hv => by
    simp at hv
    subst hv
    exact ⟨l, rfl, h.1⟩
  | w :: vs, l :: ls, h, k + 1, v, hv => by
    obtain ⟨l', h1, h2⟩ := Vals.at h.2 k v (by simpa using hv)
    exact ⟨l', by simpa using h1, h2⟩
  | [], _ :: _, h, _, _, _ => h.elim
  | _ :: _, [], h, _, _, _ => h.elim
theorem Vals.len {y : World} : ∀ {vs : List Value} {ls : List (List UInt8)}, Vals y vs ls → vs.length = ls.length
  | [], [], _ => rfl
  | _ :: vs, _ :: ls, h => by simp [Vals.len h.2]
  | [], _ :: _, h => h.elim
  | _ :: _, [], h => h.elim
theorem reads_shape {w : World} {v : Value} {n : Nat} {xs : List Value} (h : Reads w v n xs) : ∃ a c, v = .slice a n c := by
  rcases h with ⟨h1, h2, _⟩ | ⟨a, c, h1, _⟩
  · exact ⟨_, _, by rw [h1, h2]⟩
  · exact ⟨_, _, h1⟩
theorem flat_take_snoc {ls : List (List UInt8)} {k : Nat} {l : List UInt8} (h : ls[k]? = some l) : (ls.take (k + 1)).flatten = (ls.take k).flatten ++ l := by
  rw [take_snoc h]; simp
theorem flat_take_le (ls : List (List UInt8)) (k : Nat) : (ls.take k).flatten.length ≤ ls.flatten.length := by
  have : ls.flatten.length = (ls.take k).flatten.length + (ls.drop k).flatten.length := by
    rw [← List.length_append, ← List.flatten_append, List.take_append_drop]
  omega

set_option maxRecDepth 100000 in
set_option maxHeartbeats 4000000 in
theorem concat_any (W w : World) (L : List Atom) (sv : Value) (vs : List Value) (ls : List (List UInt8)) (hs : Sat W w L) (hsv : ∀ y, Sat W y L → Reads y sv vs.length vs) (hvs : ∀ y, Sat W y L → Vals y vs ls) (hb : ls.flatten.length < 1000000) (hv1 : vs.length < 1000000) :
    Calls Try.prog 67 #[sv] w fun e w' => ∃ v R, e = .returned v ∧ RowA 5 1 v ls.flatten.length (bts ls.flatten) R ∧ Sat W w' (R ++ L) := by
  obtain ⟨a1, c1, rfl⟩ := reads_shape (hsv w hs)
  have HSV := Lib.hid hsv
  have HVS := Lib.hid hvs
  obtain ⟨n, hn⟩ : ∃ n, n = vs.length := ⟨_, rfl⟩
  have HN := Lib.hid hn
  rw [← hn] at hv1
  rw [← hn]
  have hlen : ls.length = n := by rw [hn, (hvs w hs).len]
  have HLEN := Lib.hid hlen
  clear hsv hvs hn hlen
  go_enter Try.func67, Try.ntmps67
  go_wp2_with fail
  go_loop [11, 3] (fun kv hv => ∃ (k : Nat) (z : Int), kv = .int .i64 k ∧ k ≤ n ∧ hv = .int .i64 z ∧ z = (ls.take k).flatten.length) (fun kv _ => (n - (intOf kv).toNat))
  case atStart => exact ⟨0, 0, rfl, Nat.zero_le _, rfl, rfl⟩
  case round =>
    obtain ⟨k, z, rfl, hk, rfl, hz⟩ := hrel
    have hzle := flat_take_le ls k
    have z0 : 0 ≤ z := by omega
    have z1 : z < 1000000 := by omega
    have k0 : (0 : Int) ≤ k := by omega
    by_cases hkn : k < n
    · have k1 : (k : Int) < n := by omega
      obtain ⟨v, hv⟩ : ∃ v, vs[k]? = some v := ⟨_, List.getElem?_eq_getElem (by have := HN.out; omega)⟩
      obtain ⟨l, hl, hrv⟩ := (HVS.out w hs).at k v hv
      obtain ⟨av, cv, rfl⟩ := reads_shape hrv
      have hsum := flat_take_snoc hl
      have hle2 := flat_take_le ls (k + 1)
      rw [hsum, List.length_append] at hle2
      obtain ⟨y, hy⟩ : ∃ y : Nat, y = l.length := ⟨_, rfl⟩
      rw [← hy] at hle2
      rw [← hy] at hrv
      have y0 : (0 : Int) ≤ y := by omega
      have y1 : z + y < 1000000 := by omega
      have y2 : 0 ≤ z + y := by omega
      have hcell : w.cell? ((a1.getD ⟨0, 0, none⟩).add k) = some (.slice av y cv) ∧ a1.isSome := by
        rcases HSV.out w hs with ⟨_, hz, _⟩ | ⟨a, c', e1, hc⟩
        · have := HN.out; omega
        · cases e1
          exact ⟨by rw [hy]; exact hc k _ hv, rfl⟩
      obtain ⟨a, rfl⟩ := Option.isSome_iff_exists.1 hcell.2
      have d0 : w.cell? (a.add k) = some (.slice av y cv) := hcell.1
      have HSUM := Lib.hid hsum
      have HZ := Lib.hid hz
      have HY := Lib.hid hy
      clear hcell hv hl hrv hsum hle2 hzle hz hy
      go_wp2_with fail
      refine ⟨⟨k + 1, z + y, by simp, by omega, rfl, ?_⟩, ?_⟩
      · rw [HSUM.out, List.length_append, HZ.out, HY.out]; simp
      · simp [intOf]
        omega
    · have ekn : n = k := by omega
      subst ekn
      have hz2 : z = ls.flatten.length := by rw [hz, List.take_of_length_le (by have := HLEN.out; omega)]
      have hgn := grow_none ls.flatten.length W w L hb hs
      rw [← hz2] at hgn
      have HZ2 := Lib.hid hz2
      clear hz hzle hz2 hs
      go_wp2_with fail
      refine hgn.mono ?_; rintro r w5 ⟨v5, R5, rfl, hr5, hs5⟩
      obtain ⟨a5, c5, rfl⟩ := reads_shape (hr5.reads hs5)
      go_wp2_with fail
      go_loopw [27, 6] (fun kv ov wr => ∃ (k : Nat) (l' : List UInt8) (R : List Atom), kv = .int .i64 k ∧ k ≤ n ∧ l' = (ls.take k).flatten ∧ RowA 5 1 ov l'.length (bts l') R ∧ Sat W wr (R ++ L)) (fun kv _ _ => (n - (intOf kv).toNat))
      case atStart => exact ⟨0, [], R5, rfl, Nat.zero_le _, rfl, hr5, hs5⟩
      case round =>
        clear hr5 hs5
        obtain ⟨k, l', R, rfl, hk, hl', hr, hs⟩ := ‹_›
        obtain ⟨a6, c6, rfl⟩ := Ch.RowA.slice hr
        have HL' := Lib.hid hl'
        have k0 : (0 : Int) ≤ k := by omega
        by_cases hkn : k < n
        · have k1 : (k : Int) < n := by omega
          have hs0 := hs.right
          obtain ⟨v, hv⟩ : ∃ v, vs[k]? = some v := ⟨_, List.getElem?_eq_getElem (by have := HN.out; omega)⟩
          obtain ⟨l, hl, hrv⟩ := (HVS.out _ hs0).at k v hv
          have hrv1 := hrv
          obtain ⟨av, cv, rfl⟩ := reads_shape hrv1
          have hcell := (HSV.out _ hs0)
          have hsum := flat_take_snoc hl
          have hle2 := flat_take_le ls (k + 1)
          rw [hsum, List.length_append, ← hl'] at hle2
          rcases hcell with ⟨_, hz, _⟩ | ⟨a, c', e1, hc⟩
          · have := HN.out; omega
          cases e1
          have d0 := hc k _ hv
          have HSUM := Lib.hid hsum
          clear hc hv hl hsum hs0 hl'
          go_wp2_with (at_builtin; refine wpList_plain rfl (fun K hK => ?_); refine wp_append_u8 rfl l' l rfl rfl hr hs hrv (by omega) (fun v2 w3 R2 hr2 hs2 => ?_); refine hK _ _ ?_; simp only [Act.put, List.setIfInBounds_toArray, List.set_cons_zero, List.set_cons_succ]; clear hK)
          refine ⟨⟨k + 1, l' ++ l, R2, by simp, by omega, ?_, hr2, hs2⟩, ?_⟩
          · rw [HSUM.out, HL'.out]
          · simp [intOf]
            omega
        · obtain rfl : k = n := by omega
          have hl2 : l' = ls.flatten := by rw [hl', List.take_of_length_le (by have := HLEN.out; omega)]
          have HL2 := Lib.hid hl2
          clear hl' hl2
          go_wp2_with fail
          go_ret
          rw [← HL2.out]
          exact ⟨_, R, rfl, hr, hs⟩
end Go.Proofs.Ytdkhgkkdnjejmaa.Ch
