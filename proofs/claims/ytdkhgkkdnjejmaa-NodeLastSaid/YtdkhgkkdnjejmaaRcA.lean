/-
  The document's bytes: corbelref3.Sum, corbelref7.Big, From.
-/
import Derived.Test.YtdkhgkkdnjejmaaChL
namespace Go.Proofs.Ytdkhgkkdnjejmaa.Ch
set_option linter.unusedSimpArgs false
open Go Go.RowKit Go.Sl Go.BigFrame
set_option linter.unusedVariables false

set_option maxRecDepth 100000 in
set_option maxHeartbeats 2000000 in
theorem ref_sum (v : Value) (l : List UInt8) (W w : World) (L : List Atom) (hs : Sat W w L) (hin : ∀ y, Sat W y L → Reads y v l.length (bts l)) (hl : l.length < 1000000) :
    Calls Try.prog 39 #[v] w fun e w' => e = .returned (.int .i64 (sumB l)) ∧ Sat W w' L := by
  obtain ⟨av, cv, rfl⟩ := reads_shape (hin w hs)
  have HIN := Lib.hid hin
  clear hin
  obtain ⟨n, hn⟩ : ∃ n, n = l.length := ⟨_, rfl⟩
  have HN := Lib.hid hn
  rw [← hn] at hl ⊢
  clear hn
  go_enter Try.func39, Try.ntmps39
  go_wp2_with fail
  go_loopw [4, 3] (fun kv hv wr => ∃ (k : Nat) (s : Int), kv = .int .i64 k ∧ k ≤ n ∧ hv = .int .i64 s ∧ s = sumB (l.take k) ∧ Sat W wr L) (fun kv _ _ => (n - (intOf kv).toNat))
  case atStart => exact ⟨0, 1, rfl, Nat.zero_le _, rfl, rfl, hs⟩
  case round =>
    clear hs
    obtain ⟨k, s, rfl, hk, rfl, hsm, hs⟩ := ‹_›
    have k0 : (0 : Int) ≤ k := by omega
    by_cases hkl : k < n
    · have k1 : (k : Int) < n := by omega
      have k2 : (k : Int) < 1000000 := by omega
      obtain ⟨c, hc⟩ : ∃ c, l[k]? = some c := ⟨_, List.getElem?_eq_getElem (by have := HN.out; omega)⟩
      rcases HIN.out wr hs with ⟨_, hz, _⟩ | ⟨a, c', e1, hcell⟩
      · have := HN.out; omega
      cases e1
      have d0 : wr.cell? (a.add k) = some (.int .u8 (c.toNat : Int)) := hcell k _ (bts_get hc)
      have hst : sumB (l.take (k + 1)) = sumStep (sumB (l.take k)) c := by rw [take_snoc hc, sumB_snoc]
      obtain ⟨s1, s2⟩ := sumB_bounds (l.take k)
      rw [← hsm] at hst s1 s2
      unfold sumStep at hst
      have c1 := u8_lt c
      have c0 : (0 : Int) ≤ c.toNat := by omega
      have c2 : (0 : Int) ≤ (c.toNat : Int) * c.toNat := by rw [← Int.natCast_mul]; omega
      have c3 : (c.toNat : Int) * c.toNat < 65536 := by
        have h1 := c.toNat_lt
        have h2 : c.toNat * c.toNat < 256 * 256 := Nat.mul_lt_mul'' h1 h1
        rw [← Int.natCast_mul]; omega
      have htm : (s * 31 + (c.toNat : Int) * c.toNat + 7).tmod 4294967291 = (s * 31 + (c.toNat : Int) * c.toNat + 7) % 4294967291 := Int.tmod_eq_emod_of_nonneg (by omega)
      have HST := Lib.hid hst
      clear hst hc hcell hsm
      go_wp2_with fail
      refine wp_region_one [] [] [] [] [0, 1, 2, 3, 4, 5, 6, 7, 8, 9, 10, 11, 12, 13, 14, 15, 16] (by kernel_rfl) (by kernel_rfl) ?_
      repeat (first | (refine can_pu1 rfl rfl rfl rfl rfl rfl (fun K hK => ?_); go_big_quiet_op; refine hK _ ?_; clear hK K) | (refine can_st1 rfl rfl rfl rfl rfl rfl (fun K hK => ?_); go_big_quiet_op; refine hK _ ?_; clear hK K) | (refine can_early1 rfl rfl rfl rfl rfl (fun K hK => ?_); go_big_quiet_op; refine hK _ ?_; clear hK K) | (refine can_skip rfl rfl rfl ?_; simp only [Act.put, List.setIfInBounds_toArray, List.set_cons_zero, List.set_cons_succ]))
      refine can_end1 ?_; (try simp only [Exit.then])
      go_wp2_with fail
      refine ⟨⟨k + 1, _, by simp, by omega, rfl, ?_, hs.drew⟩, ?_⟩
      · rw [HST.out]
      · simp [intOf]
        omega
    · have e : n = k := by omega
      subst e
      have hz : s = sumB l := by rw [hsm, List.take_of_length_le (by have := HN.out; omega)]
      have HZ := Lib.hid hz
      clear hsm hz
      go_wp2_with fail
      go_ret
      rw [← HZ.out]
      exact ⟨rfl, hs⟩

set_option maxRecDepth 100000 in
theorem ref_from (v : Value) (l : List UInt8) (w : World) (hr : Reads w v l.length (bts l)) (hl : l.length ≤ 6) :
    Calls Try.prog 96 #[v] w fun e w' => e = .returned (.int .i64 (numB l)) ∧ w = w' := by
  obtain ⟨av, cv, rfl⟩ := reads_shape hr
  go_enter Try.func96, Try.ntmps96
  go_wp2_with fail
  go_loop [4, 3] (fun kv hv => ∃ k : Nat, kv = .int .i64 k ∧ k ≤ l.length ∧ hv = .int .i64 (numB (l.take k))) (fun kv _ => (l.length - (intOf kv).toNat))
  case atStart => exact ⟨0, rfl, Nat.zero_le _, rfl⟩
  case round =>
    obtain ⟨k, rfl, hk, rfl⟩ := hrel
    have k0 : (0 : Int) ≤ k := by omega
    by_cases hkl : k < l.length
    · have k1 : (k : Int) < l.length := by omega
      have k2 : (k : Int) < 6 := by omega
      obtain ⟨c, hc⟩ : ∃ c, l[k]? = some c := ⟨_, List.getElem?_eq_getElem hkl⟩
      rcases hr with ⟨_, hz, _⟩ | ⟨a, c', e1, hcell⟩
      · omega
      cases e1
      have d0 : w.cell? (a.add k) = some (.int .u8 (c.toNat : Int)) := hcell k _ (bts_get hc)
      have hst : numB (l.take (k + 1)) = numB (l.take k) * 256 + c.toNat := by rw [take_snoc hc, numB_snoc]
      obtain ⟨s1, s2⟩ := numB_bounds (l.take k) k (by simp; omega)
      have s3 : numB (l.take k) < 1099511627776 := by
        have : (256 : Int) ^ k ≤ 256 ^ 5 := by
          have : (256 : Nat) ^ k ≤ 256 ^ 5 := Nat.pow_le_pow_right (by decide) (by omega)
          exact_mod_cast this
        have e : (256 : Int) ^ 5 = 1099511627776 := by decide
        omega
      have c1 := u8_lt c
      have c0 : (0 : Int) ≤ c.toNat := by omega
      have HST := Lib.hid hst
      clear hst hc hcell s2
      generalize numB (l.take k) = s at *
      have hor : bits .or .i64 (s * 256) c.toNat = s * 256 + c.toNat := by
        have h := or_low 8 s.toNat c.toNat (by have := c.toNat_lt; omega) (by omega) (by decide)
        rw [show ((s.toNat * 2 ^ 8 : Nat) : Int) = s * 256 by omega, show ((s.toNat * 2 ^ 8 + c.toNat : Nat) : Int) = s * 256 + c.toNat by omega] at h
        exact h
      have HOR := Lib.hid hor
      clear hor
      go_wp2_with fail
      refine ⟨⟨k + 1, by simp, by omega, by rw [HST.out, HOR.out]⟩, ?_⟩
      simp [intOf]
      omega
    · obtain rfl : k = l.length := by omega
      rw [List.take_length]
      go_wp2_with fail
      go_ret
      exact ⟨rfl, rfl⟩

set_option maxRecDepth 100000 in
set_option maxHeartbeats 2000000 in
theorem ref_big (n : Int) (size : Nat) (W w : World) (L : List Atom) (hn : 0 ≤ n) (hn2 : n < 9223372036854775808) (hsz : size ≤ 8) (hs : Sat W w L) :
    Calls Try.prog 95 #[.int .i64 n, .int .i64 size] w fun e w' => ∃ v R, e = .returned v ∧ RowA 5 1 v (bytesB n size).length (bts (bytesB n size)) R ∧ Sat W w' (R ++ L) := by
  have s0 : (0 : Int) ≤ size := by omega
  have s1 : (size : Int) ≤ 8 := by omega
  go_enter Try.func95, Try.ntmps95
  go_wp2_with fail
  go_loopw [5, 6] (fun ov iv wr => ∃ (k : Nat) (l : List UInt8) (R : List Atom), k ≤ size ∧ iv = .int .i64 ((k : Int) - 1) ∧ l ++ bytesB n k = bytesB n size ∧ RowA 5 1 ov l.length (bts l) R ∧ Sat W wr (R ++ L)) (fun _ iv _ => (intOf iv + 1).toNat)
  case atStart => exact ⟨size, [], [], Nat.le_refl _, rfl, rfl, RowA.nil _ _, hs⟩
  case round =>
    clear hs
    obtain ⟨k, l, R, hk, rfl, hl, hr, hs⟩ := hrel
    have HL := Lib.hid hl
    have hll : l.length ≤ 8 := by
      have h := congrArg List.length hl
      rw [List.length_append, bytesB_length, bytesB_length] at h
      omega
    clear hl
    obtain ⟨aL, cL, rfl⟩ := Ch.RowA.slice hr
    cases k with
    | zero =>
      go_wp2_with fail
      go_ret
      have h := HL.out
      rw [bytesB, List.append_nil] at h
      exact ⟨_, R, rfl, by rw [← h]; exact hr, hs⟩
    | succ k =>
      have e1 : (((k + 1 : Nat) : Int) - 1) = k := by omega
      rw [e1]
      have k0 : (0 : Int) ≤ k := by omega
      have k1 : (k : Int) ≤ 7 := by omega
      go_wp2_with (at_builtin; refine wpList_plain rfl (fun K hK => ?_); refine wp_append_u8 rfl l [byteAt n k] rfl rfl hr (sat_new hs) (reads_new wr _ _ _ _ _ (by simp [bts, byteAt_val])) (by simp <;> omega) (fun v2 w2 R2 hr2 hs2 => ?_); refine hK _ _ ?_; simp only [Act.put, List.setIfInBounds_toArray, List.set_cons_zero, List.set_cons_succ]; clear hK)
      refine ⟨⟨k, l ++ [byteAt n k], R2, by omega, rfl, ?_, hr2, hs2.use (by intro x; simp only [cnt_append, cnt_cons, cnt_nil]; omega)⟩, ?_⟩
      · rw [← HL.out, bytesB, List.append_assoc]; rfl
      · simp [intOf]
end Go.Proofs.Ytdkhgkkdnjejmaa.Ch
