
/-
  The document's bytes: corbelref3.Sum, corbelref7.Big, From.
  The document's Seal.
  The document's RightPiece, Place, SamePiece, pieceBytes, LayPiece.
  The document's pieceBytes, LayPiece.
  The document's LayPiece.
  The document's Open.
  The document's piece.
  The document's ReadPiece.
  hand.Few; the readers at a slice of any length.
-/
import Derived.Test.YtekbbpfnkbanjaaGreatMB
import Derived.Laws.IdiomStrings
import Derived.Lib.BufferRead
import Derived.Test.YtekbbpfnkbanjaaGreatMA
import Derived.Test.YtekbbpfnkbanjaaGreatMC
namespace Go.Proofs.YtekbbpfnkbanjaaGreat.Ch
set_option linter.unusedSimpArgs false
open Go Go.RowKit Go.Sl Go.BigFrame
set_option linter.unusedVariables false

set_option maxRecDepth 100000 in
set_option maxHeartbeats 2000000 in
theorem ref_sum (v : Value) (l : List UInt8) (W w : World) (L : List Atom) (hs : Sat W w L) (hin : ∀ y, Sat W y L → Reads y v l.length (bts l)) (hl : l.length < 1000000) :
    Calls Tryz.prog 88 #[v] w fun e w' => e = .returned (.int .i64 (sumB l)) ∧ Sat W w' L := by
  obtain ⟨av, cv, rfl⟩ := reads_shape (hin w hs)
  have HIN := Lib.hid hin
  clear hin
  obtain ⟨n, hn⟩ : ∃ n, n = l.length := ⟨_, rfl⟩
  have HN := Lib.hid hn
  rw [← hn] at hl ⊢
  clear hn
  go_enter Tryz.func88, Tryz.ntmps88
  go_wp2_with fail
  go_loopw [4, 3] (fun kv hv wr => ∃ (k : Nat) (s : Int), kv = .int .i64 k ∧ k ≤ n ∧ hv = .int .i64 s ∧ s = sumB (l.take k) ∧ Sat W wr L) (fun kv _ _ => (n - (intOf kv).toNat))
  case atStart => exact ⟨0, 1, rfl, Nat.zero_le _, rfl, rfl, hs⟩
  case round =>
    clear hs
    obtain ⟨k, s, rfl, hk, rfl, hsm, hs⟩ := ‹_›
    have k0 : (0 : Int) ≤ k := by omega
    by_cases hkl : k < n
    · have k1 : (k : Int) < n := by omega
      have k2 : (k : Int) < 1000000 := by omega
      obtain ⟨c, hc⟩ : ∃ c, l[k]? = some c := ⟨_, List.getElem?_eq_getElem (by have := HN.out; omega)⟩
      rcases HIN.out wr hs with ⟨_, hz, _⟩ | ⟨a, c', e1, hcell⟩
      · have := HN.out; omega
      cases e1
      have d0 : wr.cell? (a.add k) = some (.int .u8 (c.toNat : Int)) := hcell k _ (bts_get hc)
      have hst : sumB (l.take (k + 1)) = sumStep (sumB (l.take k)) c := by rw [take_snoc hc, sumB_snoc]
      obtain ⟨s1, s2⟩ := sumB_bounds (l.take k)
      rw [← hsm] at hst s1 s2
      unfold sumStep at hst
      have c1 := u8_lt c
      have c0 : (0 : Int) ≤ c.toNat := by omega
      have c2 : (0 : Int) ≤ (c.toNat : Int) * c.toNat := by rw [← Int.natCast_mul]; omega
      have c3 : (c.toNat : Int) * c.toNat < 65536 := by
        have h1 := c.toNat_lt
        have h2 : c.toNat * c.toNat < 256 * 256 := Nat.mul_lt_mul'' h1 h1
        rw [← Int.natCast_mul]; omega
      have htm : (s * 31 + (c.toNat : Int) * c.toNat + 7).tmod 4294967291 = (s * 31 + (c.toNat : Int) * c.toNat + 7) % 4294967291 := Int.tmod_eq_emod_of_nonneg (by omega)
      have HST := Lib.hid hst
      clear hst hc hcell hsm
      go_wp2_with fail
      refine wp_region_one [] [] [] [] [0, 1, 2, 3, 4, 5, 6, 7, 8, 9, 10, 11, 12, 13, 14, 15, 16] (by kernel_rfl) (by kernel_rfl) ?_
      repeat (first | (refine can_pu1 rfl rfl rfl rfl rfl rfl (fun K hK => ?_); go_big_quiet_op; refine hK _ ?_; clear hK K) | (refine can_st1 rfl rfl rfl rfl rfl rfl (fun K hK => ?_); go_big_quiet_op; refine hK _ ?_; clear hK K) | (refine can_early1 rfl rfl rfl rfl rfl (fun K hK => ?_); go_big_quiet_op; refine hK _ ?_; clear hK K) | (refine can_skip rfl rfl rfl ?_; simp only [Act.put, List.setIfInBounds_toArray, List.set_cons_zero, List.set_cons_succ]))
      refine can_end1 ?_; (try simp only [Exit.then])
      go_wp2_with fail
      refine ⟨⟨k + 1, _, by simp, by omega, rfl, ?_, hs.drew⟩, ?_⟩
      · rw [HST.out]
      · simp [intOf]
        omega
    · have e : n = k := by omega
      subst e
      have hz : s = sumB l := by rw [hsm, List.take_of_length_le (by have := HN.out; omega)]
      have HZ := Lib.hid hz
      clear hsm hz
      go_wp2_with fail
      go_ret
      rw [← HZ.out]
      exact ⟨rfl, hs⟩

set_option maxRecDepth 100000 in
theorem ref_from (v : Value) (l : List UInt8) (w : World) (hr : Reads w v l.length (bts l)) (hl : l.length ≤ 6) :
    Calls Tryz.prog 68 #[v] w fun e w' => e = .returned (.int .i64 (numB l)) ∧ w = w' := by
  obtain ⟨av, cv, rfl⟩ := reads_shape hr
  go_enter Tryz.func68, Tryz.ntmps68
  go_wp2_with fail
  go_loop [4, 3] (fun kv hv => ∃ k : Nat, kv = .int .i64 k ∧ k ≤ l.length ∧ hv = .int .i64 (numB (l.take k))) (fun kv _ => (l.length - (intOf kv).toNat))
  case atStart => exact ⟨0, rfl, Nat.zero_le _, rfl⟩
  case round =>
    obtain ⟨k, rfl, hk, rfl⟩ := hrel
    have k0 : (0 : Int) ≤ k := by omega
    by_cases hkl : k < l.length
    · have k1 : (k : Int) < l.length := by omega
      have k2 : (k : Int) < 6 := by omega
      obtain ⟨c, hc⟩ : ∃ c, l[k]? = some c := ⟨_, List.getElem?_eq_getElem hkl⟩
      rcases hr with ⟨_, hz, _⟩ | ⟨a, c', e1, hcell⟩
      · omega
      cases e1
      have d0 : w.cell? (a.add k) = some (.int .u8 (c.toNat : Int)) := hcell k _ (bts_get hc)
      have hst : numB (l.take (k + 1)) = numB (l.take k) * 256 + c.toNat := by rw [take_snoc hc, numB_snoc]
      obtain ⟨s1, s2⟩ := numB_bounds (l.take k) k (by simp; omega)
      have s3 : numB (l.take k) < 1099511627776 := by
        have : (256 : Int) ^ k ≤ 256 ^ 5 := by
          have : (256 : Nat) ^ k ≤ 256 ^ 5 := Nat.pow_le_pow_right (by decide) (by omega)
          exact_mod_cast this
        have e : (256 : Int) ^ 5 = 1099511627776 := by decide
        omega
      have c1 := u8_lt c
      have c0 : (0 : Int) ≤ c.toNat := by omega
      have HST := Lib.hid hst
      clear hst hc hcell s2
      generalize numB (l.take k) = s at *
      have hor : bits .or .i64 (s * 256) c.toNat = s * 256 + c.toNat := by
        have h := or_low 8 s.toNat c.toNat (by have := c.toNat_lt; omega) (by omega) (by decide)
        rw [show ((s.toNat * 2 ^ 8 : Nat) : Int) = s * 256 by omega, show ((s.toNat * 2 ^ 8 + c.toNat : Nat) : Int) = s * 256 + c.toNat by omega] at h
        exact h
      have HOR := Lib.hid hor
      clear hor
      go_wp2_with fail
      refine ⟨⟨k + 1, by simp, by omega, by rw [HST.out, HOR.out]⟩, ?_⟩
      simp [intOf]
      omega
    · obtain rfl : k = l.length := by omega
      rw [List.take_length]
      go_wp2_with fail
      go_ret
      exact ⟨rfl, rfl⟩

set_option maxRecDepth 100000 in
set_option maxHeartbeats 2000000 in
theorem ref_big (n : Int) (size : Nat) (W w : World) (L : List Atom) (hn : 0 ≤ n) (hn2 : n < 9223372036854775808) (hsz : size ≤ 8) (hs : Sat W w L) :
    Calls Tryz.prog 89 #[.int .i64 n, .int .i64 size] w fun e w' => ∃ v R, e = .returned v ∧ RowA 5 1 v (bytesB n size).length (bts (bytesB n size)) R ∧ Sat W w' (R ++ L) := by
  have s0 : (0 : Int) ≤ size := by omega
  have s1 : (size : Int) ≤ 8 := by omega
  go_enter Tryz.func89, Tryz.ntmps89
  go_wp2_with fail
  go_loopw [5, 6] (fun ov iv wr => ∃ (k : Nat) (l : List UInt8) (R : List Atom), k ≤ size ∧ iv = .int .i64 ((k : Int) - 1) ∧ l ++ bytesB n k = bytesB n size ∧ RowA 5 1 ov l.length (bts l) R ∧ Sat W wr (R ++ L)) (fun _ iv _ => (intOf iv + 1).toNat)
  case atStart => exact ⟨size, [], [], Nat.le_refl _, rfl, rfl, RowA.nil _ _, hs⟩
  case round =>
    clear hs
    obtain ⟨k, l, R, hk, rfl, hl, hr, hs⟩ := hrel
    have HL := Lib.hid hl
    have hll : l.length ≤ 8 := by
      have h := congrArg List.length hl
      rw [List.length_append, bytesB_length, bytesB_length] at h
      omega
    clear hl
    obtain ⟨aL, cL, rfl⟩ := Ch.RowA.slice hr
    cases k with
    | zero =>
      go_wp2_with fail
      go_ret
      have h := HL.out
      rw [bytesB, List.append_nil] at h
      exact ⟨_, R, rfl, by rw [← h]; exact hr, hs⟩
    | succ k =>
      have e1 : (((k + 1 : Nat) : Int) - 1) = k := by omega
      rw [e1]
      have k0 : (0 : Int) ≤ k := by omega
      have k1 : (k : Int) ≤ 7 := by omega
      go_wp2_with (at_builtin; refine wpList_plain rfl (fun K hK => ?_); refine wp_append_u8 rfl l [byteAt n k] rfl rfl hr (sat_new hs) (reads_new wr _ _ _ _ _ (by simp [bts, byteAt_val])) (by simp <;> omega) (fun v2 w2 R2 hr2 hs2 => ?_); refine hK _ _ ?_; simp only [Act.put, List.setIfInBounds_toArray, List.set_cons_zero, List.set_cons_succ]; clear hK)
      refine ⟨⟨k, l ++ [byteAt n k], R2, by omega, rfl, ?_, hr2, hs2.use (by intro x; simp only [cnt_append, cnt_cons, cnt_nil]; omega)⟩, ?_⟩
      · rw [← HL.out, bytesB, List.append_assoc]; rfl
      · simp [intOf]
end Go.Proofs.YtekbbpfnkbanjaaGreat.Ch

namespace Go.Proofs.YtekbbpfnkbanjaaGreat.Ch
set_option linter.unusedSimpArgs false
open Go Go.RowKit Go.Sl Go.BigFrame
set_option linter.unusedVariables false

theorem ref_seal_bad (kind : Int) (bv : Value) (m : List UInt8) (w : World) (hr : Reads w bv m.length (bts m)) (h : kind < 1 ∨ 255 < kind ∨ 153 < m.length) :
    Calls Tryz.prog 60 #[.int .i64 kind, bv] w fun e w' => e = .returned (.tuple #[.slice none 0 0, .bool false]) ∧ w = w' := by
  obtain ⟨av, cv, rfl⟩ := reads_shape hr
  clear hr
  by_cases h1 : kind < 1
  · go_enter Tryz.func60, Tryz.ntmps60
    go_wp2_with fail
    go_ret2
    exact ⟨rfl, rfl⟩
  · by_cases h2 : 255 < kind
    · go_enter Tryz.func60, Tryz.ntmps60
      go_wp2_with fail
      go_ret2
      exact ⟨rfl, rfl⟩
    · have h3 : (153 : Int) < m.length := by omega
      go_enter Tryz.func60, Tryz.ntmps60
      go_wp2_with fail
      go_ret2
      exact ⟨rfl, rfl⟩

set_option maxRecDepth 100000 in
set_option maxHeartbeats 4000000 in
theorem ref_seal (kind : Int) (bv : Value) (m : List UInt8) (W w : World) (L : List Atom) (hk1 : 1 ≤ kind) (hk2 : kind ≤ 255) (hm : m.length ≤ 153) (hs : Sat W w L) (hin : ∀ y, Below w.heap.size w y → Reads y bv m.length (bts m)) :
    Calls Tryz.prog 60 #[.int .i64 kind, bv] w fun e w' => ∃ v R, e = .returned (.tuple #[v, .bool true]) ∧ RowA 5 1 v (sealB kind m).length (bts (sealB kind m)) R ∧ Sat W w' (R ++ L) := by
  obtain ⟨av, cv, rfl⟩ := reads_shape (hin w (Below.refl _ w))
  have k1 : ¬ kind < 1 := by omega
  have k2 : ¬ 255 < kind := by omega
  have d3 : (m.length : Int) ≤ 153 := by omega
  have d0 : (0 : Int) ≤ m.length := by omega
  have d4 : ¬ (153 : Int) < m.length := by omega
  have hm0 : ((byteAt (m.length : Int) 0 : UInt8).toNat : Int) = m.length := by
    have := byteAt_val (m.length : Int) 0
    omega
  have hm1 : ((byteAt (m.length : Int) 1).toNat : Int) = (m.length : Int) / 256 := by
    have := byteAt_val (m.length : Int) 1
    omega
  have hk0 : ((byteAt kind 0).toNat : Int) = kind := by
    have := byteAt_val kind 0
    omega
  have hb3 : bts [byteAt kind 0, byteAt m.length 1, byteAt m.length 0] = [.int .u8 kind, .int .u8 ((m.length : Int) / 256), .int .u8 m.length] := by
    simp only [bts, List.map_cons, List.map_nil, hk0, hm1, hm0]
  have hs1 : Sat W (w.alloc (.cells #[.int .u8 kind, .int .u8 ((m.length : Int) / 256), .int .u8 m.length] 5)) ([(w.heap.size, rowP 5 0 (3 * 1) (bts [byteAt kind 0, byteAt m.length 1, byteAt m.length 0]))] ++ L) := by
    rw [hb3]
    exact hs.new _ ⟨_, rfl, by simp, by simp, rfl⟩
  have hr1 : RowA 5 1 (.slice (some ⟨w.heap.size, 0, none⟩) 3 3) [byteAt kind 0, byteAt m.length 1, byteAt m.length 0].length (bts [byteAt kind 0, byteAt m.length 1, byteAt m.length 0]) [(w.heap.size, rowP 5 0 (3 * 1) (bts [byteAt kind 0, byteAt m.length 1, byteAt m.length 0]))] :=
    ⟨rfl, .inr ⟨_, _, _, rfl, Nat.le_refl _, by unfold maxLen; omega, rfl⟩⟩
  have hsrc := hin _ ((Below.refl _ w).alloc (Nat.le_refl _) (.cells #[.int .u8 kind, .int .u8 ((m.length : Int) / 256), .int .u8 m.length] 5))
  obtain ⟨B, hB⟩ : ∃ B, B = sealB kind m := ⟨_, rfl⟩
  rw [← hB]
  have hB2 : B = headB kind m ++ bytesB (sumB (headB kind m)) 4 := hB
  have hH : headB kind m = [byteAt kind 0, byteAt m.length 1, byteAt m.length 0] ++ m ++ List.replicate (153 - m.length) 0 := by unfold headB; simp
  have HB := Lib.hid hB2
  have HH := Lib.hid hH
  have HL := Lib.hid (headB_length kind m hm)
  generalize headB kind m = H at *
  generalize hT : [byteAt kind 0, byteAt (m.length : Int) 1, byteAt (m.length : Int) 0] = T3 at *
  have hT3 : T3.length = 3 := by rw [← hT]; rfl
  have HT3 := Lib.hid hT3
  clear hs hin hB hB2 hH hb3 hm0 hm1 hk0 hT hT3
  go_enter Tryz.func60, Tryz.ntmps60
  go_wp2_with (at_builtin; go_loud (refine wpList_plain rfl (fun K hK => ?_); refine wp_append_u8 rfl T3 m rfl rfl (by have h := hr1; rw [HT3.out] at h ⊢; exact h) hs1 hsrc (by rw [HT3.out]; omega) (fun v2 w3 R2 hr2 hs2 => ?_); refine hK _ _ ?_; simp only [Act.put, List.setIfInBounds_toArray, List.set_cons_zero, List.set_cons_succ]; clear hK))
  go_loopw [6] (fun ov wr => ∃ (l : List UInt8) (k : Nat) (R : List Atom), l = T3 ++ m ++ List.replicate k 0 ∧ l.length ≤ 156 ∧ RowA 5 1 ov l.length (bts l) R ∧ Sat W wr (R ++ L)) (fun ov _ => match ov with | .slice _ n _ => 156 - n | _ => 0)
  case atStart => exact ⟨T3 ++ m, 0, R2, by simp, by rw [List.length_append, HT3.out]; omega, hr2, hs2⟩
  case round =>
    clear hr2 hs2 hr1 hs1 hsrc
    obtain ⟨l, k, R, hl, hll, hr, hs⟩ := ‹_›
    have HLe := Lib.hid hl
    obtain ⟨a6, c6, rfl⟩ := Ch.RowA.slice hr
    have l0 : (0 : Int) ≤ l.length := by omega
    clear hl
    by_cases h156 : l.length < 156
    · have l1 : (l.length : Int) < 156 := by omega
      go_wp2_with (at_builtin; go_loud (refine wpList_plain rfl (fun K hK => ?_); refine wp_append_u8 rfl l [0] rfl rfl hr (sat_new hs) (reads_new wr _ _ _ _ _ (by simp [bts])) (by simp; omega) (fun v2 w3 R2 hr2 hs2 => ?_); refine hK _ _ ?_; simp only [Act.put, List.setIfInBounds_toArray, List.set_cons_zero, List.set_cons_succ]; clear hK))
      obtain ⟨a7, c7, rfl⟩ := Ch.RowA.slice hr2
      refine ⟨⟨l ++ [0], k + 1, R2, ?_, by simp; omega, hr2, hs2.use (by intro x; simp only [cnt_append, cnt_cons, cnt_nil]; omega)⟩, ?_⟩
      · rw [HLe.out, List.replicate_succ', List.append_assoc]
      · simp
        omega
    · have l1 : ¬ (l.length : Int) < 156 := by omega
      have hlh : l = H := by
        rw [HH.out, HLe.out]
        have hk : k = 153 - m.length := by
          have h := congrArg List.length HLe.out
          rw [List.length_append, List.length_append, HT3.out, List.length_replicate] at h
          omega
        rw [hk]
      clear h156 HLe
      subst hlh
      have HS := Lib.hid (ref_sum (.slice a6 l.length c6) l W wr _ hs (fun y hy => hr.reads hy) (by omega))
      obtain ⟨q1, q2⟩ := sumB_bounds l
      have q3 : sumB l < 4294967296 := by omega
      clear q2
      generalize sumB l = S at *
      clear hs
      go_wp2_with fail
      refine HS.out.mono ?_; rintro r w5 ⟨rfl, hs5⟩
      go_wp2_with (at_builtin; go_loud (refine wpList_plain rfl (fun K hK => ?_); refine wp_append_u8 rfl l (bytesB S 4) rfl rfl hr (sat_new hs5) (reads_new w5 _ _ _ _ _ (by simp [bts, bytesB, byteAt_val]; omega)) (by rw [HL.out, bytesB_length]; omega) (fun v2 w3 R2 hr2 hs2 => ?_); refine hK _ _ ?_; simp only [Act.put, List.setIfInBounds_toArray, List.set_cons_zero, List.set_cons_succ]; clear hK))
      go_ret2
      refine ⟨v2, R2, rfl, ?_, hs2.use (by intro x; simp only [cnt_append, cnt_cons, cnt_nil]; omega)⟩
      rw [HB.out]
      exact hr2
end Go.Proofs.YtekbbpfnkbanjaaGreat.Ch

namespace Go.Proofs.YtekbbpfnkbanjaaGreat.Ch
set_option linter.unusedSimpArgs false
open Go Go.RowKit Go.Sl Go.BigFrame
set_option linter.unusedVariables false

set_option maxRecDepth 100000 in
theorem ref_right (p : Pc) (a : Option Addr) (c : Nat) (w : World) :
    Calls Tryz.prog 59 #[pcV p (.slice a p.data.length c)] w fun e w' => e = .returned (.bool (decide (rightP p))) ∧ Ext w w' := by
  obtain ⟨s, g, i, d⟩ := p
  unfold pcV
  simp only []
  by_cases hr : rightP ⟨s, g, i, d⟩
  · rw [decide_eq_true hr]
    obtain ⟨h1, h2, h3, h4, h5, h6, h7⟩ := hr
    simp only at h1 h2 h3 h4 h5 h6 h7
    rw [h7]
    go_enter Tryz.func59, Tryz.ntmps59
    go_wp2_with fail
    go_ret
    refine ⟨?_, ?_⟩
    · rfl
    · exact Ext.alloc _ _
  · rw [decide_eq_false hr]
    have HR := Lib.hid hr
    clear hr
    by_cases h1 : 0 ≤ s
    case neg =>
      go_enter Tryz.func59, Tryz.ntmps59
      go_wp2_with fail
      go_ret
      refine ⟨?_, ?_⟩
      · rfl
      · exact Ext.alloc _ _
    by_cases h2 : s < 40
    case neg =>
      go_enter Tryz.func59, Tryz.ntmps59
      go_wp2_with fail
      go_ret
      refine ⟨?_, ?_⟩
      · rfl
      · exact Ext.alloc _ _
    by_cases h3 : 1 ≤ g
    case neg =>
      go_enter Tryz.func59, Tryz.ntmps59
      go_wp2_with fail
      go_ret
      refine ⟨?_, ?_⟩
      · rfl
      · exact Ext.alloc _ _
    by_cases h4 : g ≤ 1099511627776
    case neg =>
      go_enter Tryz.func59, Tryz.ntmps59
      go_wp2_with fail
      go_ret
      refine ⟨?_, ?_⟩
      · rfl
      · exact Ext.alloc _ _
    by_cases h5 : 0 ≤ i
    case neg =>
      go_enter Tryz.func59, Tryz.ntmps59
      go_wp2_with fail
      go_ret
      refine ⟨?_, ?_⟩
      · rfl
      · exact Ext.alloc _ _
    by_cases h6 : i < 6
    case neg =>
      go_enter Tryz.func59, Tryz.ntmps59
      go_wp2_with fail
      go_ret
      refine ⟨?_, ?_⟩
      · rfl
      · exact Ext.alloc _ _
    have h7 : ¬ (d.length : Int) = 32 := fun h => HR.out ⟨h1, h2, h3, h4, h5, h6, by simpa using (by omega : d.length = 32)⟩
    have h8 : ((d.length : Int) == 32) = false := by simpa using h7
    go_enter Tryz.func59, Tryz.ntmps59
    go_wp2_with fail
    go_ret
    refine ⟨?_, ?_⟩
    · rfl
    · exact Ext.alloc _ _


theorem ref_place (s g : Int) (w : World) (h0 : 0 ≤ s) (h1 : s < 1000) (hg : 0 ≤ g) :
    Calls Tryz.prog 36 #[.int .i64 s, .int .i64 g] w fun e w' => e = .returned (.int .i64 (placeI s g)) ∧ w = w' := by
  have b1 : 0 ≤ g % 2 := Int.emod_nonneg _ (by decide)
  have b2 : g % 2 < 2 := Int.emod_lt_of_pos _ (by decide)
  have ha : g.tmod 2 = g % 2 := Int.tmod_eq_emod_of_nonneg hg
  unfold placeI
  generalize g % 2 = y at *
  go_enter Tryz.func36, Tryz.ntmps36
  go_wp2_with fail
  go_ret
  exact ⟨rfl, rfl⟩

/-- string(b). -/
theorem str_of (v : Value) (l : List UInt8) (w : World) (hr : Reads w v l.length (bts l)) : (convert 35 9 v).run Tryz.prog w = .ok (.string ⟨l.toArray⟩) w := by
  rcases hr with ⟨rfl, h2, _⟩ | ⟨a, c, rfl, hc⟩
  · obtain rfl : l = [] := List.length_eq_zero_iff.1 h2
    exact Go.Lib.run_convert_nil_bytes w _ _ _ 0 Tryz.underlying35 Tryz.underlying5 Tryz.underlying9
  · exact run_convert_bytes_back w _ _ _ a c l Tryz.underlying35 Tryz.underlying5 Tryz.underlying9 (fun j hj => hc j _ (bts_get (List.getElem?_eq_getElem hj)))
set_option maxRecDepth 100000 in
theorem ref_same (p q : Pc) (v v2 : Value) (W w : World) (L : List Atom) (hs : Sat W w L) (h1 : ∀ y, Sat W y L → Reads y v p.data.length (bts p.data)) (h2 : ∀ y, Sat W y L → Reads y v2 q.data.length (bts q.data)) (hl : p.data.length < 1000000) (hl2 : q.data.length < 1000000) :
    Calls Tryz.prog 50 #[pcV p v, pcV q v2] w fun e w' => e = .returned (.bool (decide (p = q))) ∧ Sat W w' L := by
  obtain ⟨s, g, i, d⟩ := p
  obtain ⟨s2, g2, i2, d2⟩ := q
  obtain ⟨av, cv, rfl⟩ := reads_shape (h1 w hs)
  obtain ⟨av2, cv2, rfl⟩ := reads_shape (h2 w hs)
  simp only at h1 h2 hl hl2
  unfold pcV
  simp only []
  by_cases e1 : s = s2
  case neg =>
    have hne : ¬ (⟨s, g, i, d⟩ : Pc) = ⟨s2, g2, i2, d2⟩ := fun h => e1 (by injection h)
    have q0 : (s == s2) = false := by simpa using e1
    rw [decide_eq_false hne]
    clear hne
    have hs2 : Sat W _ L := (hs.alloc (.cells #[.int .i64 s, .int .i64 g, .int .i64 i, .slice av d.length cv] 72)).alloc (.cells #[.int .i64 s2, .int .i64 g2, .int .i64 i2, .slice av2 d2.length cv2] 72)
    go_enter Tryz.func50, Tryz.ntmps50
    go_wp2_with fail
    go_ret
    exact ⟨rfl, hs2⟩
  case pos =>
  subst e1
  by_cases e2 : g = g2
  case neg =>
    have hne : ¬ (⟨s, g, i, d⟩ : Pc) = ⟨s, g2, i2, d2⟩ := fun h => e2 (by injection h)
    have q0 : (g == g2) = false := by simpa using e2
    rw [decide_eq_false hne]
    clear hne
    have hs2 : Sat W _ L := (hs.alloc (.cells #[.int .i64 s, .int .i64 g, .int .i64 i, .slice av d.length cv] 72)).alloc (.cells #[.int .i64 s, .int .i64 g2, .int .i64 i2, .slice av2 d2.length cv2] 72)
    go_enter Tryz.func50, Tryz.ntmps50
    go_wp2_with fail
    go_ret
    exact ⟨rfl, hs2⟩
  case pos =>
  subst e2
  by_cases e3 : i = i2
  case neg =>
    have hne : ¬ (⟨s, g, i, d⟩ : Pc) = ⟨s, g, i2, d2⟩ := fun h => e3 (by injection h)
    have q0 : (i == i2) = false := by simpa using e3
    rw [decide_eq_false hne]
    clear hne
    have hs2 : Sat W _ L := (hs.alloc (.cells #[.int .i64 s, .int .i64 g, .int .i64 i, .slice av d.length cv] 72)).alloc (.cells #[.int .i64 s, .int .i64 g, .int .i64 i2, .slice av2 d2.length cv2] 72)
    go_enter Tryz.func50, Tryz.ntmps50
    go_wp2_with fail
    go_ret
    exact ⟨rfl, hs2⟩
  case pos =>
  subst e3
  have hs2 : Sat W _ L := (hs.alloc (.cells #[.int .i64 s, .int .i64 g, .int .i64 i, .slice av d.length cv] 72)).alloc (.cells #[.int .i64 s, .int .i64 g, .int .i64 i, .slice av2 d2.length cv2] 72)
  have he : decide ((⟨s, g, i, d⟩ : Pc) = ⟨s, g, i, d2⟩) = (d == d2) := by
    by_cases h : d = d2
    · rw [decide_eq_true (by rw [h]), h]; simp
    · rw [decide_eq_false (fun e => h (by injection e))]
      exact (beq_eq_false_iff_ne.2 h).symm
  rw [he]
  have hc1 := str_of _ d _ (h1 _ hs2)
  have hc2 := str_of _ d2 _ (h2 _ hs2)
  clear he h1 h2
  go_enter Tryz.func50, Tryz.ntmps50
  go_wp2_with fail
  go_ret
  exact ⟨rfl, hs2⟩
end Go.Proofs.YtekbbpfnkbanjaaGreat.Ch

namespace Go.Proofs.YtekbbpfnkbanjaaGreat.Ch
set_option linter.unusedSimpArgs false
open Go Go.RowKit Go.Sl Go.BigFrame
set_option linter.unusedVariables false

set_option maxRecDepth 100000 in
set_option maxHeartbeats 4000000 in
theorem ref_bytes (p : Pc) (a : Option Addr) (c : Nat) (W w : World) (L : List Atom) (hs : Sat W w L) (hin : ∀ y, Sat W y L → Reads y (.slice a p.data.length c) p.data.length (bts p.data)) (hp : rightP p) :
    Calls Tryz.prog 61 #[pcV p (.slice a p.data.length c)] w fun e w' => ∃ v R, e = .returned v ∧ RowA 5 1 v (pieceB p).length (bts (pieceB p)) R ∧ Sat W w' (R ++ L) := by
  obtain ⟨s, g, i, d⟩ := p
  obtain ⟨h1, h2, h3, h4, h5, h6, h7⟩ := hp
  have hPB : pieceB ⟨s, g, i, d⟩ = bytesB s 1 ++ bytesB g 6 ++ [byteAt i 0] ++ d := by
    unfold pieceB
    simp [bytesB]
  obtain ⟨B, hB⟩ : ∃ B, B = pieceB ⟨s, g, i, d⟩ := ⟨_, rfl⟩
  rw [← hB] at hPB ⊢
  have HPB := Lib.hid hPB
  have hi0 : ((byteAt i 0).toNat : Int) = i := by
    have := byteAt_val i 0
    simp only at h5 h6
    omega
  unfold pcV at *
  simp only at *
  have hs2 := hs.newCells #[.int .i64 s, .int .i64 g, .int .i64 i, .slice a d.length c] 72
  obtain ⟨L1, hL1⟩ : ∃ L1, L1 = cellsA w.heap.size #[.int .i64 s, .int .i64 g, .int .i64 i, .slice a d.length c] 72 :: L := ⟨_, rfl⟩
  have HL1 := Lib.hid hL1
  have hm1 : cellsA w.heap.size #[.int .i64 s, .int .i64 g, .int .i64 i, .slice a d.length c] 72 ∈ L1 := by rw [hL1]; exact m0
  rw [← hL1] at hs2
  have hin1 : ∀ y, Sat W y L1 → Reads y (.slice a d.length c) d.length (bts d) := fun y hy => hin y (by rw [hL1] at hy; exact hy.tail)
  have HIN := Lib.hid hin1
  have HM := Lib.hid hm1
  have H7 := Lib.hid h7
  have HI0 := Lib.hid hi0
  have c0 : ∀ y : Of W L1, y.v.cell? ⟨w.heap.size, 0, none⟩ = some (.int .i64 s) := fun y => y.s.cell hm1 0
  have c1 : ∀ y : Of W L1, y.v.cell? ⟨w.heap.size, 1, none⟩ = some (.int .i64 g) := fun y => y.s.cell hm1 1
  have d0 : (w.alloc (.cells #[.int .i64 s, .int .i64 g, .int .i64 i, .slice a d.length c] 72)).cell? ⟨w.heap.size, 0, none⟩ = some (.int .i64 s) := c0 ⟨_, hs2⟩
  clear hL1 hs hin hin1 hm1 hPB hB h7 hi0
  go_enter Tryz.func61, Tryz.ntmps61
  go_wp2_with fail
  refine wp_region_held1 [2, 5, 6] [3, 4] [3] [2] [0, 1, 3, 4, 2, 5, 6, 7] (Held W L1) (by kernel_rfl) (by kernel_rfl) ?_ ?_
  · exact Held.mk hs2.drew
  have hne : Nonempty (Of W L1) := ⟨⟨_, hs2⟩⟩
  have hs3 := hs2.drew
  repeat (first | (refine can_pu1 rfl rfl rfl rfl rfl rfl (fun K hK => ?_); go_big_quiet_op; refine hK _ ?_; clear hK K) | (refine can_st1 rfl rfl rfl rfl rfl rfl (fun K hK => ?_); go_big_quiet_op; refine hK _ ?_; clear hK K) | (refine can_early1 rfl rfl rfl rfl rfl (fun K hK => ?_); go_big_quiet_op; refine hK _ ?_; clear hK K) | (refine can_skip rfl rfl rfl ?_; simp only [Act.put, List.setIfInBounds_toArray, List.set_cons_zero, List.set_cons_succ]))
  generalize w.heap.size = z at *
  refine with_sat hs3 ?_
  clear hs3 hs2 c0 c1 d0 hne
  intro w3 hs3
  refine can_actS rfl rfl rfl rfl (fun K hK => ?_)
  go_wp2_with fail
  refine (ref_big s 1 W _ _ (by omega) (by omega) (by omega) hs3).mono ?_; rintro r w4 ⟨v1, R1, rfl, hr1, hs4⟩
  apply hK
  refine ⟨Held.mk hs4.right, ?_⟩
  clear hK hs3
  obtain ⟨a1, k1, rfl⟩ := Ch.RowA.slice hr1
  repeat (first | (refine can_pu1 rfl rfl rfl rfl rfl rfl (fun K hK => ?_); go_big_quiet_op; refine hK _ ?_; clear hK K) | (refine can_st1 rfl rfl rfl rfl rfl rfl (fun K hK => ?_); go_big_quiet_op; refine hK _ ?_; clear hK K) | (refine can_early1 rfl rfl rfl rfl rfl (fun K hK => ?_); go_big_quiet_op; refine hK _ ?_; clear hK K) | (refine can_skip rfl rfl rfl ?_; simp only [Act.put, List.setIfInBounds_toArray, List.set_cons_zero, List.set_cons_succ]))
  refine can_actF rfl rfl rfl rfl (fun K hK => ?_)
  go_wp2_with fail
  refine (ref_big g 6 W _ _ (by omega) (by omega) (by omega) hs4).mono ?_; rintro r w5 ⟨v2, R2, rfl, hr2, hs5⟩
  apply hK
  clear hK hs4
  obtain ⟨a2, k2, rfl⟩ := Ch.RowA.slice hr2
  have hs6 : Sat W w5 (R1 ++ (R2 ++ L1)) := hs5.use (by intro x; simp only [cnt_append, cnt_cons, cnt_nil]; omega)
  have hsrc := hr2.reads hs5
  have l1 := bytesB_length s 1
  have l6 := bytesB_length g 6
  generalize bytesB s 1 = B1 at *
  generalize bytesB g 6 = B6 at *
  have HL1' := Lib.hid l1
  have HL6' := Lib.hid l6
  clear l1 l6 hs5
  refine can_actF rfl rfl rfl rfl (fun K hK => ?_)
  refine wp_append_u8 rfl B1 B6 rfl rfl hr1 hs6 hsrc (by rw [HL1'.out, HL6'.out]; decide) (fun v3 w6 R3 hr3 hs7 => ?_)
  simp only [Act.put, List.setIfInBounds_toArray, List.set_cons_zero, List.set_cons_succ]
  refine hK _ _ ?_
  clear hK hr1 hr2 hs6 hsrc
  obtain ⟨a3, k3, rfl⟩ := Ch.RowA.slice hr3
  repeat (first | (refine can_pu1 rfl rfl rfl rfl rfl rfl (fun K hK => ?_); go_big_quiet_op; refine hK _ ?_; clear hK K) | (refine can_st1 rfl rfl rfl rfl rfl rfl (fun K hK => ?_); go_big_quiet_op; refine hK _ ?_; clear hK K) | (refine can_early1 rfl rfl rfl rfl rfl (fun K hK => ?_); go_big_quiet_op; refine hK _ ?_; clear hK K) | (refine can_skip rfl rfl rfl ?_; simp only [Act.put, List.setIfInBounds_toArray, List.set_cons_zero, List.set_cons_succ]))
  refine can_end1 ?_; (try simp only [Exit.then])
  have hm6 : cellsA z #[.int .i64 s, .int .i64 g, .int .i64 i, .slice a d.length c] 72 ∈ R3 ++ (R2 ++ L1) := List.mem_append_right _ (List.mem_append_right _ HM.out)
  have e2 := hs7.cell hm6 2
  have i0 : (0 : Int) ≤ i := by omega
  have i6 : i < 6 := by omega
  have hl3 : (B1 ++ B6).length = 7 := by rw [List.length_append, HL1'.out, HL6'.out]
  generalize B1 ++ B6 = B7 at *
  have HL7 := Lib.hid hl3
  have hpar : ∀ y, Sat W y (R3 ++ (R2 ++ L1)) → Reads y (.slice a d.length c) d.length (bts d) := fun y hy => HIN.out y hy.right.right
  have hsb : Sat W (w6.alloc (.cells #[.int .u8 i] 5)) (R3 ++ (cellsA w6.heap.size #[.int .u8 i] 5 :: (R2 ++ L1))) := (hs7.newCells _ _).use (by intro x; simp only [cnt_append, cnt_cons, cnt_nil]; omega)
  clear hl3 hm6
  go_wp2_with (at_builtin; first | (refine wpList_plain rfl (fun K hK => ?_); refine wp_append_u8 rfl B7 [byteAt i 0] rfl rfl hr3 hsb (reads_new w6 _ _ _ _ _ (by simp [bts]; exact HI0.out.symm)) (by rw [HL7.out]; show 7 + 1 < 1000000; omega) (fun v4 w7 R4 hr4 hs8 => ?_); refine hK _ _ ?_; simp only [Act.put, List.setIfInBounds_toArray, List.set_cons_zero, List.set_cons_succ]; clear hK; obtain ⟨a4, k4, rfl⟩ := Ch.RowA.slice hr4; have e3 := hs8.cell (b := z) (T := 72) (List.mem_append_right _ (.tail _ (List.mem_append_right _ HM.out))) 3; have hl8 : (B7 ++ [byteAt i 0]).length = 8 := (by rw [List.length_append, HL7.out]; rfl); generalize B7 ++ [byteAt i 0] = B8 at *; have HL8 := Lib.hid hl8; clear hl8) | (refine wpList_plain rfl (fun K hK => ?_); refine wp_append_u8 rfl B8 d rfl rfl hr4 hs8 (HIN.out _ hs8.right.tail.right) (by rw [HL8.out, H7.out]; decide) (fun v5 w8 R5 hr5 hs9 => ?_); refine hK _ _ ?_; simp only [Act.put, List.setIfInBounds_toArray, List.set_cons_zero, List.set_cons_succ]; clear hK; obtain ⟨a5, k5, rfl⟩ := Ch.RowA.slice hr5))
  have hs9' := hs9
  rw [HL1.out] at hs9'
  rw [HPB.out]
  exact bodyPost_ret (v := .slice a5 (B8 ++ d).length k5) (by simp [results, Tryz.results61, go_sem, *]) rfl ⟨_, R5, rfl, hr5, hs9'.use (by intro x; simp only [cnt_append, cnt_cons, cnt_nil]; omega)⟩
end Go.Proofs.YtekbbpfnkbanjaaGreat.Ch

namespace Go.Proofs.YtekbbpfnkbanjaaGreat.Ch
set_option linter.unusedSimpArgs false
open Go Go.RowKit Go.Sl Go.BigFrame
set_option linter.unusedVariables false

theorem ref_lay_bad (p : Pc) (a : Option Addr) (c : Nat) (W w : World) (L : List Atom) (hs : Sat W w L) (hp : ¬ rightP p) :
    Calls Tryz.prog 34 #[pcV p (.slice a p.data.length c)] w fun e w' => e = .returned (.tuple #[.slice none 0 0, .bool false]) ∧ Sat W w' L := by
  obtain ⟨s, g, i, d⟩ := p
  unfold pcV
  simp only []
  have hr := ref_right ⟨s, g, i, d⟩ a c
  rw [decide_eq_false hp] at hr
  unfold pcV at hr
  simp only at hr
  have HR := Lib.hid hr
  clear hr
  go_enter Tryz.func34, Tryz.ntmps34
  go_wp2_with fail
  refine (HR.out _).mono ?_; rintro r w2 ⟨rfl, hx⟩
  have hs2 : Sat W w2 L := (hs.alloc _).below hx
  go_wp2_with fail
  go_ret2
  exact ⟨rfl, hs2⟩

set_option maxRecDepth 100000 in
set_option maxHeartbeats 4000000 in
theorem ref_lay (p : Pc) (a : Option Addr) (c : Nat) (W w : World) (L : List Atom) (hs : Sat W w L) (hin : ∀ y, Sat W y L → Reads y (.slice a p.data.length c) p.data.length (bts p.data)) (hp : rightP p) :
    Calls Tryz.prog 34 #[pcV p (.slice a p.data.length c)] w fun e w' => ∃ bv R, e = .returned (.tuple #[bv, .bool true]) ∧ RowA 5 1 bv (layB p).length (bts (layB p)) R ∧ Sat W w' (R ++ L) := by
  have hr := ref_right p a c
  rw [decide_eq_true hp] at hr
  have hb := fun (w : World) (L' : List Atom) (h : Sat W w L') (h2 : ∀ y, Sat W y L' → Sat W y L) => ref_bytes p a c W w L' h (fun y hy => hin y (h2 y hy)) hp
  have hlen : (pieceB p).length ≤ 153 := by
    have := pieceB_length p
    have := hp.2.2.2.2.2.2
    omega
  unfold layB
  obtain ⟨s, g, i, d⟩ := p
  generalize pieceB ⟨s, g, i, d⟩ = M at *
  unfold pcV at *
  simp only at *
  have HR := Lib.hid hr
  have HB := Lib.hid hb
  have HL := Lib.hid hlen
  clear hr hb hin hp hlen
  go_enter Tryz.func34, Tryz.ntmps34
  go_wp2_with fail
  refine (HR.out _).mono ?_; rintro r w2 ⟨rfl, hx⟩
  have hs2 : Sat W w2 (cellsA w.heap.size #[.int .i64 s, .int .i64 g, .int .i64 i, .slice a d.length c] 72 :: L) := (hs.newCells _ _).below hx
  have c0 := hs2.cell m0 0
  have c1 := hs2.cell m0 1
  have c2 := hs2.cell m0 2
  have c3 := hs2.cell m0 3
  generalize w.heap.size = z at *
  clear hs hx
  go_wp2_with fail
  refine (HB.out w2 _ hs2 (fun y hy => hy.tail)).mono ?_; rintro r w3 ⟨v1, R1, rfl, hr1, hs3⟩
  clear c0 c1 c2 c3 hs2
  go_wp2_with fail
  refine (ref_seal 1 v1 M W _ _ (by omega) (by omega) HL.out hs3 (fun y hy => hr1.reads (hs3.below hy))).mono ?_; rintro r w4 ⟨v2, R2, rfl, hr2, hs4⟩
  go_wp2_with fail
  go_ret2
  exact ⟨v2, R2, rfl, hr2, hs4.use (by intro x; simp only [cnt_append, cnt_cons, cnt_nil]; omega)⟩
end Go.Proofs.YtekbbpfnkbanjaaGreat.Ch

namespace Go.Proofs.YtekbbpfnkbanjaaGreat.Ch
set_option linter.unusedSimpArgs false
open Go Go.RowKit Go.Sl Go.BigFrame
set_option linter.unusedVariables false

/-- A sealed block's own size. -/
theorem seal_size {kind : Int} {m b : List UInt8} (h : sealB kind m = b) (hm : m.length = 153) : b.getD 1 0 = 0 ∧ b.getD 2 0 = 153 := by
  subst h
  unfold sealB headB
  rw [hm]
  exact ⟨rfl, rfl⟩

set_option pp.deepTerms true in
set_option maxRecDepth 100000 in
set_option maxHeartbeats 4000000 in
theorem ref_open (W w : World) (L : List Atom) (v : Value) (b : List UInt8) (hs : Sat W w L) (hin : ∀ y, Sat W y L → Reads y v b.length (bts b)) (hl : b.length < 1000000) (hcap : ∀ a n c, v = .slice a n c → n ≤ c) :
    Calls Tryz.prog 67 #[v] w fun r w' => ∃ bv R, r = .returned (.tuple #[.int .i64 (openB b).1, bv, .int .i64 (openB b).2.2]) ∧ RowA 5 1 bv (openB b).2.1.length (bts (openB b).2.1) R ∧ Sat W w' (R ++ L) := by
  by_cases h160 : b.length = 160
  · obtain ⟨k0, i0⟩ : ∃ c, b[0]? = some c := ⟨_, List.getElem?_eq_getElem (by omega)⟩
    obtain ⟨k1, i1⟩ : ∃ c, b[1]? = some c := ⟨_, List.getElem?_eq_getElem (by omega)⟩
    obtain ⟨k2, i2⟩ : ∃ c, b[2]? = some c := ⟨_, List.getElem?_eq_getElem (by omega)⟩
    have hr := hin w hs
    have hr' := hr
    rcases hr' with ⟨_, hz, _⟩ | ⟨⟨g, o, sp⟩, c, rfl, hc⟩
    · omega
    have hcell : ∀ y, Sat W y L → ∀ k u, b[k]? = some u → y.cell? ((⟨g, o, sp⟩ : Addr).add k) = some (.int .u8 (u.toNat : Int)) := fun y hy k u hu => by
      rcases hin y hy with ⟨h1, _⟩ | ⟨a', c', e1, hc'⟩
      · cases h1
      · cases e1
        exact hc' k _ (bts_get hu)
    have u4 := u8_lt k1
    have u5 := u8_lt k2
    have v4 : (0 : Int) ≤ k1.toNat := by omega
    have v5 : (0 : Int) ≤ k2.toNat := by omega
    have u6 := u8_lt k0
    have v6 : (0 : Int) ≤ k0.toNat := by omega
    have hcp : 160 ≤ c := by have := hcap _ _ _ rfl; omega
    have hcp2 : (156 : Int) ≤ c := by omega
    have hO : openB b = (if sumB (b.take 156) ≠ numB (b.drop 156) then ((0 : Int), ([] : List UInt8), (3 : Int)) else
      if (k0.toNat : Int) < 1 ∨ sealB (k0.toNat : Int) ((b.drop 3).take (min (k1.toNat * 256 + k2.toNat) 153)) ≠ b then ((0 : Int), ([] : List UInt8), (2 : Int)) else ((k0.toNat : Int), (b.drop 3).take (min (k1.toNat * 256 + k2.toNat) 153), 0)) := by
      unfold openB
      rw [if_neg (by omega), getD_of i0, getD_of i1, getD_of i2]
    have HO := Lib.hid hO
    have HC := Lib.hid hcell
    have HIN := Lib.hid hin
    have HI0 := Lib.hid i0
    have HI1 := Lib.hid i1
    have HI2 := Lib.hid i2
    have H160 := Lib.hid h160
    have hS : Sat W w L := hs
    clear hcap hin hO hcell i0 i1 i2
    clear hc hr hs
    rw [h160]
    clear h160
    go_enter Tryz.func67, Tryz.ntmps67
    go_wp2_with fail
    go_loop [7, 6] (fun kv hv => ∃ j : Nat, kv = .int .i64 j ∧ 156 ≤ j ∧ j ≤ 160 ∧ hv = .int .i64 (numB ((b.drop 156).take (j - 156)))) (fun kv _ => (160 - (intOf kv).toNat))
    case atStart => exact ⟨156, rfl, by omega, by omega, by simp [numB]⟩
    case round =>
      obtain ⟨j, rfl, hj, hj2, rfl⟩ := hrel
      have j0 : (0 : Int) ≤ j := by omega
      by_cases hkl : j < 160
      · have k1' : (j : Int) < 160 := by omega
        obtain ⟨x, hx⟩ : ∃ x, b[j]? = some x := ⟨_, List.getElem?_eq_getElem (by rw [H160.out]; exact hkl)⟩
        have d0 : w.cell? ((⟨g, o, sp⟩ : Addr).add j) = some (.int .u8 (x.toNat : Int)) := HC.out w hS j _ hx
        have hst : numB ((b.drop 156).take (j + 1 - 156)) = numB ((b.drop 156).take (j - 156)) * 256 + x.toNat := by
          rw [show j + 1 - 156 = (j - 156) + 1 by omega, take_snoc (l := b.drop 156) (k := j - 156) (by rw [List.getElem?_drop, show 156 + (j - 156) = j by omega]; exact hx), numB_snoc]
        obtain ⟨s1, s2⟩ := numB_bounds ((b.drop 156).take (j - 156)) (j - 156) (by rw [List.length_take, List.length_drop, H160.out]; omega)
        have s3 : numB ((b.drop 156).take (j - 156)) < 1099511627776 := by
          have : (256 : Int) ^ (j - 156) ≤ 256 ^ 5 := by
            have : (256 : Nat) ^ (j - 156) ≤ 256 ^ 5 := Nat.pow_le_pow_right (by decide) (by omega)
            exact_mod_cast this
          have e : (256 : Int) ^ 5 = 1099511627776 := by decide
          omega
        have c1 := u8_lt x
        have c0 : (0 : Int) ≤ x.toNat := by omega
        have HST := Lib.hid hst
        clear hst hx s2
        generalize numB ((b.drop 156).take (j - 156)) = s at *
        have hor : bits .or .i64 (s * 256) x.toNat = s * 256 + x.toNat := by
          have h := or_low 8 s.toNat x.toNat (by have := x.toNat_lt; omega) (by omega) (by decide)
          rw [show ((s.toNat * 2 ^ 8 : Nat) : Int) = s * 256 by omega, show ((s.toNat * 2 ^ 8 + x.toNat : Nat) : Int) = s * 256 + x.toNat by omega] at h
          exact h
        have HOR := Lib.hid hor
        clear hor
        go_wp2_with fail
        refine ⟨⟨j + 1, by simp, by omega, by omega, by rw [HST.out, HOR.out]⟩, ?_⟩
        simp [intOf]
        omega
      · obtain rfl : j = 160 := by omega
        rw [show (b.drop 156).take (160 - 156) = b.drop 156 from List.take_of_length_le (by rw [List.length_drop, H160.out]; exact Nat.le_refl _)]
        clear hj hj2 hkl j0
        generalize numB (b.drop 156) = S2 at *
        go_wp2_with fail
        have hrc : ∀ y, Sat W y L → Reads y (Value.slice (some ⟨g, o, sp⟩) 156 c) (b.take 156).length (bts (b.take 156)) := fun y hy => by
          rcases reads_cut (m := 156) (HIN.out _ hy) (by rw [H160.out]; omega) c with h | h
          · exact h
          · cases h
        refine (ref_sum _ (b.take 156) W w _ hS hrc (by rw [List.length_take]; omega)).mono ?_; rintro r w4 ⟨rfl, hs4⟩
        clear hrc hS
        have HO' := HO.out
        by_cases hse : sumB (b.take 156) = S2
        · rw [if_neg (by simpa using hse)] at HO'
          have qs : (sumB (b.take 156) != S2) = false := by simpa using hse
          have HO2 := Lib.hid HO'
          clear hse HO' HO
          generalize sumB (b.take 156) = S1 at *
          have hor := or2 k1 k2
          have d4 : w4.cell? ⟨g, o + 1, none⟩ = some (.int .u8 (k1.toNat : Int)) := HC.out _ hs4 1 _ HI1.out
          have d5 : w4.cell? ⟨g, o + 2, none⟩ = some (.int .u8 (k2.toNat : Int)) := HC.out _ hs4 2 _ HI2.out
          go_wp2_with fail
          refine wp_region_one [] [] [] [] [0, 1, 2, 3, 4, 5, 6, 7, 8, 9, 10] (by kernel_rfl) (by kernel_rfl) ?_
          repeat (first | (refine can_pu1 rfl rfl rfl rfl rfl rfl (fun K hK => ?_); go_big_quiet_op; refine hK _ ?_; clear hK K) | (refine can_st1 rfl rfl rfl rfl rfl rfl (fun K hK => ?_); go_big_quiet_op; refine hK _ ?_; clear hK K) | (refine can_early1 rfl rfl rfl rfl rfl (fun K hK => ?_); go_big_quiet_op; refine hK _ ?_; clear hK K) | (refine can_skip rfl rfl rfl ?_; simp only [Act.put, List.setIfInBounds_toArray, List.set_cons_zero, List.set_cons_succ]))
          refine can_end1 ?_; (try simp only [Exit.then])
          rw [show (k1.toNat : Int) * 256 + k2.toNat = ((k1.toNat * 256 + k2.toNat : Nat) : Int) by omega]
          clear hor
          generalize hm : k1.toNat * 256 + k2.toNat = m at *
          rcases Nat.lt_or_ge 153 m with hm1 | hm1
          · have hm2 : 153 < (m : Int) := by omega
            rw [show min m 153 = 153 by omega] at HO2
            have hbad : sealB (k0.toNat : Int) ((b.drop 3).take 153) ≠ b := fun h => by
              obtain ⟨a1, a2⟩ := seal_size h (by rw [List.length_take, List.length_drop, H160.out]; rfl)
              rw [getD_of HI1.out] at a1
              rw [getD_of HI2.out] at a2
              rw [a1, a2] at hm
              have e : (0 : UInt8).toNat * 256 + (153 : UInt8).toNat = 153 := rfl
              omega
            have HO3 := HO2.out
            rw [if_pos (.inr hbad)] at HO3
            have HO4 := Lib.hid HO3
            clear HO3 HO2 hbad hm1 hm
            go_wp2_with fail
            go_ret3
            rw [HO4.out]
            exact ⟨_, _, rfl, RowA.nil _ _, hs4.drew⟩
          · have hm2 : (m : Int) ≤ 153 := by omega
            have hm0 : (0 : Int) ≤ m := by omega
            rw [show min m 153 = m by omega] at HO2
            have hs5 := hs4.drew
            have hsrc : ∀ y c', Sat W y L → Reads y (.slice (some ⟨g, o + 3, none⟩) (3 + m - 3) c') ((b.drop 3).take m).length (bts ((b.drop 3).take m)) := fun y c' hy => by
              rw [show 3 + m - 3 = m by omega]
              exact reads_sub (HC.out y hy) 3 m c' (by rw [H160.out]; omega) (add_three g o sp)
            have hlb : ((b.drop 3).take m).length = m := by rw [List.length_take, List.length_drop, H160.out]; omega
            have hblk : ∀ y, Sat W y L → Reads y (Value.slice (some { block := g, off := o, spot := sp }) b.length c) b.length (bts b) := HIN.out
            rw [H160.out] at hblk
            have hblk0 : ∀ y, Sat W y L → Reads y (Value.slice (some { block := g, off := o, spot := sp }) 160 c) b.length (bts b) := fun y hy => by
              have h := HIN.out y hy
              rw [H160.out] at h ⊢
              exact h
            have HBK := Lib.hid hblk0
            have HSR := Lib.hid hsrc
            have HLB := Lib.hid hlb
            clear hm hm1 hblk hblk0 hsrc hlb d4 d5 hs4
            generalize w4.drew = w5 at *
            generalize (b.drop 3).take m = B at *
            go_wp2_with (at_builtin; go_loud (refine wpList_plain rfl (fun K hK => ?_); refine wp_append_u8 rfl [] B rfl rfl (none_row _) (none_sat hs5) (HSR.out _ _ (none_sat hs5).right) (by rw [HLB.out]; show 0 + m < 1000000; omega) (fun v2 w6 R2 hr2 hs6 => ?_); refine hK _ _ ?_; simp only [Act.put, List.setIfInBounds_toArray, List.set_cons_zero, List.set_cons_succ]; clear hK; obtain ⟨a2, q2, rfl⟩ := Ch.RowA.slice hr2; simp only [List.nil_append] at hr2 ⊢; have d6 : w6.cell? ⟨g, o, sp⟩ = some (.int .u8 (k0.toNat : Int)) := HC.out _ hs6.right 0 _ HI0.out))
            have hBl : B.length ≤ 153 := by rw [HLB.out]; omega
            by_cases hk1 : (k0.toNat : Int) < 1
            · have hO2 := HO2.out
              rw [if_pos (.inl hk1)] at hO2
              have HO3 := Lib.hid hO2
              clear hO2 HO2
              refine (ref_seal_bad _ _ _ _ (hr2.reads hs6) (.inl hk1)).mono ?_; rintro r w7 ⟨rfl, rfl⟩
              go_wp2_with fail
              go_ret3
              rw [HO3.out]
              exact ⟨_, _, rfl, RowA.nil _ _, hs6.right⟩
            · refine (ref_seal _ _ _ W _ _ (by omega) (by omega) hBl hs6 (fun y hy => hr2.reads (hs6.below hy))).mono ?_; rintro r w7 ⟨v3, R3, rfl, hr3, hs7⟩
              have d7 : w7.cell? ⟨g, o, sp⟩ = some (.int .u8 (k0.toNat : Int)) := HC.out _ hs7.right.right 0 _ HI0.out
              have hc1 := str_of _ (sealB (k0.toNat : Int) B) w7 (hr3.reads hs7)
              have hc2 := str_of _ b w7 (HBK.out _ hs7.right.right)
              have hK0 := Lib.hid hk1
              have hO2 := HO2.out
              have hcond : ((k0.toNat : Int) < 1 ∨ sealB (k0.toNat : Int) B ≠ b) ↔ ¬ sealB (k0.toNat : Int) B = b := ⟨fun h => h.elim (fun h => absurd h hk1) id, .inr⟩
              simp only [hcond] at hO2
              clear HO2 hcond d6 hk1
              generalize sealB (k0.toNat : Int) B = Z at *
              by_cases hz : Z = b
              · rw [if_neg (fun h => h hz)] at hO2
                have HO3 := Lib.hid hO2
                have qz : (Z == b) = true := by simpa using hz
                clear hO2 hz
                go_wp2_with fail
                go_ret3
                rw [HO3.out]
                exact ⟨_, R2, rfl, hr2, hs7.use (by intro x; simp only [cnt_append, cnt_cons, cnt_nil]; omega)⟩
              · rw [if_pos hz] at hO2
                have HO3 := Lib.hid hO2
                have qz : (Z == b) = false := by simpa using hz
                clear hO2 hz
                go_wp2_with fail
                go_ret3
                rw [HO3.out]
                exact ⟨_, _, rfl, RowA.nil _ _, hs7.right.right⟩
        · rw [if_pos hse] at HO'
          have qs : (sumB (b.take 156) != S2) = true := by simpa using hse
          have HO2 := Lib.hid HO'
          clear hse HO' HO
          generalize sumB (b.take 156) = S1 at *
          go_wp2_with fail
          go_ret3
          rw [HO2.out]
          exact ⟨_, _, rfl, RowA.nil _ _, hs4⟩
  · have hr := hin w hs
    have q0 : ((b.length : Int) != 160) = true := by simp; omega
    have hb : openB b = (0, [], 2) := by unfold openB; rw [if_pos h160]
    obtain ⟨a1, c1, rfl⟩ := reads_shape hr
    rw [hb]
    clear hb
    go_enter Tryz.func67, Tryz.ntmps67
    go_wp2_with fail
    go_ret3
    exact ⟨_, _, rfl, RowA.nil _ _, hs⟩
end Go.Proofs.YtekbbpfnkbanjaaGreat.Ch

namespace Go.Proofs.YtekbbpfnkbanjaaGreat.Ch
set_option linter.unusedSimpArgs false
open Go Go.RowKit Go.Sl Go.BigFrame
set_option linter.unusedVariables false

set_option maxRecDepth 100000 in
set_option maxHeartbeats 4000000 in
theorem ref_piece (g off cap : Nat) (b : List UInt8) (W w : World) (L : List Atom) (hs : Sat W w L) (h8 : 8 ≤ b.length) (hl : b.length < 1000000) (hcap : b.length ≤ cap)
    (hcell : ∀ y, Sat W y L → ∀ k u, b[k]? = some u → y.cell? ((⟨g, off, none⟩ : Addr).add k) = some (.int .u8 (u.toNat : Int))) :
    Calls Tryz.prog 87 #[.slice (some ⟨g, off, none⟩) b.length cap] w fun e w' => ∃ dv R, e = .returned (pcV (pieceOf b) dv) ∧ RowA 5 1 dv (pieceOf b).data.length (bts (pieceOf b).data) R ∧ Sat W w' (R ++ L) := by
  obtain ⟨u0, hu0⟩ : ∃ c, b[0]? = some c := ⟨_, List.getElem?_eq_getElem (by omega)⟩
  obtain ⟨u7, hu7⟩ : ∃ c, b[7]? = some c := ⟨_, List.getElem?_eq_getElem (by omega)⟩
  have hpo : pieceOf b = ⟨u0.toNat, numB ((b.drop 1).take 6), u7.toNat, b.drop 8⟩ := by
    unfold pieceOf
    rw [getD_of hu0, getD_of hu7]
  rw [hpo]
  clear hpo
  simp only []
  have v0 := u8_lt u0
  have v7 := u8_lt u7
  have x0 : (0 : Int) ≤ u0.toNat := by omega
  have x7 : (0 : Int) ≤ u7.toNat := by omega
  have hs2 := hs.newCells #[.int .i64 0, .int .i64 0, .int .i64 0, .slice none 0 0] 72
  obtain ⟨LL, hLL⟩ : ∃ LL, LL = cellsA w.heap.size #[.int .i64 0, .int .i64 0, .int .i64 0, .slice none 0 0] 72 :: L := ⟨_, rfl⟩
  have HLL := Lib.hid hLL
  have hcell2 : ∀ y, Sat W y LL → ∀ k u, b[k]? = some u → y.cell? ((⟨g, off, none⟩ : Addr).add k) = some (.int .u8 (u.toNat : Int)) := fun y hy => hcell y (by rw [hLL] at hy; exact hy.tail)
  rw [← hLL] at hs2
  have e0 : ∀ y : Of W LL, y.v.cell? ⟨g, off, none⟩ = some (.int .u8 (u0.toNat : Int)) := fun y => hcell2 y.v y.s 0 _ hu0
  have e7 : ∀ y : Of W LL, y.v.cell? ⟨g, off + 7, none⟩ = some (.int .u8 (u7.toNat : Int)) := fun y => hcell2 y.v y.s 7 _ hu7
  have hl1 : ((b.drop 1).take 6).length ≤ 6 := by simp; omega
  have hdl : (b.drop 8).length = b.length - 8 := by simp
  have hnum : ∀ y, Sat W y LL → ∀ c', Reads y (.slice (some ⟨g, off + 1, none⟩) 6 c') ((b.drop 1).take 6).length (bts ((b.drop 1).take 6)) := fun y hy c' => reads_sub (hcell2 y hy) 1 6 c' (by omega) (add_off g off 1 none (by omega))
  have hdat : ∀ y, Sat W y LL → ∀ c', Reads y (.slice (some ⟨g, off + 8, none⟩) (b.length - 8) c') (b.drop 8).length (bts (b.drop 8)) := fun y hy c' => by
    have h := reads_sub (hcell2 y hy) 8 (b.length - 8) c' (by omega) (add_off g off 8 none (by omega))
    rw [List.take_of_length_le (by simp)] at h
    exact h
  generalize (b.drop 1).take 6 = M6 at *
  generalize b.drop 8 = D at *
  have HNUM := Lib.hid hnum
  have HDAT := Lib.hid hdat
  have HDL := Lib.hid hdl
  generalize b.length = n at *
  have b1 : (8 : Int) ≤ n := by omega
  have b2 : (7 : Int) < n := by omega
  have b3 : (0 : Int) < n := by omega
  have b4 : (7 : Int) ≤ cap := by omega
  clear hcell hcell2 hnum hdat hdl hu0 hu7 hLL hs
  rcases Nat.lt_or_ge 8 cap with hc | hc
  · have hc2 : ¬ cap = 8 := by omega
    clear hc
    go_enter Tryz.func87, Tryz.ntmps87
    go_wp2_with fail
    refine wp_region_plan [6, 11, 14, 16] [0, 1, 2, 3, 4, 5, 7, 8, 9, 10, 12, 13] [0, 1, 3, 4, 5, 7, 8, 10, 12, 13] [6, 11, 14] [0, 1, 2, 3, 4, 5, 7, 8, 9, 10, 12, 13] (.two [6, 11, 14, 15, 16] .nil [11, 6, 14, 15, 16] .nil) (Held W LL) (by kernel_rfl) (by kernel_rfl) ?_ ?_
    · exact Held.mk hs2.drew
    have hne : Nonempty (Of W LL) := ⟨⟨_, hs2⟩⟩
    have hsT := hs2.drew
    repeat (first | (refine can_pu1 rfl rfl rfl rfl rfl rfl (fun K hK => ?_); go_big_quiet_op; refine hK _ ?_; clear hK K) | (refine can_st1 rfl rfl rfl rfl rfl rfl (fun K hK => ?_); go_big_quiet_op; refine hK _ ?_; clear hK K) | (refine can_early1 rfl rfl rfl rfl rfl (fun K hK => ?_); go_big_quiet_op; refine hK _ ?_; clear hK K) | (refine can_skip rfl rfl rfl ?_; simp only [Act.put, List.setIfInBounds_toArray, List.set_cons_zero, List.set_cons_succ]))
    clear e0 e7 hne
    generalize w.heap.size = z at *
    refine with_sat hsT ?_
    clear hsT hs2
    intro wt hsT
    refine can_two ?_ ?_
    · skip
      refine can_actS rfl rfl rfl rfl (fun K hK => ?_)
      go_wp2_with fail
      refine (ref_from _ M6 _ (HNUM.out _ hsT _) hl1).mono ?_; rintro r w4 ⟨rfl, rfl⟩
      apply hK
      refine ⟨Held.mk hsT, ?_⟩
      clear hK
      refine can_actS rfl rfl rfl rfl (fun K hK => ?_)
      go_wp2_with fail
      refine ⟨Held.mk (Sat.alloc hsT _), ?_⟩
      have hs6 := none_sat hsT
      generalize wt.heap.size = z7 at *
      refine with_sat hs6 ?_
      clear hs6
      intro w6 hs6
      refine can_actS rfl rfl rfl rfl (fun K hK => ?_)
      refine wp_append_u8 rfl [] D rfl rfl (none_row _) hs6 (HDAT.out _ hs6.right _) (by rw [HDL.out]; show 0 + (n - 8) < 1000000; omega) (fun v7 w7 R7 hr7 hs7 => ?_)
      apply hK
      refine ⟨Held.mk hs7.right, ?_⟩
      clear hK
      simp only [Act.put, List.setIfInBounds_toArray, List.set_cons_zero, List.set_cons_succ]
      rw [List.nil_append] at hr7
      obtain ⟨a7, c7, rfl⟩ := Ch.RowA.slice hr7
      repeat (first | (refine can_pu1 rfl rfl rfl rfl rfl rfl (fun K hK => ?_); go_big_quiet_op; refine hK _ ?_; clear hK K) | (refine can_st1 rfl rfl rfl rfl rfl rfl (fun K hK => ?_); go_big_quiet_op; refine hK _ ?_; clear hK K) | (refine can_early1 rfl rfl rfl rfl rfl (fun K hK => ?_); go_big_quiet_op; refine hK _ ?_; clear hK K) | (refine can_skip rfl rfl rfl ?_; simp only [Act.put, List.setIfInBounds_toArray, List.set_cons_zero, List.set_cons_succ]))
      rw [HLL.out] at hs7
      have hs8 := Sat.use (M := cellsA z #[.int .i64 0, .int .i64 0, .int .i64 0, .slice none 0 0] 72 :: (R7 ++ L)) hs7 (by intro x; simp only [cnt_append, cnt_cons, cnt_nil]; omega)
      clear hs7 hs6
      have g0 := hs8.cell m0 0
      have g1 := hs8.cell m0 1
      have g2 := hs8.cell m0 2
      have g3 := hs8.cell m0 3
      have j0 := hs8.free m0 0
      have j1 := hs8.free m0 1
      have j2 := hs8.free m0 2
      have j3 := hs8.free m0 3
      refine can_actF rfl rfl rfl rfl (fun K hK => ?_)
      go_wp2_with fail
      have hz := Sat.setCell (Sat.setCell (Sat.setCell (Sat.setCell hs8 0 (.int .i64 u0.toNat)) 1 (.int .i64 (numB M6))) 2 (.int .i64 u7.toNat)) 3 (.slice a7 (D : List UInt8).length c7)
      simp only [List.setIfInBounds_toArray, List.set_cons_zero, List.set_cons_succ] at hz
      refine can_end1 ?_; (try simp only [Exit.then])
      refine with_sat hz ?_
      clear hz hs8 g0 g1 g2 g3 j0 j1 j2 j3
      intro w9 hs9
      have g0 := hs9.cell m0 0
      have g1 := hs9.cell m0 1
      have g2 := hs9.cell m0 2
      have g3 := hs9.cell m0 3
      go_wp2_with fail
      refine bodyPost_ret (v := pcV ⟨u0.toNat, numB M6, u7.toNat, D⟩ (.slice a7 (D : List UInt8).length c7)) (by simp [results, Tryz.results87, go_sem, pcV, *]) rfl ?_
      exact ⟨_, R7, rfl, hr7, hs9.tail⟩
    · skip
      refine can_actS rfl rfl rfl rfl (fun K hK => ?_)
      go_wp2_with fail
      refine ⟨Held.mk (Sat.alloc hsT _), ?_⟩
      have hs6 := none_sat hsT
      generalize wt.heap.size = z7 at *
      refine with_sat hs6 ?_
      clear hs6
      intro w6 hs6
      refine can_actS rfl rfl rfl rfl (fun K hK => ?_)
      go_wp2_with fail
      refine (ref_from _ M6 _ (HNUM.out _ hs6.right _) hl1).mono ?_; rintro r w4 ⟨rfl, rfl⟩
      apply hK
      refine ⟨Held.mk hs6.right, ?_⟩
      clear hK
      refine can_actS rfl rfl rfl rfl (fun K hK => ?_)
      refine wp_append_u8 rfl [] D rfl rfl (none_row _) hs6 (HDAT.out _ hs6.right _) (by rw [HDL.out]; show 0 + (n - 8) < 1000000; omega) (fun v7 w7 R7 hr7 hs7 => ?_)
      apply hK
      refine ⟨Held.mk hs7.right, ?_⟩
      clear hK
      simp only [Act.put, List.setIfInBounds_toArray, List.set_cons_zero, List.set_cons_succ]
      rw [List.nil_append] at hr7
      obtain ⟨a7, c7, rfl⟩ := Ch.RowA.slice hr7
      repeat (first | (refine can_pu1 rfl rfl rfl rfl rfl rfl (fun K hK => ?_); go_big_quiet_op; refine hK _ ?_; clear hK K) | (refine can_st1 rfl rfl rfl rfl rfl rfl (fun K hK => ?_); go_big_quiet_op; refine hK _ ?_; clear hK K) | (refine can_early1 rfl rfl rfl rfl rfl (fun K hK => ?_); go_big_quiet_op; refine hK _ ?_; clear hK K) | (refine can_skip rfl rfl rfl ?_; simp only [Act.put, List.setIfInBounds_toArray, List.set_cons_zero, List.set_cons_succ]))
      rw [HLL.out] at hs7
      have hs8 := Sat.use (M := cellsA z #[.int .i64 0, .int .i64 0, .int .i64 0, .slice none 0 0] 72 :: (R7 ++ L)) hs7 (by intro x; simp only [cnt_append, cnt_cons, cnt_nil]; omega)
      clear hs7 hs6
      have g0 := hs8.cell m0 0
      have g1 := hs8.cell m0 1
      have g2 := hs8.cell m0 2
      have g3 := hs8.cell m0 3
      have j0 := hs8.free m0 0
      have j1 := hs8.free m0 1
      have j2 := hs8.free m0 2
      have j3 := hs8.free m0 3
      refine can_actF rfl rfl rfl rfl (fun K hK => ?_)
      go_wp2_with fail
      have hz := Sat.setCell (Sat.setCell (Sat.setCell (Sat.setCell hs8 0 (.int .i64 u0.toNat)) 1 (.int .i64 (numB M6))) 2 (.int .i64 u7.toNat)) 3 (.slice a7 (D : List UInt8).length c7)
      simp only [List.setIfInBounds_toArray, List.set_cons_zero, List.set_cons_succ] at hz
      refine can_end1 ?_; (try simp only [Exit.then])
      refine with_sat hz ?_
      clear hz hs8 g0 g1 g2 g3 j0 j1 j2 j3
      intro w9 hs9
      have g0 := hs9.cell m0 0
      have g1 := hs9.cell m0 1
      have g2 := hs9.cell m0 2
      have g3 := hs9.cell m0 3
      go_wp2_with fail
      refine bodyPost_ret (v := pcV ⟨u0.toNat, numB M6, u7.toNat, D⟩ (.slice a7 (D : List UInt8).length c7)) (by simp [results, Tryz.results87, go_sem, pcV, *]) rfl ?_
      exact ⟨_, R7, rfl, hr7, hs9.tail⟩
  · obtain rfl : cap = 8 := by omega
    obtain rfl : n = 8 := by omega
    obtain rfl : D = [] := List.length_eq_zero_iff.1 HDL.out
    have hdat : ∀ y, Sat W y LL → ∀ c', Reads y (.slice (some ⟨g, off, none⟩) (8 - 8) c') ([] : List UInt8).length (bts []) := fun y _ c' => .inr ⟨_, _, rfl, fun j u hu => by simp [bts] at hu⟩
    clear HDAT
    have HDAT := Lib.hid hdat
    clear hdat
    clear hc
    go_enter Tryz.func87, Tryz.ntmps87
    go_wp2_with fail
    refine wp_region_plan [6, 11, 14, 16] [0, 1, 2, 3, 4, 5, 7, 8, 9, 10, 12, 13] [0, 1, 3, 4, 5, 7, 8, 10, 12, 13] [6, 11, 14] [0, 1, 2, 3, 4, 5, 7, 8, 9, 10, 12, 13] (.two [6, 11, 14, 15, 16] .nil [11, 6, 14, 15, 16] .nil) (Held W LL) (by kernel_rfl) (by kernel_rfl) ?_ ?_
    · exact Held.mk hs2.drew
    have hne : Nonempty (Of W LL) := ⟨⟨_, hs2⟩⟩
    have hsT := hs2.drew
    repeat (first | (refine can_pu1 rfl rfl rfl rfl rfl rfl (fun K hK => ?_); go_big_quiet_op; refine hK _ ?_; clear hK K) | (refine can_st1 rfl rfl rfl rfl rfl rfl (fun K hK => ?_); go_big_quiet_op; refine hK _ ?_; clear hK K) | (refine can_early1 rfl rfl rfl rfl rfl (fun K hK => ?_); go_big_quiet_op; refine hK _ ?_; clear hK K) | (refine can_skip rfl rfl rfl ?_; simp only [Act.put, List.setIfInBounds_toArray, List.set_cons_zero, List.set_cons_succ]))
    clear e0 e7 hne
    generalize w.heap.size = z at *
    refine with_sat hsT ?_
    clear hsT hs2
    intro wt hsT
    refine can_two ?_ ?_
    · skip
      refine can_actS rfl rfl rfl rfl (fun K hK => ?_)
      go_wp2_with fail
      refine (ref_from _ M6 _ (HNUM.out _ hsT _) hl1).mono ?_; rintro r w4 ⟨rfl, rfl⟩
      apply hK
      refine ⟨Held.mk hsT, ?_⟩
      clear hK
      refine can_actS rfl rfl rfl rfl (fun K hK => ?_)
      go_wp2_with fail
      refine ⟨Held.mk (Sat.alloc hsT _), ?_⟩
      have hs6 := none_sat hsT
      generalize wt.heap.size = z7 at *
      refine with_sat hs6 ?_
      clear hs6
      intro w6 hs6
      refine can_actS rfl rfl rfl rfl (fun K hK => ?_)
      refine wp_append_u8 rfl [] [] rfl rfl (none_row _) hs6 (HDAT.out _ hs6.right _) (by rw [HDL.out]; show 0 + (8 - 8) < 1000000; omega) (fun v7 w7 R7 hr7 hs7 => ?_)
      apply hK
      refine ⟨Held.mk hs7.right, ?_⟩
      clear hK
      simp only [Act.put, List.setIfInBounds_toArray, List.set_cons_zero, List.set_cons_succ]
      rw [List.nil_append] at hr7
      obtain ⟨a7, c7, rfl⟩ := Ch.RowA.slice hr7
      repeat (first | (refine can_pu1 rfl rfl rfl rfl rfl rfl (fun K hK => ?_); go_big_quiet_op; refine hK _ ?_; clear hK K) | (refine can_st1 rfl rfl rfl rfl rfl rfl (fun K hK => ?_); go_big_quiet_op; refine hK _ ?_; clear hK K) | (refine can_early1 rfl rfl rfl rfl rfl (fun K hK => ?_); go_big_quiet_op; refine hK _ ?_; clear hK K) | (refine can_skip rfl rfl rfl ?_; simp only [Act.put, List.setIfInBounds_toArray, List.set_cons_zero, List.set_cons_succ]))
      rw [HLL.out] at hs7
      have hs8 := Sat.use (M := cellsA z #[.int .i64 0, .int .i64 0, .int .i64 0, .slice none 0 0] 72 :: (R7 ++ L)) hs7 (by intro x; simp only [cnt_append, cnt_cons, cnt_nil]; omega)
      clear hs7 hs6
      have g0 := hs8.cell m0 0
      have g1 := hs8.cell m0 1
      have g2 := hs8.cell m0 2
      have g3 := hs8.cell m0 3
      have j0 := hs8.free m0 0
      have j1 := hs8.free m0 1
      have j2 := hs8.free m0 2
      have j3 := hs8.free m0 3
      refine can_actF rfl rfl rfl rfl (fun K hK => ?_)
      go_wp2_with fail
      have hz := Sat.setCell (Sat.setCell (Sat.setCell (Sat.setCell hs8 0 (.int .i64 u0.toNat)) 1 (.int .i64 (numB M6))) 2 (.int .i64 u7.toNat)) 3 (.slice a7 ([] : List UInt8).length c7)
      simp only [List.setIfInBounds_toArray, List.set_cons_zero, List.set_cons_succ] at hz
      refine can_end1 ?_; (try simp only [Exit.then])
      refine with_sat hz ?_
      clear hz hs8 g0 g1 g2 g3 j0 j1 j2 j3
      intro w9 hs9
      have g0 := hs9.cell m0 0
      have g1 := hs9.cell m0 1
      have g2 := hs9.cell m0 2
      have g3 := hs9.cell m0 3
      go_wp2_with fail
      refine bodyPost_ret (v := pcV ⟨u0.toNat, numB M6, u7.toNat, []⟩ (.slice a7 ([] : List UInt8).length c7)) (by simp [results, Tryz.results87, go_sem, pcV, *]) rfl ?_
      exact ⟨_, R7, rfl, hr7, hs9.tail⟩
    · skip
      refine can_actS rfl rfl rfl rfl (fun K hK => ?_)
      go_wp2_with fail
      refine ⟨Held.mk (Sat.alloc hsT _), ?_⟩
      have hs6 := none_sat hsT
      generalize wt.heap.size = z7 at *
      refine with_sat hs6 ?_
      clear hs6
      intro w6 hs6
      refine can_actS rfl rfl rfl rfl (fun K hK => ?_)
      go_wp2_with fail
      refine (ref_from _ M6 _ (HNUM.out _ hs6.right _) hl1).mono ?_; rintro r w4 ⟨rfl, rfl⟩
      apply hK
      refine ⟨Held.mk hs6.right, ?_⟩
      clear hK
      refine can_actS rfl rfl rfl rfl (fun K hK => ?_)
      refine wp_append_u8 rfl [] [] rfl rfl (none_row _) hs6 (HDAT.out _ hs6.right _) (by rw [HDL.out]; show 0 + (8 - 8) < 1000000; omega) (fun v7 w7 R7 hr7 hs7 => ?_)
      apply hK
      refine ⟨Held.mk hs7.right, ?_⟩
      clear hK
      simp only [Act.put, List.setIfInBounds_toArray, List.set_cons_zero, List.set_cons_succ]
      rw [List.nil_append] at hr7
      obtain ⟨a7, c7, rfl⟩ := Ch.RowA.slice hr7
      repeat (first | (refine can_pu1 rfl rfl rfl rfl rfl rfl (fun K hK => ?_); go_big_quiet_op; refine hK _ ?_; clear hK K) | (refine can_st1 rfl rfl rfl rfl rfl rfl (fun K hK => ?_); go_big_quiet_op; refine hK _ ?_; clear hK K) | (refine can_early1 rfl rfl rfl rfl rfl (fun K hK => ?_); go_big_quiet_op; refine hK _ ?_; clear hK K) | (refine can_skip rfl rfl rfl ?_; simp only [Act.put, List.setIfInBounds_toArray, List.set_cons_zero, List.set_cons_succ]))
      rw [HLL.out] at hs7
      have hs8 := Sat.use (M := cellsA z #[.int .i64 0, .int .i64 0, .int .i64 0, .slice none 0 0] 72 :: (R7 ++ L)) hs7 (by intro x; simp only [cnt_append, cnt_cons, cnt_nil]; omega)
      clear hs7 hs6
      have g0 := hs8.cell m0 0
      have g1 := hs8.cell m0 1
      have g2 := hs8.cell m0 2
      have g3 := hs8.cell m0 3
      have j0 := hs8.free m0 0
      have j1 := hs8.free m0 1
      have j2 := hs8.free m0 2
      have j3 := hs8.free m0 3
      refine can_actF rfl rfl rfl rfl (fun K hK => ?_)
      go_wp2_with fail
      have hz := Sat.setCell (Sat.setCell (Sat.setCell (Sat.setCell hs8 0 (.int .i64 u0.toNat)) 1 (.int .i64 (numB M6))) 2 (.int .i64 u7.toNat)) 3 (.slice a7 ([] : List UInt8).length c7)
      simp only [List.setIfInBounds_toArray, List.set_cons_zero, List.set_cons_succ] at hz
      refine can_end1 ?_; (try simp only [Exit.then])
      refine with_sat hz ?_
      clear hz hs8 g0 g1 g2 g3 j0 j1 j2 j3
      intro w9 hs9
      have g0 := hs9.cell m0 0
      have g1 := hs9.cell m0 1
      have g2 := hs9.cell m0 2
      have g3 := hs9.cell m0 3
      go_wp2_with fail
      refine bodyPost_ret (v := pcV ⟨u0.toNat, numB M6, u7.toNat, []⟩ (.slice a7 ([] : List UInt8).length c7)) (by simp [results, Tryz.results87, go_sem, pcV, *]) rfl ?_
      exact ⟨_, R7, rfl, hr7, hs9.tail⟩
end Go.Proofs.YtekbbpfnkbanjaaGreat.Ch

namespace Go.Proofs.YtekbbpfnkbanjaaGreat.Ch
set_option linter.unusedSimpArgs false
open Go Go.RowKit Go.Sl Go.BigFrame
set_option linter.unusedVariables false

theorem numB_inj : ∀ (l m : List UInt8), l.length = m.length → numB l = numB m → l = m
  | [], [], _, _ => rfl
  | [], _ :: _, h, _ => by simp at h
  | _ :: _, [], h, _ => by simp at h
  | c :: l, d :: m, h, e => by
    have hl : l.length = m.length := by simpa using h
    rw [numB_cons, numB_cons, hl] at e
    obtain ⟨a0, a1⟩ := numB_bounds l m.length hl
    obtain ⟨b0, b1⟩ := numB_bounds m m.length rfl
    have hP : (256 : Int) ^ m.length ≠ 0 := by omega
    have e1 : ((c.toNat : Int) * 256 ^ m.length + numB l) / 256 ^ m.length = c.toNat := by
      rw [Int.add_comm, Int.add_mul_ediv_right _ _ hP, Int.ediv_eq_zero_of_lt a0 a1, Int.zero_add]
    have e2 : ((d.toNat : Int) * 256 ^ m.length + numB m) / 256 ^ m.length = d.toNat := by
      rw [Int.add_comm, Int.add_mul_ediv_right _ _ hP, Int.ediv_eq_zero_of_lt b0 b1, Int.zero_add]
    have hcd : (c.toNat : Int) = d.toNat := by rw [← e1, e, e2]
    have hcd' : c.toNat = d.toNat := by omega
    obtain rfl : c = d := UInt8.toNat_inj.1 hcd'
    have : numB l = numB m := by omega
    rw [numB_inj l m hl this]
theorem bytes_num (l : List UInt8) (k : Nat) (h : l.length = k) : bytesB (numB l) k = l := by
  obtain ⟨a0, a1⟩ := numB_bounds l k h
  exact numB_inj _ _ (by rw [bytesB_length, h]) (num_bytes_of _ _ a0 a1)
theorem piece_back (b : List UInt8) (h : 8 ≤ b.length) : pieceB (pieceOf b) = b := by
  rcases b with _ | ⟨a0, _ | ⟨a1, _ | ⟨a2, _ | ⟨a3, _ | ⟨a4, _ | ⟨a5, _ | ⟨a6, _ | ⟨a7, D⟩⟩⟩⟩⟩⟩⟩⟩
  all_goals first | (simp only [List.length_cons, List.length_nil] at h; omega) | skip
  have e : pieceB (pieceOf (a0 :: a1 :: a2 :: a3 :: a4 :: a5 :: a6 :: a7 :: D)) = bytesB (numB [a0]) 1 ++ (bytesB (numB [a1, a2, a3, a4, a5, a6]) 6 ++ (bytesB (numB [a7]) 1 ++ D)) := by
    have n0 : numB [a0] = a0.toNat := by simp [numB, numStep]
    have n7 : numB [a7] = a7.toNat := by simp [numB, numStep]
    rw [n0, n7]
    unfold pieceB
    simp [pieceOf]
  rw [e, bytes_num [a0] 1 rfl, bytes_num [a1, a2, a3, a4, a5, a6] 6 rfl, bytes_num [a7] 1 rfl]
  rfl
theorem open_good (b : List UInt8) (h : (openB b).2.2 = 0) : sealB (openB b).1 (openB b).2.1 = b := by
  unfold openB at h ⊢
  split at h
  · exact absurd h (by decide)
  · rename_i h1
    rw [if_neg h1]
    split at h
    · exact absurd h (by decide)
    · rename_i h2
      rw [if_neg h2]
      simp only at h ⊢
      split at h
      · exact absurd h (by decide)
      · rename_i h3
        rw [if_neg h3]
        simp only
        exact Classical.not_not.1 (fun h4 => h3 (.inr h4))
theorem open_len (b : List UInt8) : (openB b).2.1.length ≤ 153 := by
  unfold openB
  split
  · simp
  · split
    · simp
    · simp only
      split
      · simp
      · simp only [List.length_take]
        omega

set_option maxRecDepth 100000 in
set_option maxHeartbeats 4000000 in
theorem ref_read (W w : World) (L : List Atom) (v : Value) (b : List UInt8) (hs : Sat W w L) (hin : ∀ y, Sat W y L → Reads y v b.length (bts b)) (hl : b.length < 1000000) (hcap : ∀ a n c, v = .slice a n c → n ≤ c) :
    Calls Tryz.prog 58 #[v] w fun r w' => ∃ bv R, r = .returned (.tuple #[pcV (readP b) bv, .bool (readB b).isSome]) ∧ RowA 5 1 bv (readP b).data.length (bts (readP b).data) R ∧ Sat W w' (R ++ L) := by
  obtain ⟨av, nv, cv, rfl⟩ : ∃ a n c, v = .slice a n c := by
    obtain ⟨a, c, h⟩ := reads_shape (hin w hs)
    exact ⟨_, _, _, h⟩
  have HIN := Lib.hid hin
  have HCAP := Lib.hid hcap
  have HGOOD := Lib.hid (open_good b)
  have hol : (openB b).2.1.length ≤ 153 := open_len b
  clear hin hcap
  obtain ⟨p, hp⟩ : ∃ p, p = readP b := ⟨_, rfl⟩
  obtain ⟨is, hi⟩ : ∃ is, is = (readB b).isSome := ⟨_, rfl⟩
  rw [← hp, ← hi]
  have hrb : ∃ q, readB b = q ∧ p = q.getD pc0 ∧ is = q.isSome := ⟨_, rfl, hp, hi⟩
  clear hp hi
  obtain ⟨q, hq, hp, hi⟩ := hrb
  unfold readB at hq
  go_enter Tryz.func58, Tryz.ntmps58
  go_wp2_with fail
  refine (ref_open W _ _ _ b (hs.newCells #[.int .i64 0, .int .i64 0, .int .i64 0, .slice none 0 0] 72) (fun y hy => HIN.out y hy.tail) hl HCAP.out).mono ?_
  rintro r w2 ⟨bv, R, rfl, hbr, hs2⟩
  generalize openB b = ob at *
  obtain ⟨k, body, e⟩ := ob
  simp only at hq hbr HGOOD hol ⊢
  have HQ := Lib.hid hq
  have HP := Lib.hid hp
  have HI := Lib.hid hi
  clear hs hq hp hi
  obtain ⟨ab, cb, rfl⟩ := Ch.RowA.slice hbr
  generalize w.heap.size = z at *
  have hs2' : Sat W w2 (cellsA z #[.int .i64 0, .int .i64 0, .int .i64 0, .slice none 0 0] 72 :: (R ++ L)) := hs2.use (by intro x; simp only [cnt_append, cnt_cons, cnt_nil]; omega)
  have z0 : w2.cell? ⟨z, 0, none⟩ = some (.int .i64 0) := hs2'.cell m0 0
  have z1 : w2.cell? ⟨z, 1, none⟩ = some (.int .i64 0) := hs2'.cell m0 1
  have z2 : w2.cell? ⟨z, 2, none⟩ = some (.int .i64 0) := hs2'.cell m0 2
  have z3 : w2.cell? ⟨z, 3, none⟩ = some (.slice none 0 0) := hs2'.cell m0 3
  have f0 : w2.frozen? ⟨z, 0, none⟩ = false := hs2'.free m0 0
  have f1 : w2.frozen? ⟨z, 1, none⟩ = false := hs2'.free m0 1
  have f2 : w2.frozen? ⟨z, 2, none⟩ = false := hs2'.free m0 2
  have f3 : w2.frozen? ⟨z, 3, none⟩ = false := hs2'.free m0 3
  clear hs2
  by_cases he : e = 0
  case neg =>
    have hn : q = none := by rw [← HQ.out, if_neg (fun h => he h.1)]
    have q0 : (e != 0) = true := by simpa using he
    have HN := Lib.hid hn
    clear hn he
    go_wp2_with fail
    have hz3 := Sat.setCell (Sat.setCell (Sat.setCell (Sat.setCell hs2' 0 (.int .i64 0)) 1 (.int .i64 0)) 2 (.int .i64 0)) 3 (.slice none 0 0)
    refine bodyPost_ret (v := .tuple #[pcV pc0 (.slice none 0 0), .bool false]) (by simp [results, Tryz.results58, go_sem, pcV, pc0, *]) rfl ?_
    rw [HP.out, HI.out, HN.out]
    first
      | exact ⟨_, _, rfl, RowA.nil _ _, hz3.tail.use (by intro x; simp only [cnt_append, cnt_cons, cnt_nil]; omega)⟩
      | exact ⟨_, rfl, _, RowA.nil _ _, hz3.tail.use (by intro x; simp only [cnt_append, cnt_cons, cnt_nil]; omega)⟩
  case pos =>
  subst he
  by_cases hk : k = 1
  case neg =>
    have hn : q = none := by rw [← HQ.out, if_neg (fun h => hk h.2.1)]
    have q0 : (k != 1) = true := by simpa using hk
    have HN := Lib.hid hn
    clear hn hk
    go_wp2_with fail
    have hz3 := Sat.setCell (Sat.setCell (Sat.setCell (Sat.setCell hs2' 0 (.int .i64 0)) 1 (.int .i64 0)) 2 (.int .i64 0)) 3 (.slice none 0 0)
    refine bodyPost_ret (v := .tuple #[pcV pc0 (.slice none 0 0), .bool false]) (by simp [results, Tryz.results58, go_sem, pcV, pc0, *]) rfl ?_
    rw [HP.out, HI.out, HN.out]
    first
      | exact ⟨_, _, rfl, RowA.nil _ _, hz3.tail.use (by intro x; simp only [cnt_append, cnt_cons, cnt_nil]; omega)⟩
      | exact ⟨_, rfl, _, RowA.nil _ _, hz3.tail.use (by intro x; simp only [cnt_append, cnt_cons, cnt_nil]; omega)⟩
  case pos =>
  subst hk
  by_cases hlen : body.length < 8
  case pos =>
    have hn : q = none := by rw [← HQ.out, if_neg (fun h => by have := h.2.2; omega)]
    have q0 : (body.length : Int) < 8 := by omega
    have HN := Lib.hid hn
    clear hn hlen
    go_wp2_with fail
    have hz3 := Sat.setCell (Sat.setCell (Sat.setCell (Sat.setCell hs2' 0 (.int .i64 0)) 1 (.int .i64 0)) 2 (.int .i64 0)) 3 (.slice none 0 0)
    refine bodyPost_ret (v := .tuple #[pcV pc0 (.slice none 0 0), .bool false]) (by simp [results, Tryz.results58, go_sem, pcV, pc0, *]) rfl ?_
    rw [HP.out, HI.out, HN.out]
    first
      | exact ⟨_, _, rfl, RowA.nil _ _, hz3.tail.use (by intro x; simp only [cnt_append, cnt_cons, cnt_nil]; omega)⟩
      | exact ⟨_, rfl, _, RowA.nil _ _, hz3.tail.use (by intro x; simp only [cnt_append, cnt_cons, cnt_nil]; omega)⟩
  case neg =>
  have h8 : ¬ (body.length : Int) < 8 := by omega
  rcases hbr.2 with ⟨h1, h2, _⟩ | ⟨g, off, cap, h1, hc1, hc2, hR⟩
  · omega
  obtain ⟨rfl, rfl⟩ : ab = some ⟨g, off, none⟩ ∧ cap = cb := by
    cases h1
    exact ⟨rfl, rfl⟩
  have hcell : ∀ y, Sat W y (cellsA z #[.int .i64 0, .int .i64 0, .int .i64 0, .slice none 0 0] 72 :: (R ++ L)) → ∀ k u, body[k]? = some u → y.cell? ((⟨g, off, none⟩ : Addr).add k) = some (.int .u8 (u.toNat : Int)) := fun y hy k u hu => by
    rw [add_row, (hbr.cells hy.tail rfl k (by rw [bts_length]; exact (List.getElem?_eq_some_iff.1 hu).1)).1]
    exact bts_get hu
  have hPC := ref_piece g off cap body W w2 _ hs2' (by omega) (by omega) hc1 hcell
  have hback := piece_back body (by omega)
  have hgood := HGOOD.out rfl
  have hq2 : q = if rightP (pieceOf body) then some (pieceOf body) else none := by
    rw [← HQ.out]
    by_cases hr : rightP (pieceOf body)
    · rw [if_pos hr, if_pos]
      refine ⟨rfl, rfl, ?_⟩
      have h9 := hr.2.2.2.2.2.2
      rw [pieceOf] at h9
      simp only [List.length_drop] at h9
      omega
    · rw [if_neg hr]
      exact ite_self _
  have hlay : layB (pieceOf body) = b := by
    unfold layB
    rw [hback]
    exact hgood
  have HQ2 := Lib.hid hq2
  have HLAY := Lib.hid hlay
  clear hcell hR hc1 hc2 h1 hbr hback hgood hq2 hlay HQ HGOOD hlen hol
  obtain ⟨P, hP⟩ : ∃ P, P = pieceOf body := ⟨_, rfl⟩
  rw [← hP] at HQ2 HLAY hPC
  clear hP
  go_wp2_with fail
  refine hPC.mono ?_; rintro r w3 ⟨dv, R3, rfl, hr3, hs3⟩
  clear hPC z0 z1 z2 z3 f0 f1 f2 f3 hs2'
  obtain ⟨a3, c3, rfl⟩ := Ch.RowA.slice hr3
  have hbad := fun w L hs => ref_lay_bad P a3 c3 W w L hs
  have hgood := fun w L hs hin => ref_lay P a3 c3 W w L hs hin
  obtain ⟨s, n, i, d⟩ := P
  unfold pcV at *
  simp only at *
  have HBAD := Lib.hid hbad
  have HGD := Lib.hid hgood
  clear hbad hgood
  go_wp2_with fail
  have hs4 := Sat.use (M := cellsA z #[.int .i64 0, .int .i64 0, .int .i64 0, .slice none 0 0] 72 :: (cellsA w3.heap.size #[.int .i64 s, .int .i64 n, .int .i64 i, .slice a3 d.length c3] 72 :: (R3 ++ (R ++ L)))) (hs3.newCells #[.int .i64 s, .int .i64 n, .int .i64 i, .slice a3 d.length c3] 72) (by intro x; simp only [cnt_append, cnt_cons, cnt_nil]; omega)
  clear hs3
  by_cases hrp : rightP ⟨s, n, i, d⟩
  case neg =>
    have hn : q = none := by rw [HQ2.out, if_neg hrp]
    have HN := Lib.hid hn
    refine (HBAD.out _ _ hs4 hrp).mono ?_; rintro r w5 ⟨rfl, hs5⟩
    clear hn hrp hs4
    generalize w3.heap.size = z7 at *
    have z0 := hs5.cell m0 0
    have z1 := hs5.cell m0 1
    have z2 := hs5.cell m0 2
    have z3 := hs5.cell m0 3
    have f0 := hs5.free m0 0
    have f1 := hs5.free m0 1
    have f2 := hs5.free m0 2
    have f3 := hs5.free m0 3
    go_wp2_with fail
    have hz3 := Sat.setCell (Sat.setCell (Sat.setCell (Sat.setCell hs5 0 (.int .i64 0)) 1 (.int .i64 0)) 2 (.int .i64 0)) 3 (.slice none 0 0)
    refine bodyPost_ret (v := .tuple #[pcV pc0 (.slice none 0 0), .bool false]) (by simp [results, Tryz.results58, go_sem, pcV, pc0, *]) rfl ?_
    rw [HP.out, HI.out, HN.out]
    first
      | exact ⟨_, _, rfl, RowA.nil _ _, hz3.tail.use (by intro x; simp only [cnt_append, cnt_cons, cnt_nil]; omega)⟩
      | exact ⟨_, rfl, _, RowA.nil _ _, hz3.tail.use (by intro x; simp only [cnt_append, cnt_cons, cnt_nil]; omega)⟩
  case pos =>
    have hn : q = some ⟨s, n, i, d⟩ := by rw [HQ2.out, if_pos hrp]
    have HN := Lib.hid hn
    refine (HGD.out _ _ hs4 (fun y hy => hr3.reads hy.tail.tail) hrp).mono ?_; rintro r w5 ⟨v5, R5, rfl, hr5, hs5'⟩
    rw [HLAY.out] at hr5
    have hs5 := Sat.use (M := cellsA z #[.int .i64 0, .int .i64 0, .int .i64 0, .slice none 0 0] 72 :: (cellsA w3.heap.size #[.int .i64 s, .int .i64 n, .int .i64 i, .slice a3 d.length c3] 72 :: (R5 ++ (R3 ++ (R ++ L))))) hs5' (by intro x; simp only [cnt_append, cnt_cons, cnt_nil]; omega)
    clear hn hrp hs4 hs5'
    generalize w3.heap.size = z7 at *
    have hc1 := str_of _ b w5 (hr5.reads hs5.tail.tail)
    have hc2 := str_of _ b w5 (HIN.out w5 hs5.tail.tail.right.right.right)
    have z0 := hs5.cell m0 0
    have z1 := hs5.cell m0 1
    have z2 := hs5.cell m0 2
    have z3 := hs5.cell m0 3
    have f0 := hs5.free m0 0
    have f1 := hs5.free m0 1
    have f2 := hs5.free m0 2
    have f3 := hs5.free m0 3
    have g0 := hs5.cell m1 0
    have g1 := hs5.cell m1 1
    have g2 := hs5.cell m1 2
    have g3 := hs5.cell m1 3
    go_wp2_with fail
    have hz3 := Sat.setCell (Sat.setCell (Sat.setCell (Sat.setCell hs5 0 (.int .i64 s)) 1 (.int .i64 n)) 2 (.int .i64 i)) 3 (.slice a3 d.length c3)
    refine bodyPost_ret (v := .tuple #[pcV ⟨s, n, i, d⟩ (.slice a3 d.length c3), .bool true]) (by simp [results, Tryz.results58, go_sem, pcV, pc0, *]) rfl ?_
    rw [HP.out, HI.out, HN.out]
    first
      | exact ⟨_, _, rfl, hr3, hz3.tail.tail.use (by intro x; simp only [cnt_append, cnt_cons, cnt_nil]; omega)⟩
      | exact ⟨_, rfl, _, hr3, hz3.tail.tail.use (by intro x; simp only [cnt_append, cnt_cons, cnt_nil]; omega)⟩
end Go.Proofs.YtekbbpfnkbanjaaGreat.Ch

namespace Go.Proofs.YtekbbpfnkbanjaaGreat.Ch
set_option linter.unusedSimpArgs false
open Go Go.RowKit Go.Sl Go.BigFrame
set_option linter.unusedVariables false

section
variable {o : Oper} {a : Act} {Q : Exit → Act → World → Prop} {K : Act → World → Prop} {W w : World} {A F : List Atom} {v sv : Value}
/-- append at bytes, to the room of an argument. -/
theorem wp_append_u8L {x y : Operand} (ho : o.op = .call { callee := .builtin .append, args := #[x, y], argTypes := #[35, 35] }) (l m : List UInt8) (hv : a.eval x = v) (hsv : a.eval y = sv)
    (hr : RowA 5 1 v l.length (bts l) A) (hs : Sat W w (A ++ F)) (hsrc : Reads w sv m.length (bts m)) (hb : l.length + m.length ≤ 140737488355328)
    (h : ∀ v' w' A', RowA 5 1 v' (l ++ m).length (bts (l ++ m)) A' → Sat W w' (A' ++ F) → K (a.put o.dst v') w') : o.wp Tryz.prog a w K Q := by
  obtain ⟨i0, hi, hz0, hz1, hz2⟩ := info_parts infoU8
  obtain ⟨v2, w2, R2, hra, hrow, hs2⟩ := append_sl (P := Tryz.prog) o.type Tryz.underlying35 hi hz0 hz1 hz2 rfl (by decide) hr hs hsrc (by simp [bts]) (bts_one m) (by unfold maxLen; omega) (by omega)
  refine wp_append ho (by rw [hv, hsv]; exact hra) (h _ _ _ ?_ hs2)
  rw [List.length_append, bts_append]
  exact hrow
end

set_option maxRecDepth 100000 in
theorem open_long (W w : World) (L : List Atom) (v : Value) (b : List UInt8) (hs : Sat W w L) (hr : Reads w v b.length (bts b)) (h160 : b.length ≠ 160) :
    Calls Tryz.prog 90 #[v] w fun r w' => r = .returned (.tuple #[.int .i64 0, .slice none 0 0, .int .i64 2]) ∧ Sat W w' L := by
  have q0 : ((b.length : Int) != 160) = true := by simp; omega
  obtain ⟨a1, c1, rfl⟩ := reads_shape hr
  clear hr
  go_enter Tryz.func90, Tryz.ntmps90
  go_wp2_with fail
  go_ret3
  exact ⟨rfl, hs⟩
set_option maxRecDepth 100000 in
set_option maxHeartbeats 2000000 in
theorem read_long (W w : World) (L : List Atom) (v : Value) (b : List UInt8) (hs : Sat W w L) (hin : ∀ y, Sat W y L → Reads y v b.length (bts b)) (h160 : b.length ≠ 160) :
    Calls Tryz.prog 71 #[v] w fun r w' => r = .returned (.tuple #[pcV pc0 (.slice none 0 0), .bool false]) ∧ Sat W w' L := by
  have hs2 := hs.newCells #[.int .i64 0, .int .i64 0, .int .i64 0, .slice none 0 0] 72
  have HOP := Lib.hid (open_long W _ _ v b hs2 (hin _ hs2.tail) h160)
  clear hin hs2
  go_enter Tryz.func71, Tryz.ntmps71
  go_wp2_with fail
  refine HOP.out.mono ?_
  rintro r w2 ⟨rfl, hs2'⟩
  clear HOP
  generalize w.heap.size = z at *
  have z0 : w2.cell? ⟨z, 0, none⟩ = some (.int .i64 0) := hs2'.cell m0 0
  have z1 : w2.cell? ⟨z, 1, none⟩ = some (.int .i64 0) := hs2'.cell m0 1
  have z2 : w2.cell? ⟨z, 2, none⟩ = some (.int .i64 0) := hs2'.cell m0 2
  have z3 : w2.cell? ⟨z, 3, none⟩ = some (.slice none 0 0) := hs2'.cell m0 3
  have f0 : w2.frozen? ⟨z, 0, none⟩ = false := hs2'.free m0 0
  have f1 : w2.frozen? ⟨z, 1, none⟩ = false := hs2'.free m0 1
  have f2 : w2.frozen? ⟨z, 2, none⟩ = false := hs2'.free m0 2
  have f3 : w2.frozen? ⟨z, 3, none⟩ = false := hs2'.free m0 3
  go_wp2_with fail
  have hz3 := Sat.setCell (Sat.setCell (Sat.setCell (Sat.setCell hs2' 0 (.int .i64 0)) 1 (.int .i64 0)) 2 (.int .i64 0)) 3 (.slice none 0 0)
  refine bodyPost_ret (v := .tuple #[pcV pc0 (.slice none 0 0), .bool false]) (by simp [results, Tryz.results71, go_sem, pcV, pc0, *]) rfl ?_
  exact ⟨rfl, hz3.tail⟩

set_option maxRecDepth 100000 in
theorem ref_open_long (W w : World) (L : List Atom) (v : Value) (b : List UInt8) (hs : Sat W w L) (hr : Reads w v b.length (bts b)) (h160 : b.length ≠ 160) :
    Calls Tryz.prog 67 #[v] w fun r w' => r = .returned (.tuple #[.int .i64 0, .slice none 0 0, .int .i64 2]) ∧ Sat W w' L := by
  have q0 : ((b.length : Int) != 160) = true := by simp; omega
  obtain ⟨a1, c1, rfl⟩ := reads_shape hr
  clear hr
  go_enter Tryz.func67, Tryz.ntmps67
  go_wp2_with fail
  go_ret3
  exact ⟨rfl, hs⟩
set_option maxRecDepth 100000 in
set_option maxHeartbeats 2000000 in
theorem ref_read_long (W w : World) (L : List Atom) (v : Value) (b : List UInt8) (hs : Sat W w L) (hin : ∀ y, Sat W y L → Reads y v b.length (bts b)) (h160 : b.length ≠ 160) :
    Calls Tryz.prog 58 #[v] w fun r w' => r = .returned (.tuple #[pcV pc0 (.slice none 0 0), .bool false]) ∧ Sat W w' L := by
  have hs2 := hs.newCells #[.int .i64 0, .int .i64 0, .int .i64 0, .slice none 0 0] 72
  have HOP := Lib.hid (ref_open_long W _ _ v b hs2 (hin _ hs2.tail) h160)
  clear hin hs2
  go_enter Tryz.func58, Tryz.ntmps58
  go_wp2_with fail
  refine HOP.out.mono ?_
  rintro r w2 ⟨rfl, hs2'⟩
  clear HOP
  generalize w.heap.size = z at *
  have z0 : w2.cell? ⟨z, 0, none⟩ = some (.int .i64 0) := hs2'.cell m0 0
  have z1 : w2.cell? ⟨z, 1, none⟩ = some (.int .i64 0) := hs2'.cell m0 1
  have z2 : w2.cell? ⟨z, 2, none⟩ = some (.int .i64 0) := hs2'.cell m0 2
  have z3 : w2.cell? ⟨z, 3, none⟩ = some (.slice none 0 0) := hs2'.cell m0 3
  have f0 : w2.frozen? ⟨z, 0, none⟩ = false := hs2'.free m0 0
  have f1 : w2.frozen? ⟨z, 1, none⟩ = false := hs2'.free m0 1
  have f2 : w2.frozen? ⟨z, 2, none⟩ = false := hs2'.free m0 2
  have f3 : w2.frozen? ⟨z, 3, none⟩ = false := hs2'.free m0 3
  go_wp2_with fail
  have hz3 := Sat.setCell (Sat.setCell (Sat.setCell (Sat.setCell hs2' 0 (.int .i64 0)) 1 (.int .i64 0)) 2 (.int .i64 0)) 3 (.slice none 0 0)
  refine bodyPost_ret (v := .tuple #[pcV pc0 (.slice none 0 0), .bool false]) (by simp [results, Tryz.results58, go_sem, pcV, pc0, *]) rfl ?_
  exact ⟨rfl, hz3.tail⟩

theorem readB_long (b : List UInt8) (h : b.length ≠ 160) : readB b = none := by
  have ho : openB b = (0, [], 2) := by unfold openB; rw [if_pos h]
  unfold readB
  rw [ho]
  rw [if_neg (fun h => absurd h.1 (by decide))]
theorem read_free (W w : World) (L : List Atom) (v : Value) (b : List UInt8) (hs : Sat W w L) (hin : ∀ y, Sat W y L → Reads y v b.length (bts b)) (hcap : ∀ a n c, v = .slice a n c → n ≤ c) :
    Calls Tryz.prog 71 #[v] w fun r w' => ∃ bv R, r = .returned (.tuple #[pcV (readP b) bv, .bool (readB b).isSome]) ∧ RowA 5 1 bv (readP b).data.length (bts (readP b).data) R ∧ Sat W w' (R ++ L) := by
  by_cases h : b.length = 160
  · exact read_any W w L v b hs hin (by omega) hcap
  · refine (read_long W w L v b hs hin h).mono ?_
    rintro r w2 ⟨rfl, hs2⟩
    unfold readP
    rw [readB_long b h]
    exact ⟨_, [], rfl, RowA.nil _ _, hs2⟩
theorem ref_read_free (W w : World) (L : List Atom) (v : Value) (b : List UInt8) (hs : Sat W w L) (hin : ∀ y, Sat W y L → Reads y v b.length (bts b)) (hcap : ∀ a n c, v = .slice a n c → n ≤ c) :
    Calls Tryz.prog 58 #[v] w fun r w' => ∃ bv R, r = .returned (.tuple #[pcV (readP b) bv, .bool (readB b).isSome]) ∧ RowA 5 1 bv (readP b).data.length (bts (readP b).data) R ∧ Sat W w' (R ++ L) := by
  by_cases h : b.length = 160
  · exact ref_read W w L v b hs hin (by omega) hcap
  · refine (ref_read_long W w L v b hs hin h).mono ?_
    rintro r w2 ⟨rfl, hs2⟩
    unfold readP
    rw [readB_long b h]
    exact ⟨_, [], rfl, RowA.nil _ _, hs2⟩
end Go.Proofs.YtekbbpfnkbanjaaGreat.Ch
