/-
  The document's Seal.
-/
import Derived.Test.YtdkhgkkdnjejmaaRcA
namespace Go.Proofs.Ytdkhgkkdnjejmaa.Ch
set_option linter.unusedSimpArgs false
open Go Go.RowKit Go.Sl Go.BigFrame
set_option linter.unusedVariables false

theorem ref_seal_bad (kind : Int) (bv : Value) (m : List UInt8) (w : World) (hr : Reads w bv m.length (bts m)) (h : kind < 1 ∨ 255 < kind ∨ 153 < m.length) :
    Calls Try.prog 76 #[.int .i64 kind, bv] w fun e w' => e = .returned (.tuple #[.slice none 0 0, .bool false]) ∧ w = w' := by
  obtain ⟨av, cv, rfl⟩ := reads_shape hr
  clear hr
  by_cases h1 : kind < 1
  · go_enter Try.func76, Try.ntmps76
    go_wp2_with fail
    go_ret2
    exact ⟨rfl, rfl⟩
  · by_cases h2 : 255 < kind
    · go_enter Try.func76, Try.ntmps76
      go_wp2_with fail
      go_ret2
      exact ⟨rfl, rfl⟩
    · have h3 : (153 : Int) < m.length := by omega
      go_enter Try.func76, Try.ntmps76
      go_wp2_with fail
      go_ret2
      exact ⟨rfl, rfl⟩

set_option maxRecDepth 100000 in
set_option maxHeartbeats 4000000 in
theorem ref_seal (kind : Int) (bv : Value) (m : List UInt8) (W w : World) (L : List Atom) (hk1 : 1 ≤ kind) (hk2 : kind ≤ 255) (hm : m.length ≤ 153) (hs : Sat W w L) (hin : ∀ y, Below w.heap.size w y → Reads y bv m.length (bts m)) :
    Calls Try.prog 76 #[.int .i64 kind, bv] w fun e w' => ∃ v R, e = .returned (.tuple #[v, .bool true]) ∧ RowA 5 1 v (sealB kind m).length (bts (sealB kind m)) R ∧ Sat W w' (R ++ L) := by
  obtain ⟨av, cv, rfl⟩ := reads_shape (hin w (Below.refl _ w))
  have k1 : ¬ kind < 1 := by omega
  have k2 : ¬ 255 < kind := by omega
  have d3 : (m.length : Int) ≤ 153 := by omega
  have d0 : (0 : Int) ≤ m.length := by omega
  have d4 : ¬ (153 : Int) < m.length := by omega
  have hm0 : ((byteAt (m.length : Int) 0 : UInt8).toNat : Int) = m.length := by
    have := byteAt_val (m.length : Int) 0
    omega
  have hm1 : ((byteAt (m.length : Int) 1).toNat : Int) = (m.length : Int) / 256 := by
    have := byteAt_val (m.length : Int) 1
    omega
  have hk0 : ((byteAt kind 0).toNat : Int) = kind := by
    have := byteAt_val kind 0
    omega
  have hb3 : bts [byteAt kind 0, byteAt m.length 1, byteAt m.length 0] = [.int .u8 kind, .int .u8 ((m.length : Int) / 256), .int .u8 m.length] := by
    simp only [bts, List.map_cons, List.map_nil, hk0, hm1, hm0]
  have hs1 : Sat W (w.alloc (.cells #[.int .u8 kind, .int .u8 ((m.length : Int) / 256), .int .u8 m.length] 5)) ([(w.heap.size, rowP 5 0 (3 * 1) (bts [byteAt kind 0, byteAt m.length 1, byteAt m.length 0]))] ++ L) := by
    rw [hb3]
    exact hs.new _ ⟨_, rfl, by simp, by simp, rfl⟩
  have hr1 : RowA 5 1 (.slice (some ⟨w.heap.size, 0, none⟩) 3 3) [byteAt kind 0, byteAt m.length 1, byteAt m.length 0].length (bts [byteAt kind 0, byteAt m.length 1, byteAt m.length 0]) [(w.heap.size, rowP 5 0 (3 * 1) (bts [byteAt kind 0, byteAt m.length 1, byteAt m.length 0]))] :=
    ⟨rfl, .inr ⟨_, _, _, rfl, Nat.le_refl _, by unfold maxLen; omega, rfl⟩⟩
  have hsrc := hin _ ((Below.refl _ w).alloc (Nat.le_refl _) (.cells #[.int .u8 kind, .int .u8 ((m.length : Int) / 256), .int .u8 m.length] 5))
  obtain ⟨B, hB⟩ : ∃ B, B = sealB kind m := ⟨_, rfl⟩
  rw [← hB]
  have hB2 : B = headB kind m ++ bytesB (sumB (headB kind m)) 4 := hB
  have hH : headB kind m = [byteAt kind 0, byteAt m.length 1, byteAt m.length 0] ++ m ++ List.replicate (153 - m.length) 0 := by unfold headB; simp
  have HB := Lib.hid hB2
  have HH := Lib.hid hH
  have HL := Lib.hid (headB_length kind m hm)
  generalize headB kind m = H at *
  generalize hT : [byteAt kind 0, byteAt (m.length : Int) 1, byteAt (m.length : Int) 0] = T3 at *
  have hT3 : T3.length = 3 := by rw [← hT]; rfl
  have HT3 := Lib.hid hT3
  clear hs hin hB hB2 hH hb3 hm0 hm1 hk0 hT hT3
  go_enter Try.func76, Try.ntmps76
  go_wp2_with (at_builtin; go_loud (refine wpList_plain rfl (fun K hK => ?_); refine wp_append_u8 rfl T3 m rfl rfl (by have h := hr1; rw [HT3.out] at h ⊢; exact h) hs1 hsrc (by rw [HT3.out]; omega) (fun v2 w3 R2 hr2 hs2 => ?_); refine hK _ _ ?_; simp only [Act.put, List.setIfInBounds_toArray, List.set_cons_zero, List.set_cons_succ]; clear hK))
  go_loopw [6] (fun ov wr => ∃ (l : List UInt8) (k : Nat) (R : List Atom), l = T3 ++ m ++ List.replicate k 0 ∧ l.length ≤ 156 ∧ RowA 5 1 ov l.length (bts l) R ∧ Sat W wr (R ++ L)) (fun ov _ => match ov with | .slice _ n _ => 156 - n | _ => 0)
  case atStart => exact ⟨T3 ++ m, 0, R2, by simp, by rw [List.length_append, HT3.out]; omega, hr2, hs2⟩
  case round =>
    clear hr2 hs2 hr1 hs1 hsrc
    obtain ⟨l, k, R, hl, hll, hr, hs⟩ := ‹_›
    have HLe := Lib.hid hl
    obtain ⟨a6, c6, rfl⟩ := Ch.RowA.slice hr
    have l0 : (0 : Int) ≤ l.length := by omega
    clear hl
    by_cases h156 : l.length < 156
    · have l1 : (l.length : Int) < 156 := by omega
      go_wp2_with (at_builtin; go_loud (refine wpList_plain rfl (fun K hK => ?_); refine wp_append_u8 rfl l [0] rfl rfl hr (sat_new hs) (reads_new wr _ _ _ _ _ (by simp [bts])) (by simp; omega) (fun v2 w3 R2 hr2 hs2 => ?_); refine hK _ _ ?_; simp only [Act.put, List.setIfInBounds_toArray, List.set_cons_zero, List.set_cons_succ]; clear hK))
      obtain ⟨a7, c7, rfl⟩ := Ch.RowA.slice hr2
      refine ⟨⟨l ++ [0], k + 1, R2, ?_, by simp; omega, hr2, hs2.use (by intro x; simp only [cnt_append, cnt_cons, cnt_nil]; omega)⟩, ?_⟩
      · rw [HLe.out, List.replicate_succ', List.append_assoc]
      · simp
        omega
    · have l1 : ¬ (l.length : Int) < 156 := by omega
      have hlh : l = H := by
        rw [HH.out, HLe.out]
        have hk : k = 153 - m.length := by
          have h := congrArg List.length HLe.out
          rw [List.length_append, List.length_append, HT3.out, List.length_replicate] at h
          omega
        rw [hk]
      clear h156 HLe
      subst hlh
      have HS := Lib.hid (ref_sum (.slice a6 l.length c6) l W wr _ hs (fun y hy => hr.reads hy) (by omega))
      obtain ⟨q1, q2⟩ := sumB_bounds l
      have q3 : sumB l < 4294967296 := by omega
      clear q2
      generalize sumB l = S at *
      clear hs
      go_wp2_with fail
      refine HS.out.mono ?_; rintro r w5 ⟨rfl, hs5⟩
      go_wp2_with (at_builtin; go_loud (refine wpList_plain rfl (fun K hK => ?_); refine wp_append_u8 rfl l (bytesB S 4) rfl rfl hr (sat_new hs5) (reads_new w5 _ _ _ _ _ (by simp [bts, bytesB, byteAt_val]; omega)) (by rw [HL.out, bytesB_length]; omega) (fun v2 w3 R2 hr2 hs2 => ?_); refine hK _ _ ?_; simp only [Act.put, List.setIfInBounds_toArray, List.set_cons_zero, List.set_cons_succ]; clear hK))
      go_ret2
      refine ⟨v2, R2, rfl, ?_, hs2.use (by intro x; simp only [cnt_append, cnt_cons, cnt_nil]; omega)⟩
      rw [HB.out]
      exact hr2
end Go.Proofs.Ytdkhgkkdnjejmaa.Ch
