/-
  slices.Equal at bytes.
-/
import Derived.Test.YtdkhgkkdnjejmaaChE
namespace Go.Proofs.Ytdkhgkkdnjejmaa.Ch
set_option linter.unusedSimpArgs false
open Go Go.RowKit Go.Sl Go.BigFrame
set_option linter.unusedVariables false

set_option maxRecDepth 100000 in
set_option maxHeartbeats 4000000 in
theorem equal_any (W w : World) (L : List Atom) (va vb : Value) (la lb : List UInt8) (hs : Sat W w L) (ha : Reads w va la.length (bts la)) (hb : Reads w vb lb.length (bts lb)) (hl : la.length < 1000000) (hl2 : lb.length < 1000000) :
    Calls Try.prog 72 #[va, vb] w fun r w' => r = .returned (.bool (decide (la = lb))) ∧ Sat W w' L ∧ w'.heap = w.heap := by
  obtain ⟨a1, c1, rfl⟩ : ∃ a c, va = .slice a la.length c := by
    rcases ha with ⟨h1, h2, _⟩ | ⟨a, c, h1, _⟩
    · exact ⟨_, _, by rw [h1, h2]⟩
    · exact ⟨_, _, h1⟩
  obtain ⟨a2, c2, rfl⟩ : ∃ a c, vb = .slice a lb.length c := by
    rcases hb with ⟨h1, h2, _⟩ | ⟨a, c, h1, _⟩
    · exact ⟨_, _, by rw [h1, h2]⟩
    · exact ⟨_, _, h1⟩
  by_cases hlen : la.length = lb.length
  · have q0 : ((la.length : Int) != (lb.length : Int)) = false := by simp; omega
    have q1 : (la.length != lb.length) = false := by simp; omega
    have HL := Lib.hid hlen
    clear hlen
    go_enter Try.func72, Try.ntmps72
    go_wp2_with fail
    go_loopw [13] (fun kv wr => ∃ k : Nat, kv = .int .i64 k ∧ k ≤ la.length ∧ la.take k = lb.take k ∧ Sat W wr L ∧ wr.heap = w.heap) (fun kv _ => (la.length - (intOf kv).toNat))
    case atStart => exact ⟨0, rfl, Nat.zero_le _, rfl, hs, rfl⟩
    case round =>
      clear hs
      obtain ⟨k, rfl, hk, htk, hs, hh⟩ := hrel
      have HTK := Lib.hid htk
      have HH := Lib.hid hh
      clear htk
      have b0 : (0 : Int) ≤ k := by omega
      by_cases hkl : k < la.length
      · have b1 : (k : Int) < la.length := by omega
        have hkb : k < lb.length := by have := HL.out; omega
        have b3 : (k : Int) < lb.length := by omega
        have b2 : (k : Int) < 1000000 := by omega
        obtain ⟨x, hx⟩ : ∃ x, la[k]? = some x := ⟨_, List.getElem?_eq_getElem hkl⟩
        obtain ⟨y, hy⟩ : ∃ y, lb[k]? = some y := ⟨_, List.getElem?_eq_getElem hkb⟩
        rcases ha with ⟨_, hz, _⟩ | ⟨g1, cap1, e1, hca⟩
        · omega
        rcases hb with ⟨_, hz, _⟩ | ⟨g2, cap2, e2, hcb⟩
        · omega
        cases e1
        cases e2
        have d0 : wr.cell? (g1.add k) = some (.int .u8 (x.toNat : Int)) := by
          have h := hca k _ (bts_get hx)
          unfold World.cell? at h ⊢
          rw [hh]; exact h
        have d1 : wr.cell? (g2.add k) = some (.int .u8 (y.toNat : Int)) := by
          have h := hcb k _ (bts_get hy)
          unfold World.cell? at h ⊢
          rw [hh]; exact h
        have HX := Lib.hid hx
        have HY := Lib.hid hy
        clear hx hy hh hca hcb
        by_cases hxy : x = y
        · subst hxy
          go_wp2_with fail
          refine wp_region_one [] [] [] [] [0, 1, 2, 3, 4, 5, 6, 7, 8] (by kernel_rfl) (by kernel_rfl) ?_
          repeat (first | (refine can_pu1 rfl rfl rfl rfl rfl rfl (fun K hK => ?_); go_big_quiet_op; refine hK _ ?_; clear hK K) | (refine can_st1 rfl rfl rfl rfl rfl rfl (fun K hK => ?_); go_big_quiet_op; refine hK _ ?_; clear hK K) | (refine can_early1 rfl rfl rfl rfl rfl (fun K hK => ?_); go_big_quiet_op; refine hK _ ?_; clear hK K) | (refine can_skip rfl rfl rfl ?_; simp only [Act.put, List.setIfInBounds_toArray, List.set_cons_zero, List.set_cons_succ]))
          refine can_end1 ?_; (try simp only [Exit.then])
          go_wp2_with fail
          refine ⟨⟨k + 1, by simp, by omega, ?_, hs.drew, HH.out⟩, ?_⟩
          · rw [List.take_add_one, List.take_add_one, HTK.out, HX.out, HY.out]
          · simp [intOf]
            omega
        · have hxn : ¬ (x.toNat : Int) = y.toNat := fun h => hxy (UInt8.toNat_inj.1 (by omega))
          have hb2 : ((x.toNat : Int) != (y.toNat : Int)) = true := by simpa using hxn
          go_wp2_with fail
          refine wp_region_one [] [] [] [] [0, 1, 2, 3, 4, 5, 6, 7, 8] (by kernel_rfl) (by kernel_rfl) ?_
          repeat (first | (refine can_pu1 rfl rfl rfl rfl rfl rfl (fun K hK => ?_); go_big_quiet_op; refine hK _ ?_; clear hK K) | (refine can_st1 rfl rfl rfl rfl rfl rfl (fun K hK => ?_); go_big_quiet_op; refine hK _ ?_; clear hK K) | (refine can_early1 rfl rfl rfl rfl rfl (fun K hK => ?_); go_big_quiet_op; refine hK _ ?_; clear hK K) | (refine can_skip rfl rfl rfl ?_; simp only [Act.put, List.setIfInBounds_toArray, List.set_cons_zero, List.set_cons_succ]))
          refine can_end1 ?_; (try simp only [Exit.then])
          go_wp2_with fail
          go_ret
          have hne : ¬ la = lb := fun h => hxy (by
            have h1 := HX.out
            rw [h, HY.out] at h1
            simpa using h1.symm)
          exact ⟨by simp [hne], hs.drew, HH.out⟩
      · obtain rfl : k = la.length := by omega
        have heq : la = lb := by
          have h := HTK.out
          rw [List.take_length, List.take_of_length_le (by have := HL.out; omega)] at h
          exact h
        have HE := Lib.hid heq
        clear heq hh
        go_wp2_with fail
        go_ret
        exact ⟨by simp [HE.out], hs, HH.out⟩
  · have q0 : ((la.length : Int) != (lb.length : Int)) = true := by simp; omega
    have q1 : (la.length != lb.length) = true := by simp; omega
    have hne : ¬ la = lb := fun h => hlen (by rw [h])
    go_enter Try.func72, Try.ntmps72
    go_wp2_with fail
    go_ret
    exact ⟨by simp [hne], hs, rfl⟩
end Go.Proofs.Ytdkhgkkdnjejmaa.Ch
