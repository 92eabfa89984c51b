/-
  The ring of intents: small functions (Right, block, number, bytes).
-/
import Derived.Test.YtdkhgkkdnjejmaaChU
namespace Go.Proofs.Ytdkhgkkdnjejmaa.Ch
set_option linter.unusedSimpArgs false
open Go Go.RowKit Go.Sl Go.BigFrame
set_option linter.unusedVariables false

/-- An intent. -/
structure It where
  stripe : Int
  gen : Int
  data : List UInt8
def itV (i : It) (v : Value) : Value := .agg #[.int .i64 i.stripe, .int .i64 i.gen, v]
def rightI (i : It) : Prop := 0 ≤ i.stripe ∧ i.stripe < 40 ∧ 1 ≤ i.gen ∧ i.gen ≤ 1099511627776 ∧ i.data.length = 128
noncomputable instance (i : It) : Decidable (rightI i) := Classical.propDecidable _
theorem iright_any (p : It) (a : Option Addr) (c : Nat) (w : World) :
    Calls Try.prog 116 #[itV p (.slice a p.data.length c)] w fun e w' => e = .returned (.bool (decide (rightI p))) ∧ Ext w w' := by
  obtain ⟨s, g, d⟩ := p
  unfold itV
  simp only []
  by_cases hr : rightI ⟨s, g, d⟩
  · rw [decide_eq_true hr]
    obtain ⟨h1, h2, h3, h4, h7⟩ := hr
    simp only at h1 h2 h3 h4 h7
    rw [h7]
    go_enter Try.func116, Try.ntmps116
    go_wp2_with fail
    go_ret
    refine ⟨?_, ?_⟩
    · rfl
    · exact Ext.alloc _ _
  · rw [decide_eq_false hr]
    have HR := Lib.hid hr
    clear hr
    by_cases h1 : 0 ≤ s
    case neg =>
      go_enter Try.func116, Try.ntmps116
      go_wp2_with fail
      go_ret
      refine ⟨?_, ?_⟩
      · rfl
      · exact Ext.alloc _ _
    by_cases h2 : s < 40
    case neg =>
      go_enter Try.func116, Try.ntmps116
      go_wp2_with fail
      go_ret
      refine ⟨?_, ?_⟩
      · rfl
      · exact Ext.alloc _ _
    by_cases h3 : 1 ≤ g
    case neg =>
      go_enter Try.func116, Try.ntmps116
      go_wp2_with fail
      go_ret
      refine ⟨?_, ?_⟩
      · rfl
      · exact Ext.alloc _ _
    by_cases h4 : g ≤ 1099511627776
    case neg =>
      go_enter Try.func116, Try.ntmps116
      go_wp2_with fail
      go_ret
      refine ⟨?_, ?_⟩
      · rfl
      · exact Ext.alloc _ _
    have h7 : ¬ (d.length : Int) = 128 := fun h => HR.out ⟨h1, h2, h3, h4, by simpa using (by omega : d.length = 128)⟩
    have h8 : ((d.length : Int) == 128) = false := by simpa using h7
    go_enter Try.func116, Try.ntmps116
    go_wp2_with fail
    go_ret
    refine ⟨?_, ?_⟩
    · rfl
    · exact Ext.alloc _ _
theorem iblock_any (k : Int) (w : World) (h0 : 0 ≤ k) (h1 : k < 1000) :
    Calls Try.prog 114 #[.int .i64 k] w fun e w' => e = .returned (.int .i64 (80 + k)) ∧ w = w' := by
  go_enter Try.func114, Try.ntmps114
  go_wp2_with fail
  go_ret
  exact ⟨rfl, rfl⟩

set_option maxRecDepth 100000 in
theorem inum_any (v : Value) (l : List UInt8) (w : World) (hr : Reads w v l.length (bts l)) (hl : l.length ≤ 6) :
    Calls Try.prog 139 #[v] w fun e w' => e = .returned (.int .i64 (numB l)) ∧ w = w' := by
  obtain ⟨av, cv, rfl⟩ : ∃ a c, v = .slice a l.length c := by
    rcases hr with ⟨h1, h2, _⟩ | ⟨a, c, h1, _⟩
    · exact ⟨_, _, by rw [h1, h2]⟩
    · exact ⟨_, _, h1⟩
  go_enter Try.func139, Try.ntmps139
  go_wp2_with fail
  go_loop [8, 3] (fun kv hv => ∃ k : Nat, kv = .int .i64 k ∧ k ≤ l.length ∧ hv = .int .i64 (numB (l.take k))) (fun kv _ => (l.length - (intOf kv).toNat))
  case atStart => exact ⟨0, rfl, Nat.zero_le _, rfl⟩
  case round =>
    obtain ⟨k, rfl, hk, rfl⟩ := hrel
    have k0 : (0 : Int) ≤ k := by omega
    by_cases hkl : k < l.length
    · have k1 : (k : Int) < l.length := by omega
      have k2 : (k : Int) < 6 := by omega
      obtain ⟨c, hc⟩ : ∃ c, l[k]? = some c := ⟨_, List.getElem?_eq_getElem hkl⟩
      rcases hr with ⟨_, hz, _⟩ | ⟨a, c', e1, hcell⟩
      · omega
      cases e1
      have d0 : w.cell? (a.add k) = some (.int .u8 (c.toNat : Int)) := hcell k _ (bts_get hc)
      have hst : numB (l.take (k + 1)) = numB (l.take k) * 256 + c.toNat := by rw [take_snoc hc, numB_snoc]
      obtain ⟨s1, s2⟩ := numB_bounds (l.take k) k (by simp; omega)
      have s3 : numB (l.take k) < 1099511627776 := by
        have : (256 : Int) ^ k ≤ 256 ^ 5 := by
          have : (256 : Nat) ^ k ≤ 256 ^ 5 := Nat.pow_le_pow_right (by decide) (by omega)
          exact_mod_cast this
        have e : (256 : Int) ^ 5 = 1099511627776 := by decide
        omega
      have c1 := u8_lt c
      have c0 : (0 : Int) ≤ c.toNat := by omega
      have HST := Lib.hid hst
      clear hst hc hcell s2
      generalize numB (l.take k) = s at *
      have hor : bits .or .i64 (s * 256) c.toNat = s * 256 + c.toNat := by
        have h := or_low 8 s.toNat c.toNat (by have := c.toNat_lt; omega) (by omega) (by decide)
        rw [show ((s.toNat * 2 ^ 8 : Nat) : Int) = s * 256 by omega, show ((s.toNat * 2 ^ 8 + c.toNat : Nat) : Int) = s * 256 + c.toNat by omega] at h
        exact h
      have HOR := Lib.hid hor
      clear hor
      go_wp2_with fail
      refine ⟨⟨k + 1, by simp, by omega, by rw [HST.out, HOR.out]⟩, ?_⟩
      simp [intOf]
      omega
    · obtain rfl : k = l.length := by omega
      rw [List.take_length]
      go_wp2_with fail
      go_ret
      exact ⟨rfl, rfl⟩

set_option maxHeartbeats 2000000 in
theorem ibytes_any (n : Int) (W w : World) (L : List Atom) (hn : 0 ≤ n) (hn2 : n < 9223372036854775808) (hs : Sat W w L) :
    Calls Try.prog 122 #[.int .i64 n] w fun e w' => ∃ v R, e = .returned v ∧ RowA 5 1 v (bytesB n 6).length (bts (bytesB n 6)) R ∧ Sat W w' (R ++ L) := by
  go_enter Try.func122, Try.ntmps122
  go_wp2_with fail
  go_loopw [3, 4] (fun ov iv wr => ∃ (k : Nat) (l : List UInt8) (R : List Atom), k ≤ 6 ∧ iv = .int .i64 ((k : Int) - 1) ∧ l ++ bytesB n k = bytesB n 6 ∧ RowA 5 1 ov l.length (bts l) R ∧ Sat W wr (R ++ L)) (fun _ iv _ => (intOf iv + 1).toNat)
  case atStart => exact ⟨6, [], [], Nat.le_refl _, rfl, rfl, RowA.nil _ _, hs⟩
  case round =>
    clear hs
    obtain ⟨k, l, R, hk, rfl, hl, hr, hs⟩ := hrel
    have HL := Lib.hid hl
    have hll : l.length ≤ 6 := by
      have h := congrArg List.length hl
      rw [List.length_append, bytesB_length, bytesB_length] at h
      omega
    clear hl
    obtain ⟨aL, cL, rfl⟩ := Ch.RowA.slice hr
    cases k with
    | zero =>
      go_wp2_with fail
      go_ret
      have h := HL.out
      rw [bytesB, List.append_nil] at h
      exact ⟨_, R, rfl, by rw [← h]; exact hr, hs⟩
    | succ k =>
      have e1 : (((k + 1 : Nat) : Int) - 1) = k := by omega
      rw [e1]
      have k0 : (0 : Int) ≤ k := by omega
      have k1 : (k : Int) ≤ 5 := by omega
      go_wp2_with (at_builtin; refine wpList_plain rfl (fun K hK => ?_); refine wp_append_u8 rfl l [byteAt n k] rfl rfl hr (sat_new hs) (reads_new wr _ _ _ _ _ (by simp [bts, byteAt_val])) (by simp <;> omega) (fun v2 w2 R2 hr2 hs2 => ?_); refine hK _ _ ?_; simp only [Act.put, List.setIfInBounds_toArray, List.set_cons_zero, List.set_cons_succ]; clear hK)
      refine ⟨⟨k, l ++ [byteAt n k], R2, by omega, rfl, ?_, hr2, hs2.use (by intro x; simp only [cnt_append, cnt_cons, cnt_nil]; omega)⟩, ?_⟩
      · rw [← HL.out, bytesB, List.append_assoc]; rfl
      · simp [intOf]
end Go.Proofs.Ytdkhgkkdnjejmaa.Ch
