/-
  Chapter 8's bytes: rows of bytes; Pick, Sum, number.
-/
import Derived.Test.YtdkhgkkdnjejmaaChecked
import Derived.Test.YtdkhgkkdnjejmaaSlRegion
import Derived.Test.YtdkhgkkdnjejmaaSlRange
import Derived.WalkKit
import Derived.ProofKit
import Derived.Lib.Hide
import Derived.IntWalk
import Derived.Great.BuildSlice
namespace Go.Proofs.Ytdkhgkkdnjejmaa.Ch
set_option linter.unusedSimpArgs false
open Go Go.RowKit Go.Sl
set_option linter.unusedVariables false

/-- corbelhand.Pick. -/
def handPick (x m : Int) : Int := if x.tmod m < 0 then x.tmod m + m else x.tmod m
theorem handPick_bounds (x m : Int) (hm : 0 < m) : 0 ≤ handPick x m ∧ handPick x m < m := by
  have b1 : x.tmod m < m := Int.tmod_lt_of_pos _ hm
  have b2 : -m < x.tmod m := by
    have := Int.tmod_lt_of_pos (-x) hm
    rw [Int.neg_tmod] at this
    omega
  unfold handPick
  split <;> omega
theorem hand_pick (x m : Int) (w : World) (hm : 0 < m) (hm2 : m ≤ 1099511627776) :
    Calls Try.prog 15 #[.int .i64 x, .int .i64 m] w fun e w' => e = .returned (.int .i64 (handPick x m)) ∧ w = w' := by
  have b1 : x.tmod m < m := Int.tmod_lt_of_pos _ hm
  have b2 : -m < x.tmod m := by
    have := Int.tmod_lt_of_pos (-x) hm
    rw [Int.neg_tmod] at this
    omega
  unfold handPick
  by_cases h0 : x.tmod m < 0
  · have d1 : decide (x.tmod m < 0) = true := by simpa using h0
    rw [if_pos h0]
    have b3 : (0 : Int) ≤ x.tmod m + m := by omega
    have b4 : x.tmod m + m < 1099511627776 := by omega
    go_enter Try.func15, Try.ntmps15
    go_wp2_with fail
    go_ret
    exact ⟨rfl, rfl⟩
  · have d1 : decide (x.tmod m < 0) = false := by simpa using h0
    rw [if_neg h0]
    go_enter Try.func15, Try.ntmps15
    go_wp2_with fail
    go_ret
    exact ⟨rfl, rfl⟩

/-- Bytes as cells. -/
def bts (l : List UInt8) : List Value := l.map fun b => .int .u8 (b.toNat : Int)
theorem bts_length (l : List UInt8) : (bts l).length = l.length := by simp [bts]
theorem bts_append (l m : List UInt8) : bts (l ++ m) = bts l ++ bts m := by simp [bts]
theorem bts_one (l : List UInt8) : ∀ u ∈ bts l, u.oneCell' = true := fun u hu => by obtain ⟨x, _, rfl⟩ := List.mem_map.1 hu; rfl
theorem bts_get {l : List UInt8} {k : Nat} {c : UInt8} (h : l[k]? = some c) : (bts l)[k]? = some (.int .u8 (c.toNat : Int)) := by
  rw [bts, List.getElem?_map, h]; rfl
theorem u8_lt (c : UInt8) : (c.toNat : Int) < 256 := by have := c.toNat_lt; omega

/-- mark.Sum. -/
def sumStep (h : Int) (c : UInt8) : Int := (h * 31 + (c.toNat : Int) * c.toNat + 7) % 4294967291
def sumB (l : List UInt8) : Int := l.foldl sumStep 1
theorem sumB_snoc (l : List UInt8) (c : UInt8) : sumB (l ++ [c]) = sumStep (sumB l) c := by simp [sumB]
theorem sumB_bounds (l : List UInt8) : 0 ≤ sumB l ∧ sumB l < 4294967291 := by
  rcases List.eq_nil_or_concat l with rfl | ⟨l, c, rfl⟩
  · decide
  · rw [List.concat_eq_append, sumB_snoc]
    unfold sumStep
    omega
theorem take_snoc {α : Type} {l : List α} {k : Nat} {c : α} (h : l[k]? = some c) : l.take (k + 1) = l.take k ++ [c] := by
  rw [List.take_add_one, h]; rfl

set_option maxRecDepth 100000 in
theorem sum_any (v : Value) (l : List UInt8) (w : World) (hr : Reads w v l.length (bts l)) (hl : l.length < 1000000) :
    Calls Try.prog 91 #[v] w fun e w' => e = .returned (.int .i64 (sumB l)) ∧ w = w' := by
  obtain ⟨av, cv, rfl⟩ : ∃ a c, v = .slice a l.length c := by
    rcases hr with ⟨h1, h2, _⟩ | ⟨a, c, h1, _⟩
    · exact ⟨_, _, by rw [h1, h2]⟩
    · exact ⟨_, _, h1⟩
  go_enter Try.func91, Try.ntmps91
  go_wp2_with fail
  go_loop [8, 3] (fun kv hv => ∃ k : Nat, kv = .int .i64 k ∧ k ≤ l.length ∧ hv = .int .i64 (sumB (l.take k))) (fun kv _ => (l.length - (intOf kv).toNat))
  case atStart => exact ⟨0, rfl, Nat.zero_le _, rfl⟩
  case round =>
    obtain ⟨k, rfl, hk, rfl⟩ := hrel
    have k0 : (0 : Int) ≤ k := by omega
    by_cases hkl : k < l.length
    · have k1 : (k : Int) < l.length := by omega
      have k2 : (k : Int) < 1000000 := by omega
      obtain ⟨c, hc⟩ : ∃ c, l[k]? = some c := ⟨_, List.getElem?_eq_getElem hkl⟩
      rcases hr with ⟨_, hz, _⟩ | ⟨a, c', e1, hcell⟩
      · omega
      cases e1
      have d0 : w.cell? (a.add k) = some (.int .u8 (c.toNat : Int)) := hcell k _ (bts_get hc)
      have hst : sumB (l.take (k + 1)) = sumStep (sumB (l.take k)) c := by rw [take_snoc hc, sumB_snoc]
      unfold sumStep at hst
      obtain ⟨s1, s2⟩ := sumB_bounds (l.take k)
      have c1 := u8_lt c
      have c0 : (0 : Int) ≤ c.toNat := by omega
      have c2 : (0 : Int) ≤ (c.toNat : Int) * c.toNat := by rw [← Int.natCast_mul]; omega
      have c3 : (c.toNat : Int) * c.toNat < 65536 := by
        have h1 := c.toNat_lt
        have h2 : c.toNat * c.toNat < 256 * 256 := Nat.mul_lt_mul'' h1 h1
        rw [← Int.natCast_mul]; omega
      have HST := Lib.hid hst
      clear hst hc hcell
      generalize sumB (l.take k) = s at *
      go_wp2_with fail
      refine ⟨⟨k + 1, by simp, by omega, by rw [HST.out]⟩, ?_⟩
      simp [intOf]
      omega
    · obtain rfl : k = l.length := by omega
      rw [List.take_length]
      go_wp2_with fail
      go_ret
      exact ⟨rfl, rfl⟩

theorem or_i64_nat (a b : Nat) (ha : a < 4611686018427387904) (hb : b < 4611686018427387904) : bits .or .i64 (a : Int) (b : Int) = ((a ||| b : Nat) : Int) := by
  have hx : a ||| b < 2 ^ 62 := Nat.or_lt_two_pow (by omega) (by omega)
  have h1 : (BitVec.ofInt 64 (a : Int)).toNat = a := by
    rw [BitVec.ofInt_natCast, BitVec.toNat_ofNat]; exact Nat.mod_eq_of_lt (by omega)
  have h2 : (BitVec.ofInt 64 (b : Int)).toNat = b := by
    rw [BitVec.ofInt_natCast, BitVec.toNat_ofNat]; exact Nat.mod_eq_of_lt (by omega)
  show IntKind.i64.wrap ((BitVec.ofInt 64 (a : Int) ||| BitVec.ofInt 64 (b : Int)).toNat : Int) = _
  rw [BitVec.toNat_or, h1, h2]
  exact IntWalk.i64_in _ (by omega)
/-- Bytes put side by side. -/
theorem or_low (k : Nat) (s c : Nat) (hc : c < 2 ^ k) (hs : s * 2 ^ k < 4611686018427387904) (hk : k ≤ 60) : bits .or .i64 ((s * 2 ^ k : Nat) : Int) (c : Int) = ((s * 2 ^ k + c : Nat) : Int) := by
  have hp : 2 ^ k ≤ 2 ^ 60 := Nat.pow_le_pow_right (by decide) hk
  rw [or_i64_nat _ _ hs (by omega), Nat.mul_comm s, ← Nat.two_pow_add_eq_or_of_lt hc]

/-- chunk.number. -/
def numStep (n : Int) (c : UInt8) : Int := n * 256 + c.toNat
def numB (l : List UInt8) : Int := l.foldl numStep 0
theorem numB_snoc (l : List UInt8) (c : UInt8) : numB (l ++ [c]) = numB l * 256 + c.toNat := by simp [numB, numStep]
theorem numB_bounds (l : List UInt8) : ∀ n, l.length = n → 0 ≤ numB l ∧ numB l < 256 ^ n := by
  intro n
  induction n generalizing l with
  | zero => intro h; rw [List.eq_nil_of_length_eq_zero h]; decide
  | succ n ih =>
    intro h
    rcases List.eq_nil_or_concat l with rfl | ⟨m, c, rfl⟩
    · simp at h
    · rw [List.concat_eq_append] at h ⊢
      have h2 := ih m (by simpa using h)
      have h3 := u8_lt c
      rw [numB_snoc, Int.pow_succ]
      omega

set_option maxRecDepth 100000 in
theorem number_any (v : Value) (l : List UInt8) (w : World) (hr : Reads w v l.length (bts l)) (hl : l.length ≤ 6) :
    Calls Try.prog 70 #[v] w fun e w' => e = .returned (.int .i64 (numB l)) ∧ w = w' := by
  obtain ⟨av, cv, rfl⟩ : ∃ a c, v = .slice a l.length c := by
    rcases hr with ⟨h1, h2, _⟩ | ⟨a, c, h1, _⟩
    · exact ⟨_, _, by rw [h1, h2]⟩
    · exact ⟨_, _, h1⟩
  go_enter Try.func70, Try.ntmps70
  go_wp2_with fail
  go_loop [8, 3] (fun kv hv => ∃ k : Nat, kv = .int .i64 k ∧ k ≤ l.length ∧ hv = .int .i64 (numB (l.take k))) (fun kv _ => (l.length - (intOf kv).toNat))
  case atStart => exact ⟨0, rfl, Nat.zero_le _, rfl⟩
  case round =>
    obtain ⟨k, rfl, hk, rfl⟩ := hrel
    have k0 : (0 : Int) ≤ k := by omega
    by_cases hkl : k < l.length
    · have k1 : (k : Int) < l.length := by omega
      have k2 : (k : Int) < 6 := by omega
      obtain ⟨c, hc⟩ : ∃ c, l[k]? = some c := ⟨_, List.getElem?_eq_getElem hkl⟩
      rcases hr with ⟨_, hz, _⟩ | ⟨a, c', e1, hcell⟩
      · omega
      cases e1
      have d0 : w.cell? (a.add k) = some (.int .u8 (c.toNat : Int)) := hcell k _ (bts_get hc)
      have hst : numB (l.take (k + 1)) = numB (l.take k) * 256 + c.toNat := by rw [take_snoc hc, numB_snoc]
      obtain ⟨s1, s2⟩ := numB_bounds (l.take k) k (by simp; omega)
      have s3 : numB (l.take k) < 1099511627776 := by
        have : (256 : Int) ^ k ≤ 256 ^ 5 := by
          have : (256 : Nat) ^ k ≤ 256 ^ 5 := Nat.pow_le_pow_right (by decide) (by omega)
          exact_mod_cast this
        have e : (256 : Int) ^ 5 = 1099511627776 := by decide
        omega
      have c1 := u8_lt c
      have c0 : (0 : Int) ≤ c.toNat := by omega
      have HST := Lib.hid hst
      clear hst hc hcell s2
      generalize numB (l.take k) = s at *
      have hor : bits .or .i64 (s * 256) c.toNat = s * 256 + c.toNat := by
        have h := or_low 8 s.toNat c.toNat (by have := c.toNat_lt; omega) (by omega) (by decide)
        rw [show ((s.toNat * 2 ^ 8 : Nat) : Int) = s * 256 by omega, show ((s.toNat * 2 ^ 8 + c.toNat : Nat) : Int) = s * 256 + c.toNat by omega] at h
        exact h
      have HOR := Lib.hid hor
      clear hor
      go_wp2_with fail
      refine ⟨⟨k + 1, by simp, by omega, by rw [HST.out, HOR.out]⟩, ?_⟩
      simp [intOf]
      omega
    · obtain rfl : k = l.length := by omega
      rw [List.take_length]
      go_wp2_with fail
      go_ret
      exact ⟨rfl, rfl⟩
end Go.Proofs.Ytdkhgkkdnjejmaa.Ch
