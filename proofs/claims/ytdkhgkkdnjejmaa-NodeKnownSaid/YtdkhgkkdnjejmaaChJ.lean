/-
  chunk.Right, Place.
-/
import Derived.Test.YtdkhgkkdnjejmaaChI
namespace Go.Proofs.Ytdkhgkkdnjejmaa.Ch
set_option linter.unusedSimpArgs false
open Go Go.RowKit Go.Sl Go.BigFrame
set_option linter.unusedVariables false

/-- A piece. -/
structure Pc where
  stripe : Int
  gen : Int
  index : Int
  data : List UInt8
def pcV (p : Pc) (v : Value) : Value := .agg #[.int .i64 p.stripe, .int .i64 p.gen, .int .i64 p.index, v]
def pcCells (p : Pc) (v : Value) : List Value := [.int .i64 p.stripe, .int .i64 p.gen, .int .i64 p.index, v]
def pc0 : Pc := ⟨0, 0, 0, []⟩

/-- chunk.Right. -/
def rightP (p : Pc) : Prop := 0 ≤ p.stripe ∧ p.stripe < 40 ∧ 1 ≤ p.gen ∧ p.gen ≤ 1099511627776 ∧ 0 ≤ p.index ∧ p.index < 6 ∧ p.data.length = 32
noncomputable instance : DecidablePred rightP := fun p => Classical.propDecidable _

set_option maxRecDepth 100000 in
theorem right_any (p : Pc) (a : Option Addr) (c : Nat) (w : World) :
    Calls Try.prog 34 #[pcV p (.slice a p.data.length c)] w fun e w' => e = .returned (.bool (decide (rightP p))) ∧ Ext w w' := by
  obtain ⟨s, g, i, d⟩ := p
  unfold pcV
  simp only []
  by_cases hr : rightP ⟨s, g, i, d⟩
  · rw [decide_eq_true hr]
    obtain ⟨h1, h2, h3, h4, h5, h6, h7⟩ := hr
    simp only at h1 h2 h3 h4 h5 h6 h7
    rw [h7]
    go_enter Try.func34, Try.ntmps34
    go_wp2_with fail
    go_ret
    refine ⟨?_, ?_⟩
    · rfl
    · exact Ext.alloc _ _
  · rw [decide_eq_false hr]
    have HR := Lib.hid hr
    clear hr
    by_cases h1 : 0 ≤ s
    case neg =>
      go_enter Try.func34, Try.ntmps34
      go_wp2_with fail
      go_ret
      refine ⟨?_, ?_⟩
      · rfl
      · exact Ext.alloc _ _
    by_cases h2 : s < 40
    case neg =>
      go_enter Try.func34, Try.ntmps34
      go_wp2_with fail
      go_ret
      refine ⟨?_, ?_⟩
      · rfl
      · exact Ext.alloc _ _
    by_cases h3 : 1 ≤ g
    case neg =>
      go_enter Try.func34, Try.ntmps34
      go_wp2_with fail
      go_ret
      refine ⟨?_, ?_⟩
      · rfl
      · exact Ext.alloc _ _
    by_cases h4 : g ≤ 1099511627776
    case neg =>
      go_enter Try.func34, Try.ntmps34
      go_wp2_with fail
      go_ret
      refine ⟨?_, ?_⟩
      · rfl
      · exact Ext.alloc _ _
    by_cases h5 : 0 ≤ i
    case neg =>
      go_enter Try.func34, Try.ntmps34
      go_wp2_with fail
      go_ret
      refine ⟨?_, ?_⟩
      · rfl
      · exact Ext.alloc _ _
    by_cases h6 : i < 6
    case neg =>
      go_enter Try.func34, Try.ntmps34
      go_wp2_with fail
      go_ret
      refine ⟨?_, ?_⟩
      · rfl
      · exact Ext.alloc _ _
    have h7 : ¬ (d.length : Int) = 32 := fun h => HR.out ⟨h1, h2, h3, h4, h5, h6, by simpa using (by omega : d.length = 32)⟩
    have h8 : ((d.length : Int) == 32) = false := by simpa using h7
    go_enter Try.func34, Try.ntmps34
    go_wp2_with fail
    go_ret
    refine ⟨?_, ?_⟩
    · rfl
    · exact Ext.alloc _ _

/-- chunk.Place. -/
def placeI (s g : Int) : Int := 2 * s + g % 2
theorem and_one (g : Int) : bits .and .i64 g 1 = g % 2 := by
  show IntKind.i64.wrap ((BitVec.ofInt 64 g &&& BitVec.ofInt 64 1).toNat : Int) = _
  have h1 : (BitVec.ofInt 64 1).toNat = 1 := by decide
  have h2 : ((BitVec.ofInt 64 g).toNat : Int) = g % 18446744073709551616 := by
    rw [BitVec.toNat_ofInt]
    have := Int.emod_nonneg g (show (18446744073709551616 : Int) ≠ 0 by decide)
    rw [show ((2 ^ 64 : Nat) : Int) = 18446744073709551616 from rfl]
    omega
  rw [BitVec.toNat_and, h1, Nat.and_one_is_mod]
  have h3 : (((BitVec.ofInt 64 g).toNat % 2 : Nat) : Int) = g % 2 := by omega
  rw [h3]
  have b1 : 0 ≤ g % 2 := Int.emod_nonneg _ (by decide)
  have b2 : g % 2 < 2 := Int.emod_lt_of_pos _ (by decide)
  exact IntWalk.i64_in _ (by omega)
theorem place_any (s g : Int) (w : World) (h0 : 0 ≤ s) (h1 : s < 1000) :
    Calls Try.prog 31 #[.int .i64 s, .int .i64 g] w fun e w' => e = .returned (.int .i64 (placeI s g)) ∧ w = w' := by
  have b1 : 0 ≤ g % 2 := Int.emod_nonneg _ (by decide)
  have b2 : g % 2 < 2 := Int.emod_lt_of_pos _ (by decide)
  have ha := and_one g
  unfold placeI
  generalize g % 2 = y at *
  go_enter Try.func31, Try.ntmps31
  go_wp2_with fail
  go_ret
  exact ⟨rfl, rfl⟩
end Go.Proofs.Ytdkhgkkdnjejmaa.Ch
