
/-
  ChunkKnown, walked.
-/
import Derived.Test.YtekbbpfnkbanjaaGreatLpA
namespace Go.Proofs.YtekbbpfnkbanjaaGreat.Ch
set_option linter.unusedSimpArgs false
open Go Go.RowKit Go.Sl Go.BigFrame
set_option linter.unusedVariables false

def kE : Pc := ⟨39, 1099511627776, 5, bytesOf 1 32⟩
def kX : Pc := ⟨3, 7, 1, bytesOf 9 32⟩
theorem kE_right : rightP kE := ⟨by show (0 : Int) ≤ 39; omega, by show (39 : Int) < 40; omega, by show (1 : Int) ≤ 1099511627776; omega, by show (1099511627776 : Int) ≤ 1099511627776; omega, by show (0 : Int) ≤ 5; omega, by show (5 : Int) < 6; omega, bytesOf_length 1 32⟩
theorem kX_right : rightP kX := ⟨by show (0 : Int) ≤ 3; omega, by show (3 : Int) < 40; omega, by show (1 : Int) ≤ 7; omega, by show (7 : Int) ≤ 1099511627776; omega, by show (0 : Int) ≤ 1; omega, by show (1 : Int) < 6; omega, bytesOf_length 9 32⟩
def kQ1 : Pt := q0.wr 78 (layB kE)
def kQ2 : Pt := kQ1.wr 8 (layB kX)
theorem k_get4 : getL kQ2 4 = [] := by
  have h0 : getAt kQ2 4 8 = none := by
    unfold getAt kQ2 Pt.wr
    simp only [List.getElem?_set_self (show 8 < kQ1.now.length by simp [kQ1, Pt.wr, q0]), read_lay kX kX_right]
    rw [if_neg (fun h => absurd h.1 (by show ¬ (3 : Int) = 4; omega))]
  have h1 : getAt kQ2 4 9 = none := by
    unfold kQ2 kQ1
    rw [getAt_wr_ne _ _ _ (by decide), getAt_wr_ne _ _ _ (by decide)]
    exact getAt_blank _ _ _ _ _ _
  have hn : getN kQ2 4 2 = [] := by
    rw [getN_succ, getN_succ, show placeN 4 ((0 : Nat) : Int) = 8 by decide, show placeN 4 ((1 : Nat) : Int) = 9 by decide, h0, h1]
    rfl
  unfold getL
  rw [hn]; rfl
theorem k_get3 : getL kQ2 3 = [] := by
  have h : ∀ k, k ≠ 8 → k ≠ 78 → getAt kQ2 3 k = none := fun k h1 h2 => by
    unfold kQ2 kQ1
    rw [getAt_wr_ne _ _ _ (Ne.symm h1), getAt_wr_ne _ _ _ (Ne.symm h2)]
    exact getAt_blank _ _ _ _ _ _
  have hn : getN kQ2 3 2 = [] := by
    rw [getN_succ, getN_succ, show placeN 3 ((0 : Nat) : Int) = 6 by decide, show placeN 3 ((1 : Nat) : Int) = 7 by decide, h 6 (by decide) (by decide), h 7 (by decide) (by decide)]
    rfl
  unfold getL
  rw [hn]; rfl
theorem k_get39 : (getL kQ2 39).length = 1 := by
  have h0 : getAt kQ2 39 78 = some kE := by
    unfold kQ2
    rw [getAt_wr_ne _ _ _ (by decide)]
    exact getAt_wr_same q0 kE kE_right (by decide) (by simp [q0])
  have h1 : getAt kQ2 39 79 = none := by
    unfold kQ2 kQ1
    rw [getAt_wr_ne _ _ _ (by decide), getAt_wr_ne _ _ _ (by decide)]
    exact getAt_blank _ _ _ _ _ _
  have hn : getN kQ2 39 2 = [kE] := by
    rw [getN_succ, getN_succ, show placeN 39 ((0 : Nat) : Int) = 78 by decide, show placeN 39 ((1 : Nat) : Int) = 79 by decide, h0, h1]
    rfl
  unfold getL
  rw [hn]; rfl
theorem k_none : readB ([] : List UInt8) = none := by
  have ho : openB [] = (0, [], 2) := by unfold openB; rw [if_pos (by decide)]
  unfold readB
  rw [ho, if_neg (fun h => absurd h.1 (by decide))]
theorem k_bytes : bytesOf 1 32 ≠ bytesOf 2 32 := by decide +kernel
theorem now_small {q : Pt} {k : Nat} {l : List UInt8} (h : ∀ x ∈ q.now, x.length < 1000000) (hl : l.length < 1000000) : ∀ x ∈ (q.wr k l).now, x.length < 1000000 := fun x hx => by
  rcases List.mem_or_eq_of_mem_set hx with h1 | h1
  · exact h x h1
  · rw [h1]; exact hl
theorem q0_small : ∀ x ∈ q0.now, x.length < 1000000 := (qk_facts 0).2.2.2
theorem bytesOf_small (n : Int) (k : Nat) (h : k < 1000000) : (bytesOf n k).length < 1000000 := by rw [bytesOf_length]; exact h
theorem lay_small (p : Pc) (h : rightP p) : (layB p).length < 1000000 := by rw [layB_length _ h.2.2.2.2.2.2]; omega
theorem row_cap {e : TypeId} {size n : Nat} {v : Value} {xs : List Value} {R : List Atom} (hr : RowA e size v n xs R) : ∀ a m c, v = .slice a m c → m ≤ c := fun a m c h => by
  rcases hr.2 with ⟨h1, h2, _⟩ | ⟨g, off, cap, h1, h2, _⟩
  · rw [h1] at h; cases h; exact Nat.le_refl _
  · rw [h1] at h; cases h; exact h2

end Go.Proofs.YtekbbpfnkbanjaaGreat.Ch
