/-
  ChunkTurns: its platter, and what is there.
-/
import Derived.Test.YtdkhgkkdnjejmaaLpA
namespace Go.Proofs.Ytdkhgkkdnjejmaa.Ch
set_option linter.unusedSimpArgs false
open Go Go.RowKit Go.Sl Go.BigFrame
set_option linter.unusedVariables false

/-- The two pieces. -/
def tp (s g i n : Int) : Pc := ⟨s, g, i, bytesOf n 32⟩
theorem tp_right (s g i n : Int) (h1 : 0 ≤ s) (h2 : s < 40) (h3 : 1 ≤ g) (h4 : g ≤ 1099511627776) (h5 : 0 ≤ i) (h6 : i < 6) : rightP (tp s g i n) := ⟨h1, h2, h3, h4, h5, h6, bytesOf_length n 32⟩
theorem tp_len (s g i n : Int) : (tp s g i n).data.length = 32 := bytesOf_length n 32
def tQ1 (p : Pc) : Pt := q0.wr (placeN p.stripe p.gen) (layB p)
def tQ3 (p q : Pc) : Pt := (tQ1 p).fl.wr (placeN q.stripe q.gen) (layB q)
theorem placeN_ne (s g : Int) (h1 : 0 ≤ s) (h2 : s < 40) : placeN s g ≠ placeN s (g + 1) := by
  have a := placeI_bounds s g h1 h2
  have b := placeI_bounds s (g + 1) h1 h2
  unfold placeN
  have : placeI s g ≠ placeI s (g + 1) := by unfold placeI; omega
  omega
theorem placeN_lt (s g : Int) (h1 : 0 ≤ s) (h2 : s < 40) : placeN s g < 80 := by
  have a := placeI_bounds s g h1 h2
  unfold placeN
  omega
theorem placeN_two (s g : Int) (h1 : 0 ≤ s) (h2 : s < 40) : placeN s g = placeN s ((0 : Nat) : Int) ∧ placeN s (g + 1) = placeN s ((1 : Nat) : Int) ∨ placeN s g = placeN s ((1 : Nat) : Int) ∧ placeN s (g + 1) = placeN s ((0 : Nat) : Int) := by
  unfold placeN placeI
  have : g % 2 = 0 ∨ g % 2 = 1 := by omega
  rcases this with h | h
  · left
    rw [h, show (g + 1) % 2 = 1 by omega]
    exact ⟨rfl, rfl⟩
  · right
    rw [h, show (g + 1) % 2 = 0 by omega]
    exact ⟨rfl, rfl⟩
/-- Both are there, the greater first. -/
theorem get_both (q : Pt) (s g i a b : Int) (h1 : 0 ≤ s) (h2 : s < 40) (ha : getAt q s (placeN s g) = some (tp s g i a)) (hb : getAt q s (placeN s (g + 1)) = some (tp s (g + 1) i b)) : getL q s = [tp s (g + 1) i b, tp s g i a] := by
  unfold getL
  rw [getN_succ, getN_succ]
  rcases placeN_two s g h1 h2 with ⟨e1, e2⟩ | ⟨e1, e2⟩
  · rw [← e1, ← e2, ha, hb]
    show srt [tp s g i a, tp s (g + 1) i b] = _
    simp only [srt]
    rw [if_pos (show (tp s g i a).gen < (tp s (g + 1) i b).gen from (by omega : g < g + 1))]
  · rw [← e1, ← e2, ha, hb]
    show srt [tp s (g + 1) i b, tp s g i a] = _
    simp only [srt]
    rw [if_neg (show ¬ (tp s (g + 1) i b).gen < (tp s g i a).gen from (by omega : ¬ g + 1 < g))]
theorem get_only (q : Pt) (s g i a : Int) (h1 : 0 ≤ s) (h2 : s < 40) (ha : getAt q s (placeN s g) = some (tp s g i a)) (hb : getAt q s (placeN s (g + 1)) = none) : getL q s = [tp s g i a] := by
  unfold getL
  rw [getN_succ, getN_succ]
  rcases placeN_two s g h1 h2 with ⟨e1, e2⟩ | ⟨e1, e2⟩
  · rw [← e1, ← e2, ha, hb]; rfl
  · rw [← e1, ← e2, ha, hb]; rfl
section
variable (s g i a b : Int) (h1 : 0 ≤ s) (h2 : s < 40) (h3 : 1 ≤ g) (h4 : g + 1 ≤ 1099511627776) (h5 : 0 ≤ i) (h6 : i < 6)
include h1 h2 h3 h4 h5 h6
theorem tQ3_a : getAt (tQ3 (tp s g i a) (tp s (g + 1) i b)) s (placeN s g) = some (tp s g i a) := by
  refine (getAt_wr_ne _ _ _ (show placeN s (g + 1) ≠ placeN s g from (placeN_ne s g h1 h2).symm)).trans ?_
  have := getAt_wr_same q0 (tp s g i a) (tp_right _ _ _ _ h1 h2 h3 (by omega) h5 h6) (k := placeN s g) rfl (by have := placeN_lt s g h1 h2; simp [q0]; omega)
  exact this
theorem tQ3_b : getAt (tQ3 (tp s g i a) (tp s (g + 1) i b)) s (placeN s (g + 1)) = some (tp s (g + 1) i b) := by
  have := getAt_wr_same (tQ1 (tp s g i a)).fl (tp s (g + 1) i b) (tp_right _ _ _ _ h1 h2 (by omega) h4 h5 h6) (k := placeN s (g + 1)) rfl (by have := placeN_lt s (g + 1) h1 h2; simp [tQ1, Pt.fl, Pt.wr, q0]; omega)
  exact this
theorem tQ3_get : getL (tQ3 (tp s g i a) (tp s (g + 1) i b)) s = [tp s (g + 1) i b, tp s g i a] :=
  get_both _ s g i a b h1 h2 (tQ3_a s g i a b h1 h2 h3 h4 h5 h6) (tQ3_b s g i a b h1 h2 h3 h4 h5 h6)
theorem tQ4_get (keep : List Int) : getL ((tQ3 (tp s g i a) (tp s (g + 1) i b)).crash keep) s = if (0 : Int) ∈ keep then [tp s (g + 1) i b, tp s g i a] else [tp s g i a] := by
  have hc : (((tQ3 (tp s g i a) (tp s (g + 1) i b)).crash keep).now) = if (0 : Int) ∈ keep then (tQ3 (tp s g i a) (tp s (g + 1) i b)).now else (tQ1 (tp s g i a)).now := by
    have hp : (tQ3 (tp s g i a) (tp s (g + 1) i b)).pend = [(placeN s (g + 1), layB (tp s (g + 1) i b))] := rfl
    have hd : (tQ3 (tp s g i a) (tp s (g + 1) i b)).done = (tQ1 (tp s g i a)).now := rfl
    have hn : (tQ3 (tp s g i a) (tp s (g + 1) i b)).now = (tQ1 (tp s g i a)).now.set (placeN s (g + 1)) (layB (tp s (g + 1) i b)) := rfl
    have hcr : ((tQ3 (tp s g i a) (tp s (g + 1) i b)).crash keep).now = crashTo keep (tQ3 (tp s g i a) (tp s (g + 1) i b)).done (tQ3 (tp s g i a) (tp s (g + 1) i b)).pend (tQ3 (tp s g i a) (tp s (g + 1) i b)).pend.length := rfl
    rw [hcr, hp, hd, hn]
    simp only [List.length_cons, List.length_nil, Nat.zero_add, crashTo, List.getElem?_cons_zero]
    rfl
  have hat : ∀ k, getAt ((tQ3 (tp s g i a) (tp s (g + 1) i b)).crash keep) s k = if (0 : Int) ∈ keep then getAt (tQ3 (tp s g i a) (tp s (g + 1) i b)) s k else getAt (tQ1 (tp s g i a)) s k := fun k => by
    by_cases hk : (0 : Int) ∈ keep
    · rw [if_pos hk] at hc ⊢
      unfold getAt
      rw [hc]
    · rw [if_neg hk] at hc ⊢
      unfold getAt
      rw [hc]
  by_cases hk : (0 : Int) ∈ keep
  · rw [if_pos hk]
    refine get_both _ s g i a b h1 h2 ?_ ?_
    · rw [hat, if_pos hk]; exact tQ3_a s g i a b h1 h2 h3 h4 h5 h6
    · rw [hat, if_pos hk]; exact tQ3_b s g i a b h1 h2 h3 h4 h5 h6
  · rw [if_neg hk]
    refine get_only _ s g i a h1 h2 ?_ ?_
    · rw [hat, if_neg hk]
      exact getAt_wr_same q0 (tp s g i a) (tp_right _ _ _ _ h1 h2 h3 (by omega) h5 h6) (k := placeN s g) rfl (by have := placeN_lt s g h1 h2; simp [q0]; omega)
    · rw [hat, if_neg hk]
      refine (getAt_wr_ne _ _ _ (show placeN s g ≠ placeN s (g + 1) from placeN_ne s g h1 h2)).trans ?_
      exact getAt_blank _ _ _ _ _ _
end
end Go.Proofs.Ytdkhgkkdnjejmaa.Ch
