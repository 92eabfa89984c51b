
/-
  ChunkApart, walked.
-/
import Derived.Test.YtekbbpfnkbanjaaGreatLaB
import Derived.Deep.DeepCutAuto
import Derived.Deep.CutBlock
namespace Go.Proofs.YtekbbpfnkbanjaaGreat.Ch
set_option linter.unusedSimpArgs false
open Go Go.RowKit Go.Sl Go.BigFrame
set_option linter.unusedVariables false

structure ActR where
  what : Int
  stripe : Int
  gen : Int
  index : Int
  seed : Int
  bend : Int
  keep : List Int
/-- A row of acts that came in. -/
def ActsIn (y : World) (a : Option Addr) (xs : List ActR) : Prop := ∀ (j : Nat) (x : ActR), xs[j]? = some x → ∃ b o, a = some ⟨b, o, none⟩ ∧
  y.cell? ⟨b, o + j * 8, none⟩ = some (.int .i64 x.what) ∧ y.cell? ⟨b, o + j * 8 + 1, none⟩ = some (.int .i64 x.stripe) ∧ y.cell? ⟨b, o + j * 8 + 2, none⟩ = some (.int .i64 x.gen) ∧
  y.cell? ⟨b, o + j * 8 + 3, none⟩ = some (.int .i64 x.index) ∧ y.cell? ⟨b, o + j * 8 + 4, none⟩ = some (.int .i64 x.seed) ∧ y.cell? ⟨b, o + j * 8 + 5, none⟩ = some (.int .i64 x.bend) ∧
  (-9223372036854775808 ≤ x.bend ∧ x.bend < 9223372036854775808) ∧ ∃ kv, y.cell? ⟨b, o + j * 8 + 6, none⟩ = some kv ∧ Reads y kv x.keep.length (intsC x.keep)

/-- What is known at a round's begin. -/
structure St (q : Pt) (ns : List (Pc × Value)) (B : List Atom) (i : Nat) : Prop where
  inv : Inv q ns B
  len : q.now.length = 96
  pend : q.pend.length ≤ i
  w0 : 0 ≤ q.writes
  w1 : q.writes ≤ i
  small : ∀ l ∈ q.now, l.length < 1000000
theorem St.fl {q : Pt} {ns : List (Pc × Value)} {B : List Atom} {i : Nat} (h : St q ns B i) : St q.fl ns B i := ⟨h.inv.flush, h.len, Nat.zero_le _, h.w0, h.w1, h.small⟩
theorem getN_le (q : Pt) (s : Int) (k : Nat) : (getN q s k).length ≤ k := by
  unfold getN
  refine Nat.le_trans (List.length_filterMap_le _ _) ?_
  simp
theorem hand_pick_id (x : Int) (h0 : 0 ≤ x) (h1 : x < 6) : handPick x 40 = x := by
  unfold handPick
  rw [Int.tmod_eq_emod_of_nonneg h0, if_neg (by omega)]
  omega
theorem apart_piece (x : ActR) : handPiece (handPick x.stripe 6) x.gen x.index x.seed 0 = ⟨handPick x.stripe 6, 1 + handPick x.gen 9, handPick x.index 6, bytesOf x.seed 32⟩ := by
  obtain ⟨h0, h1⟩ := handPick_bounds x.stripe 6 (by omega)
  have e : handPick 0 24 = 0 := by decide
  simp only [handPiece, e, hand_pick_id _ h0 h1]
  rfl
theorem apart_right (x : ActR) : rightP (handPiece (handPick x.stripe 6) x.gen x.index x.seed 0) := by
  rw [apart_piece]
  obtain ⟨h0, h1⟩ := handPick_bounds x.stripe 6 (by omega)
  obtain ⟨g0, g1⟩ := handPick_bounds x.gen 9 (by omega)
  obtain ⟨i0, i1⟩ := handPick_bounds x.index 6 (by omega)
  exact ⟨h0, (show handPick x.stripe 6 < 40 by omega), by show (1 : Int) ≤ 1 + _; omega, by show 1 + _ ≤ (1099511627776 : Int); omega, i0, i1, bytesOf_length _ _⟩

end Go.Proofs.YtekbbpfnkbanjaaGreat.Ch
