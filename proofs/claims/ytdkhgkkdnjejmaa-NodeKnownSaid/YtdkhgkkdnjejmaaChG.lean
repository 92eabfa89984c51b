/-
  mark.Open.
-/
import Derived.Test.YtdkhgkkdnjejmaaChF
namespace Go.Proofs.Ytdkhgkkdnjejmaa.Ch
set_option linter.unusedSimpArgs false
open Go Go.RowKit Go.Sl Go.BigFrame
set_option linter.unusedVariables false

/-- What mark.Open tells: kind, body, error. -/
def openB (b : List UInt8) : Int × List UInt8 × Int :=
  if b.length ≠ 160 then (0, [], 2)
  else if sumB (b.take 156) ≠ numB (b.drop 156) then (0, [], 3)
  else
    let kind : Int := (b.getD 0 0).toNat
    let n := min ((b.getD 1 0).toNat * 256 + (b.getD 2 0).toNat) 153
    let body := (b.drop 3).take n
    if kind < 1 ∨ sealB kind body ≠ b then (0, [], 2) else (kind, body, 0)

/-- A slice's reads, cut. -/
theorem reads_cut {w : World} {a : Option Addr} {n c : Nat} {l : List UInt8} (h : Reads w (.slice a n c) l.length (bts l)) (m : Nat) (hm : m ≤ l.length) (c' : Nat) : Reads w (.slice a m c') (l.take m).length (bts (l.take m)) ∨ a = none := by
  rcases h with ⟨h1, h2, h3⟩ | ⟨a', c2, h1, h2⟩
  · cases h1
    exact .inr rfl
  · cases h1
    refine .inl (.inr ⟨a', c', by rw [List.length_take, Nat.min_eq_left hm], fun j u hu => h2 j u ?_⟩)
    rw [bts, List.map_take, List.getElem?_take] at hu
    split at hu
    · exact hu
    · exact absurd hu (by simp)


theorem or_lit (k s c K : Nat) (hK : 2 ^ k = K) (hc : c < K) (hs : s * K < 4611686018427387904) (hk : k ≤ 60) : bits .or .i64 ((s * K : Nat) : Int) (c : Int) = ((s * K + c : Nat) : Int) := by
  subst hK
  exact or_low k s c hc hs hk

/-- Four bytes, the highest first, put together. -/
theorem or4 (c0 c1 c2 c3 : UInt8) : bits .or .i64 (bits .or .i64 (bits .or .i64 ((c0.toNat : Int) * 16777216) ((c1.toNat : Int) * 65536)) ((c2.toNat : Int) * 256)) (c3.toNat : Int) = numB [c0, c1, c2, c3] := by
  have h0 : c0.toNat < 256 := c0.toNat_lt
  have h1 : c1.toNat < 256 := c1.toNat_lt
  have h2 : c2.toNat < 256 := c2.toNat_lt
  have h3 : c3.toNat < 256 := c3.toNat_lt
  have e : numB [c0, c1, c2, c3] = ((((c0.toNat * 256 + c1.toNat) * 256 + c2.toNat) * 256 + c3.toNat : Nat) : Int) := by
    simp [numB, numStep]
  rw [e]
  generalize c0.toNat = x0 at *
  generalize c1.toNat = x1 at *
  generalize c2.toNat = x2 at *
  generalize c3.toNat = x3 at *
  clear e
  have a1 := or_lit 24 x0 (x1 * 65536) 16777216 (by decide) (by omega) (by omega) (by omega)
  have a2 := or_lit 16 (x0 * 256 + x1) (x2 * 256) 65536 (by decide) (by omega) (by omega) (by omega)
  have a3 := or_lit 8 ((x0 * 256 + x1) * 256 + x2) x3 256 (by decide) (by omega) (by omega) (by omega)
  have b1 : ((x0 * 16777216 : Nat) : Int) = (x0 : Int) * 16777216 := Int.natCast_mul _ _
  have b2 : ((x1 * 65536 : Nat) : Int) = (x1 : Int) * 65536 := Int.natCast_mul _ _
  have b3 : ((x2 * 256 : Nat) : Int) = (x2 : Int) * 256 := Int.natCast_mul _ _
  rw [← b1, ← b2, ← b3, a1, show x0 * 16777216 + x1 * 65536 = (x0 * 256 + x1) * 65536 by omega, a2, show (x0 * 256 + x1) * 65536 + x2 * 256 = ((x0 * 256 + x1) * 256 + x2) * 256 by omega, a3]

end Go.Proofs.Ytdkhgkkdnjejmaa.Ch
