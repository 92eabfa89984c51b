/-
  Small laws for ChunkLays' turned block.
-/
import Derived.Test.YtdkhgkkdnjejmaaRcI
namespace Go.Proofs.Ytdkhgkkdnjejmaa.Ch
set_option linter.unusedSimpArgs false
open Go Go.RowKit Go.Sl Go.BigFrame
set_option linter.unusedVariables false
theorem row_take {W w : World} {g : Nat} {e : TypeId} {off len : Nat} {xs : List Value} {F : List Atom} (hs : Sat W w ((g, rowP e off len xs) :: F)) (k : Nat) : Sat W w ((g, rowP e off len (xs.take k)) :: F) := by
  obtain ⟨o, ho, cur, rfl, h1, h2, h3⟩ := hs.head
  refine hs.turn (Inert.refl w) (fun _ _ _ => rfl) ⟨_, ho, cur, rfl, h1, by rw [List.length_take]; omega, ?_⟩
  rw [List.length_take]
  conv => rhs; rw [← h3, List.take_take]
theorem xor_u8 (a b : Int) : ∃ z : UInt8, bits .xor .u8 a b = (z.toNat : Int) := by
  obtain ⟨n, h⟩ : ∃ n : Nat, bits .xor .u8 a b = IntKind.u8.wrap (n : Int) := ⟨_, rfl⟩
  rw [h]
  clear h
  obtain ⟨m, hm⟩ : ∃ m : Int, m = (n : Int) := ⟨_, rfl⟩
  rw [← hm]
  clear hm
  have e : IntKind.u8.wrap m = m % 256 := by simp [IntKind.wrap, IntKind.signed, IntKind.bits]
  rw [e]
  have h1 : 0 ≤ m % 256 := Int.emod_nonneg _ (by decide)
  have h2 : m % 256 < 256 := Int.emod_lt_of_pos _ (by decide)
  generalize m % 256 = r at *
  refine ⟨UInt8.ofNat r.toNat, ?_⟩
  rw [UInt8.toNat_ofNat']
  omega
theorem mod_u8 (m : Int) : ∃ z : UInt8, m % 256 = (z.toNat : Int) := by
  have h1 : 0 ≤ m % 256 := Int.emod_nonneg _ (by decide)
  have h2 : m % 256 < 256 := Int.emod_lt_of_pos _ (by decide)
  generalize m % 256 = r at *
  refine ⟨UInt8.ofNat r.toNat, ?_⟩
  rw [UInt8.toNat_ofNat']
  omega
theorem bts_take (l : List UInt8) (k : Nat) : bts (l.take k) = (bts l).take k := by simp [bts, List.map_take]
theorem row_reslice {g off : Nat} {c : Nat} {X : List UInt8} {n : Nat} (h : RowA 5 1 (.slice (some ⟨g, off, none⟩) n c) X.length (bts X) [(g, rowP 5 off (c * 1) (bts X))]) (k : Nat) (hk : k ≤ X.length) :
    RowA 5 1 (.slice (some ⟨g, off, none⟩) k c) k (bts (X.take k)) [(g, rowP 5 off (c * 1) (bts (X.take k)))] := by
  rcases h.2 with ⟨h1, _⟩ | ⟨g', off', cap, h1, h2, h3, h4⟩
  · cases h1
  · cases h1
    exact ⟨by rw [bts_length, List.length_take]; omega, .inr ⟨g, off, c, rfl, by omega, h3, rfl⟩⟩
end Go.Proofs.Ytdkhgkkdnjejmaa.Ch
