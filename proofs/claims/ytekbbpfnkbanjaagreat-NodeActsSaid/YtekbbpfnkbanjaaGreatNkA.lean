
/-
  NodeKnown.
-/
import Derived.Test.YtekbbpfnkbanjaaGreatMF
namespace Go.Proofs.YtekbbpfnkbanjaaGreat.Ch
set_option linter.unusedSimpArgs false
open Go Go.RowKit Go.Sl Go.BigFrame
set_option linter.unusedVariables false

theorem opSl_of (q : Pt) (f : Nat → Sl5) (h : ∀ k, k < 16 → blkI q k = f k) : opSl q 16 = [f 0, f 1, f 2, f 3, f 4, f 5, f 6, f 7, f 8, f 9, f 10, f 11, f 12, f 13, f 14, f 15] := by
  simp only [opSl, h 0 (by omega), h 1 (by omega), h 2 (by omega), h 3 (by omega), h 4 (by omega), h 5 (by omega), h 6 (by omega), h 7 (by omega), h 8 (by omega), h 9 (by omega), h 10 (by omega), h 11 (by omega), h 12 (by omega), h 13 (by omega), h 14 (by omega), h 15 (by omega)]
  rfl
theorem blk_rep (n k : Nat) (d : List (List UInt8)) (pe : List (Nat × List UInt8)) (wr : Int) (h : 80 + k < n) : blkI ⟨d, List.replicate n zero160, pe, wr⟩ k = sl0 := by
  unfold blkI
  rw [List.getD_eq_getElem?_getD, List.getElem?_replicate, if_pos h]
  exact readI_zero
theorem sl_blank (d : List (List UInt8)) (pe : List (Nat × List UInt8)) (wr : Int) : opSl ⟨d, List.replicate 96 zero160, pe, wr⟩ 16 = List.replicate 16 sl0 := by
  rw [opSl_of _ (fun _ => sl0) (fun k hk => blk_rep 96 k d pe wr (by omega))]
  rfl
theorem nx_blank (q : Pt) (h : ∀ k, k < 16 → blkI q k = sl0) : ∀ k, k ≤ 16 → opNx q k = 1
  | 0, _ => rfl
  | k + 1, hk => by
    rw [opNx, nx_blank q h k (by omega), h k (by omega)]
    rfl
def iK (D : List UInt8) : It := ⟨0, 1, D⟩
theorem sl_log (D : List UInt8) (hD : D.length = 128) (d : List (List UInt8)) (pe : List (Nat × List UInt8)) (wr : Int) : opSl ⟨d, (List.replicate 96 zero160).set 80 (layI 1 (iK D)), pe, wr⟩ 16 = ⟨true, 1, iK D⟩ :: List.replicate 15 sl0 := by
  have hp : rightI (iK D) := ⟨by show (0 : Int) ≤ 0; omega, by show (0 : Int) < 40; omega, by show (1 : Int) ≤ 1; omega, by show (1 : Int) ≤ 1099511627776; omega, hD⟩
  rw [opSl_of _ (fun k => if k = 0 then ⟨true, 1, iK D⟩ else sl0) (fun k hk => ?_)]
  · rfl
  · unfold blkI
    rw [List.getD_eq_getElem?_getD]
    by_cases h0 : k = 0
    · subst h0
      rw [List.getElem?_set_self (by simp), if_pos rfl]
      exact readI_lay 1 (iK D) hp (by omega) (by omega)
    · rw [List.getElem?_set_ne (by omega), List.getElem?_replicate, if_pos (by omega), if_neg h0]
      exact readI_zero
theorem live_rep (k : Nat) : liveS (List.replicate k sl0) = [] := by
  unfold liveS
  rw [List.filter_eq_nil_iff]
  intro x hx
  rw [(List.mem_replicate.1 hx).2]
  decide
theorem live_one (D : List UInt8) (k : Nat) : (liveS (⟨true, 1, iK D⟩ :: List.replicate k sl0)).length = 1 := by
  have : liveS (⟨true, 1, iK D⟩ :: List.replicate k sl0) = ⟨true, 1, iK D⟩ :: liveS (List.replicate k sl0) := rfl
  rw [this, live_rep]
  rfl
theorem nd0_slots : nd0.g.slots = List.replicate 16 sl0 := sl_blank _ _ _
theorem nd0_next : nd0.g.next = 1 := nx_blank q0 (fun k hk => blk_rep 96 k _ _ _ (by omega)) 16 (by omega)

theorem node_platter (b bp br : Nat) (n : Nd) (A : List Atom) (W w : World) (L : List Atom) (hs : Sat W w (cellsA b #[.pointer (some ⟨bp, 0, none⟩), .pointer (some ⟨br, 0, none⟩), .int .i64 n.boot] 64 :: L)) :
    Calls Tryz.prog 17 #[.pointer (some ⟨b, 0, none⟩)] w fun e w' => e = .returned (.pointer (some ⟨bp, 0, none⟩)) ∧ w = w' := by
  have e0 : w.cell? ⟨b, 0, none⟩ = some (.pointer (some ⟨bp, 0, none⟩)) := hs.cell m0 0
  clear hs
  go_enter Tryz.func17, Tryz.ntmps17
  go_wp2_with fail
  go_ret
  exact ⟨rfl, rfl⟩
end Go.Proofs.YtekbbpfnkbanjaaGreat.Ch
