/-
  corbelhand.Bytes.
-/
import Derived.Test.YtdkhgkkdnjejmaaChB
import Derived.Deep.OwnRows
namespace Go.Proofs.Ytdkhgkkdnjejmaa.Ch
set_option linter.unusedSimpArgs false
open Go Go.RowKit Go.Sl Go.BigFrame
set_option linter.unusedVariables false

theorem row_cell {W w : World} {e : TypeId} {g o len : Nat} {xs : List Value} {G : List Atom} (hs : Sat W w ([(g, rowP e o len xs)] ++ G)) (j : Nat) (u : Value) (hj : xs[j]? = some u) : w.cell? ⟨g, o + j, none⟩ = some u ∧ w.frozen? ⟨g, o + j, none⟩ = false := by
  obtain ⟨ob, ho, hp⟩ := hs.get (List.mem_append_left _ (List.mem_singleton.2 rfl))
  have hjl := (List.getElem?_eq_some_iff.1 hj).1
  obtain ⟨h1, h2⟩ := hp.cell ho j hjl
  exact ⟨by rw [h1, hj], h2⟩
/-- The state behind a byte; the byte. -/
def xNext (x : Int) : Int := IntKind.u64.wrap (IntKind.u64.wrap (x * 6364136223846793005) + 1442695040888963407)
def xByte (x : Int) : UInt8 := UInt8.ofNat (x / 72057594037927936 % 256).toNat
def xBytes (x : Int) : Nat → List UInt8
  | 0 => []
  | k + 1 => xByte (xNext x) :: xBytes (xNext x) k
theorem xByte_val (x : Int) : ((xByte x).toNat : Int) = x / 72057594037927936 % 256 := by
  have h1 : 0 ≤ x / 72057594037927936 % 256 := Int.emod_nonneg _ (by decide)
  have h2 : x / 72057594037927936 % 256 < 256 := Int.emod_lt_of_pos _ (by decide)
  unfold xByte
  generalize x / 72057594037927936 % 256 = y at *
  simp
  omega
theorem xBytes_length : ∀ (x : Int) (k : Nat), (xBytes x k).length = k
  | _, 0 => rfl
  | x, k + 1 => by rw [xBytes, List.length_cons, xBytes_length]
def xSeed (seed : Int) : Int := IntKind.u64.wrap (IntKind.u64.wrap (IntKind.u64.wrap seed * 2654435761) + 12345)
/-- corbelhand.Bytes. -/
def bytesOf (seed : Int) (n : Nat) : List UInt8 := if handPick seed 7 = 6 then List.replicate n 0 else xBytes (xSeed seed) n
theorem bytesOf_length (seed : Int) (n : Nat) : (bytesOf seed n).length = n := by
  unfold bytesOf
  split
  · simp
  · exact xBytes_length _ _

set_option maxRecDepth 100000 in
set_option maxHeartbeats 2000000 in
theorem bytes_of (seed : Int) (n : Nat) (W w : World) (L : List Atom) (hn : n ≤ 1000) (hs : Sat W w L) :
    Calls Try.prog 54 #[.int .i64 seed, .int .i64 n] w fun e w' => ∃ v R, e = .returned v ∧ RowA 5 1 v n (bts (bytesOf seed n)) R ∧ Sat W w' (R ++ L) := by
  obtain ⟨B, hB⟩ : ∃ B, B = bytesOf seed n := ⟨_, rfl⟩
  rw [← hB]
  obtain ⟨p1, p2⟩ := handPick_bounds seed 7 (by omega)
  have hmk : ∀ w : World, (Instr.makeSlice 32 (.int .i64 n) (.int .i64 n)).run Try.prog w = .ok (.slice (some ⟨w.heap.size, 0, none⟩) n n) (w.alloc (.cells (madeCells #[.int .u8 0] n) 5)) := run_make_row' (P := Try.prog) 32 5 (.int .u8 0) 1 (by kernel_rfl) (by kernel_rfl) rfl .i64 .i64 n (by omega) (by omega)
  go_enter Try.func54, Try.ntmps54
  go_wp2_with fail
  refine (hand_pick seed 7 _ (by omega) (by omega)).mono ?_; rintro r w4 ⟨rfl, rfl⟩
  have hrow : Sat W (w.alloc (.cells (madeCells #[.int .u8 0] n) 5)) ((w.heap.size, rowP 5 0 (n * 1) (bts (List.replicate n 0))) :: L) := by
    refine hs.new _ ⟨_, rfl, by simp [size_madeCells], by simp [bts], ?_⟩
    rw [List.drop_zero, toList_madeCells_one]
    simp [bts]
  clear hmk
  by_cases h6 : handPick seed 7 = 6
  · have hb : B = List.replicate n 0 := by rw [hB]; unfold bytesOf; rw [if_pos h6]
    clear hB
    subst hb
    rw [h6]
    clear h6
    go_wp2_with fail
    go_ret
    exact ⟨_, _, rfl, ⟨by simp [bts], .inr ⟨w.heap.size, 0, n, rfl, Nat.le_refl _, by unfold maxLen; omega, rfl⟩⟩, hrow⟩
  · have hb : B = xBytes (xSeed seed) n := by rw [hB]; unfold bytesOf; rw [if_neg h6]
    clear hB
    have hb' := Lib.hid hb
    clear hb
    generalize handPick seed 7 = p at *
    go_wp2_with fail
    rename_i hq K hK
    rw [hq]
    clear hq h6
    go_loopw [6, 7] (fun xv iv wr => ∃ (k : Nat) (x : Int) (d : List UInt8), k ≤ n ∧ iv = .int .i64 k ∧ xv = .int .u64 x ∧ d.length = k ∧ d ++ xBytes x (n - k) = B ∧ Sat W wr ((w.heap.size, rowP 5 0 (n * 1) (bts (d ++ List.replicate (n - k) 0))) :: L)) (fun _ iv _ => (n - (intOf iv).toNat))
    case atStart => exact ⟨0, xSeed seed, [], Nat.zero_le _, rfl, rfl, rfl, by rw [Nat.sub_zero, hb'.out]; rfl, by simpa using hrow⟩
    case round =>
      obtain ⟨k, x, d, hk, rfl, rfl, hd, hB, hw⟩ := ‹_›
      by_cases hkn : k < n
      · obtain ⟨m, hm⟩ : ∃ m, n - k = m + 1 := ⟨n - k - 1, by omega⟩
        have hm' : n - (k + 1) = m := by omega
        rw [hm] at hB hw
        rw [xBytes] at hB
        have hlen : (bts (d ++ List.replicate (m + 1) 0)).length = n := by simp [bts, hd]; omega
        obtain ⟨c1, c2⟩ := row_cell (G := L) hw k _ (List.getElem?_eq_getElem (by omega))
        rw [Nat.zero_add] at c1 c2
        have hst := row_store hw k (by omega) (.int .u8 (xNext x / 72057594037927936 % 256))
        rw [Nat.zero_add] at hst
        have hset : (bts (d ++ List.replicate (m + 1) 0)).set k (.int .u8 (xNext x / 72057594037927936 % 256)) = bts ((d ++ [xByte (xNext x)]) ++ List.replicate m 0) := by
          rw [← xByte_val, List.replicate_succ, ← hd]
          simp [bts, List.map_append, List.set_append]
        rw [hset] at hst
        have HS := Lib.hid hst
        have HB := Lib.hid hB
        have d1 : (k : Int) < n := by omega
        clear hst hset hB
        go_wp2_with fail
        refine ⟨?_, ?_⟩
        · refine ⟨k + 1, xNext x, d ++ [xByte (xNext x)], by omega, by push_cast; rfl, rfl, by simp [hd], by rw [hm', List.append_assoc]; exact HB.out, ?_⟩
          rw [hm']
          exact HS.out
        · simp only [intOf]
          omega
      · have hkn' : k = n := by omega
        subst hkn'
        go_wp2_with fail
        go_ret
        rw [Nat.sub_self] at hB hw
        simp only [xBytes, List.append_nil, List.replicate_zero] at hB hw
        subst hB
        exact ⟨_, _, rfl, ⟨by simpa [bts] using hd, .inr ⟨w.heap.size, 0, k, rfl, Nat.le_refl _, by unfold maxLen; omega, rfl⟩⟩, hw⟩
end Go.Proofs.Ytdkhgkkdnjejmaa.Ch
