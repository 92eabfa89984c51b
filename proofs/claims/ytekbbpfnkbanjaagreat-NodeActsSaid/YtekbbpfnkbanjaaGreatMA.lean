
/-
  Chapter 8's bytes: rows of bytes; Pick, Sum, number.
  Chapter 8's bytes: a number as bytes; appends of bytes; Bytes.
  corbelhand.Bytes.
  mark.Seal.
  slices.Clone and slices.Equal at bytes.
  slices.Equal at bytes.
  mark.Open.
  mark.Open, walked.
  slices.Grow of nothing and slices.Concat at bytes.
-/
import Derived.Test.YtekbbpfnkbanjaaGreatChecked
import Derived.Test.YtekbbpfnkbanjaaGreatMS
import Derived.WalkKit
import Derived.ProofKit
import Derived.Lib.Hide
import Derived.IntWalk
import Derived.Great.BuildSlice
import Derived.Deep.OwnRows
import Derived.Laws.CopyRow
import Derived.Lib.SliceRun
import Derived.Lib.AppendZeros
namespace Go.Proofs.YtekbbpfnkbanjaaGreat.Ch
set_option linter.unusedSimpArgs false
open Go Go.RowKit Go.Sl
set_option linter.unusedVariables false

/-- corbelhand.Pick. -/
def handPick (x m : Int) : Int := if x.tmod m < 0 then x.tmod m + m else x.tmod m
theorem handPick_bounds (x m : Int) (hm : 0 < m) : 0 ≤ handPick x m ∧ handPick x m < m := by
  have b1 : x.tmod m < m := Int.tmod_lt_of_pos _ hm
  have b2 : -m < x.tmod m := by
    have := Int.tmod_lt_of_pos (-x) hm
    rw [Int.neg_tmod] at this
    omega
  unfold handPick
  split <;> omega
theorem hand_pick (x m : Int) (w : World) (hm : 0 < m) (hm2 : m ≤ 1099511627776) :
    Calls Tryz.prog 7 #[.int .i64 x, .int .i64 m] w fun e w' => e = .returned (.int .i64 (handPick x m)) ∧ w = w' := by
  have b1 : x.tmod m < m := Int.tmod_lt_of_pos _ hm
  have b2 : -m < x.tmod m := by
    have := Int.tmod_lt_of_pos (-x) hm
    rw [Int.neg_tmod] at this
    omega
  unfold handPick
  by_cases h0 : x.tmod m < 0
  · have d1 : decide (x.tmod m < 0) = true := by simpa using h0
    rw [if_pos h0]
    have b3 : (0 : Int) ≤ x.tmod m + m := by omega
    have b4 : x.tmod m + m < 1099511627776 := by omega
    go_enter Tryz.func7, Tryz.ntmps7
    go_wp2_with fail
    go_ret
    exact ⟨rfl, rfl⟩
  · have d1 : decide (x.tmod m < 0) = false := by simpa using h0
    rw [if_neg h0]
    go_enter Tryz.func7, Tryz.ntmps7
    go_wp2_with fail
    go_ret
    exact ⟨rfl, rfl⟩

/-- Bytes as cells. -/
def bts (l : List UInt8) : List Value := l.map fun b => .int .u8 (b.toNat : Int)
theorem bts_length (l : List UInt8) : (bts l).length = l.length := by simp [bts]
theorem bts_append (l m : List UInt8) : bts (l ++ m) = bts l ++ bts m := by simp [bts]
theorem bts_one (l : List UInt8) : ∀ u ∈ bts l, u.oneCell' = true := fun u hu => by obtain ⟨x, _, rfl⟩ := List.mem_map.1 hu; rfl
theorem bts_get {l : List UInt8} {k : Nat} {c : UInt8} (h : l[k]? = some c) : (bts l)[k]? = some (.int .u8 (c.toNat : Int)) := by
  rw [bts, List.getElem?_map, h]; rfl
theorem u8_lt (c : UInt8) : (c.toNat : Int) < 256 := by have := c.toNat_lt; omega

/-- mark.Sum. -/
def sumStep (h : Int) (c : UInt8) : Int := (h * 31 + (c.toNat : Int) * c.toNat + 7) % 4294967291
def sumB (l : List UInt8) : Int := l.foldl sumStep 1
theorem sumB_snoc (l : List UInt8) (c : UInt8) : sumB (l ++ [c]) = sumStep (sumB l) c := by simp [sumB]
theorem sumB_bounds (l : List UInt8) : 0 ≤ sumB l ∧ sumB l < 4294967291 := by
  rcases List.eq_nil_or_concat l with rfl | ⟨l, c, rfl⟩
  · decide
  · rw [List.concat_eq_append, sumB_snoc]
    unfold sumStep
    omega
theorem take_snoc {α : Type} {l : List α} {k : Nat} {c : α} (h : l[k]? = some c) : l.take (k + 1) = l.take k ++ [c] := by
  rw [List.take_add_one, h]; rfl

set_option maxRecDepth 100000 in
theorem sum_any (v : Value) (l : List UInt8) (w : World) (hr : Reads w v l.length (bts l)) (hl : l.length < 1000000) :
    Calls Tryz.prog 98 #[v] w fun e w' => e = .returned (.int .i64 (sumB l)) ∧ w = w' := by
  obtain ⟨av, cv, rfl⟩ : ∃ a c, v = .slice a l.length c := by
    rcases hr with ⟨h1, h2, _⟩ | ⟨a, c, h1, _⟩
    · exact ⟨_, _, by rw [h1, h2]⟩
    · exact ⟨_, _, h1⟩
  go_enter Tryz.func98, Tryz.ntmps98
  go_wp2_with fail
  go_loop [8, 3] (fun kv hv => ∃ k : Nat, kv = .int .i64 k ∧ k ≤ l.length ∧ hv = .int .i64 (sumB (l.take k))) (fun kv _ => (l.length - (intOf kv).toNat))
  case atStart => exact ⟨0, rfl, Nat.zero_le _, rfl⟩
  case round =>
    obtain ⟨k, rfl, hk, rfl⟩ := hrel
    have k0 : (0 : Int) ≤ k := by omega
    by_cases hkl : k < l.length
    · have k1 : (k : Int) < l.length := by omega
      have k2 : (k : Int) < 1000000 := by omega
      obtain ⟨c, hc⟩ : ∃ c, l[k]? = some c := ⟨_, List.getElem?_eq_getElem hkl⟩
      rcases hr with ⟨_, hz, _⟩ | ⟨a, c', e1, hcell⟩
      · omega
      cases e1
      have d0 : w.cell? (a.add k) = some (.int .u8 (c.toNat : Int)) := hcell k _ (bts_get hc)
      have hst : sumB (l.take (k + 1)) = sumStep (sumB (l.take k)) c := by rw [take_snoc hc, sumB_snoc]
      unfold sumStep at hst
      obtain ⟨s1, s2⟩ := sumB_bounds (l.take k)
      have c1 := u8_lt c
      have c0 : (0 : Int) ≤ c.toNat := by omega
      have c2 : (0 : Int) ≤ (c.toNat : Int) * c.toNat := by rw [← Int.natCast_mul]; omega
      have c3 : (c.toNat : Int) * c.toNat < 65536 := by
        have h1 := c.toNat_lt
        have h2 : c.toNat * c.toNat < 256 * 256 := Nat.mul_lt_mul'' h1 h1
        rw [← Int.natCast_mul]; omega
      have HST := Lib.hid hst
      clear hst hc hcell
      generalize sumB (l.take k) = s at *
      go_wp2_with fail
      refine ⟨⟨k + 1, by simp, by omega, by rw [HST.out]⟩, ?_⟩
      simp [intOf]
      omega
    · obtain rfl : k = l.length := by omega
      rw [List.take_length]
      go_wp2_with fail
      go_ret
      exact ⟨rfl, rfl⟩

theorem or_i64_nat (a b : Nat) (ha : a < 4611686018427387904) (hb : b < 4611686018427387904) : bits .or .i64 (a : Int) (b : Int) = ((a ||| b : Nat) : Int) := by
  have hx : a ||| b < 2 ^ 62 := Nat.or_lt_two_pow (by omega) (by omega)
  have h1 : (BitVec.ofInt 64 (a : Int)).toNat = a := by
    rw [BitVec.ofInt_natCast, BitVec.toNat_ofNat]; exact Nat.mod_eq_of_lt (by omega)
  have h2 : (BitVec.ofInt 64 (b : Int)).toNat = b := by
    rw [BitVec.ofInt_natCast, BitVec.toNat_ofNat]; exact Nat.mod_eq_of_lt (by omega)
  show IntKind.i64.wrap ((BitVec.ofInt 64 (a : Int) ||| BitVec.ofInt 64 (b : Int)).toNat : Int) = _
  rw [BitVec.toNat_or, h1, h2]
  exact IntWalk.i64_in _ (by omega)
/-- Bytes put side by side. -/
theorem or_low (k : Nat) (s c : Nat) (hc : c < 2 ^ k) (hs : s * 2 ^ k < 4611686018427387904) (hk : k ≤ 60) : bits .or .i64 ((s * 2 ^ k : Nat) : Int) (c : Int) = ((s * 2 ^ k + c : Nat) : Int) := by
  have hp : 2 ^ k ≤ 2 ^ 60 := Nat.pow_le_pow_right (by decide) hk
  rw [or_i64_nat _ _ hs (by omega), Nat.mul_comm s, ← Nat.two_pow_add_eq_or_of_lt hc]

/-- chunk.number. -/
def numStep (n : Int) (c : UInt8) : Int := n * 256 + c.toNat
def numB (l : List UInt8) : Int := l.foldl numStep 0
theorem numB_snoc (l : List UInt8) (c : UInt8) : numB (l ++ [c]) = numB l * 256 + c.toNat := by simp [numB, numStep]
theorem numB_bounds (l : List UInt8) : ∀ n, l.length = n → 0 ≤ numB l ∧ numB l < 256 ^ n := by
  intro n
  induction n generalizing l with
  | zero => intro h; rw [List.eq_nil_of_length_eq_zero h]; decide
  | succ n ih =>
    intro h
    rcases List.eq_nil_or_concat l with rfl | ⟨m, c, rfl⟩
    · simp at h
    · rw [List.concat_eq_append] at h ⊢
      have h2 := ih m (by simpa using h)
      have h3 := u8_lt c
      rw [numB_snoc, Int.pow_succ]
      omega

set_option maxRecDepth 100000 in
theorem number_any (v : Value) (l : List UInt8) (w : World) (hr : Reads w v l.length (bts l)) (hl : l.length ≤ 6) :
    Calls Tryz.prog 92 #[v] w fun e w' => e = .returned (.int .i64 (numB l)) ∧ w = w' := by
  obtain ⟨av, cv, rfl⟩ : ∃ a c, v = .slice a l.length c := by
    rcases hr with ⟨h1, h2, _⟩ | ⟨a, c, h1, _⟩
    · exact ⟨_, _, by rw [h1, h2]⟩
    · exact ⟨_, _, h1⟩
  go_enter Tryz.func92, Tryz.ntmps92
  go_wp2_with fail
  go_loop [8, 3] (fun kv hv => ∃ k : Nat, kv = .int .i64 k ∧ k ≤ l.length ∧ hv = .int .i64 (numB (l.take k))) (fun kv _ => (l.length - (intOf kv).toNat))
  case atStart => exact ⟨0, rfl, Nat.zero_le _, rfl⟩
  case round =>
    obtain ⟨k, rfl, hk, rfl⟩ := hrel
    have k0 : (0 : Int) ≤ k := by omega
    by_cases hkl : k < l.length
    · have k1 : (k : Int) < l.length := by omega
      have k2 : (k : Int) < 6 := by omega
      obtain ⟨c, hc⟩ : ∃ c, l[k]? = some c := ⟨_, List.getElem?_eq_getElem hkl⟩
      rcases hr with ⟨_, hz, _⟩ | ⟨a, c', e1, hcell⟩
      · omega
      cases e1
      have d0 : w.cell? (a.add k) = some (.int .u8 (c.toNat : Int)) := hcell k _ (bts_get hc)
      have hst : numB (l.take (k + 1)) = numB (l.take k) * 256 + c.toNat := by rw [take_snoc hc, numB_snoc]
      obtain ⟨s1, s2⟩ := numB_bounds (l.take k) k (by simp; omega)
      have s3 : numB (l.take k) < 1099511627776 := by
        have : (256 : Int) ^ k ≤ 256 ^ 5 := by
          have : (256 : Nat) ^ k ≤ 256 ^ 5 := Nat.pow_le_pow_right (by decide) (by omega)
          exact_mod_cast this
        have e : (256 : Int) ^ 5 = 1099511627776 := by decide
        omega
      have c1 := u8_lt c
      have c0 : (0 : Int) ≤ c.toNat := by omega
      have HST := Lib.hid hst
      clear hst hc hcell s2
      generalize numB (l.take k) = s at *
      have hor : bits .or .i64 (s * 256) c.toNat = s * 256 + c.toNat := by
        have h := or_low 8 s.toNat c.toNat (by have := c.toNat_lt; omega) (by omega) (by decide)
        rw [show ((s.toNat * 2 ^ 8 : Nat) : Int) = s * 256 by omega, show ((s.toNat * 2 ^ 8 + c.toNat : Nat) : Int) = s * 256 + c.toNat by omega] at h
        exact h
      have HOR := Lib.hid hor
      clear hor
      go_wp2_with fail
      refine ⟨⟨k + 1, by simp, by omega, by rw [HST.out, HOR.out]⟩, ?_⟩
      simp [intOf]
      omega
    · obtain rfl : k = l.length := by omega
      rw [List.take_length]
      go_wp2_with fail
      go_ret
      exact ⟨rfl, rfl⟩
end Go.Proofs.YtekbbpfnkbanjaaGreat.Ch

namespace Go.Proofs.YtekbbpfnkbanjaaGreat.Ch
set_option linter.unusedSimpArgs false
open Go Go.RowKit Go.Sl Go.BigFrame
set_option linter.unusedVariables false

theorem infoU8 : (Tryz.prog.info? 5).map (fun i => (i.zero, i.size, i.bytes)) = some (some (.int .u8 0), 1, 1) := by kernel_rfl
theorem RowA.slice {e : TypeId} {size n : Nat} {v : Value} {xs : List Value} {R : List Atom} (h : RowA e size v n xs R) : ∃ a c, v = .slice a n c := by
  rcases h.2 with ⟨h1, h2, _⟩ | ⟨g, off, cap, h1, _⟩
  · exact ⟨_, _, by rw [h1, h2]⟩
  · exact ⟨_, _, h1⟩
theorem RowA.short {e : TypeId} {size n : Nat} {v : Value} {xs : List Value} {R : List Atom} (h : RowA e size v n xs R) : R.length ≤ 1 := by
  rcases h.2 with ⟨_, _, rfl⟩ | ⟨_, _, _, _, _, _, rfl⟩ <;> simp
theorem sat_new {W w : World} {A G : List Atom} (hs : Sat W w (A ++ G)) {cs : Array Value} {T : TypeId} : Sat W (w.alloc (.cells cs T)) (A ++ (cellsA w.heap.size cs T :: G)) := (hs.newCells cs T).use (by intro x; simp only [cnt_append, cnt_cons, cnt_nil]; omega)
theorem reads_new (w : World) (cs : Array Value) (T : TypeId) (n c : Nat) (xs : List Value) (h : cs.toList = xs) : Reads (w.alloc (.cells cs T)) (.slice (some ⟨w.heap.size, 0, none⟩) n c) n xs := by
  refine .inr ⟨_, _, rfl, fun j u hu => ?_⟩
  rw [add_row, cell_at (heap_alloc_new w _) (0 + j)]
  rw [← h] at hu
  simpa using hu
section
variable {W w : World} {F L A : List Atom} {v sv : Value} {o : Oper} {a : Act} {K : Act → World → Prop} {Q : Exit → Act → World → Prop}
theorem wp_append_u8 {x y : Operand} (ho : o.op = .call { callee := .builtin .append, args := #[x, y], argTypes := #[35, 35] }) (l m : List UInt8) (hv : a.eval x = v) (hsv : a.eval y = sv)
    (hr : RowA 5 1 v l.length (bts l) A) (hs : Sat W w (A ++ F)) (hsrc : Reads w sv m.length (bts m)) (hb : l.length + m.length < 1000000)
    (h : ∀ v' w' A', RowA 5 1 v' (l ++ m).length (bts (l ++ m)) A' → Sat W w' (A' ++ F) → K (a.put o.dst v') w') : o.wp Tryz.prog a w K Q := by
  obtain ⟨i0, hi, hz0, hz1, hz2⟩ := info_parts infoU8
  obtain ⟨v2, w2, R2, hra, hrow, hs2⟩ := append_sl (P := Tryz.prog) o.type Tryz.underlying35 hi hz0 hz1 hz2 rfl (by decide) hr hs hsrc (by simp [bts]) (bts_one m) (by unfold maxLen; omega) (by omega)
  refine wp_append ho (by rw [hv, hsv]; exact hra) (h _ _ _ ?_ hs2)
  rw [List.length_append, bts_append]
  exact hrow
end

/-- A number's bytes, the highest first: so many, from the i-th on. -/
def byteAt (n : Int) (i : Nat) : UInt8 := UInt8.ofNat (n / 2 ^ (8 * i) % 256).toNat
theorem byteAt_val (n : Int) (i : Nat) : ((byteAt n i).toNat : Int) = n / 2 ^ (8 * i) % 256 := by
  have h1 : 0 ≤ n / 2 ^ (8 * i) % 256 := Int.emod_nonneg _ (by decide)
  have h2 : n / 2 ^ (8 * i) % 256 < 256 := Int.emod_lt_of_pos _ (by decide)
  unfold byteAt
  generalize n / 2 ^ (8 * i) % 256 = x at *
  simp
  omega
def bytesB (n : Int) : Nat → List UInt8
  | 0 => []
  | k + 1 => byteAt n k :: bytesB n k
theorem bytesB_length (n : Int) : ∀ k, (bytesB n k).length = k
  | 0 => rfl
  | k + 1 => by rw [bytesB, List.length_cons, bytesB_length n k]

set_option maxRecDepth 100000 in
set_option maxHeartbeats 2000000 in
theorem bytes_any (n : Int) (size : Nat) (W w : World) (L : List Atom) (hn : 0 ≤ n) (hn2 : n < 9223372036854775808) (hsz : size ≤ 8) (hs : Sat W w L) :
    Calls Tryz.prog 96 #[.int .i64 n, .int .i64 size] w fun e w' => ∃ v R, e = .returned v ∧ RowA 5 1 v (bytesB n size).length (bts (bytesB n size)) R ∧ Sat W w' (R ++ L) := by
  have s0 : (0 : Int) ≤ size := by omega
  have s1 : (size : Int) ≤ 8 := by omega
  go_enter Tryz.func96, Tryz.ntmps96
  go_wp2_with fail
  go_loopw [5, 6] (fun ov iv wr => ∃ (k : Nat) (l : List UInt8) (R : List Atom), k ≤ size ∧ iv = .int .i64 ((k : Int) - 1) ∧ l ++ bytesB n k = bytesB n size ∧ RowA 5 1 ov l.length (bts l) R ∧ Sat W wr (R ++ L)) (fun _ iv _ => (intOf iv + 1).toNat)
  case atStart => exact ⟨size, [], [], Nat.le_refl _, rfl, rfl, RowA.nil _ _, hs⟩
  case round =>
    clear hs
    obtain ⟨k, l, R, hk, rfl, hl, hr, hs⟩ := hrel
    have HL := Lib.hid hl
    have hll : l.length ≤ 8 := by
      have h := congrArg List.length hl
      rw [List.length_append, bytesB_length, bytesB_length] at h
      omega
    clear hl
    obtain ⟨aL, cL, rfl⟩ := Ch.RowA.slice hr
    cases k with
    | zero =>
      go_wp2_with fail
      go_ret
      have h := HL.out
      rw [bytesB, List.append_nil] at h
      exact ⟨_, R, rfl, by rw [← h]; exact hr, hs⟩
    | succ k =>
      have e1 : (((k + 1 : Nat) : Int) - 1) = k := by omega
      rw [e1]
      have k0 : (0 : Int) ≤ k := by omega
      have k1 : (k : Int) ≤ 7 := by omega
      go_wp2_with (at_builtin; refine wpList_plain rfl (fun K hK => ?_); refine wp_append_u8 rfl l [byteAt n k] rfl rfl hr (sat_new hs) (reads_new wr _ _ _ _ _ (by simp [bts, byteAt_val])) (by simp <;> omega) (fun v2 w2 R2 hr2 hs2 => ?_); refine hK _ _ ?_; simp only [Act.put, List.setIfInBounds_toArray, List.set_cons_zero, List.set_cons_succ]; clear hK)
      refine ⟨⟨k, l ++ [byteAt n k], R2, by omega, rfl, ?_, hr2, hs2.use (by intro x; simp only [cnt_append, cnt_cons, cnt_nil]; omega)⟩, ?_⟩
      · rw [← HL.out, bytesB, List.append_assoc]; rfl
      · simp [intOf]
end Go.Proofs.YtekbbpfnkbanjaaGreat.Ch

namespace Go.Proofs.YtekbbpfnkbanjaaGreat.Ch
set_option linter.unusedSimpArgs false
open Go Go.RowKit Go.Sl Go.BigFrame
set_option linter.unusedVariables false

theorem row_cell {W w : World} {e : TypeId} {g o len : Nat} {xs : List Value} {G : List Atom} (hs : Sat W w ([(g, rowP e o len xs)] ++ G)) (j : Nat) (u : Value) (hj : xs[j]? = some u) : w.cell? ⟨g, o + j, none⟩ = some u ∧ w.frozen? ⟨g, o + j, none⟩ = false := by
  obtain ⟨ob, ho, hp⟩ := hs.get (List.mem_append_left _ (List.mem_singleton.2 rfl))
  have hjl := (List.getElem?_eq_some_iff.1 hj).1
  obtain ⟨h1, h2⟩ := hp.cell ho j hjl
  exact ⟨by rw [h1, hj], h2⟩
/-- The state behind a byte; the byte. -/
def xNext (x : Int) : Int := IntKind.u64.wrap (IntKind.u64.wrap (x * 6364136223846793005) + 1442695040888963407)
def xByte (x : Int) : UInt8 := UInt8.ofNat (x / 72057594037927936 % 256).toNat
def xBytes (x : Int) : Nat → List UInt8
  | 0 => []
  | k + 1 => xByte (xNext x) :: xBytes (xNext x) k
theorem xByte_val (x : Int) : ((xByte x).toNat : Int) = x / 72057594037927936 % 256 := by
  have h1 : 0 ≤ x / 72057594037927936 % 256 := Int.emod_nonneg _ (by decide)
  have h2 : x / 72057594037927936 % 256 < 256 := Int.emod_lt_of_pos _ (by decide)
  unfold xByte
  generalize x / 72057594037927936 % 256 = y at *
  simp
  omega
theorem xBytes_length : ∀ (x : Int) (k : Nat), (xBytes x k).length = k
  | _, 0 => rfl
  | x, k + 1 => by rw [xBytes, List.length_cons, xBytes_length]
def xSeed (seed : Int) : Int := IntKind.u64.wrap (IntKind.u64.wrap (IntKind.u64.wrap seed * 2654435761) + 12345)
/-- corbelhand.Bytes. -/
def bytesOf (seed : Int) (n : Nat) : List UInt8 := if handPick seed 7 = 6 then List.replicate n 0 else xBytes (xSeed seed) n
theorem bytesOf_length (seed : Int) (n : Nat) : (bytesOf seed n).length = n := by
  unfold bytesOf
  split
  · simp
  · exact xBytes_length _ _

set_option maxRecDepth 100000 in
set_option maxHeartbeats 2000000 in
theorem bytes_of (seed : Int) (n : Nat) (W w : World) (L : List Atom) (hn : n ≤ 1000) (hs : Sat W w L) :
    Calls Tryz.prog 23 #[.int .i64 seed, .int .i64 n] w fun e w' => ∃ v R, e = .returned v ∧ RowA 5 1 v n (bts (bytesOf seed n)) R ∧ Sat W w' (R ++ L) := by
  obtain ⟨B, hB⟩ : ∃ B, B = bytesOf seed n := ⟨_, rfl⟩
  rw [← hB]
  obtain ⟨p1, p2⟩ := handPick_bounds seed 7 (by omega)
  have hmk : ∀ w : World, (Instr.makeSlice 35 (.int .i64 n) (.int .i64 n)).run Tryz.prog w = .ok (.slice (some ⟨w.heap.size, 0, none⟩) n n) (w.alloc (.cells (madeCells #[.int .u8 0] n) 5)) := run_make_row' (P := Tryz.prog) 35 5 (.int .u8 0) 1 (by kernel_rfl) (by kernel_rfl) rfl .i64 .i64 n (by omega) (by omega)
  go_enter Tryz.func23, Tryz.ntmps23
  go_wp2_with fail
  refine (hand_pick seed 7 _ (by omega) (by omega)).mono ?_; rintro r w4 ⟨rfl, rfl⟩
  have hrow : Sat W (w.alloc (.cells (madeCells #[.int .u8 0] n) 5)) ((w.heap.size, rowP 5 0 (n * 1) (bts (List.replicate n 0))) :: L) := by
    refine hs.new _ ⟨_, rfl, by simp [size_madeCells], by simp [bts], ?_⟩
    rw [List.drop_zero, toList_madeCells_one]
    simp [bts]
  clear hmk
  by_cases h6 : handPick seed 7 = 6
  · have hb : B = List.replicate n 0 := by rw [hB]; unfold bytesOf; rw [if_pos h6]
    clear hB
    subst hb
    rw [h6]
    clear h6
    go_wp2_with fail
    go_ret
    exact ⟨_, _, rfl, ⟨by simp [bts], .inr ⟨w.heap.size, 0, n, rfl, Nat.le_refl _, by unfold maxLen; omega, rfl⟩⟩, hrow⟩
  · have hb : B = xBytes (xSeed seed) n := by rw [hB]; unfold bytesOf; rw [if_neg h6]
    clear hB
    have hb' := Lib.hid hb
    clear hb
    generalize handPick seed 7 = p at *
    go_wp2_with fail
    rename_i hq K hK
    rw [hq]
    clear hq h6
    go_loopw [6, 7] (fun xv iv wr => ∃ (k : Nat) (x : Int) (d : List UInt8), k ≤ n ∧ iv = .int .i64 k ∧ xv = .int .u64 x ∧ d.length = k ∧ d ++ xBytes x (n - k) = B ∧ Sat W wr ((w.heap.size, rowP 5 0 (n * 1) (bts (d ++ List.replicate (n - k) 0))) :: L)) (fun _ iv _ => (n - (intOf iv).toNat))
    case atStart => exact ⟨0, xSeed seed, [], Nat.zero_le _, rfl, rfl, rfl, by rw [Nat.sub_zero, hb'.out]; rfl, by simpa using hrow⟩
    case round =>
      obtain ⟨k, x, d, hk, rfl, rfl, hd, hB, hw⟩ := ‹_›
      by_cases hkn : k < n
      · obtain ⟨m, hm⟩ : ∃ m, n - k = m + 1 := ⟨n - k - 1, by omega⟩
        have hm' : n - (k + 1) = m := by omega
        rw [hm] at hB hw
        rw [xBytes] at hB
        have hlen : (bts (d ++ List.replicate (m + 1) 0)).length = n := by simp [bts, hd]; omega
        obtain ⟨c1, c2⟩ := row_cell (G := L) hw k _ (List.getElem?_eq_getElem (by omega))
        rw [Nat.zero_add] at c1 c2
        have hst := row_store hw k (by omega) (.int .u8 (xNext x / 72057594037927936 % 256))
        rw [Nat.zero_add] at hst
        have hset : (bts (d ++ List.replicate (m + 1) 0)).set k (.int .u8 (xNext x / 72057594037927936 % 256)) = bts ((d ++ [xByte (xNext x)]) ++ List.replicate m 0) := by
          rw [← xByte_val, List.replicate_succ, ← hd]
          simp [bts, List.map_append, List.set_append]
        rw [hset] at hst
        have HS := Lib.hid hst
        have HB := Lib.hid hB
        have d1 : (k : Int) < n := by omega
        clear hst hset hB
        go_wp2_with fail
        refine ⟨?_, ?_⟩
        · refine ⟨k + 1, xNext x, d ++ [xByte (xNext x)], by omega, by push_cast; rfl, rfl, by simp [hd], by rw [hm', List.append_assoc]; exact HB.out, ?_⟩
          rw [hm']
          exact HS.out
        · simp only [intOf]
          omega
      · have hkn' : k = n := by omega
        subst hkn'
        go_wp2_with fail
        go_ret
        rw [Nat.sub_self] at hB hw
        simp only [xBytes, List.append_nil, List.replicate_zero] at hB hw
        subst hB
        exact ⟨_, _, rfl, ⟨by simpa [bts] using hd, .inr ⟨w.heap.size, 0, k, rfl, Nat.le_refl _, by unfold maxLen; omega, rfl⟩⟩, hw⟩
end Go.Proofs.YtekbbpfnkbanjaaGreat.Ch

namespace Go.Proofs.YtekbbpfnkbanjaaGreat.Ch
set_option linter.unusedSimpArgs false
open Go Go.RowKit Go.Sl Go.BigFrame
set_option linter.unusedVariables false

/-- The head of a block: kind, length, body, nothing. -/
def headB (kind : Int) (body : List UInt8) : List UInt8 :=
  byteAt kind 0 :: byteAt body.length 1 :: byteAt body.length 0 :: (body ++ List.replicate (153 - body.length) 0)
theorem headB_length (kind : Int) (body : List UInt8) (h : body.length ≤ 153) : (headB kind body).length = 156 := by
  simp [headB]; omega
/-- mark.Seal. -/
def sealB (kind : Int) (body : List UInt8) : List UInt8 := headB kind body ++ bytesB (sumB (headB kind body)) 4
theorem sealB_length (kind : Int) (body : List UInt8) (h : body.length ≤ 153) : (sealB kind body).length = 160 := by
  rw [sealB, List.length_append, headB_length _ _ h, bytesB_length]

/-- A row's cells written over from one place on. -/
theorem splice_mid {α : Type} (C : List α) (o j k : Nat) (xs ys : List α) (h : (C.drop o).take xs.length = xs) (hk : ys.length = k) (hj : j + k ≤ xs.length) (hC : o + xs.length ≤ C.length) :
    ((C.take (o + j) ++ ys ++ C.drop (o + j + k)).drop o).take xs.length = xs.take j ++ ys ++ xs.drop (j + k) := by
  apply List.ext_getElem?
  intro i
  have hx : ∀ i, i < xs.length → C[o + i]? = xs[i]? := fun i hi => by
    have := congrArg (fun l => l[i]?) h
    simpa [hi] using this
  have e1 : min (o + j) C.length = o + j := by omega
  have e2 : min j xs.length = j := by omega
  simp only [List.getElem?_take, List.getElem?_drop, List.getElem?_append, List.length_take, List.length_append, e1, e2, hk]
  by_cases h1 : i < xs.length
  · rw [if_pos h1]
    by_cases h2 : i < j
    · rw [if_pos (by omega), if_pos (by omega), if_pos (by omega), if_pos (by omega), if_pos (by omega), if_pos h2, hx i h1]
    · by_cases h3 : i < j + k
      · rw [if_pos (by omega), if_neg (by omega), if_pos (by omega), if_neg (by omega)]
        congr 1; omega
      · rw [if_neg (by omega), if_neg (by omega), ← hx _ (by omega)]
        congr 1; omega
  · rw [if_neg h1, if_neg (by omega)]
    exact (List.getElem?_eq_none (by omega)).symm
theorem row_splice {W w : World} {g : Nat} {e : TypeId} {off len : Nat} {xs : List Value} {F : List Atom} (hs : Sat W w ((g, rowP e off len xs) :: F)) (j : Nat) (ys : List Value) (hj : j + ys.length ≤ xs.length) :
    ∃ cur, w.heap[g]? = some (.cells cur e (0, 0)) ∧ off + xs.length ≤ cur.size ∧
      Sat W (w.setRow g (cur.toList.take (off + j) ++ ys ++ cur.toList.drop (off + j + ys.length)).toArray) ((g, rowP e off len (xs.take j ++ ys ++ xs.drop (j + ys.length))) :: F) := by
  obtain ⟨o, ho, cur, rfl, h1, h2, h3⟩ := hs.head
  refine ⟨cur, ho, by omega, ?_⟩
  have hl : (xs.take j ++ ys ++ xs.drop (j + ys.length)).length = xs.length := by simp; omega
  refine hs.turn ⟨rfl, rfl, rfl, by simp [World.setRow]⟩ (fun k _ hk => setRow_other w g k _ hk) ⟨_, setRow_heap w g cur _ e _ ho, _, rfl, ?_, by rw [hl]; exact h2, ?_⟩
  · simp; omega
  · rw [hl]
    exact splice_mid _ _ _ _ _ _ h3 rfl hj (by simp; omega)
theorem run_copy_any {P : Program} {W w : World} {g : Nat} {e : TypeId} {off len : Nat} {xs : List Value} {F : List Atom} (hs : Sat W w ((g, rowP e off len xs) :: F)) (dT sT ty elem : TypeId) (hu : P.underlying dT = some (.slice elem)) (hz : (P.info? elem).map (·.size) = some 1)
    (j : Nat) (ys : List Value) (m : Nat) (hm : ys.length = m) (hj : j + m ≤ xs.length) (sv : Value) (hr : Reads w sv m ys) (h1 : ∀ v ∈ ys, v.oneCell' = true) (dLen dCap : Nat) (hd : m ≤ dLen) :
    ∃ w', (Builtin.copy_ #[dT, sT] ty #[.slice (some ⟨g, off + j, none⟩) dLen dCap, sv]).run P w = .ok (goInt m) w' ∧ Sat W w' ((g, rowP e off len (xs.take j ++ ys ++ xs.drop (j + m))) :: F) := by
  subst hm
  rcases hr with ⟨rfl, h2, h3⟩ | ⟨a, c, rfl, hc⟩
  · subst h3
    refine ⟨w, run_copy_nil P w dT sT ty elem _ dLen dCap hu (by cases h : P.info? elem <;> simp_all), ?_⟩
    simpa using hs
  · obtain ⟨cur, hg, hsz, hs2⟩ := row_splice hs j ys hj
    exact ⟨_, run_copy_row P w dT sT ty elem g (off + j) dLen dCap a ys.length c cur e ys hu hz hg (by simp [Nat.min_eq_left hd]) hc (by omega) h1, hs2⟩

theorem infoU8s : (Tryz.prog.info? 5).map (·.size) = some 1 := by kernel_rfl
theorem wp_copy_u8 {W w : World} {F : List Atom} {o : Oper} {a : Act} {K : Act → World → Prop} {Q : Exit → Act → World → Prop} {x y : Operand} {g off len : Nat} {xs : List Value} {sv : Value} (ho : o.op = .call { callee := .builtin .copy, args := #[x, y], argTypes := #[35, 35] })
    (hs : Sat W w ((g, rowP 5 off len xs) :: F)) (j : Nat) (m : List UInt8) (dLen dCap : Nat) (hx : a.eval x = .slice (some ⟨g, off + j, none⟩) dLen dCap) (hy : a.eval y = sv) (hj : j + m.length ≤ xs.length) (hr : Reads w sv m.length (bts m)) (hd : m.length ≤ dLen)
    (h : ∀ w', Sat W w' ((g, rowP 5 off len (xs.take j ++ bts m ++ xs.drop (j + m.length))) :: F) → K (a.put o.dst (goInt m.length)) w') : o.wp Tryz.prog a w K Q := by
  obtain ⟨w', h1, h2⟩ := run_copy_any (P := Tryz.prog) hs 35 35 o.type 5 Tryz.underlying35 infoU8s j (bts m) m.length (bts_length m) hj sv hr (bts_one m) dLen dCap hd
  exact wp_copy ho (by rw [hx, hy]; exact h1) (h _ h2)

theorem head_cat (a b c : UInt8) (m : List UInt8) (n : Nat) : (bts (a :: b :: c :: List.replicate n 0)).take 3 ++ bts m ++ (bts (a :: b :: c :: List.replicate n 0)).drop (3 + m.length) = bts (a :: b :: c :: (m ++ List.replicate (n - m.length) 0)) := by
  rw [Nat.add_comm 3]
  simp [bts]
/-- A refused body. -/
theorem seal_bad (kind : Int) (bv : Value) (m : List UInt8) (w : World) (hr : Reads w bv m.length (bts m)) (h : kind < 1 ∨ 255 < kind ∨ 153 < m.length) :
    Calls Tryz.prog 82 #[.int .i64 kind, bv] w fun e w' => e = .returned (.tuple #[.slice none 0 0, .int .i64 1]) ∧ w = w' := by
  obtain ⟨av, cv, rfl⟩ : ∃ a c, bv = .slice a m.length c := by
    rcases hr with ⟨h1, h2, _⟩ | ⟨a, c, h1, _⟩
    · exact ⟨_, _, by rw [h1, h2]⟩
    · exact ⟨_, _, h1⟩
  clear hr
  by_cases h1 : kind < 1
  · have d1 : decide (kind < 1) = true := by simp; omega
    go_enter Tryz.func82, Tryz.ntmps82
    go_wp2_with fail
    go_ret2
    exact ⟨rfl, rfl⟩
  · have d1 : decide (kind < 1) = false := by simp; omega
    by_cases h2 : 255 < kind
    · have d2 : decide (255 < kind) = true := by simp; omega
      go_enter Tryz.func82, Tryz.ntmps82
      go_wp2_with fail
      go_ret2
      exact ⟨rfl, rfl⟩
    · have d2 : decide (255 < kind) = false := by simp; omega
      have h3 : (153 : Int) < m.length := by omega
      go_enter Tryz.func82, Tryz.ntmps82
      go_wp2_with fail
      go_ret2
      exact ⟨rfl, rfl⟩
set_option maxRecDepth 100000 in
set_option maxHeartbeats 2000000 in
theorem seal_any (kind : Int) (bv : Value) (m : List UInt8) (W w : World) (L : List Atom) (hk1 : 1 ≤ kind) (hk2 : kind ≤ 255) (hm : m.length ≤ 153) (hr : Reads w bv m.length (bts m)) (hs : Sat W w L) :
    Calls Tryz.prog 82 #[.int .i64 kind, bv] w fun e w' => ∃ v R, e = .returned (.tuple #[v, .int .i64 0]) ∧ RowA 5 1 v (sealB kind m).length (bts (sealB kind m)) R ∧ Sat W w' (R ++ L) := by
  obtain ⟨B, hB⟩ : ∃ B, B = sealB kind m := ⟨_, rfl⟩
  rw [← hB]
  have hmk : ∀ w : World, (Instr.makeSlice 35 (.int .i64 156) (.int .i64 156)).run Tryz.prog w = .ok (.slice (some ⟨w.heap.size, 0, none⟩) 156 156) (w.alloc (.cells (madeCells #[.int .u8 0] 156) 5)) := run_make_row' (P := Tryz.prog) 35 5 (.int .u8 0) 1 (by kernel_rfl) (by kernel_rfl) rfl .i64 .i64 156 (by omega) (by omega)
  obtain ⟨av, cv, rfl⟩ : ∃ a c, bv = .slice a m.length c := by
    rcases hr with ⟨h1, h2, _⟩ | ⟨a, c, h1, _⟩
    · exact ⟨_, _, by rw [h1, h2]⟩
    · exact ⟨_, _, h1⟩
  have d1 : decide (kind < 1) = false := by simp; omega
  have d2 : decide (255 < kind) = false := by simp; omega
  have d3 : (m.length : Int) ≤ 153 := by omega
  obtain ⟨Z, hZ⟩ : ∃ Z, Z = madeCells #[.int .u8 0] 156 := ⟨_, rfl⟩
  rw [← hZ] at hmk
  have hZl : Z.toList = List.replicate 156 (.int .u8 0) := by rw [hZ, toList_madeCells_one]
  have hZs : Z.size = 156 := by rw [← Array.length_toList, hZl]; simp
  have z0 : Z[0]? = some (.int .u8 0) := by rw [← Array.getElem?_toList, hZl]; rfl
  have z1 : Z[1]? = some (.int .u8 0) := by rw [← Array.getElem?_toList, hZl]; rfl
  have z2 : Z[2]? = some (.int .u8 0) := by rw [← Array.getElem?_toList, hZl]; rfl
  clear hZ
  have hm0 : (byteAt (m.length : Int) 0 : UInt8).toNat = m.length := by
    have := byteAt_val (m.length : Int) 0
    omega
  have hm1 : ((byteAt (m.length : Int) 1).toNat : Int) = (m.length : Int) / 256 := by
    have := byteAt_val (m.length : Int) 1
    omega
  have hk0 : ((byteAt kind 0).toNat : Int) = kind := by
    have := byteAt_val kind 0
    omega
  have hs0 : Sat W (w.alloc (.cells (((Z.setIfInBounds 0 (.int .u8 kind)).setIfInBounds 1 (.int .u8 ((m.length : Int) / 256))).setIfInBounds 2 (.int .u8 m.length)) 5)) ((w.heap.size, rowP 5 0 (156 * 1) (bts (byteAt kind 0 :: byteAt m.length 1 :: byteAt m.length 0 :: List.replicate 153 0))) :: L) := by
    refine hs.new _ ⟨_, rfl, by simp [hZs], by simp [bts], ?_⟩
    rw [List.drop_zero, Array.toList_setIfInBounds, Array.toList_setIfInBounds, Array.toList_setIfInBounds, hZl, List.take_of_length_le (by simp [bts])]
    simp only [bts, List.map_cons, hk0, hm1, hm0]
    rfl
  have hr0 := hr.grown ((Below.refl _ w).alloc (Nat.le_refl _) (.cells (((Z.setIfInBounds 0 (.int .u8 kind)).setIfInBounds 1 (.int .u8 ((m.length : Int) / 256))).setIfInBounds 2 (.int .u8 m.length)) 5))
  have hcat : (bts (byteAt kind 0 :: byteAt m.length 1 :: byteAt m.length 0 :: List.replicate 153 0)).take 3 ++ bts m ++ (bts (byteAt kind 0 :: byteAt m.length 1 :: byteAt m.length 0 :: List.replicate 153 0)).drop (3 + m.length) = bts (headB kind m) := head_cat _ _ _ m 153
  obtain ⟨w2, hcp, hs2⟩ := run_copy_any (P := Tryz.prog) hs0 35 35 3 5 Tryz.underlying35 infoU8s 3 (bts m) m.length (bts_length m) (by simp [bts] <;> omega) _ hr0 (bts_one m) 153 153 hm
  rw [Nat.zero_add] at hcp
  rw [hcat] at hs2
  clear hZl hZs hk0 hm1 hm0 hs hr hs0 hr0 hcat
  go_enter Tryz.func82, Tryz.ntmps82
  go_wp2_with fail
  have hrow : RowA 5 1 (.slice (some ⟨w.heap.size, 0, none⟩) 156 156) (headB kind m).length (bts (headB kind m)) [(w.heap.size, rowP 5 0 (156 * 1) (bts (headB kind m)))] := by
    refine ⟨by rw [bts_length]; omega, .inr ⟨_, _, _, ?_, ?_, ?_, rfl⟩⟩
    · rw [headB_length _ _ hm]
    · rw [headB_length _ _ hm]; exact Nat.le_refl _
    · unfold maxLen; omega
  refine (sum_any _ _ _ (hrow.reads hs2) (by rw [headB_length _ _ hm]; omega)).mono ?_; rintro r w4 ⟨rfl, rfl⟩
  obtain ⟨q1, q2⟩ := sumB_bounds (headB kind m)
  have hB2 : headB kind m ++ bytesB (sumB (headB kind m)) 4 = B := hB.symm
  have hl : (headB kind m).length = 156 := headB_length _ _ hm
  clear hB hcp hmk z0 z1 z2
  generalize headB kind m = H at *
  generalize sumB H = S at *
  have HB := Lib.hid hB2
  have HL := Lib.hid hl
  have q3 : S < 4294967296 := by omega
  clear hB2 hl q2
  go_wp2_with (at_builtin; refine wpList_plain rfl (fun K hK => ?_); refine wp_append_u8 rfl H (bytesB S 4) rfl rfl hrow (sat_new hs2) (reads_new w2 _ _ _ _ _ (by simp [bts, bytesB, byteAt_val]; omega)) (by rw [HL.out, bytesB_length]; omega) (fun v2 w3 R2 hr2 hs3 => ?_); refine hK _ _ ?_; simp only [Act.put, List.setIfInBounds_toArray, List.set_cons_zero, List.set_cons_succ]; clear hK)
  go_ret2
  refine ⟨v2, R2, rfl, ?_, hs3.use (by intro x; simp only [cnt_append, cnt_cons, cnt_nil]; omega)⟩
  rw [← HB.out]
  exact hr2
end Go.Proofs.YtekbbpfnkbanjaaGreat.Ch

namespace Go.Proofs.YtekbbpfnkbanjaaGreat.Ch
set_option linter.unusedSimpArgs false
open Go Go.RowKit Go.Sl Go.BigFrame
set_option linter.unusedVariables false

theorem none_row (n : Nat) : RowA 5 1 (.slice (some ⟨n, 0, none⟩) 0 0) ([] : List UInt8).length (bts []) [(n, rowP 5 0 (0 * 1) [])] :=
  ⟨rfl, .inr ⟨_, _, _, rfl, Nat.le_refl _, Nat.zero_le _, rfl⟩⟩
theorem none_sat {W w : World} {L : List Atom} (hs : Sat W w L) : Sat W (w.alloc (.cells #[] 5)) ([(w.heap.size, rowP 5 0 (0 * 1) [])] ++ L) :=
  hs.new (.cells #[] 5) ⟨#[], rfl, by simp, by simp, by simp⟩

set_option maxRecDepth 100000 in
set_option maxHeartbeats 2000000 in
theorem clone_any (v : Value) (l : List UInt8) (W w : World) (L : List Atom) (hr : Reads w v l.length (bts l)) (hl : l.length < 1000000) (hs : Sat W w L) :
    Calls Tryz.prog 42 #[v] w fun e w' => ∃ v' R, e = .returned v' ∧ RowA 5 1 v' l.length (bts l) R ∧ Sat W w' (R ++ L) := by
  have q32 : ∀ (w : World) (a : Option Addr) (n c n' c' : Nat), (binOp .eql 35 (.slice a n c) (.slice none n' c')).run Tryz.prog w = .ok (.bool a.isNone) w := fun w a n c n' c' => Go.Lib.run_eql_slice_nil w _ _ a n c n' c' Tryz.underlying35
  rcases hr with ⟨rfl, h2, h3⟩ | ⟨a, c, rfl, hc⟩
  · have : l = [] := List.length_eq_zero_iff.1 h2
    subst this
    go_enter Tryz.func42, Tryz.ntmps42
    go_wp2_with fail
    go_ret
    exact ⟨_, _, rfl, RowA.nil _ _, hs⟩
  · have hr : Reads w (.slice (some a) l.length c) l.length (bts l) := .inr ⟨_, _, rfl, hc⟩
    have hr0 := hr.grown ((Below.refl _ w).alloc (Nat.le_refl _) (.cells #[] 5))
    clear hc hr
    go_enter Tryz.func42, Tryz.ntmps42
    go_wp2_with (at_builtin; refine wpList_plain rfl (fun K hK => ?_); refine wp_append_u8 rfl [] l rfl rfl (none_row _) (none_sat hs) hr0 (by simp; omega) (fun v2 w3 R2 hr2 hs3 => ?_); refine hK _ _ ?_; simp only [Act.put, List.setIfInBounds_toArray, List.set_cons_zero, List.set_cons_succ]; clear hK)
    go_ret
    exact ⟨v2, R2, rfl, hr2, hs3⟩
end Go.Proofs.YtekbbpfnkbanjaaGreat.Ch

namespace Go.Proofs.YtekbbpfnkbanjaaGreat.Ch
set_option linter.unusedSimpArgs false
open Go Go.RowKit Go.Sl Go.BigFrame
set_option linter.unusedVariables false

set_option maxRecDepth 100000 in
set_option maxHeartbeats 4000000 in
theorem equal_any (W w : World) (L : List Atom) (va vb : Value) (la lb : List UInt8) (hs : Sat W w L) (ha : Reads w va la.length (bts la)) (hb : Reads w vb lb.length (bts lb)) (hl : la.length < 1000000) (hl2 : lb.length < 1000000) :
    Calls Tryz.prog 97 #[va, vb] w fun r w' => r = .returned (.bool (decide (la = lb))) ∧ Sat W w' L ∧ w'.heap = w.heap := by
  obtain ⟨a1, c1, rfl⟩ : ∃ a c, va = .slice a la.length c := by
    rcases ha with ⟨h1, h2, _⟩ | ⟨a, c, h1, _⟩
    · exact ⟨_, _, by rw [h1, h2]⟩
    · exact ⟨_, _, h1⟩
  obtain ⟨a2, c2, rfl⟩ : ∃ a c, vb = .slice a lb.length c := by
    rcases hb with ⟨h1, h2, _⟩ | ⟨a, c, h1, _⟩
    · exact ⟨_, _, by rw [h1, h2]⟩
    · exact ⟨_, _, h1⟩
  by_cases hlen : la.length = lb.length
  · have q0 : ((la.length : Int) != (lb.length : Int)) = false := by simp; omega
    have q1 : (la.length != lb.length) = false := by simp; omega
    have HL := Lib.hid hlen
    clear hlen
    go_enter Tryz.func97, Tryz.ntmps97
    go_wp2_with fail
    go_loopw [13] (fun kv wr => ∃ k : Nat, kv = .int .i64 k ∧ k ≤ la.length ∧ la.take k = lb.take k ∧ Sat W wr L ∧ wr.heap = w.heap) (fun kv _ => (la.length - (intOf kv).toNat))
    case atStart => exact ⟨0, rfl, Nat.zero_le _, rfl, hs, rfl⟩
    case round =>
      clear hs
      obtain ⟨k, rfl, hk, htk, hs, hh⟩ := hrel
      have HTK := Lib.hid htk
      have HH := Lib.hid hh
      clear htk
      have b0 : (0 : Int) ≤ k := by omega
      by_cases hkl : k < la.length
      · have b1 : (k : Int) < la.length := by omega
        have hkb : k < lb.length := by have := HL.out; omega
        have b3 : (k : Int) < lb.length := by omega
        have b2 : (k : Int) < 1000000 := by omega
        obtain ⟨x, hx⟩ : ∃ x, la[k]? = some x := ⟨_, List.getElem?_eq_getElem hkl⟩
        obtain ⟨y, hy⟩ : ∃ y, lb[k]? = some y := ⟨_, List.getElem?_eq_getElem hkb⟩
        rcases ha with ⟨_, hz, _⟩ | ⟨g1, cap1, e1, hca⟩
        · omega
        rcases hb with ⟨_, hz, _⟩ | ⟨g2, cap2, e2, hcb⟩
        · omega
        cases e1
        cases e2
        have d0 : wr.cell? (g1.add k) = some (.int .u8 (x.toNat : Int)) := by
          have h := hca k _ (bts_get hx)
          unfold World.cell? at h ⊢
          rw [hh]; exact h
        have d1 : wr.cell? (g2.add k) = some (.int .u8 (y.toNat : Int)) := by
          have h := hcb k _ (bts_get hy)
          unfold World.cell? at h ⊢
          rw [hh]; exact h
        have HX := Lib.hid hx
        have HY := Lib.hid hy
        clear hx hy hh hca hcb
        by_cases hxy : x = y
        · subst hxy
          go_wp2_with fail
          refine wp_region_one [] [] [] [] [0, 1, 2, 3, 4, 5, 6, 7, 8] (by kernel_rfl) (by kernel_rfl) ?_
          repeat (first | (refine can_pu1 rfl rfl rfl rfl rfl rfl (fun K hK => ?_); go_big_quiet_op; refine hK _ ?_; clear hK K) | (refine can_st1 rfl rfl rfl rfl rfl rfl (fun K hK => ?_); go_big_quiet_op; refine hK _ ?_; clear hK K) | (refine can_early1 rfl rfl rfl rfl rfl (fun K hK => ?_); go_big_quiet_op; refine hK _ ?_; clear hK K) | (refine can_skip rfl rfl rfl ?_; simp only [Act.put, List.setIfInBounds_toArray, List.set_cons_zero, List.set_cons_succ]))
          refine can_end1 ?_; (try simp only [Exit.then])
          go_wp2_with fail
          refine ⟨⟨k + 1, by simp, by omega, ?_, hs.drew, HH.out⟩, ?_⟩
          · rw [List.take_add_one, List.take_add_one, HTK.out, HX.out, HY.out]
          · simp [intOf]
            omega
        · have hxn : ¬ (x.toNat : Int) = y.toNat := fun h => hxy (UInt8.toNat_inj.1 (by omega))
          have hb2 : ((x.toNat : Int) != (y.toNat : Int)) = true := by simpa using hxn
          go_wp2_with fail
          refine wp_region_one [] [] [] [] [0, 1, 2, 3, 4, 5, 6, 7, 8] (by kernel_rfl) (by kernel_rfl) ?_
          repeat (first | (refine can_pu1 rfl rfl rfl rfl rfl rfl (fun K hK => ?_); go_big_quiet_op; refine hK _ ?_; clear hK K) | (refine can_st1 rfl rfl rfl rfl rfl rfl (fun K hK => ?_); go_big_quiet_op; refine hK _ ?_; clear hK K) | (refine can_early1 rfl rfl rfl rfl rfl (fun K hK => ?_); go_big_quiet_op; refine hK _ ?_; clear hK K) | (refine can_skip rfl rfl rfl ?_; simp only [Act.put, List.setIfInBounds_toArray, List.set_cons_zero, List.set_cons_succ]))
          refine can_end1 ?_; (try simp only [Exit.then])
          go_wp2_with fail
          go_ret
          have hne : ¬ la = lb := fun h => hxy (by
            have h1 := HX.out
            rw [h, HY.out] at h1
            simpa using h1.symm)
          exact ⟨by simp [hne], hs.drew, HH.out⟩
      · obtain rfl : k = la.length := by omega
        have heq : la = lb := by
          have h := HTK.out
          rw [List.take_length, List.take_of_length_le (by have := HL.out; omega)] at h
          exact h
        have HE := Lib.hid heq
        clear heq hh
        go_wp2_with fail
        go_ret
        exact ⟨by simp [HE.out], hs, HH.out⟩
  · have q0 : ((la.length : Int) != (lb.length : Int)) = true := by simp; omega
    have q1 : (la.length != lb.length) = true := by simp; omega
    have hne : ¬ la = lb := fun h => hlen (by rw [h])
    go_enter Tryz.func97, Tryz.ntmps97
    go_wp2_with fail
    go_ret
    exact ⟨by simp [hne], hs, rfl⟩
end Go.Proofs.YtekbbpfnkbanjaaGreat.Ch

namespace Go.Proofs.YtekbbpfnkbanjaaGreat.Ch
set_option linter.unusedSimpArgs false
open Go Go.RowKit Go.Sl Go.BigFrame
set_option linter.unusedVariables false

/-- What mark.Open tells: kind, body, error. -/
def openB (b : List UInt8) : Int × List UInt8 × Int :=
  if b.length ≠ 160 then (0, [], 2)
  else if sumB (b.take 156) ≠ numB (b.drop 156) then (0, [], 3)
  else
    let kind : Int := (b.getD 0 0).toNat
    let n := min ((b.getD 1 0).toNat * 256 + (b.getD 2 0).toNat) 153
    let body := (b.drop 3).take n
    if kind < 1 ∨ sealB kind body ≠ b then (0, [], 2) else (kind, body, 0)

/-- A slice's reads, cut. -/
theorem reads_cut {w : World} {a : Option Addr} {n c : Nat} {l : List UInt8} (h : Reads w (.slice a n c) l.length (bts l)) (m : Nat) (hm : m ≤ l.length) (c' : Nat) : Reads w (.slice a m c') (l.take m).length (bts (l.take m)) ∨ a = none := by
  rcases h with ⟨h1, h2, h3⟩ | ⟨a', c2, h1, h2⟩
  · cases h1
    exact .inr rfl
  · cases h1
    refine .inl (.inr ⟨a', c', by rw [List.length_take, Nat.min_eq_left hm], fun j u hu => h2 j u ?_⟩)
    rw [bts, List.map_take, List.getElem?_take] at hu
    split at hu
    · exact hu
    · exact absurd hu (by simp)


theorem or_lit (k s c K : Nat) (hK : 2 ^ k = K) (hc : c < K) (hs : s * K < 4611686018427387904) (hk : k ≤ 60) : bits .or .i64 ((s * K : Nat) : Int) (c : Int) = ((s * K + c : Nat) : Int) := by
  subst hK
  exact or_low k s c hc hs hk

/-- Four bytes, the highest first, put together. -/
theorem or4 (c0 c1 c2 c3 : UInt8) : bits .or .i64 (bits .or .i64 (bits .or .i64 ((c0.toNat : Int) * 16777216) ((c1.toNat : Int) * 65536)) ((c2.toNat : Int) * 256)) (c3.toNat : Int) = numB [c0, c1, c2, c3] := by
  have h0 : c0.toNat < 256 := c0.toNat_lt
  have h1 : c1.toNat < 256 := c1.toNat_lt
  have h2 : c2.toNat < 256 := c2.toNat_lt
  have h3 : c3.toNat < 256 := c3.toNat_lt
  have e : numB [c0, c1, c2, c3] = ((((c0.toNat * 256 + c1.toNat) * 256 + c2.toNat) * 256 + c3.toNat : Nat) : Int) := by
    simp [numB, numStep]
  rw [e]
  generalize c0.toNat = x0 at *
  generalize c1.toNat = x1 at *
  generalize c2.toNat = x2 at *
  generalize c3.toNat = x3 at *
  clear e
  have a1 := or_lit 24 x0 (x1 * 65536) 16777216 (by decide) (by omega) (by omega) (by omega)
  have a2 := or_lit 16 (x0 * 256 + x1) (x2 * 256) 65536 (by decide) (by omega) (by omega) (by omega)
  have a3 := or_lit 8 ((x0 * 256 + x1) * 256 + x2) x3 256 (by decide) (by omega) (by omega) (by omega)
  have b1 : ((x0 * 16777216 : Nat) : Int) = (x0 : Int) * 16777216 := Int.natCast_mul _ _
  have b2 : ((x1 * 65536 : Nat) : Int) = (x1 : Int) * 65536 := Int.natCast_mul _ _
  have b3 : ((x2 * 256 : Nat) : Int) = (x2 : Int) * 256 := Int.natCast_mul _ _
  rw [← b1, ← b2, ← b3, a1, show x0 * 16777216 + x1 * 65536 = (x0 * 256 + x1) * 65536 by omega, a2, show (x0 * 256 + x1) * 65536 + x2 * 256 = ((x0 * 256 + x1) * 256 + x2) * 256 by omega, a3]

end Go.Proofs.YtekbbpfnkbanjaaGreat.Ch

namespace Go.Proofs.YtekbbpfnkbanjaaGreat.Ch
set_option linter.unusedSimpArgs false
open Go Go.RowKit Go.Sl Go.BigFrame
set_option linter.unusedVariables false

theorem drop_four {b : List UInt8} (h : b.length = 160) {c0 c1 c2 c3 : UInt8} (h0 : b[156]? = some c0) (h1 : b[157]? = some c1) (h2 : b[158]? = some c2) (h3 : b[159]? = some c3) : b.drop 156 = [c0, c1, c2, c3] := by
  apply List.ext_getElem?
  intro i
  rw [List.getElem?_drop]
  rcases i with _ | _ | _ | _ | i
  · simpa using h0
  · simpa using h1
  · simpa using h2
  · simpa using h3
  · rw [List.getElem?_eq_none (by omega)]; simp
theorem getD_of {b : List UInt8} {k : Nat} {c : UInt8} (h : b[k]? = some c) : b.getD k 0 = c := by simp [List.getD, h]

theorem or2 (k1 k2 : UInt8) : bits .or .i64 ((k1.toNat : Int) * 256) (k2.toNat : Int) = ((k1.toNat * 256 + k2.toNat : Nat) : Int) := by
  have h1 : k1.toNat < 256 := k1.toNat_lt
  have h2 : k2.toNat < 256 := k2.toNat_lt
  have a := or_low 8 k1.toNat k2.toNat (by omega) (by omega) (by omega)
  rw [← a]
  congr 1

theorem reads_sub {w : World} {a a' : Addr} {l : List UInt8} (h : ∀ k u, l[k]? = some u → w.cell? (a.add k) = some (.int .u8 (u.toNat : Int))) (i m c : Nat) (hi : i + m ≤ l.length) (ha : ∀ j, a'.add j = a.add (i + j)) : Reads w (.slice (some a') m c) ((l.drop i).take m).length (bts ((l.drop i).take m)) := by
  have hlen : ((l.drop i).take m).length = m := by simp; omega
  refine .inr ⟨a', c, by rw [hlen], fun j u hu => ?_⟩
  rw [bts, List.getElem?_map] at hu
  obtain ⟨x, hx, rfl⟩ := Option.map_eq_some_iff.1 hu
  rw [List.getElem?_take] at hx
  split at hx
  · rw [List.getElem?_drop] at hx
    rw [ha j]
    exact h _ _ hx
  · cases hx
theorem add_three (g o : Nat) (sp : Option Nat) (j : Nat) : (⟨g, o + 3, none⟩ : Addr).add j = (⟨g, o, sp⟩ : Addr).add (3 + j) := by
  rw [add_row]
  unfold Addr.add
  rw [if_neg (by omega), Nat.add_assoc]

set_option maxRecDepth 100000 in
set_option maxHeartbeats 4000000 in
theorem open_any (W w : World) (L : List Atom) (v : Value) (b : List UInt8) (hs : Sat W w L) (hin : ∀ y, Sat W y L → Reads y v b.length (bts b)) (hl : b.length < 1000000) (hcap : ∀ a n c, v = .slice a n c → n ≤ c) :
    Calls Tryz.prog 90 #[v] w fun r w' => ∃ bv R, r = .returned (.tuple #[.int .i64 (openB b).1, bv, .int .i64 (openB b).2.2]) ∧ RowA 5 1 bv (openB b).2.1.length (bts (openB b).2.1) R ∧ Sat W w' (R ++ L) := by
  by_cases h160 : b.length = 160
  · obtain ⟨c0, h0⟩ : ∃ c, b[156]? = some c := ⟨_, List.getElem?_eq_getElem (by omega)⟩
    obtain ⟨c1, h1⟩ : ∃ c, b[157]? = some c := ⟨_, List.getElem?_eq_getElem (by omega)⟩
    obtain ⟨c2, h2⟩ : ∃ c, b[158]? = some c := ⟨_, List.getElem?_eq_getElem (by omega)⟩
    obtain ⟨c3, h3⟩ : ∃ c, b[159]? = some c := ⟨_, List.getElem?_eq_getElem (by omega)⟩
    obtain ⟨k0, i0⟩ : ∃ c, b[0]? = some c := ⟨_, List.getElem?_eq_getElem (by omega)⟩
    obtain ⟨k1, i1⟩ : ∃ c, b[1]? = some c := ⟨_, List.getElem?_eq_getElem (by omega)⟩
    obtain ⟨k2, i2⟩ : ∃ c, b[2]? = some c := ⟨_, List.getElem?_eq_getElem (by omega)⟩
    have hr := hin w hs
    have hr' := hr
    rcases hr' with ⟨_, hz, _⟩ | ⟨⟨g, o, sp⟩, c, rfl, hc⟩
    · omega
    have hcell : ∀ y, Sat W y L → ∀ k u, b[k]? = some u → y.cell? ((⟨g, o, sp⟩ : Addr).add k) = some (.int .u8 (u.toNat : Int)) := fun y hy k u hu => by
      rcases hin y hy with ⟨h1, _⟩ | ⟨a', c', e1, hc'⟩
      · cases h1
      · cases e1
        exact hc' k _ (bts_get hu)
    have d0 : w.cell? ⟨g, o + 156, none⟩ = some (.int .u8 (c0.toNat : Int)) := hcell w hs 156 _ h0
    have d1 : w.cell? ⟨g, o + 157, none⟩ = some (.int .u8 (c1.toNat : Int)) := hcell w hs 157 _ h1
    have d2 : w.cell? ⟨g, o + 158, none⟩ = some (.int .u8 (c2.toNat : Int)) := hcell w hs 158 _ h2
    have d3 : w.cell? ⟨g, o + 159, none⟩ = some (.int .u8 (c3.toNat : Int)) := hcell w hs 159 _ h3
    have d4 : w.cell? ⟨g, o + 1, none⟩ = some (.int .u8 (k1.toNat : Int)) := hcell w hs 1 _ i1
    have d5 : w.cell? ⟨g, o + 2, none⟩ = some (.int .u8 (k2.toNat : Int)) := hcell w hs 2 _ i2
    have u0 := u8_lt c0
    have u1 := u8_lt c1
    have u2 := u8_lt c2
    have u3 := u8_lt c3
    have v0 : (0 : Int) ≤ c0.toNat := by omega
    have v1 : (0 : Int) ≤ c1.toNat := by omega
    have v2 : (0 : Int) ≤ c2.toNat := by omega
    have v3 : (0 : Int) ≤ c3.toNat := by omega
    have u4 := u8_lt k1
    have u5 := u8_lt k2
    have v4 : (0 : Int) ≤ k1.toNat := by omega
    have v5 : (0 : Int) ≤ k2.toNat := by omega
    have u6 := u8_lt k0
    have v6 : (0 : Int) ≤ k0.toNat := by omega
    have hcp : 160 ≤ c := by have := hcap _ _ _ rfl; omega
    have hcp2 : (156 : Int) ≤ c := by omega
    have hd4 : b.drop 156 = [c0, c1, c2, c3] := drop_four h160 h0 h1 h2 h3
    have hO : openB b = (if sumB (b.take 156) ≠ numB [c0, c1, c2, c3] then ((0 : Int), ([] : List UInt8), (3 : Int)) else
      if (k0.toNat : Int) < 1 ∨ sealB (k0.toNat : Int) ((b.drop 3).take (min (k1.toNat * 256 + k2.toNat) 153)) ≠ b then ((0 : Int), ([] : List UInt8), (2 : Int)) else ((k0.toNat : Int), (b.drop 3).take (min (k1.toNat * 256 + k2.toNat) 153), 0)) := by
      unfold openB
      rw [if_neg (by omega), hd4, getD_of i0, getD_of i1, getD_of i2]
    have hsum : Calls Tryz.prog 98 #[.slice (some ⟨g, o, sp⟩) 156 c] w.drew fun e w' => e = .returned (.int .i64 (sumB (b.take 156))) ∧ w.drew = w' := by
      rcases reads_cut (m := 156) (hin _ hs.drew) (by omega) c with h | h
      · exact sum_any _ _ _ h (by simp; omega)
      · cases h
    have HO := Lib.hid hO
    have HC := Lib.hid hcell
    have HIN := Lib.hid hin
    have HI0 := Lib.hid i0
    clear hcap hin hO hd4 hcell i0 i1 i2
    clear h0 h1 h2 h3 hc hr
    rw [h160]
    go_enter Tryz.func90, Tryz.ntmps90
    go_wp2_with fail
    refine wp_region_one [] [] [] [] [0, 1, 2, 3, 4, 5, 6, 7, 8, 9, 10, 11, 12, 13, 14, 15, 16, 17, 18, 19, 20, 21, 22, 23, 24, 25, 26, 27, 28, 29] (by kernel_rfl) (by kernel_rfl) ?_
    repeat (first | (refine can_pu1 rfl rfl rfl rfl rfl rfl (fun K hK => ?_); go_big_quiet_op; refine hK _ ?_; clear hK K) | (refine can_st1 rfl rfl rfl rfl rfl rfl (fun K hK => ?_); go_big_quiet_op; refine hK _ ?_; clear hK K) | (refine can_early1 rfl rfl rfl rfl rfl (fun K hK => ?_); go_big_quiet_op; refine hK _ ?_; clear hK K) | (refine can_skip rfl rfl rfl ?_; simp only [Act.put, List.setIfInBounds_toArray, List.set_cons_zero, List.set_cons_succ]))
    refine can_end1 ?_; (try simp only [Exit.then])
    go_wp2_with fail
    refine hsum.mono ?_; rintro r w4 ⟨rfl, rfl⟩
    rw [or4]
    clear hsum
    by_cases hse : sumB (b.take 156) = numB [c0, c1, c2, c3]
    · have hO := HO.out
      rw [if_neg (by simpa using hse)] at hO
      have qs : (sumB (b.take 156) != numB [c0, c1, c2, c3]) = false := by simpa using hse
      have HO2 := Lib.hid hO
      clear hse hO HO d0 d1 d2 d3 u0 u1 u2 u3 v0 v1 v2 v3
      generalize sumB (b.take 156) = S1 at *
      generalize numB [c0, c1, c2, c3] = S2 at *
      have hor := or2 k1 k2
      generalize k1.toNat * 256 + k2.toNat = m at hor HO2
      rcases Nat.lt_or_ge 153 m with hm | hm
      · have hm2 : 153 < (m : Int) := by omega
        rw [show min m 153 = 153 by omega] at HO2
        clear hm
        go_wp2_with fail
        refine wp_region_one [] [] [] [] [0, 1, 2, 3, 4, 5, 6, 7, 8, 9, 10, 11] (by kernel_rfl) (by kernel_rfl) ?_
        repeat (first | (refine can_pu1 rfl rfl rfl rfl rfl rfl (fun K hK => ?_); go_big_quiet_op; refine hK _ ?_; clear hK K) | (refine can_st1 rfl rfl rfl rfl rfl rfl (fun K hK => ?_); go_big_quiet_op; refine hK _ ?_; clear hK K) | (refine can_early1 rfl rfl rfl rfl rfl (fun K hK => ?_); go_big_quiet_op; refine hK _ ?_; clear hK K) | (refine can_skip rfl rfl rfl ?_; simp only [Act.put, List.setIfInBounds_toArray, List.set_cons_zero, List.set_cons_succ]))
        refine can_end1 ?_; (try simp only [Exit.then])
        go_wp2_with fail
        refine wp_region_held1 [8] [0, 1, 2, 3] [0, 1, 3] [8] [0, 1, 2, 3, 4, 5, 6, 7, 8, 9, 10] (Held W L) (by kernel_rfl) (by kernel_rfl) ?_ ?_
        · exact Held.mk hs.drew.drew.drew
        have hne : Nonempty (Of W L) := ⟨⟨_, hs⟩⟩
        repeat (first | (refine can_pu1 rfl rfl rfl rfl rfl rfl (fun K hK => ?_); go_big_quiet_op; refine hK _ ?_; clear hK K) | (refine can_st1 rfl rfl rfl rfl rfl rfl (fun K hK => ?_); go_big_quiet_op; refine hK _ ?_; clear hK K) | (refine can_early1 rfl rfl rfl rfl rfl (fun K hK => ?_); go_big_quiet_op; refine hK _ ?_; clear hK K) | (refine can_skip rfl rfl rfl ?_; simp only [Act.put, List.setIfInBounds_toArray, List.set_cons_zero, List.set_cons_succ]))
        refine can_st1 rfl rfl rfl rfl rfl rfl (fun K hK => ?_)
        refine quiet_load (a := ⟨g, o, sp⟩) (v := .int .u8 (k0.toNat : Int)) rfl (fun w => Tryz.isAgg5 w) (by go_simp) (fun y hy => by obtain ⟨y, rfl⟩ := hy; exact HC.out _ y.s 0 _ HI0.out) ?_
        refine hK _ ?_; clear hK K; simp only [Act.put, List.setIfInBounds_toArray, List.set_cons_zero, List.set_cons_succ]
        repeat (first | (refine can_pu1 rfl rfl rfl rfl rfl rfl (fun K hK => ?_); go_big_quiet_op; refine hK _ ?_; clear hK K) | (refine can_st1 rfl rfl rfl rfl rfl rfl (fun K hK => ?_); go_big_quiet_op; refine hK _ ?_; clear hK K) | (refine can_early1 rfl rfl rfl rfl rfl (fun K hK => ?_); go_big_quiet_op; refine hK _ ?_; clear hK K) | (refine can_skip rfl rfl rfl ?_; simp only [Act.put, List.setIfInBounds_toArray, List.set_cons_zero, List.set_cons_succ]))
        refine can_actS rfl rfl rfl rfl (fun K hK => ?_)
        go_wp2_with fail
        have hlb : ((b.drop 3).take 153).length = 153 := by simp; omega
        have hs3 : Sat W w.drew.drew.drew L := hs.drew.drew.drew
        refine (clone_any _ _ W _ L (reads_sub (HC.out _ hs3) 3 153 _ (by omega) (add_three g o sp)) (by rw [hlb]; omega) hs3).mono ?_; rintro r w5 ⟨bv, R, rfl, hbr, hs5⟩
        apply hK
        refine ⟨Held.mk hs5.right, ?_⟩
        clear hK hs3 d4 d5 hne
        repeat (first | (refine can_pu1 rfl rfl rfl rfl rfl rfl (fun K hK => ?_); go_big_quiet_op; refine hK _ ?_; clear hK K) | (refine can_st1 rfl rfl rfl rfl rfl rfl (fun K hK => ?_); go_big_quiet_op; refine hK _ ?_; clear hK K) | (refine can_early1 rfl rfl rfl rfl rfl (fun K hK => ?_); go_big_quiet_op; refine hK _ ?_; clear hK K) | (refine can_skip rfl rfl rfl ?_; simp only [Act.put, List.setIfInBounds_toArray, List.set_cons_zero, List.set_cons_succ]))
        refine can_end1 ?_; (try simp only [Exit.then])
        have hbl : ((b.drop 3).take 153).length ≤ 153 := by omega
        have hk0 := k0.toNat_lt
        have hblk : ∀ y, Sat W y L → Reads y (Value.slice (some { block := g, off := o, spot := sp }) b.length c) b.length (bts b) := HIN.out
        rw [h160] at hblk
        clear hlb
        generalize (b.drop 3).take 153 = B at *
        by_cases hk1 : (k0.toNat : Int) < 1
        · have hO2 := HO2.out
          rw [if_pos (.inl hk1)] at hO2
          have HO3 := Lib.hid hO2
          clear hO2 HO2 hblk
          go_wp2_with fail
          refine (seal_bad _ _ _ _ (hbr.reads hs5) (.inl hk1)).mono ?_; rintro r w6 ⟨rfl, rfl⟩
          go_wp2_with fail
          go_ret3
          rw [HO3.out]
          exact ⟨_, _, rfl, RowA.nil _ _, hs5.right⟩
        · go_wp2_with fail
          refine (seal_any _ _ _ W _ _ (by omega) (by omega) hbl (hbr.reads hs5) hs5).mono ?_; rintro r w6 ⟨sv, R6, rfl, hsr, hs6⟩
          go_wp2_with fail
          have hbr2 := hblk _ hs6.right.right
          rw [← h160] at hbr2
          rw [← h160]
          have hsl : (sealB (k0.toNat : Int) B).length = 160 := sealB_length _ _ hbl
          refine (equal_any W _ _ _ _ _ _ hs6 (hsr.reads hs6) hbr2 (by omega) (by omega)).mono ?_; rintro r w7 ⟨rfl, hs7, _⟩
          have hO2 := HO2.out
          have hK0 := Lib.hid hk1
          clear HO2 hblk hbr2 hk1
          by_cases hsb : sealB (k0.toNat : Int) B = b
          · rw [if_neg (by simp only [hsb]; simpa using hK0.out)] at hO2
            have HO3 := Lib.hid hO2
            rw [decide_eq_true hsb]
            clear hO2 hsb hsl
            go_wp2_with fail
            go_ret3
            rw [HO3.out]
            exact ⟨_, R, rfl, hbr, hs7.use (by intro x; simp only [cnt_append, cnt_cons, cnt_nil]; omega)⟩
          · rw [if_pos (.inr hsb)] at hO2
            have HO3 := Lib.hid hO2
            rw [decide_eq_false hsb]
            clear hO2 hsb hsl
            go_wp2_with fail
            go_ret3
            rw [HO3.out]
            exact ⟨_, _, rfl, RowA.nil _ _, hs7.right.right⟩
      · have hm2 : (m : Int) ≤ 153 := by omega
        have hm0 : (0 : Int) ≤ m := by omega
        rw [show min m 153 = m by omega] at HO2
        go_wp2_with fail
        refine wp_region_one [] [] [] [] [0, 1, 2, 3, 4, 5, 6, 7, 8, 9, 10, 11] (by kernel_rfl) (by kernel_rfl) ?_
        repeat (first | (refine can_pu1 rfl rfl rfl rfl rfl rfl (fun K hK => ?_); go_big_quiet_op; refine hK _ ?_; clear hK K) | (refine can_st1 rfl rfl rfl rfl rfl rfl (fun K hK => ?_); go_big_quiet_op; refine hK _ ?_; clear hK K) | (refine can_early1 rfl rfl rfl rfl rfl (fun K hK => ?_); go_big_quiet_op; refine hK _ ?_; clear hK K) | (refine can_skip rfl rfl rfl ?_; simp only [Act.put, List.setIfInBounds_toArray, List.set_cons_zero, List.set_cons_succ]))
        refine can_end1 ?_; (try simp only [Exit.then])
        go_wp2_with fail
        refine wp_region_held1 [8] [0, 1, 2, 3] [0, 1, 3] [8] [0, 1, 2, 3, 4, 5, 6, 7, 8, 9, 10] (Held W L) (by kernel_rfl) (by kernel_rfl) ?_ ?_
        · exact Held.mk hs.drew.drew.drew
        have hne : Nonempty (Of W L) := ⟨⟨_, hs⟩⟩
        repeat (first | (refine can_pu1 rfl rfl rfl rfl rfl rfl (fun K hK => ?_); go_big_quiet_op; refine hK _ ?_; clear hK K) | (refine can_st1 rfl rfl rfl rfl rfl rfl (fun K hK => ?_); go_big_quiet_op; refine hK _ ?_; clear hK K) | (refine can_early1 rfl rfl rfl rfl rfl (fun K hK => ?_); go_big_quiet_op; refine hK _ ?_; clear hK K) | (refine can_skip rfl rfl rfl ?_; simp only [Act.put, List.setIfInBounds_toArray, List.set_cons_zero, List.set_cons_succ]))
        refine can_st1 rfl rfl rfl rfl rfl rfl (fun K hK => ?_)
        refine quiet_load (a := ⟨g, o, sp⟩) (v := .int .u8 (k0.toNat : Int)) rfl (fun w => Tryz.isAgg5 w) (by go_simp) (fun y hy => by obtain ⟨y, rfl⟩ := hy; exact HC.out _ y.s 0 _ HI0.out) ?_
        refine hK _ ?_; clear hK K; simp only [Act.put, List.setIfInBounds_toArray, List.set_cons_zero, List.set_cons_succ]
        repeat (first | (refine can_pu1 rfl rfl rfl rfl rfl rfl (fun K hK => ?_); go_big_quiet_op; refine hK _ ?_; clear hK K) | (refine can_st1 rfl rfl rfl rfl rfl rfl (fun K hK => ?_); go_big_quiet_op; refine hK _ ?_; clear hK K) | (refine can_early1 rfl rfl rfl rfl rfl (fun K hK => ?_); go_big_quiet_op; refine hK _ ?_; clear hK K) | (refine can_skip rfl rfl rfl ?_; simp only [Act.put, List.setIfInBounds_toArray, List.set_cons_zero, List.set_cons_succ]))
        refine can_actS rfl rfl rfl rfl (fun K hK => ?_)
        go_wp2_with fail
        have hlb : ((b.drop 3).take m).length = m := by simp; omega
        have hs3 : Sat W w.drew.drew.drew L := hs.drew.drew.drew
        refine (clone_any _ _ W _ L (reads_sub (HC.out _ hs3) 3 m _ (by omega) (add_three g o sp)) (by rw [hlb]; omega) hs3).mono ?_; rintro r w5 ⟨bv, R, rfl, hbr, hs5⟩
        apply hK
        refine ⟨Held.mk hs5.right, ?_⟩
        clear hK hs3 d4 d5 hne
        repeat (first | (refine can_pu1 rfl rfl rfl rfl rfl rfl (fun K hK => ?_); go_big_quiet_op; refine hK _ ?_; clear hK K) | (refine can_st1 rfl rfl rfl rfl rfl rfl (fun K hK => ?_); go_big_quiet_op; refine hK _ ?_; clear hK K) | (refine can_early1 rfl rfl rfl rfl rfl (fun K hK => ?_); go_big_quiet_op; refine hK _ ?_; clear hK K) | (refine can_skip rfl rfl rfl ?_; simp only [Act.put, List.setIfInBounds_toArray, List.set_cons_zero, List.set_cons_succ]))
        refine can_end1 ?_; (try simp only [Exit.then])
        have hbl : ((b.drop 3).take m).length ≤ 153 := by omega
        have hk0 := k0.toNat_lt
        have hblk : ∀ y, Sat W y L → Reads y (Value.slice (some { block := g, off := o, spot := sp }) b.length c) b.length (bts b) := HIN.out
        rw [h160] at hblk
        clear hlb
        generalize (b.drop 3).take m = B at *
        by_cases hk1 : (k0.toNat : Int) < 1
        · have hO2 := HO2.out
          rw [if_pos (.inl hk1)] at hO2
          have HO3 := Lib.hid hO2
          clear hO2 HO2 hblk
          go_wp2_with fail
          refine (seal_bad _ _ _ _ (hbr.reads hs5) (.inl hk1)).mono ?_; rintro r w6 ⟨rfl, rfl⟩
          go_wp2_with fail
          go_ret3
          rw [HO3.out]
          exact ⟨_, _, rfl, RowA.nil _ _, hs5.right⟩
        · go_wp2_with fail
          refine (seal_any _ _ _ W _ _ (by omega) (by omega) hbl (hbr.reads hs5) hs5).mono ?_; rintro r w6 ⟨sv, R6, rfl, hsr, hs6⟩
          go_wp2_with fail
          have hbr2 := hblk _ hs6.right.right
          rw [← h160] at hbr2
          rw [← h160]
          have hsl : (sealB (k0.toNat : Int) B).length = 160 := sealB_length _ _ hbl
          refine (equal_any W _ _ _ _ _ _ hs6 (hsr.reads hs6) hbr2 (by omega) (by omega)).mono ?_; rintro r w7 ⟨rfl, hs7, _⟩
          have hO2 := HO2.out
          have hK0 := Lib.hid hk1
          clear HO2 hblk hbr2 hk1
          by_cases hsb : sealB (k0.toNat : Int) B = b
          · rw [if_neg (by simp only [hsb]; simpa using hK0.out)] at hO2
            have HO3 := Lib.hid hO2
            rw [decide_eq_true hsb]
            clear hO2 hsb hsl
            go_wp2_with fail
            go_ret3
            rw [HO3.out]
            exact ⟨_, R, rfl, hbr, hs7.use (by intro x; simp only [cnt_append, cnt_cons, cnt_nil]; omega)⟩
          · rw [if_pos (.inr hsb)] at hO2
            have HO3 := Lib.hid hO2
            rw [decide_eq_false hsb]
            clear hO2 hsb hsl
            go_wp2_with fail
            go_ret3
            rw [HO3.out]
            exact ⟨_, _, rfl, RowA.nil _ _, hs7.right.right⟩
    · have hO := HO.out
      rw [if_pos hse] at hO
      have qs : (sumB (b.take 156) != numB [c0, c1, c2, c3]) = true := by simpa using hse
      have HO2 := Lib.hid hO
      clear hse hO HO
      generalize sumB (b.take 156) = S1 at *
      generalize numB [c0, c1, c2, c3] = S2 at *
      go_wp2_with fail
      go_ret3
      rw [HO2.out]
      exact ⟨_, _, rfl, RowA.nil _ _, hs.drew⟩
  · have hr := hin w hs
    have q0 : ((b.length : Int) != 160) = true := by simp; omega
    have hb : openB b = (0, [], 2) := by unfold openB; rw [if_pos h160]
    obtain ⟨a1, c1, rfl⟩ : ∃ a c, v = .slice a b.length c := by
      rcases hr with ⟨h1, h2, _⟩ | ⟨a, c, h1, _⟩
      · exact ⟨_, _, by rw [h1, h2]⟩
      · exact ⟨_, _, h1⟩
    rw [hb]
    clear hb
    go_enter Tryz.func90, Tryz.ntmps90
    go_wp2_with fail
    go_ret3
    exact ⟨_, _, rfl, RowA.nil _ _, hs⟩
end Go.Proofs.YtekbbpfnkbanjaaGreat.Ch

namespace Go.Proofs.YtekbbpfnkbanjaaGreat.Ch
set_option linter.unusedSimpArgs false
open Go Go.RowKit Go.Sl Go.BigFrame
set_option linter.unusedVariables false

theorem append_none {W w : World} {L : List Atom} (ty : TypeId) (n : Nat) (h0 : 0 < n) (hn : n < 1000000) (hs : Sat W w L) :
    ∃ g c w', (Builtin.append_ #[35, 3] ty #[.slice none 0 0, .int .i64 n]).run Tryz.prog w = .ok (.slice (some ⟨g, 0, none⟩) n c) w' ∧ 0 ≤ c ∧ c ≤ maxLen ∧ Sat W w' ([(g, rowP 5 0 (c * 1) [])] ++ L) := by
  obtain ⟨i0, hi, hz0, hz1, hz2⟩ := info_parts infoU8
  have hr := Lib.run_append_nil_zeros (P := Tryz.prog) w 35 3 ty 5 i0 (.int .u8 0) .i64 .i64 Tryz.underlying35 Tryz.underlying3 hi hz0 n h0 (by rw [hz1]; decide) (by omega) (by rw [hz2]; omega)
  have hge := grownCap_ge w n 0 5
  have hcm : grownCap w n 0 5 ≤ maxLen := grownCap_le_maxLen w n 0 5 (by unfold maxLen; omega)
  refine ⟨_, _, _, hr, Nat.zero_le _, hcm, hs.drew.new _ ⟨_, rfl, ?_, by simp, by simp⟩⟩
  have e : (Value.int .u8 0).cells.size = 1 := rfl
  simp only [Array.size_append, size_zeroCells, e]
  omega

set_option maxRecDepth 100000 in
theorem grow_none (n : Nat) (W w : World) (L : List Atom) (hn : n < 1000000) (hs : Sat W w L) :
    Calls Tryz.prog 99 #[.slice none 0 0, .int .i64 n] w fun e w' => ∃ v R, e = .returned v ∧ RowA 5 1 v ([] : List UInt8).length (bts []) R ∧ Sat W w' (R ++ L) := by
  rcases Nat.eq_zero_or_pos n with rfl | h0
  · go_enter Tryz.func99, Tryz.ntmps99
    go_wp2_with fail
    go_ret
    exact ⟨_, _, rfl, RowA.nil _ _, hs⟩
  · have h1 : (0 : Int) < n := by omega
    have h2 : (n : Int) < 1000000 := by omega
    obtain ⟨g, c, w', ha, hc0, hc, hs'⟩ := append_none 35 n h0 hn hs
    have q2 : (0 : Int) ≤ c := by omega
    obtain ⟨x, hx⟩ : ∃ x : Int, x = n := ⟨_, rfl⟩
    rw [← hx] at ha h1 h2
    rw [← hx]
    clear hx
    have HA := Lib.hid ha
    have HC := Lib.hid hc
    clear hs ha hc hc0 hn h0
    go_enter Tryz.func99, Tryz.ntmps99
    go_wp2_with (at_builtin; refine wpList_plain rfl (fun K hK => ?_); refine wp_append rfl HA.out ?_; refine hK _ _ ?_; simp only [Act.put, List.setIfInBounds_toArray, List.set_cons_zero, List.set_cons_succ]; clear hK)
    go_ret
    exact ⟨_, _, rfl, ⟨by simp [bts], .inr ⟨_, _, _, rfl, Nat.zero_le _, HC.out, rfl⟩⟩, hs'⟩

/-- Values that are slices of bytes, each as it reads. -/
def Vals (y : World) : List Value → List (List UInt8) → Prop
  | [], [] => True
  | v :: vs, l :: ls => Reads y v l.length (bts l) ∧ Vals y vs ls
  | _, _ => False
theorem Vals.at {y : World} : ∀ {vs : List Value} {ls : List (List UInt8)}, Vals y vs ls → ∀ (k : Nat) (v : Value), vs[k]? = some v → ∃ l, ls[k]? = some l ∧ Reads y v l.length (bts l)
  | [], [], _, k, v, h => by simp at h
  | w :: vs, l :: ls, h, 0, v, hv => by
    simp at hv
    subst hv
    exact ⟨l, rfl, h.1⟩
  | w :: vs, l :: ls, h, k + 1, v, hv => by
    obtain ⟨l', h1, h2⟩ := Vals.at h.2 k v (by simpa using hv)
    exact ⟨l', by simpa using h1, h2⟩
  | [], _ :: _, h, _, _, _ => h.elim
  | _ :: _, [], h, _, _, _ => h.elim
theorem Vals.len {y : World} : ∀ {vs : List Value} {ls : List (List UInt8)}, Vals y vs ls → vs.length = ls.length
  | [], [], _ => rfl
  | _ :: vs, _ :: ls, h => by simp [Vals.len h.2]
  | [], _ :: _, h => h.elim
  | _ :: _, [], h => h.elim
theorem reads_shape {w : World} {v : Value} {n : Nat} {xs : List Value} (h : Reads w v n xs) : ∃ a c, v = .slice a n c := by
  rcases h with ⟨h1, h2, _⟩ | ⟨a, c, h1, _⟩
  · exact ⟨_, _, by rw [h1, h2]⟩
  · exact ⟨_, _, h1⟩
theorem flat_take_snoc {ls : List (List UInt8)} {k : Nat} {l : List UInt8} (h : ls[k]? = some l) : (ls.take (k + 1)).flatten = (ls.take k).flatten ++ l := by
  rw [take_snoc h]; simp
theorem flat_take_le (ls : List (List UInt8)) (k : Nat) : (ls.take k).flatten.length ≤ ls.flatten.length := by
  have : ls.flatten.length = (ls.take k).flatten.length + (ls.drop k).flatten.length := by
    rw [← List.length_append, ← List.flatten_append, List.take_append_drop]
  omega

set_option maxRecDepth 100000 in
set_option maxHeartbeats 4000000 in
theorem concat_any (W w : World) (L : List Atom) (sv : Value) (vs : List Value) (ls : List (List UInt8)) (hs : Sat W w L) (hsv : ∀ y, Sat W y L → Reads y sv vs.length vs) (hvs : ∀ y, Sat W y L → Vals y vs ls) (hb : ls.flatten.length < 1000000) (hv1 : vs.length < 1000000) :
    Calls Tryz.prog 83 #[sv] w fun e w' => ∃ v R, e = .returned v ∧ RowA 5 1 v ls.flatten.length (bts ls.flatten) R ∧ Sat W w' (R ++ L) := by
  obtain ⟨a1, c1, rfl⟩ := reads_shape (hsv w hs)
  have HSV := Lib.hid hsv
  have HVS := Lib.hid hvs
  obtain ⟨n, hn⟩ : ∃ n, n = vs.length := ⟨_, rfl⟩
  have HN := Lib.hid hn
  rw [← hn] at hv1
  rw [← hn]
  have hlen : ls.length = n := by rw [hn, (hvs w hs).len]
  have HLEN := Lib.hid hlen
  clear hsv hvs hn hlen
  go_enter Tryz.func83, Tryz.ntmps83
  go_wp2_with fail
  go_loop [11, 3] (fun kv hv => ∃ (k : Nat) (z : Int), kv = .int .i64 k ∧ k ≤ n ∧ hv = .int .i64 z ∧ z = (ls.take k).flatten.length) (fun kv _ => (n - (intOf kv).toNat))
  case atStart => exact ⟨0, 0, rfl, Nat.zero_le _, rfl, rfl⟩
  case round =>
    obtain ⟨k, z, rfl, hk, rfl, hz⟩ := hrel
    have hzle := flat_take_le ls k
    have z0 : 0 ≤ z := by omega
    have z1 : z < 1000000 := by omega
    have k0 : (0 : Int) ≤ k := by omega
    by_cases hkn : k < n
    · have k1 : (k : Int) < n := by omega
      obtain ⟨v, hv⟩ : ∃ v, vs[k]? = some v := ⟨_, List.getElem?_eq_getElem (by have := HN.out; omega)⟩
      obtain ⟨l, hl, hrv⟩ := (HVS.out w hs).at k v hv
      obtain ⟨av, cv, rfl⟩ := reads_shape hrv
      have hsum := flat_take_snoc hl
      have hle2 := flat_take_le ls (k + 1)
      rw [hsum, List.length_append] at hle2
      obtain ⟨y, hy⟩ : ∃ y : Nat, y = l.length := ⟨_, rfl⟩
      rw [← hy] at hle2
      rw [← hy] at hrv
      have y0 : (0 : Int) ≤ y := by omega
      have y1 : z + y < 1000000 := by omega
      have y2 : 0 ≤ z + y := by omega
      have hcell : w.cell? ((a1.getD ⟨0, 0, none⟩).add k) = some (.slice av y cv) ∧ a1.isSome := by
        rcases HSV.out w hs with ⟨_, hz, _⟩ | ⟨a, c', e1, hc⟩
        · have := HN.out; omega
        · cases e1
          exact ⟨by rw [hy]; exact hc k _ hv, rfl⟩
      obtain ⟨a, rfl⟩ := Option.isSome_iff_exists.1 hcell.2
      have d0 : w.cell? (a.add k) = some (.slice av y cv) := hcell.1
      have HSUM := Lib.hid hsum
      have HZ := Lib.hid hz
      have HY := Lib.hid hy
      clear hcell hv hl hrv hsum hle2 hzle hz hy
      go_wp2_with fail
      refine ⟨⟨k + 1, z + y, by simp, by omega, rfl, ?_⟩, ?_⟩
      · rw [HSUM.out, List.length_append, HZ.out, HY.out]; simp
      · simp [intOf]
        omega
    · have ekn : n = k := by omega
      subst ekn
      have hz2 : z = ls.flatten.length := by rw [hz, List.take_of_length_le (by have := HLEN.out; omega)]
      have hgn := grow_none ls.flatten.length W w L hb hs
      rw [← hz2] at hgn
      have HZ2 := Lib.hid hz2
      clear hz hzle hz2 hs
      go_wp2_with fail
      refine hgn.mono ?_; rintro r w5 ⟨v5, R5, rfl, hr5, hs5⟩
      obtain ⟨a5, c5, rfl⟩ := reads_shape (hr5.reads hs5)
      go_wp2_with fail
      go_loopw [27, 6] (fun kv ov wr => ∃ (k : Nat) (l' : List UInt8) (R : List Atom), kv = .int .i64 k ∧ k ≤ n ∧ l' = (ls.take k).flatten ∧ RowA 5 1 ov l'.length (bts l') R ∧ Sat W wr (R ++ L)) (fun kv _ _ => (n - (intOf kv).toNat))
      case atStart => exact ⟨0, [], R5, rfl, Nat.zero_le _, rfl, hr5, hs5⟩
      case round =>
        clear hr5 hs5
        obtain ⟨k, l', R, rfl, hk, hl', hr, hs⟩ := ‹_›
        obtain ⟨a6, c6, rfl⟩ := Ch.RowA.slice hr
        have HL' := Lib.hid hl'
        have k0 : (0 : Int) ≤ k := by omega
        by_cases hkn : k < n
        · have k1 : (k : Int) < n := by omega
          have hs0 := hs.right
          obtain ⟨v, hv⟩ : ∃ v, vs[k]? = some v := ⟨_, List.getElem?_eq_getElem (by have := HN.out; omega)⟩
          obtain ⟨l, hl, hrv⟩ := (HVS.out _ hs0).at k v hv
          have hrv1 := hrv
          obtain ⟨av, cv, rfl⟩ := reads_shape hrv1
          have hcell := (HSV.out _ hs0)
          have hsum := flat_take_snoc hl
          have hle2 := flat_take_le ls (k + 1)
          rw [hsum, List.length_append, ← hl'] at hle2
          rcases hcell with ⟨_, hz, _⟩ | ⟨a, c', e1, hc⟩
          · have := HN.out; omega
          cases e1
          have d0 := hc k _ hv
          have HSUM := Lib.hid hsum
          clear hc hv hl hsum hs0 hl'
          go_wp2_with (at_builtin; refine wpList_plain rfl (fun K hK => ?_); refine wp_append_u8 rfl l' l rfl rfl hr hs hrv (by omega) (fun v2 w3 R2 hr2 hs2 => ?_); refine hK _ _ ?_; simp only [Act.put, List.setIfInBounds_toArray, List.set_cons_zero, List.set_cons_succ]; clear hK)
          refine ⟨⟨k + 1, l' ++ l, R2, by simp, by omega, ?_, hr2, hs2⟩, ?_⟩
          · rw [HSUM.out, HL'.out]
          · simp [intOf]
            omega
        · obtain rfl : k = n := by omega
          have hl2 : l' = ls.flatten := by rw [hl', List.take_of_length_le (by have := HLEN.out; omega)]
          have HL2 := Lib.hid hl2
          clear hl' hl2
          go_wp2_with fail
          go_ret
          rw [← HL2.out]
          exact ⟨_, R, rfl, hr, hs⟩
end Go.Proofs.YtekbbpfnkbanjaaGreat.Ch
