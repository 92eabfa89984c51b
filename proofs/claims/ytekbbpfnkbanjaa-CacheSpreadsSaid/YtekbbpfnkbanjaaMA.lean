
/-
  Chapter 8's bytes: rows of bytes; Pick, Sum, number.
  Chapter 8's bytes: a number as bytes; appends of bytes; Bytes.
  corbelhand.Bytes.
  mark.Seal.
  slices.Clone and slices.Equal at bytes.
  slices.Equal at bytes.
  mark.Open.
  mark.Open, walked.
  slices.Grow of nothing and slices.Concat at bytes.
-/
import Derived.Test.YtekbbpfnkbanjaaChecked
import Derived.Test.YtekbbpfnkbanjaaMS
import Derived.WalkKit
import Derived.ProofKit
import Derived.Lib.Hide
import Derived.IntWalk
import Derived.Great.BuildSlice
import Derived.Deep.OwnRows
import Derived.Laws.CopyRow
import Derived.Lib.SliceRun
import Derived.Lib.AppendZeros
namespace Go.Proofs.Ytekbbpfnkbanjaa.Ch
set_option linter.unusedSimpArgs false
open Go Go.RowKit Go.Sl
set_option linter.unusedVariables false

/-- corbelhand.Pick. -/
def handPick (x m : Int) : Int := if x.tmod m < 0 then x.tmod m + m else x.tmod m
theorem handPick_bounds (x m : Int) (hm : 0 < m) : 0 ≤ handPick x m ∧ handPick x m < m := by
  have b1 : x.tmod m < m := Int.tmod_lt_of_pos _ hm
  have b2 : -m < x.tmod m := by
    have := Int.tmod_lt_of_pos (-x) hm
    rw [Int.neg_tmod] at this
    omega
  unfold handPick
  split <;> omega
theorem hand_pick (x m : Int) (w : World) (hm : 0 < m) (hm2 : m ≤ 1099511627776) :
    Calls Try.prog 6 #[.int .i64 x, .int .i64 m] w fun e w' => e = .returned (.int .i64 (handPick x m)) ∧ w = w' := by
  have b1 : x.tmod m < m := Int.tmod_lt_of_pos _ hm
  have b2 : -m < x.tmod m := by
    have := Int.tmod_lt_of_pos (-x) hm
    rw [Int.neg_tmod] at this
    omega
  unfold handPick
  by_cases h0 : x.tmod m < 0
  · have d1 : decide (x.tmod m < 0) = true := by simpa using h0
    rw [if_pos h0]
    have b3 : (0 : Int) ≤ x.tmod m + m := by omega
    have b4 : x.tmod m + m < 1099511627776 := by omega
    go_enter Try.func6, Try.ntmps6
    go_wp2_with fail
    go_ret
    exact ⟨rfl, rfl⟩
  · have d1 : decide (x.tmod m < 0) = false := by simpa using h0
    rw [if_neg h0]
    go_enter Try.func6, Try.ntmps6
    go_wp2_with fail
    go_ret
    exact ⟨rfl, rfl⟩

/-- Bytes as cells. -/
def bts (l : List UInt8) : List Value := l.map fun b => .int .u8 (b.toNat : Int)
theorem bts_length (l : List UInt8) : (bts l).length = l.length := by simp [bts]
theorem bts_append (l m : List UInt8) : bts (l ++ m) = bts l ++ bts m := by simp [bts]
theorem bts_one (l : List UInt8) : ∀ u ∈ bts l, u.oneCell' = true := fun u hu => by obtain ⟨x, _, rfl⟩ := List.mem_map.1 hu; rfl
theorem bts_get {l : List UInt8} {k : Nat} {c : UInt8} (h : l[k]? = some c) : (bts l)[k]? = some (.int .u8 (c.toNat : Int)) := by
  rw [bts, List.getElem?_map, h]; rfl
theorem u8_lt (c : UInt8) : (c.toNat : Int) < 256 := by have := c.toNat_lt; omega

/-- mark.Sum. -/
def sumStep (h : Int) (c : UInt8) : Int := (h * 31 + (c.toNat : Int) * c.toNat + 7) % 4294967291
def sumB (l : List UInt8) : Int := l.foldl sumStep 1
theorem sumB_snoc (l : List UInt8) (c : UInt8) : sumB (l ++ [c]) = sumStep (sumB l) c := by simp [sumB]
theorem sumB_bounds (l : List UInt8) : 0 ≤ sumB l ∧ sumB l < 4294967291 := by
  rcases List.eq_nil_or_concat l with rfl | ⟨l, c, rfl⟩
  · decide
  · rw [List.concat_eq_append, sumB_snoc]
    unfold sumStep
    omega
theorem take_snoc {α : Type} {l : List α} {k : Nat} {c : α} (h : l[k]? = some c) : l.take (k + 1) = l.take k ++ [c] := by
  rw [List.take_add_one, h]; rfl

theorem or_i64_nat (a b : Nat) (ha : a < 4611686018427387904) (hb : b < 4611686018427387904) : bits .or .i64 (a : Int) (b : Int) = ((a ||| b : Nat) : Int) := by
  have hx : a ||| b < 2 ^ 62 := Nat.or_lt_two_pow (by omega) (by omega)
  have h1 : (BitVec.ofInt 64 (a : Int)).toNat = a := by
    rw [BitVec.ofInt_natCast, BitVec.toNat_ofNat]; exact Nat.mod_eq_of_lt (by omega)
  have h2 : (BitVec.ofInt 64 (b : Int)).toNat = b := by
    rw [BitVec.ofInt_natCast, BitVec.toNat_ofNat]; exact Nat.mod_eq_of_lt (by omega)
  show IntKind.i64.wrap ((BitVec.ofInt 64 (a : Int) ||| BitVec.ofInt 64 (b : Int)).toNat : Int) = _
  rw [BitVec.toNat_or, h1, h2]
  exact IntWalk.i64_in _ (by omega)
/-- Bytes put side by side. -/
theorem or_low (k : Nat) (s c : Nat) (hc : c < 2 ^ k) (hs : s * 2 ^ k < 4611686018427387904) (hk : k ≤ 60) : bits .or .i64 ((s * 2 ^ k : Nat) : Int) (c : Int) = ((s * 2 ^ k + c : Nat) : Int) := by
  have hp : 2 ^ k ≤ 2 ^ 60 := Nat.pow_le_pow_right (by decide) hk
  rw [or_i64_nat _ _ hs (by omega), Nat.mul_comm s, ← Nat.two_pow_add_eq_or_of_lt hc]

/-- chunk.number. -/
def numStep (n : Int) (c : UInt8) : Int := n * 256 + c.toNat
def numB (l : List UInt8) : Int := l.foldl numStep 0
theorem numB_snoc (l : List UInt8) (c : UInt8) : numB (l ++ [c]) = numB l * 256 + c.toNat := by simp [numB, numStep]
theorem numB_bounds (l : List UInt8) : ∀ n, l.length = n → 0 ≤ numB l ∧ numB l < 256 ^ n := by
  intro n
  induction n generalizing l with
  | zero => intro h; rw [List.eq_nil_of_length_eq_zero h]; decide
  | succ n ih =>
    intro h
    rcases List.eq_nil_or_concat l with rfl | ⟨m, c, rfl⟩
    · simp at h
    · rw [List.concat_eq_append] at h ⊢
      have h2 := ih m (by simpa using h)
      have h3 := u8_lt c
      rw [numB_snoc, Int.pow_succ]
      omega

end Go.Proofs.Ytekbbpfnkbanjaa.Ch

namespace Go.Proofs.Ytekbbpfnkbanjaa.Ch
set_option linter.unusedSimpArgs false
open Go Go.RowKit Go.Sl Go.BigFrame
set_option linter.unusedVariables false

theorem infoU8 : (Try.prog.info? 5).map (fun i => (i.zero, i.size, i.bytes)) = some (some (.int .u8 0), 1, 1) := by kernel_rfl
theorem RowA.slice {e : TypeId} {size n : Nat} {v : Value} {xs : List Value} {R : List Atom} (h : RowA e size v n xs R) : ∃ a c, v = .slice a n c := by
  rcases h.2 with ⟨h1, h2, _⟩ | ⟨g, off, cap, h1, _⟩
  · exact ⟨_, _, by rw [h1, h2]⟩
  · exact ⟨_, _, h1⟩
theorem RowA.short {e : TypeId} {size n : Nat} {v : Value} {xs : List Value} {R : List Atom} (h : RowA e size v n xs R) : R.length ≤ 1 := by
  rcases h.2 with ⟨_, _, rfl⟩ | ⟨_, _, _, _, _, _, rfl⟩ <;> simp
theorem sat_new {W w : World} {A G : List Atom} (hs : Sat W w (A ++ G)) {cs : Array Value} {T : TypeId} : Sat W (w.alloc (.cells cs T)) (A ++ (cellsA w.heap.size cs T :: G)) := (hs.newCells cs T).use (by intro x; simp only [cnt_append, cnt_cons, cnt_nil]; omega)
theorem reads_new (w : World) (cs : Array Value) (T : TypeId) (n c : Nat) (xs : List Value) (h : cs.toList = xs) : Reads (w.alloc (.cells cs T)) (.slice (some ⟨w.heap.size, 0, none⟩) n c) n xs := by
  refine .inr ⟨_, _, rfl, fun j u hu => ?_⟩
  rw [add_row, cell_at (heap_alloc_new w _) (0 + j)]
  rw [← h] at hu
  simpa using hu
section
variable {W w : World} {F L A : List Atom} {v sv : Value} {o : Oper} {a : Act} {K : Act → World → Prop} {Q : Exit → Act → World → Prop}
theorem wp_append_u8 {x y : Operand} (ho : o.op = .call { callee := .builtin .append, args := #[x, y], argTypes := #[32, 32] }) (l m : List UInt8) (hv : a.eval x = v) (hsv : a.eval y = sv)
    (hr : RowA 5 1 v l.length (bts l) A) (hs : Sat W w (A ++ F)) (hsrc : Reads w sv m.length (bts m)) (hb : l.length + m.length < 1000000)
    (h : ∀ v' w' A', RowA 5 1 v' (l ++ m).length (bts (l ++ m)) A' → Sat W w' (A' ++ F) → K (a.put o.dst v') w') : o.wp Try.prog a w K Q := by
  obtain ⟨i0, hi, hz0, hz1, hz2⟩ := info_parts infoU8
  obtain ⟨v2, w2, R2, hra, hrow, hs2⟩ := append_sl (P := Try.prog) o.type Try.underlying32 hi hz0 hz1 hz2 rfl (by decide) hr hs hsrc (by simp [bts]) (bts_one m) (by unfold maxLen; omega) (by omega)
  refine wp_append ho (by rw [hv, hsv]; exact hra) (h _ _ _ ?_ hs2)
  rw [List.length_append, bts_append]
  exact hrow
end

/-- A number's bytes, the highest first: so many, from the i-th on. -/
def byteAt (n : Int) (i : Nat) : UInt8 := UInt8.ofNat (n / 2 ^ (8 * i) % 256).toNat
theorem byteAt_val (n : Int) (i : Nat) : ((byteAt n i).toNat : Int) = n / 2 ^ (8 * i) % 256 := by
  have h1 : 0 ≤ n / 2 ^ (8 * i) % 256 := Int.emod_nonneg _ (by decide)
  have h2 : n / 2 ^ (8 * i) % 256 < 256 := Int.emod_lt_of_pos _ (by decide)
  unfold byteAt
  generalize n / 2 ^ (8 * i) % 256 = x at *
  simp
  omega
def bytesB (n : Int) : Nat → List UInt8
  | 0 => []
  | k + 1 => byteAt n k :: bytesB n k
theorem bytesB_length (n : Int) : ∀ k, (bytesB n k).length = k
  | 0 => rfl
  | k + 1 => by rw [bytesB, List.length_cons, bytesB_length n k]

end Go.Proofs.Ytekbbpfnkbanjaa.Ch

namespace Go.Proofs.Ytekbbpfnkbanjaa.Ch
set_option linter.unusedSimpArgs false
open Go Go.RowKit Go.Sl Go.BigFrame
set_option linter.unusedVariables false

theorem row_cell {W w : World} {e : TypeId} {g o len : Nat} {xs : List Value} {G : List Atom} (hs : Sat W w ([(g, rowP e o len xs)] ++ G)) (j : Nat) (u : Value) (hj : xs[j]? = some u) : w.cell? ⟨g, o + j, none⟩ = some u ∧ w.frozen? ⟨g, o + j, none⟩ = false := by
  obtain ⟨ob, ho, hp⟩ := hs.get (List.mem_append_left _ (List.mem_singleton.2 rfl))
  have hjl := (List.getElem?_eq_some_iff.1 hj).1
  obtain ⟨h1, h2⟩ := hp.cell ho j hjl
  exact ⟨by rw [h1, hj], h2⟩
/-- The state behind a byte; the byte. -/
def xNext (x : Int) : Int := IntKind.u64.wrap (IntKind.u64.wrap (x * 6364136223846793005) + 1442695040888963407)
def xByte (x : Int) : UInt8 := UInt8.ofNat (x / 72057594037927936 % 256).toNat
def xBytes (x : Int) : Nat → List UInt8
  | 0 => []
  | k + 1 => xByte (xNext x) :: xBytes (xNext x) k
theorem xByte_val (x : Int) : ((xByte x).toNat : Int) = x / 72057594037927936 % 256 := by
  have h1 : 0 ≤ x / 72057594037927936 % 256 := Int.emod_nonneg _ (by decide)
  have h2 : x / 72057594037927936 % 256 < 256 := Int.emod_lt_of_pos _ (by decide)
  unfold xByte
  generalize x / 72057594037927936 % 256 = y at *
  simp
  omega
theorem xBytes_length : ∀ (x : Int) (k : Nat), (xBytes x k).length = k
  | _, 0 => rfl
  | x, k + 1 => by rw [xBytes, List.length_cons, xBytes_length]
def xSeed (seed : Int) : Int := IntKind.u64.wrap (IntKind.u64.wrap (IntKind.u64.wrap seed * 2654435761) + 12345)
/-- corbelhand.Bytes. -/
def bytesOf (seed : Int) (n : Nat) : List UInt8 := if handPick seed 7 = 6 then List.replicate n 0 else xBytes (xSeed seed) n
theorem bytesOf_length (seed : Int) (n : Nat) : (bytesOf seed n).length = n := by
  unfold bytesOf
  split
  · simp
  · exact xBytes_length _ _

set_option maxRecDepth 100000 in
set_option maxHeartbeats 2000000 in
theorem bytes_of (seed : Int) (n : Nat) (W w : World) (L : List Atom) (hn : n ≤ 1000) (hs : Sat W w L) :
    Calls Try.prog 16 #[.int .i64 seed, .int .i64 n] w fun e w' => ∃ v R, e = .returned v ∧ RowA 5 1 v n (bts (bytesOf seed n)) R ∧ Sat W w' (R ++ L) := by
  obtain ⟨B, hB⟩ : ∃ B, B = bytesOf seed n := ⟨_, rfl⟩
  rw [← hB]
  obtain ⟨p1, p2⟩ := handPick_bounds seed 7 (by omega)
  have hmk : ∀ w : World, (Instr.makeSlice 32 (.int .i64 n) (.int .i64 n)).run Try.prog w = .ok (.slice (some ⟨w.heap.size, 0, none⟩) n n) (w.alloc (.cells (madeCells #[.int .u8 0] n) 5)) := run_make_row' (P := Try.prog) 32 5 (.int .u8 0) 1 (by kernel_rfl) (by kernel_rfl) rfl .i64 .i64 n (by omega) (by omega)
  go_enter Try.func16, Try.ntmps16
  go_wp2_with fail
  refine (hand_pick seed 7 _ (by omega) (by omega)).mono ?_; rintro r w4 ⟨rfl, rfl⟩
  have hrow : Sat W (w.alloc (.cells (madeCells #[.int .u8 0] n) 5)) ((w.heap.size, rowP 5 0 (n * 1) (bts (List.replicate n 0))) :: L) := by
    refine hs.new _ ⟨_, rfl, by simp [size_madeCells], by simp [bts], ?_⟩
    rw [List.drop_zero, toList_madeCells_one]
    simp [bts]
  clear hmk
  by_cases h6 : handPick seed 7 = 6
  · have hb : B = List.replicate n 0 := by rw [hB]; unfold bytesOf; rw [if_pos h6]
    clear hB
    subst hb
    rw [h6]
    clear h6
    go_wp2_with fail
    go_ret
    exact ⟨_, _, rfl, ⟨by simp [bts], .inr ⟨w.heap.size, 0, n, rfl, Nat.le_refl _, by unfold maxLen; omega, rfl⟩⟩, hrow⟩
  · have hb : B = xBytes (xSeed seed) n := by rw [hB]; unfold bytesOf; rw [if_neg h6]
    clear hB
    have hb' := Lib.hid hb
    clear hb
    generalize handPick seed 7 = p at *
    go_wp2_with fail
    rename_i hq K hK
    rw [hq]
    clear hq h6
    go_loopw [6, 7] (fun xv iv wr => ∃ (k : Nat) (x : Int) (d : List UInt8), k ≤ n ∧ iv = .int .i64 k ∧ xv = .int .u64 x ∧ d.length = k ∧ d ++ xBytes x (n - k) = B ∧ Sat W wr ((w.heap.size, rowP 5 0 (n * 1) (bts (d ++ List.replicate (n - k) 0))) :: L)) (fun _ iv _ => (n - (intOf iv).toNat))
    case atStart => exact ⟨0, xSeed seed, [], Nat.zero_le _, rfl, rfl, rfl, by rw [Nat.sub_zero, hb'.out]; rfl, by simpa using hrow⟩
    case round =>
      obtain ⟨k, x, d, hk, rfl, rfl, hd, hB, hw⟩ := ‹_›
      by_cases hkn : k < n
      · obtain ⟨m, hm⟩ : ∃ m, n - k = m + 1 := ⟨n - k - 1, by omega⟩
        have hm' : n - (k + 1) = m := by omega
        rw [hm] at hB hw
        rw [xBytes] at hB
        have hlen : (bts (d ++ List.replicate (m + 1) 0)).length = n := by simp [bts, hd]; omega
        obtain ⟨c1, c2⟩ := row_cell (G := L) hw k _ (List.getElem?_eq_getElem (by omega))
        rw [Nat.zero_add] at c1 c2
        have hst := row_store hw k (by omega) (.int .u8 (xNext x / 72057594037927936 % 256))
        rw [Nat.zero_add] at hst
        have hset : (bts (d ++ List.replicate (m + 1) 0)).set k (.int .u8 (xNext x / 72057594037927936 % 256)) = bts ((d ++ [xByte (xNext x)]) ++ List.replicate m 0) := by
          rw [← xByte_val, List.replicate_succ, ← hd]
          simp [bts, List.map_append, List.set_append]
        rw [hset] at hst
        have HS := Lib.hid hst
        have HB := Lib.hid hB
        have d1 : (k : Int) < n := by omega
        clear hst hset hB
        go_wp2_with fail
        refine ⟨?_, ?_⟩
        · refine ⟨k + 1, xNext x, d ++ [xByte (xNext x)], by omega, by push_cast; rfl, rfl, by simp [hd], by rw [hm', List.append_assoc]; exact HB.out, ?_⟩
          rw [hm']
          exact HS.out
        · simp only [intOf]
          omega
      · have hkn' : k = n := by omega
        subst hkn'
        go_wp2_with fail
        go_ret
        rw [Nat.sub_self] at hB hw
        simp only [xBytes, List.append_nil, List.replicate_zero] at hB hw
        subst hB
        exact ⟨_, _, rfl, ⟨by simpa [bts] using hd, .inr ⟨w.heap.size, 0, k, rfl, Nat.le_refl _, by unfold maxLen; omega, rfl⟩⟩, hw⟩
end Go.Proofs.Ytekbbpfnkbanjaa.Ch

namespace Go.Proofs.Ytekbbpfnkbanjaa.Ch
set_option linter.unusedSimpArgs false
open Go Go.RowKit Go.Sl Go.BigFrame
set_option linter.unusedVariables false

/-- The head of a block: kind, length, body, nothing. -/
def headB (kind : Int) (body : List UInt8) : List UInt8 :=
  byteAt kind 0 :: byteAt body.length 1 :: byteAt body.length 0 :: (body ++ List.replicate (153 - body.length) 0)
theorem headB_length (kind : Int) (body : List UInt8) (h : body.length ≤ 153) : (headB kind body).length = 156 := by
  simp [headB]; omega
/-- mark.Seal. -/
def sealB (kind : Int) (body : List UInt8) : List UInt8 := headB kind body ++ bytesB (sumB (headB kind body)) 4
theorem sealB_length (kind : Int) (body : List UInt8) (h : body.length ≤ 153) : (sealB kind body).length = 160 := by
  rw [sealB, List.length_append, headB_length _ _ h, bytesB_length]

/-- A row's cells written over from one place on. -/
theorem splice_mid {α : Type} (C : List α) (o j k : Nat) (xs ys : List α) (h : (C.drop o).take xs.length = xs) (hk : ys.length = k) (hj : j + k ≤ xs.length) (hC : o + xs.length ≤ C.length) :
    ((C.take (o + j) ++ ys ++ C.drop (o + j + k)).drop o).take xs.length = xs.take j ++ ys ++ xs.drop (j + k) := by
  apply List.ext_getElem?
  intro i
  have hx : ∀ i, i < xs.length → C[o + i]? = xs[i]? := fun i hi => by
    have := congrArg (fun l => l[i]?) h
    simpa [hi] using this
  have e1 : min (o + j) C.length = o + j := by omega
  have e2 : min j xs.length = j := by omega
  simp only [List.getElem?_take, List.getElem?_drop, List.getElem?_append, List.length_take, List.length_append, e1, e2, hk]
  by_cases h1 : i < xs.length
  · rw [if_pos h1]
    by_cases h2 : i < j
    · rw [if_pos (by omega), if_pos (by omega), if_pos (by omega), if_pos (by omega), if_pos (by omega), if_pos h2, hx i h1]
    · by_cases h3 : i < j + k
      · rw [if_pos (by omega), if_neg (by omega), if_pos (by omega), if_neg (by omega)]
        congr 1; omega
      · rw [if_neg (by omega), if_neg (by omega), ← hx _ (by omega)]
        congr 1; omega
  · rw [if_neg h1, if_neg (by omega)]
    exact (List.getElem?_eq_none (by omega)).symm
theorem row_splice {W w : World} {g : Nat} {e : TypeId} {off len : Nat} {xs : List Value} {F : List Atom} (hs : Sat W w ((g, rowP e off len xs) :: F)) (j : Nat) (ys : List Value) (hj : j + ys.length ≤ xs.length) :
    ∃ cur, w.heap[g]? = some (.cells cur e (0, 0)) ∧ off + xs.length ≤ cur.size ∧
      Sat W (w.setRow g (cur.toList.take (off + j) ++ ys ++ cur.toList.drop (off + j + ys.length)).toArray) ((g, rowP e off len (xs.take j ++ ys ++ xs.drop (j + ys.length))) :: F) := by
  obtain ⟨o, ho, cur, rfl, h1, h2, h3⟩ := hs.head
  refine ⟨cur, ho, by omega, ?_⟩
  have hl : (xs.take j ++ ys ++ xs.drop (j + ys.length)).length = xs.length := by simp; omega
  refine hs.turn ⟨rfl, rfl, rfl, by simp [World.setRow]⟩ (fun k _ hk => setRow_other w g k _ hk) ⟨_, setRow_heap w g cur _ e _ ho, _, rfl, ?_, by rw [hl]; exact h2, ?_⟩
  · simp; omega
  · rw [hl]
    exact splice_mid _ _ _ _ _ _ h3 rfl hj (by simp; omega)
theorem run_copy_any {P : Program} {W w : World} {g : Nat} {e : TypeId} {off len : Nat} {xs : List Value} {F : List Atom} (hs : Sat W w ((g, rowP e off len xs) :: F)) (dT sT ty elem : TypeId) (hu : P.underlying dT = some (.slice elem)) (hz : (P.info? elem).map (·.size) = some 1)
    (j : Nat) (ys : List Value) (m : Nat) (hm : ys.length = m) (hj : j + m ≤ xs.length) (sv : Value) (hr : Reads w sv m ys) (h1 : ∀ v ∈ ys, v.oneCell' = true) (dLen dCap : Nat) (hd : m ≤ dLen) :
    ∃ w', (Builtin.copy_ #[dT, sT] ty #[.slice (some ⟨g, off + j, none⟩) dLen dCap, sv]).run P w = .ok (goInt m) w' ∧ Sat W w' ((g, rowP e off len (xs.take j ++ ys ++ xs.drop (j + m))) :: F) := by
  subst hm
  rcases hr with ⟨rfl, h2, h3⟩ | ⟨a, c, rfl, hc⟩
  · subst h3
    refine ⟨w, run_copy_nil P w dT sT ty elem _ dLen dCap hu (by cases h : P.info? elem <;> simp_all), ?_⟩
    simpa using hs
  · obtain ⟨cur, hg, hsz, hs2⟩ := row_splice hs j ys hj
    exact ⟨_, run_copy_row P w dT sT ty elem g (off + j) dLen dCap a ys.length c cur e ys hu hz hg (by simp [Nat.min_eq_left hd]) hc (by omega) h1, hs2⟩

theorem infoU8s : (Try.prog.info? 5).map (·.size) = some 1 := by kernel_rfl
theorem wp_copy_u8 {W w : World} {F : List Atom} {o : Oper} {a : Act} {K : Act → World → Prop} {Q : Exit → Act → World → Prop} {x y : Operand} {g off len : Nat} {xs : List Value} {sv : Value} (ho : o.op = .call { callee := .builtin .copy, args := #[x, y], argTypes := #[32, 32] })
    (hs : Sat W w ((g, rowP 5 off len xs) :: F)) (j : Nat) (m : List UInt8) (dLen dCap : Nat) (hx : a.eval x = .slice (some ⟨g, off + j, none⟩) dLen dCap) (hy : a.eval y = sv) (hj : j + m.length ≤ xs.length) (hr : Reads w sv m.length (bts m)) (hd : m.length ≤ dLen)
    (h : ∀ w', Sat W w' ((g, rowP 5 off len (xs.take j ++ bts m ++ xs.drop (j + m.length))) :: F) → K (a.put o.dst (goInt m.length)) w') : o.wp Try.prog a w K Q := by
  obtain ⟨w', h1, h2⟩ := run_copy_any (P := Try.prog) hs 32 32 o.type 5 Try.underlying32 infoU8s j (bts m) m.length (bts_length m) hj sv hr (bts_one m) dLen dCap hd
  exact wp_copy ho (by rw [hx, hy]; exact h1) (h _ h2)

theorem head_cat (a b c : UInt8) (m : List UInt8) (n : Nat) : (bts (a :: b :: c :: List.replicate n 0)).take 3 ++ bts m ++ (bts (a :: b :: c :: List.replicate n 0)).drop (3 + m.length) = bts (a :: b :: c :: (m ++ List.replicate (n - m.length) 0)) := by
  rw [Nat.add_comm 3]
  simp [bts]
end Go.Proofs.Ytekbbpfnkbanjaa.Ch

namespace Go.Proofs.Ytekbbpfnkbanjaa.Ch
set_option linter.unusedSimpArgs false
open Go Go.RowKit Go.Sl Go.BigFrame
set_option linter.unusedVariables false

theorem none_row (n : Nat) : RowA 5 1 (.slice (some ⟨n, 0, none⟩) 0 0) ([] : List UInt8).length (bts []) [(n, rowP 5 0 (0 * 1) [])] :=
  ⟨rfl, .inr ⟨_, _, _, rfl, Nat.le_refl _, Nat.zero_le _, rfl⟩⟩
theorem none_sat {W w : World} {L : List Atom} (hs : Sat W w L) : Sat W (w.alloc (.cells #[] 5)) ([(w.heap.size, rowP 5 0 (0 * 1) [])] ++ L) :=
  hs.new (.cells #[] 5) ⟨#[], rfl, by simp, by simp, by simp⟩

set_option maxRecDepth 100000 in
set_option maxHeartbeats 2000000 in
theorem clone_any (v : Value) (l : List UInt8) (W w : World) (L : List Atom) (hr : Reads w v l.length (bts l)) (hl : l.length < 1000000) (hs : Sat W w L) :
    Calls Try.prog 15 #[v] w fun e w' => ∃ v' R, e = .returned v' ∧ RowA 5 1 v' l.length (bts l) R ∧ Sat W w' (R ++ L) := by
  have q32 : ∀ (w : World) (a : Option Addr) (n c n' c' : Nat), (binOp .eql 32 (.slice a n c) (.slice none n' c')).run Try.prog w = .ok (.bool a.isNone) w := fun w a n c n' c' => Go.Lib.run_eql_slice_nil w _ _ a n c n' c' Try.underlying32
  rcases hr with ⟨rfl, h2, h3⟩ | ⟨a, c, rfl, hc⟩
  · have : l = [] := List.length_eq_zero_iff.1 h2
    subst this
    go_enter Try.func15, Try.ntmps15
    go_wp2_with fail
    go_ret
    exact ⟨_, _, rfl, RowA.nil _ _, hs⟩
  · have hr : Reads w (.slice (some a) l.length c) l.length (bts l) := .inr ⟨_, _, rfl, hc⟩
    have hr0 := hr.grown ((Below.refl _ w).alloc (Nat.le_refl _) (.cells #[] 5))
    clear hc hr
    go_enter Try.func15, Try.ntmps15
    go_wp2_with (at_builtin; refine wpList_plain rfl (fun K hK => ?_); refine wp_append_u8 rfl [] l rfl rfl (none_row _) (none_sat hs) hr0 (by simp; omega) (fun v2 w3 R2 hr2 hs3 => ?_); refine hK _ _ ?_; simp only [Act.put, List.setIfInBounds_toArray, List.set_cons_zero, List.set_cons_succ]; clear hK)
    go_ret
    exact ⟨v2, R2, rfl, hr2, hs3⟩
end Go.Proofs.Ytekbbpfnkbanjaa.Ch

namespace Go.Proofs.Ytekbbpfnkbanjaa.Ch
set_option linter.unusedSimpArgs false
open Go Go.RowKit Go.Sl Go.BigFrame
set_option linter.unusedVariables false

end Go.Proofs.Ytekbbpfnkbanjaa.Ch

namespace Go.Proofs.Ytekbbpfnkbanjaa.Ch
set_option linter.unusedSimpArgs false
open Go Go.RowKit Go.Sl Go.BigFrame
set_option linter.unusedVariables false

/-- What mark.Open tells: kind, body, error. -/
def openB (b : List UInt8) : Int × List UInt8 × Int :=
  if b.length ≠ 160 then (0, [], 2)
  else if sumB (b.take 156) ≠ numB (b.drop 156) then (0, [], 3)
  else
    let kind : Int := (b.getD 0 0).toNat
    let n := min ((b.getD 1 0).toNat * 256 + (b.getD 2 0).toNat) 153
    let body := (b.drop 3).take n
    if kind < 1 ∨ sealB kind body ≠ b then (0, [], 2) else (kind, body, 0)

/-- A slice's reads, cut. -/
theorem reads_cut {w : World} {a : Option Addr} {n c : Nat} {l : List UInt8} (h : Reads w (.slice a n c) l.length (bts l)) (m : Nat) (hm : m ≤ l.length) (c' : Nat) : Reads w (.slice a m c') (l.take m).length (bts (l.take m)) ∨ a = none := by
  rcases h with ⟨h1, h2, h3⟩ | ⟨a', c2, h1, h2⟩
  · cases h1
    exact .inr rfl
  · cases h1
    refine .inl (.inr ⟨a', c', by rw [List.length_take, Nat.min_eq_left hm], fun j u hu => h2 j u ?_⟩)
    rw [bts, List.map_take, List.getElem?_take] at hu
    split at hu
    · exact hu
    · exact absurd hu (by simp)


theorem or_lit (k s c K : Nat) (hK : 2 ^ k = K) (hc : c < K) (hs : s * K < 4611686018427387904) (hk : k ≤ 60) : bits .or .i64 ((s * K : Nat) : Int) (c : Int) = ((s * K + c : Nat) : Int) := by
  subst hK
  exact or_low k s c hc hs hk

/-- Four bytes, the highest first, put together. -/
theorem or4 (c0 c1 c2 c3 : UInt8) : bits .or .i64 (bits .or .i64 (bits .or .i64 ((c0.toNat : Int) * 16777216) ((c1.toNat : Int) * 65536)) ((c2.toNat : Int) * 256)) (c3.toNat : Int) = numB [c0, c1, c2, c3] := by
  have h0 : c0.toNat < 256 := c0.toNat_lt
  have h1 : c1.toNat < 256 := c1.toNat_lt
  have h2 : c2.toNat < 256 := c2.toNat_lt
  have h3 : c3.toNat < 256 := c3.toNat_lt
  have e : numB [c0, c1, c2, c3] = ((((c0.toNat * 256 + c1.toNat) * 256 + c2.toNat) * 256 + c3.toNat : Nat) : Int) := by
    simp [numB, numStep]
  rw [e]
  generalize c0.toNat = x0 at *
  generalize c1.toNat = x1 at *
  generalize c2.toNat = x2 at *
  generalize c3.toNat = x3 at *
  clear e
  have a1 := or_lit 24 x0 (x1 * 65536) 16777216 (by decide) (by omega) (by omega) (by omega)
  have a2 := or_lit 16 (x0 * 256 + x1) (x2 * 256) 65536 (by decide) (by omega) (by omega) (by omega)
  have a3 := or_lit 8 ((x0 * 256 + x1) * 256 + x2) x3 256 (by decide) (by omega) (by omega) (by omega)
  have b1 : ((x0 * 16777216 : Nat) : Int) = (x0 : Int) * 16777216 := Int.natCast_mul _ _
  have b2 : ((x1 * 65536 : Nat) : Int) = (x1 : Int) * 65536 := Int.natCast_mul _ _
  have b3 : ((x2 * 256 : Nat) : Int) = (x2 : Int) * 256 := Int.natCast_mul _ _
  rw [← b1, ← b2, ← b3, a1, show x0 * 16777216 + x1 * 65536 = (x0 * 256 + x1) * 65536 by omega, a2, show (x0 * 256 + x1) * 65536 + x2 * 256 = ((x0 * 256 + x1) * 256 + x2) * 256 by omega, a3]

end Go.Proofs.Ytekbbpfnkbanjaa.Ch

namespace Go.Proofs.Ytekbbpfnkbanjaa.Ch
set_option linter.unusedSimpArgs false
open Go Go.RowKit Go.Sl Go.BigFrame
set_option linter.unusedVariables false

theorem drop_four {b : List UInt8} (h : b.length = 160) {c0 c1 c2 c3 : UInt8} (h0 : b[156]? = some c0) (h1 : b[157]? = some c1) (h2 : b[158]? = some c2) (h3 : b[159]? = some c3) : b.drop 156 = [c0, c1, c2, c3] := by
  apply List.ext_getElem?
  intro i
  rw [List.getElem?_drop]
  rcases i with _ | _ | _ | _ | i
  · simpa using h0
  · simpa using h1
  · simpa using h2
  · simpa using h3
  · rw [List.getElem?_eq_none (by omega)]; simp
theorem getD_of {b : List UInt8} {k : Nat} {c : UInt8} (h : b[k]? = some c) : b.getD k 0 = c := by simp [List.getD, h]

theorem or2 (k1 k2 : UInt8) : bits .or .i64 ((k1.toNat : Int) * 256) (k2.toNat : Int) = ((k1.toNat * 256 + k2.toNat : Nat) : Int) := by
  have h1 : k1.toNat < 256 := k1.toNat_lt
  have h2 : k2.toNat < 256 := k2.toNat_lt
  have a := or_low 8 k1.toNat k2.toNat (by omega) (by omega) (by omega)
  rw [← a]
  congr 1

theorem reads_sub {w : World} {a a' : Addr} {l : List UInt8} (h : ∀ k u, l[k]? = some u → w.cell? (a.add k) = some (.int .u8 (u.toNat : Int))) (i m c : Nat) (hi : i + m ≤ l.length) (ha : ∀ j, a'.add j = a.add (i + j)) : Reads w (.slice (some a') m c) ((l.drop i).take m).length (bts ((l.drop i).take m)) := by
  have hlen : ((l.drop i).take m).length = m := by simp; omega
  refine .inr ⟨a', c, by rw [hlen], fun j u hu => ?_⟩
  rw [bts, List.getElem?_map] at hu
  obtain ⟨x, hx, rfl⟩ := Option.map_eq_some_iff.1 hu
  rw [List.getElem?_take] at hx
  split at hx
  · rw [List.getElem?_drop] at hx
    rw [ha j]
    exact h _ _ hx
  · cases hx
theorem add_three (g o : Nat) (sp : Option Nat) (j : Nat) : (⟨g, o + 3, none⟩ : Addr).add j = (⟨g, o, sp⟩ : Addr).add (3 + j) := by
  rw [add_row]
  unfold Addr.add
  rw [if_neg (by omega), Nat.add_assoc]

end Go.Proofs.Ytekbbpfnkbanjaa.Ch

namespace Go.Proofs.Ytekbbpfnkbanjaa.Ch
set_option linter.unusedSimpArgs false
open Go Go.RowKit Go.Sl Go.BigFrame
set_option linter.unusedVariables false

theorem append_none {W w : World} {L : List Atom} (ty : TypeId) (n : Nat) (h0 : 0 < n) (hn : n < 1000000) (hs : Sat W w L) :
    ∃ g c w', (Builtin.append_ #[32, 3] ty #[.slice none 0 0, .int .i64 n]).run Try.prog w = .ok (.slice (some ⟨g, 0, none⟩) n c) w' ∧ 0 ≤ c ∧ c ≤ maxLen ∧ Sat W w' ([(g, rowP 5 0 (c * 1) [])] ++ L) := by
  obtain ⟨i0, hi, hz0, hz1, hz2⟩ := info_parts infoU8
  have hr := Lib.run_append_nil_zeros (P := Try.prog) w 32 3 ty 5 i0 (.int .u8 0) .i64 .i64 Try.underlying32 Try.underlying3 hi hz0 n h0 (by rw [hz1]; decide) (by omega) (by rw [hz2]; omega)
  have hge := grownCap_ge w n 0 5
  have hcm : grownCap w n 0 5 ≤ maxLen := grownCap_le_maxLen w n 0 5 (by unfold maxLen; omega)
  refine ⟨_, _, _, hr, Nat.zero_le _, hcm, hs.drew.new _ ⟨_, rfl, ?_, by simp, by simp⟩⟩
  have e : (Value.int .u8 0).cells.size = 1 := rfl
  simp only [Array.size_append, size_zeroCells, e]
  omega

/-- Values that are slices of bytes, each as it reads. -/
def Vals (y : World) : List Value → List (List UInt8) → Prop
  | [], [] => True
  | v :: vs, l :: ls => Reads y v l.length (bts l) ∧ Vals y vs ls
  | _, _ => False
theorem Vals.at {y : World} : ∀ {vs : List Value} {ls : List (List UInt8)}, Vals y vs ls → ∀ (k : Nat) (v : Value), vs[k]? = some v → ∃ l, ls[k]? = some l ∧ Reads y v l.length (bts l)
  | [], [], _, k, v, h => by simp at h
  | w :: vs, l :: ls, h, 0, v, hv => by
    simp at hv
    subst hv
    exact ⟨l, rfl, h.1⟩
  | w :: vs, l :: ls, h, k + 1, v, hv => by
    obtain ⟨l', h1, h2⟩ := Vals.at h.2 k v (by simpa using hv)
    exact ⟨l', by simpa using h1, h2⟩
  | [], _ :: _, h, _, _, _ => h.elim
  | _ :: _, [], h, _, _, _ => h.elim
theorem Vals.len {y : World} : ∀ {vs : List Value} {ls : List (List UInt8)}, Vals y vs ls → vs.length = ls.length
  | [], [], _ => rfl
  | _ :: vs, _ :: ls, h => by simp [Vals.len h.2]
  | [], _ :: _, h => h.elim
  | _ :: _, [], h => h.elim
theorem reads_shape {w : World} {v : Value} {n : Nat} {xs : List Value} (h : Reads w v n xs) : ∃ a c, v = .slice a n c := by
  rcases h with ⟨h1, h2, _⟩ | ⟨a, c, h1, _⟩
  · exact ⟨_, _, by rw [h1, h2]⟩
  · exact ⟨_, _, h1⟩
theorem flat_take_snoc {ls : List (List UInt8)} {k : Nat} {l : List UInt8} (h : ls[k]? = some l) : (ls.take (k + 1)).flatten = (ls.take k).flatten ++ l := by
  rw [take_snoc h]; simp
theorem flat_take_le (ls : List (List UInt8)) (k : Nat) : (ls.take k).flatten.length ≤ ls.flatten.length := by
  have : ls.flatten.length = (ls.take k).flatten.length + (ls.drop k).flatten.length := by
    rw [← List.length_append, ← List.flatten_append, List.take_append_drop]
  omega

end Go.Proofs.Ytekbbpfnkbanjaa.Ch
