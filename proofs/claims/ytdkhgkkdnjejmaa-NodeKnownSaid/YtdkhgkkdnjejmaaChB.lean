/-
  Chapter 8's bytes: a number as bytes; appends of bytes; Bytes.
-/
import Derived.Test.YtdkhgkkdnjejmaaChA
namespace Go.Proofs.Ytdkhgkkdnjejmaa.Ch
set_option linter.unusedSimpArgs false
open Go Go.RowKit Go.Sl Go.BigFrame
set_option linter.unusedVariables false

theorem infoU8 : (Try.prog.info? 5).map (fun i => (i.zero, i.size, i.bytes)) = some (some (.int .u8 0), 1, 1) := by kernel_rfl
theorem RowA.slice {e : TypeId} {size n : Nat} {v : Value} {xs : List Value} {R : List Atom} (h : RowA e size v n xs R) : ∃ a c, v = .slice a n c := by
  rcases h.2 with ⟨h1, h2, _⟩ | ⟨g, off, cap, h1, _⟩
  · exact ⟨_, _, by rw [h1, h2]⟩
  · exact ⟨_, _, h1⟩
theorem RowA.short {e : TypeId} {size n : Nat} {v : Value} {xs : List Value} {R : List Atom} (h : RowA e size v n xs R) : R.length ≤ 1 := by
  rcases h.2 with ⟨_, _, rfl⟩ | ⟨_, _, _, _, _, _, rfl⟩ <;> simp
theorem sat_new {W w : World} {A G : List Atom} (hs : Sat W w (A ++ G)) {cs : Array Value} {T : TypeId} : Sat W (w.alloc (.cells cs T)) (A ++ (cellsA w.heap.size cs T :: G)) := (hs.newCells cs T).use (by intro x; simp only [cnt_append, cnt_cons, cnt_nil]; omega)
theorem reads_new (w : World) (cs : Array Value) (T : TypeId) (n c : Nat) (xs : List Value) (h : cs.toList = xs) : Reads (w.alloc (.cells cs T)) (.slice (some ⟨w.heap.size, 0, none⟩) n c) n xs := by
  refine .inr ⟨_, _, rfl, fun j u hu => ?_⟩
  rw [add_row, cell_at (heap_alloc_new w _) (0 + j)]
  rw [← h] at hu
  simpa using hu
section
variable {W w : World} {F L A : List Atom} {v sv : Value} {o : Oper} {a : Act} {K : Act → World → Prop} {Q : Exit → Act → World → Prop}
theorem wp_append_u8 {x y : Operand} (ho : o.op = .call { callee := .builtin .append, args := #[x, y], argTypes := #[32, 32] }) (l m : List UInt8) (hv : a.eval x = v) (hsv : a.eval y = sv)
    (hr : RowA 5 1 v l.length (bts l) A) (hs : Sat W w (A ++ F)) (hsrc : Reads w sv m.length (bts m)) (hb : l.length + m.length < 1000000)
    (h : ∀ v' w' A', RowA 5 1 v' (l ++ m).length (bts (l ++ m)) A' → Sat W w' (A' ++ F) → K (a.put o.dst v') w') : o.wp Try.prog a w K Q := by
  obtain ⟨i0, hi, hz0, hz1, hz2⟩ := info_parts infoU8
  obtain ⟨v2, w2, R2, hra, hrow, hs2⟩ := append_sl (P := Try.prog) o.type Try.underlying32 hi hz0 hz1 hz2 rfl (by decide) hr hs hsrc (by simp [bts]) (bts_one m) (by unfold maxLen; omega) (by omega)
  refine wp_append ho (by rw [hv, hsv]; exact hra) (h _ _ _ ?_ hs2)
  rw [List.length_append, bts_append]
  exact hrow
end

/-- A number's bytes, the highest first: so many, from the i-th on. -/
def byteAt (n : Int) (i : Nat) : UInt8 := UInt8.ofNat (n / 2 ^ (8 * i) % 256).toNat
theorem byteAt_val (n : Int) (i : Nat) : ((byteAt n i).toNat : Int) = n / 2 ^ (8 * i) % 256 := by
  have h1 : 0 ≤ n / 2 ^ (8 * i) % 256 := Int.emod_nonneg _ (by decide)
  have h2 : n / 2 ^ (8 * i) % 256 < 256 := Int.emod_lt_of_pos _ (by decide)
  unfold byteAt
  generalize n / 2 ^ (8 * i) % 256 = x at *
  simp
  omega
def bytesB (n : Int) : Nat → List UInt8
  | 0 => []
  | k + 1 => byteAt n k :: bytesB n k
theorem bytesB_length (n : Int) : ∀ k, (bytesB n k).length = k
  | 0 => rfl
  | k + 1 => by rw [bytesB, List.length_cons, bytesB_length n k]

set_option maxRecDepth 100000 in
set_option maxHeartbeats 2000000 in
theorem bytes_any (n : Int) (size : Nat) (W w : World) (L : List Atom) (hn : 0 ≤ n) (hn2 : n < 9223372036854775808) (hsz : size ≤ 8) (hs : Sat W w L) :
    Calls Try.prog 68 #[.int .i64 n, .int .i64 size] w fun e w' => ∃ v R, e = .returned v ∧ RowA 5 1 v (bytesB n size).length (bts (bytesB n size)) R ∧ Sat W w' (R ++ L) := by
  have s0 : (0 : Int) ≤ size := by omega
  have s1 : (size : Int) ≤ 8 := by omega
  go_enter Try.func68, Try.ntmps68
  go_wp2_with fail
  go_loopw [5, 6] (fun ov iv wr => ∃ (k : Nat) (l : List UInt8) (R : List Atom), k ≤ size ∧ iv = .int .i64 ((k : Int) - 1) ∧ l ++ bytesB n k = bytesB n size ∧ RowA 5 1 ov l.length (bts l) R ∧ Sat W wr (R ++ L)) (fun _ iv _ => (intOf iv + 1).toNat)
  case atStart => exact ⟨size, [], [], Nat.le_refl _, rfl, rfl, RowA.nil _ _, hs⟩
  case round =>
    clear hs
    obtain ⟨k, l, R, hk, rfl, hl, hr, hs⟩ := hrel
    have HL := Lib.hid hl
    have hll : l.length ≤ 8 := by
      have h := congrArg List.length hl
      rw [List.length_append, bytesB_length, bytesB_length] at h
      omega
    clear hl
    obtain ⟨aL, cL, rfl⟩ := Ch.RowA.slice hr
    cases k with
    | zero =>
      go_wp2_with fail
      go_ret
      have h := HL.out
      rw [bytesB, List.append_nil] at h
      exact ⟨_, R, rfl, by rw [← h]; exact hr, hs⟩
    | succ k =>
      have e1 : (((k + 1 : Nat) : Int) - 1) = k := by omega
      rw [e1]
      have k0 : (0 : Int) ≤ k := by omega
      have k1 : (k : Int) ≤ 7 := by omega
      go_wp2_with (at_builtin; refine wpList_plain rfl (fun K hK => ?_); refine wp_append_u8 rfl l [byteAt n k] rfl rfl hr (sat_new hs) (reads_new wr _ _ _ _ _ (by simp [bts, byteAt_val])) (by simp <;> omega) (fun v2 w2 R2 hr2 hs2 => ?_); refine hK _ _ ?_; simp only [Act.put, List.setIfInBounds_toArray, List.set_cons_zero, List.set_cons_succ]; clear hK)
      refine ⟨⟨k, l ++ [byteAt n k], R2, by omega, rfl, ?_, hr2, hs2.use (by intro x; simp only [cnt_append, cnt_cons, cnt_nil]; omega)⟩, ?_⟩
      · rw [← HL.out, bytesB, List.append_assoc]; rfl
      · simp [intOf]
end Go.Proofs.Ytdkhgkkdnjejmaa.Ch
