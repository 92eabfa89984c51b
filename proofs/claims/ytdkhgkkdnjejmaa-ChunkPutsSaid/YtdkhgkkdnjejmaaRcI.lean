/-
  hand.Few; the readers at a slice of any length.
-/
import Derived.Test.YtdkhgkkdnjejmaaRcH
namespace Go.Proofs.Ytdkhgkkdnjejmaa.Ch
set_option linter.unusedSimpArgs false
open Go Go.RowKit Go.Sl Go.BigFrame
set_option linter.unusedVariables false

section
variable {o : Oper} {a : Act} {Q : Exit → Act → World → Prop} {K : Act → World → Prop} {W w : World} {A F : List Atom} {v sv : Value}
/-- append at bytes, to the room of an argument. -/
theorem wp_append_u8L {x y : Operand} (ho : o.op = .call { callee := .builtin .append, args := #[x, y], argTypes := #[32, 32] }) (l m : List UInt8) (hv : a.eval x = v) (hsv : a.eval y = sv)
    (hr : RowA 5 1 v l.length (bts l) A) (hs : Sat W w (A ++ F)) (hsrc : Reads w sv m.length (bts m)) (hb : l.length + m.length ≤ 140737488355328)
    (h : ∀ v' w' A', RowA 5 1 v' (l ++ m).length (bts (l ++ m)) A' → Sat W w' (A' ++ F) → K (a.put o.dst v') w') : o.wp Try.prog a w K Q := by
  obtain ⟨i0, hi, hz0, hz1, hz2⟩ := info_parts infoU8
  obtain ⟨v2, w2, R2, hra, hrow, hs2⟩ := append_sl (P := Try.prog) o.type Try.underlying32 hi hz0 hz1 hz2 rfl (by decide) hr hs hsrc (by simp [bts]) (bts_one m) (by unfold maxLen; omega) (by omega)
  refine wp_append ho (by rw [hv, hsv]; exact hra) (h _ _ _ ?_ hs2)
  rw [List.length_append, bts_append]
  exact hrow
end

set_option maxRecDepth 100000 in
set_option maxHeartbeats 2000000 in
theorem few_any (v : Value) (l : List UInt8) (W w : World) (L : List Atom) (hs : Sat W w L) (hin : ∀ y, Below w.heap.size w y → Reads y v l.length (bts l)) (hl : l.length ≤ 140737488355328) (hcap : ∀ a n c, v = .slice a n c → n ≤ c) :
    Calls Try.prog 38 #[v, .int .i64 l.length] w fun e w' => ∃ v' R, e = .returned v' ∧ RowA 5 1 v' l.length (bts l) R ∧ Sat W w' (R ++ L) := by
  have hr0 := hin _ ((Below.refl _ w).alloc (Nat.le_refl _) (.cells #[] 5))
  clear hin
  rcases hr0 with ⟨rfl, h2, h3⟩ | ⟨a, c, rfl, hc⟩
  · obtain rfl : l = [] := List.length_eq_zero_iff.1 h2
    have hr0 : Reads (w.alloc (.cells #[] 5)) (.slice none 0 0) ([] : List UInt8).length (bts []) := .inl ⟨rfl, rfl, rfl⟩
    clear hcap h2 h3
    go_enter Try.func38, Try.ntmps38
    go_wp2_with (at_builtin; go_loud (refine wpList_plain rfl (fun K hK => ?_); refine wp_append_u8L rfl [] [] rfl rfl (none_row _) (none_sat hs) (hr0) (by simp; try exact hl) (fun v2 w3 R2 hr2 hs3 => ?_); refine hK _ _ ?_; simp only [Act.put, List.setIfInBounds_toArray, List.set_cons_zero, List.set_cons_succ]; clear hK))
    go_ret
    first | exact ⟨v2, R2, rfl, hr2, hs3⟩ | exact ⟨v2, rfl, R2, hr2, hs3⟩
  · have hr0 : Reads (w.alloc (.cells #[] 5)) (.slice (some a) l.length c) l.length (bts l) := .inr ⟨_, _, rfl, hc⟩
    have hlc : l.length ≤ c := hcap _ _ _ rfl
    have hlc2 : (l.length : Int) ≤ c := by omega
    have hlt : ¬ (l.length : Int) < l.length := by omega
    have h0 : (0 : Int) ≤ l.length := by omega
    clear hc hcap
    go_enter Try.func38, Try.ntmps38
    go_wp2_with (at_builtin; go_loud (refine wpList_plain rfl (fun K hK => ?_); refine wp_append_u8L rfl [] l rfl rfl (none_row _) (none_sat hs) (hr0) (by simp; try exact hl) (fun v2 w3 R2 hr2 hs3 => ?_); refine hK _ _ ?_; simp only [Act.put, List.setIfInBounds_toArray, List.set_cons_zero, List.set_cons_succ]; clear hK))
    go_ret
    first | exact ⟨v2, R2, rfl, hr2, hs3⟩ | exact ⟨v2, rfl, R2, hr2, hs3⟩

set_option maxRecDepth 100000 in
theorem open_long (W w : World) (L : List Atom) (v : Value) (b : List UInt8) (hs : Sat W w L) (hr : Reads w v b.length (bts b)) (h160 : b.length ≠ 160) :
    Calls Try.prog 69 #[v] w fun r w' => r = .returned (.tuple #[.int .i64 0, .slice none 0 0, .int .i64 2]) ∧ Sat W w' L := by
  have q0 : ((b.length : Int) != 160) = true := by simp; omega
  obtain ⟨a1, c1, rfl⟩ := reads_shape hr
  clear hr
  go_enter Try.func69, Try.ntmps69
  go_wp2_with fail
  go_ret3
  exact ⟨rfl, hs⟩
set_option maxRecDepth 100000 in
set_option maxHeartbeats 2000000 in
theorem read_long (W w : World) (L : List Atom) (v : Value) (b : List UInt8) (hs : Sat W w L) (hin : ∀ y, Sat W y L → Reads y v b.length (bts b)) (h160 : b.length ≠ 160) :
    Calls Try.prog 29 #[v] w fun r w' => r = .returned (.tuple #[pcV pc0 (.slice none 0 0), .bool false]) ∧ Sat W w' L := by
  have hs2 := hs.newCells #[.int .i64 0, .int .i64 0, .int .i64 0, .slice none 0 0] 45
  have HOP := Lib.hid (open_long W _ _ v b hs2 (hin _ hs2.tail) h160)
  clear hin hs2
  go_enter Try.func29, Try.ntmps29
  go_wp2_with fail
  refine HOP.out.mono ?_
  rintro r w2 ⟨rfl, hs2'⟩
  clear HOP
  generalize w.heap.size = z at *
  have z0 : w2.cell? ⟨z, 0, none⟩ = some (.int .i64 0) := hs2'.cell m0 0
  have z1 : w2.cell? ⟨z, 1, none⟩ = some (.int .i64 0) := hs2'.cell m0 1
  have z2 : w2.cell? ⟨z, 2, none⟩ = some (.int .i64 0) := hs2'.cell m0 2
  have z3 : w2.cell? ⟨z, 3, none⟩ = some (.slice none 0 0) := hs2'.cell m0 3
  have f0 : w2.frozen? ⟨z, 0, none⟩ = false := hs2'.free m0 0
  have f1 : w2.frozen? ⟨z, 1, none⟩ = false := hs2'.free m0 1
  have f2 : w2.frozen? ⟨z, 2, none⟩ = false := hs2'.free m0 2
  have f3 : w2.frozen? ⟨z, 3, none⟩ = false := hs2'.free m0 3
  go_wp2_with fail
  have hz3 := Sat.setCell (Sat.setCell (Sat.setCell (Sat.setCell hs2' 0 (.int .i64 0)) 1 (.int .i64 0)) 2 (.int .i64 0)) 3 (.slice none 0 0)
  refine bodyPost_ret (v := .tuple #[pcV pc0 (.slice none 0 0), .bool false]) (by simp [results, Try.results29, go_sem, pcV, pc0, *]) rfl ?_
  exact ⟨rfl, hz3.tail⟩

set_option maxRecDepth 100000 in
theorem ref_open_long (W w : World) (L : List Atom) (v : Value) (b : List UInt8) (hs : Sat W w L) (hr : Reads w v b.length (bts b)) (h160 : b.length ≠ 160) :
    Calls Try.prog 78 #[v] w fun r w' => r = .returned (.tuple #[.int .i64 0, .slice none 0 0, .int .i64 2]) ∧ Sat W w' L := by
  have q0 : ((b.length : Int) != 160) = true := by simp; omega
  obtain ⟨a1, c1, rfl⟩ := reads_shape hr
  clear hr
  go_enter Try.func78, Try.ntmps78
  go_wp2_with fail
  go_ret3
  exact ⟨rfl, hs⟩
set_option maxRecDepth 100000 in
set_option maxHeartbeats 2000000 in
theorem ref_read_long (W w : World) (L : List Atom) (v : Value) (b : List UInt8) (hs : Sat W w L) (hin : ∀ y, Sat W y L → Reads y v b.length (bts b)) (h160 : b.length ≠ 160) :
    Calls Try.prog 40 #[v] w fun r w' => r = .returned (.tuple #[pcV pc0 (.slice none 0 0), .bool false]) ∧ Sat W w' L := by
  have hs2 := hs.newCells #[.int .i64 0, .int .i64 0, .int .i64 0, .slice none 0 0] 45
  have HOP := Lib.hid (ref_open_long W _ _ v b hs2 (hin _ hs2.tail) h160)
  clear hin hs2
  go_enter Try.func40, Try.ntmps40
  go_wp2_with fail
  refine HOP.out.mono ?_
  rintro r w2 ⟨rfl, hs2'⟩
  clear HOP
  generalize w.heap.size = z at *
  have z0 : w2.cell? ⟨z, 0, none⟩ = some (.int .i64 0) := hs2'.cell m0 0
  have z1 : w2.cell? ⟨z, 1, none⟩ = some (.int .i64 0) := hs2'.cell m0 1
  have z2 : w2.cell? ⟨z, 2, none⟩ = some (.int .i64 0) := hs2'.cell m0 2
  have z3 : w2.cell? ⟨z, 3, none⟩ = some (.slice none 0 0) := hs2'.cell m0 3
  have f0 : w2.frozen? ⟨z, 0, none⟩ = false := hs2'.free m0 0
  have f1 : w2.frozen? ⟨z, 1, none⟩ = false := hs2'.free m0 1
  have f2 : w2.frozen? ⟨z, 2, none⟩ = false := hs2'.free m0 2
  have f3 : w2.frozen? ⟨z, 3, none⟩ = false := hs2'.free m0 3
  go_wp2_with fail
  have hz3 := Sat.setCell (Sat.setCell (Sat.setCell (Sat.setCell hs2' 0 (.int .i64 0)) 1 (.int .i64 0)) 2 (.int .i64 0)) 3 (.slice none 0 0)
  refine bodyPost_ret (v := .tuple #[pcV pc0 (.slice none 0 0), .bool false]) (by simp [results, Try.results40, go_sem, pcV, pc0, *]) rfl ?_
  exact ⟨rfl, hz3.tail⟩

theorem readB_long (b : List UInt8) (h : b.length ≠ 160) : readB b = none := by
  have ho : openB b = (0, [], 2) := by unfold openB; rw [if_pos h]
  unfold readB
  rw [ho]
  rw [if_neg (fun h => absurd h.1 (by decide))]
theorem read_free (W w : World) (L : List Atom) (v : Value) (b : List UInt8) (hs : Sat W w L) (hin : ∀ y, Sat W y L → Reads y v b.length (bts b)) (hcap : ∀ a n c, v = .slice a n c → n ≤ c) :
    Calls Try.prog 29 #[v] w fun r w' => ∃ bv R, r = .returned (.tuple #[pcV (readP b) bv, .bool (readB b).isSome]) ∧ RowA 5 1 bv (readP b).data.length (bts (readP b).data) R ∧ Sat W w' (R ++ L) := by
  by_cases h : b.length = 160
  · exact read_any W w L v b hs hin (by omega) hcap
  · refine (read_long W w L v b hs hin h).mono ?_
    rintro r w2 ⟨rfl, hs2⟩
    unfold readP
    rw [readB_long b h]
    exact ⟨_, [], rfl, RowA.nil _ _, hs2⟩
theorem ref_read_free (W w : World) (L : List Atom) (v : Value) (b : List UInt8) (hs : Sat W w L) (hin : ∀ y, Sat W y L → Reads y v b.length (bts b)) (hcap : ∀ a n c, v = .slice a n c → n ≤ c) :
    Calls Try.prog 40 #[v] w fun r w' => ∃ bv R, r = .returned (.tuple #[pcV (readP b) bv, .bool (readB b).isSome]) ∧ RowA 5 1 bv (readP b).data.length (bts (readP b).data) R ∧ Sat W w' (R ++ L) := by
  by_cases h : b.length = 160
  · exact ref_read W w L v b hs hin (by omega) hcap
  · refine (ref_read_long W w L v b hs hin h).mono ?_
    rintro r w2 ⟨rfl, hs2⟩
    unfold readP
    rw [readB_long b h]
    exact ⟨_, [], rfl, RowA.nil _ _, hs2⟩
end Go.Proofs.Ytdkhgkkdnjejmaa.Ch
