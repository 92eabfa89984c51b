/-
  The laws of chapter 2: the example.
-/
import Derived.Test.YtelcaeapflhadaaPkF
namespace Go.Proofs.Ytelcaeapflhadaa.Pk
set_option linter.unusedSimpArgs false
open Go Go.RowKit Go.Sl Go.BigFrame
set_option linter.unusedVariables false

theorem putS_len (S : List It) (id key : Int) : (putS S id key).length ≤ S.length + 1 := by
  unfold putS
  rw [(ins_perm _ _).length_eq]
  simp only [List.length_cons]
  have := List.length_filter_le (fun q : It => q.1 != id) S
  omega

set_option maxRecDepth 100000 in
theorem known_true (W w : World) (F : List Atom) (hs : Sat W w F) :
    Calls Try.prog 12 #[] w fun e w' => e = .returned (.bool true) ∧ Sat W w' F := by
  have s1 : putS [] 5 2 = [(5, 2)] := by decide
  have s2 : putS [(5, 2)] 3 2 = [(3, 2), (5, 2)] := by decide
  have s3 : putS [(3, 2), (5, 2)] 9 1 = [(9, 1), (3, 2), (5, 2)] := by decide
  have s4 : putS [(9, 1), (3, 2), (5, 2)] 9 7 = [(3, 2), (5, 2), (9, 7)] := by decide
  have S1 := Lib.hid s1
  have S2 := Lib.hid s2
  have S3 := Lib.hid s3
  have S4 := Lib.hid s4
  clear s1 s2 s3 s4
  go_enter Try.func12, Try.ntmps12
  go_wp2_with fail
  refine (heap_new W _ F hs).mono ?_; rintro e w1 ⟨h, A1, rfl, hA1, hs1⟩
  go_wp2_with fail
  refine (heap_put h [] 5 2 A1 F W _ hA1 hs1 (by decide) false (by decide)).mono ?_; rintro e w2 ⟨rfl, A2, hA2, hs2⟩
  rw [S1.out] at hA2
  clear hA1 hs1 hs
  go_wp2_with fail
  refine (heap_put h _ 3 2 A2 F W _ hA2 hs2 (by decide) false (by decide)).mono ?_; rintro e w3 ⟨rfl, A3, hA3, hs3⟩
  rw [S2.out] at hA3
  clear hA2 hs2
  go_wp2_with fail
  refine (heap_put h _ 9 1 A3 F W _ hA3 hs3 (by decide) false (by decide)).mono ?_; rintro e w4 ⟨rfl, A4, hA4, hs4⟩
  rw [S3.out] at hA4
  clear hA3 hs3
  go_wp2_with fail
  refine (heap_put h _ 9 7 A4 F W _ hA4 hs4 (by decide) true (by decide)).mono ?_; rintro e w5 ⟨rfl, A5, hA5, hs5⟩
  rw [S4.out] at hA5
  clear hA4 hs4
  go_wp2_with fail
  refine (heap_len h _ A5 F W _ hA5 hs5).mono ?_; rintro e w6 ⟨rfl, rfl⟩
  go_wp2_with fail
  refine (heap_pop_some h _ _ A5 F W _ hA5 hs5 (by decide)).mono ?_; rintro e w6 ⟨rfl, A6, hA6, hs6⟩
  clear hA5 hs5
  go_wp2_with fail
  have hn6 := Sat.newCells hs6 #[.int .i64 3, .int .i64 2] 28
  have hs6' : Sat W _ (A6 ++ (cellsA w6.heap.size #[.int .i64 3, .int .i64 2] 28 :: F)) := hn6.use (by intro x; simp only [cnt_append, cnt_cons, cnt_nil]; omega)
  refine (heap_pop_some h _ _ A6 _ W _ hA6 hs6' (by decide)).mono ?_; rintro e w7 ⟨rfl, A7, hA7, hs7⟩
  generalize w6.heap.size = z1 at *
  clear hA6 hs6 hn6 hs6'
  go_wp2_with fail
  have hn7 := Sat.newCells hs7 #[.int .i64 5, .int .i64 2] 28
  have hs7' : Sat W _ (A7 ++ (cellsA w7.heap.size #[.int .i64 5, .int .i64 2] 28 :: cellsA z1 #[.int .i64 3, .int .i64 2] 28 :: F)) := hn7.use (by intro x; simp only [cnt_append, cnt_cons, cnt_nil]; omega)
  refine (heap_pop_some h _ _ A7 _ W _ hA7 hs7' (by decide)).mono ?_; rintro e w8 ⟨rfl, A8, hA8, hs8⟩
  generalize w7.heap.size = z2 at *
  clear hA7 hs7 hn7 hs7'
  go_wp2_with fail
  have hn8 := Sat.newCells hs8 #[.int .i64 9, .int .i64 7] 28
  have hs8' : Sat W _ (A8 ++ (cellsA w8.heap.size #[.int .i64 9, .int .i64 7] 28 :: cellsA z2 #[.int .i64 5, .int .i64 2] 28 :: cellsA z1 #[.int .i64 3, .int .i64 2] 28 :: F)) := hn8.use (by intro x; simp only [cnt_append, cnt_cons, cnt_nil]; omega)
  refine (heap_pop_none h A8 _ W _ hA8 hs8').mono ?_; rintro e w9 ⟨rfl, hs9⟩
  generalize w8.heap.size = z3 at *
  clear hA8 hs8 hn8 hs8'
  have hs10 := hs9.right
  have c1 : w9.cell? ⟨z1, 0, none⟩ = some (.int .i64 3) := hs10.cell m2 0
  have c2 : w9.cell? ⟨z1, 1, none⟩ = some (.int .i64 2) := hs10.cell m2 1
  have c3 : w9.cell? ⟨z2, 0, none⟩ = some (.int .i64 5) := hs10.cell m1 0
  have c4 : w9.cell? ⟨z3, 0, none⟩ = some (.int .i64 9) := hs10.cell m0 0
  have c5 : w9.cell? ⟨z3, 1, none⟩ = some (.int .i64 7) := hs10.cell m0 1
  have n1 : z1 < w9.heap.size := hs10.lt m2
  have n2 : z2 < w9.heap.size := hs10.lt m1
  have n3 : z3 < w9.heap.size := hs10.lt m0
  clear hs9
  go_wp2_with fail
  go_ret
  exact ⟨rfl, hs10.tail.tail.tail.alloc _⟩
end Go.Proofs.Ytelcaeapflhadaa.Pk
