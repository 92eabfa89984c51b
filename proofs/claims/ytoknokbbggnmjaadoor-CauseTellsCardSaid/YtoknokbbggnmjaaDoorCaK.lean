/-
  Chapter 1's example.
-/
import Derived.Test.YtoknokbbggnmjaaDoorCaG
import Derived.Test.YtoknokbbggnmjaaDoorCaI
import Derived.Test.YtoknokbbggnmjaaDoorCaJ
namespace Go.Proofs.YtoknokbbggnmjaaDoor.Ca
set_option linter.unusedSimpArgs false
open Go Go.RowKit Go.Sl Go.Extern.Stop Go.Stop Go.Extern
set_option linter.unusedVariables false

theorem In.on' {T : List Atom} {b : Nat} {n : Int} {e : ET} (h : cellsA b #[.int .i64 n, val e] 52 ∈ T) (h2 : In T e) : In T (.on b n e) := by unfold In; exact ⟨h, h2⟩
theorem In.of' {T : List Atom} {b : Nat} {n : Int} {e : ET} (h : cellsA b #[.int .i64 n, val e] 54 ∈ T) (h2 : In T e) : In T (.of b n e) := by unfold In; exact ⟨h, h2⟩
theorem In.all' {T : List Atom} {b : Nat} {v : Value} {es : List ET} (h : cellsA b #[v] 60 ∈ T) (h1 : InRow T v (es.map val)) (h2 : InL T es) : In T (.all b v es) := by unfold In; exact ⟨h, h1, h2⟩
theorem row_new {W w : World} {L : List Atom} (h : Sat W w L) (cs : Array Value) (e : TypeId) : Sat W (w.alloc (.cells cs e)) ((w.heap.size, rowP e 0 (cs.size * 1) cs.toList) :: L) :=
  h.new _ ⟨cs, rfl, by simp, by simp, by rw [List.drop_zero]; exact List.take_of_length_le (by simp)⟩

set_option maxRecDepth 100000 in
set_option maxHeartbeats 4000000 in
theorem known_true (W w : World) (L : List Atom) (hs : Sat W w L) (hG : ∀ w, Sat W w L → ErrT w) :
    Calls Tryd.prog 8 #[] w fun r w' => r = .returned (.bool true) ∧ Sat W w' L := by
  go_enter Tryd.func8, Tryd.ntmps8
  go_wp2_with fail
  refine (at_node 1 (.code 4) W w L hs).mono ?_; rintro r w1 ⟨b1, rfl, hs1⟩
  simp only [val] at hs1 ⊢
  clear hs
  go_wp2_with fail
  refine (at_node 4 (.code 5) W w1 _ hs1).mono ?_; rintro r w2 ⟨b2, rfl, hs2⟩
  simp only [val] at hs2 ⊢
  clear hs1
  have hs3 := row_new hs2 #[.iface 46 (.pointer (some ⟨b1, 0, none⟩)), .nilIface, .iface 46 (.pointer (some ⟨b2, 0, none⟩))] 27
  go_wp2_with fail
  refine (join_any W _ _ _ [some (.on b1 1 (.code 4)), none, some (.on b2 4 (.code 5))] hs3 ⟨by simp, _, ⟨rfl, .inr ⟨w2.heap.size, 0, 3, rfl, Nat.le_refl _, by decide, rfl⟩⟩, fun x hx => by rw [List.mem_singleton.1 hx]; exact List.mem_cons_self ..⟩).mono ?_
  rintro r w3 ⟨b3, v3, R3, rfl, hr3, hs4⟩
  clear hs2 hs3
  go_wp2_with fail
  refine (of_stripe 7 (.all b3 v3 [.on b1 1 (.code 4), .on b2 4 (.code 5)]) W w3 _ hs4).mono ?_; rintro r w4 ⟨b4, rfl, hs5⟩
  clear hs4
  obtain ⟨T, hT⟩ : ∃ T, T = (cellsA b4 #[.int .i64 7, val (.all b3 v3 [.on b1 1 (.code 4), .on b2 4 (.code 5)])] 54 :: cellsA b3 #[v3] 60 :: (R3 ++ ((w2.heap.size, rowP 27 0 (3 * 1) [.iface 46 (.pointer (some ⟨b1, 0, none⟩)), .nilIface, .iface 46 (.pointer (some ⟨b2, 0, none⟩))]) :: cellsA b2 #[.int .i64 4, .iface 29 (.int .i64 5)] 52 :: [cellsA b1 #[.int .i64 1, .iface 29 (.int .i64 4)] 52]))) := ⟨_, rfl⟩
  obtain ⟨e, he⟩ : ∃ e, e = ET.of b4 7 (.all b3 v3 [.on b1 1 (.code 4), .on b2 4 (.code 5)]) := ⟨_, rfl⟩
  have hin : In T e := by
    rw [he, hT]
    refine In.of' (List.mem_cons_self ..) (In.all' (List.mem_cons_of_mem _ (List.mem_cons_self ..)) ⟨by simp, R3, by simpa using hr3, fun x hx => List.mem_cons_of_mem _ (List.mem_cons_of_mem _ (List.mem_append_left _ hx))⟩ (InL.of fun x hx => ?_))
    rcases List.mem_cons.1 hx with rfl | hx
    · exact In.on' (List.mem_cons_of_mem _ (List.mem_cons_of_mem _ (List.mem_append_right _ (List.mem_cons_of_mem _ (List.mem_cons_of_mem _ (List.mem_cons_self ..)))))) In.code'
    · rcases List.mem_cons.1 hx with rfl | hx
      · exact In.on' (List.mem_cons_of_mem _ (List.mem_cons_of_mem _ (List.mem_append_right _ (List.mem_cons_of_mem _ (List.mem_cons_self ..))))) In.code'
      · cases hx
  have h1 : of1 e = some (b4, 7) := by rw [he]; rfl
  have h2 : codeOf (some e) = 4 := by rw [he]; rfl
  have h3 : nodesE e = [1, 4] := by rw [he]; rfl
  have hs6 : Sat W w4 (T ++ L) := by
    rw [hT]
    simpa using hs5
  rw [← he]
  have n1 := neq_val e
  have n2 := guardn_nil e
  have H1 := Lib.hid h1
  have H2 := Lib.hid h2
  have H3 := Lib.hid h3
  clear hs5 hT he h1 h2 h3
  go_wp2_with fail
  refine (stripe_any e W w4 T L hin (hG _ hs6.right) hs6).mono ?_; rintro r w5 ⟨rfl, hs7⟩
  rw [H1.out]
  simp only [stripeN, Option.isSome_some]
  clear hs6
  go_wp2_with fail
  refine (code_any e W w5 T L hin (hG _ hs7.right) hs7).mono ?_; rintro r w6 ⟨rfl, hs8⟩
  rw [H2.out]
  clear hs7
  go_wp2_with fail
  refine (nodes_any e.size e (Nat.le_refl _) (by rw [H3.out]; decide) W w6 T L hin hs8).mono ?_; rintro r w7 ⟨v7, R7, rfl, hr7, hs9⟩
  rw [H3.out] at hr7
  clear hs8
  have hs10 := row_new hs9 #[.int .i64 1, .int .i64 4] 3
  go_wp2_with fail
  refine (same_any W _ _ v7 _ [1, 4] [1, 4] R7 _ hs10 hr7 ⟨rfl, .inr ⟨w7.heap.size, 0, 2, rfl, Nat.le_refl _, by decide, rfl⟩⟩ (fun x hx => List.mem_cons_of_mem _ (List.mem_append_left _ hx)) (fun x hx => by rw [List.mem_singleton.1 hx]; exact List.mem_cons_self ..) (by decide)).mono ?_; rintro r w8 ⟨rfl, hs11⟩
  simp only [decide_true]
  go_wp2_with fail
  go_ret
  exact ⟨rfl, hs11.tail.right.right⟩
end Go.Proofs.YtoknokbbggnmjaaDoor.Ca
