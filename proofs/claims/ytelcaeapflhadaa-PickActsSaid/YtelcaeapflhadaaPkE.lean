/-
  The heap's own methods: New, Len, Peek, Put, Pop, Drop, Key.
-/
import Derived.Test.YtelcaeapflhadaaPkM
namespace Go.Proofs.Ytelcaeapflhadaa.Pk
set_option linter.unusedSimpArgs false
open Go Go.RowKit Go.Sl Go.BigFrame
set_option linter.unusedVariables false

/-- The heap at h holds the items S (sorted, the least first). -/
def HeapA (h : Nat) (S : List It) (A : List Atom) : Prop :=
  ∃ x l A0, A = cellsA h #[.pointer (some ⟨x, 0, none⟩)] 57 :: A0 ∧ ItemsA x l A0 ∧ l.Perm S ∧ Hp l l.length ∧ Srt S

def putS (S : List It) (id key : Int) : List It := ins (id, key) (S.filter fun q => q.1 != id)

theorem IdxOk.inj {f : Value → Option Value} {l : List It} (hf : IdxOk f l) {a b : Nat} {u v : It} (ha : l[a]? = some u) (hb : l[b]? = some v) (e : u.1 = v.1) : a = b := by
  have h1 := hf.2 a u ha
  have h2 := hf.2 b v hb
  rw [e, h2] at h1
  simp at h1
  omega

theorem heap_new (W w : World) (F : List Atom) (hs : Sat W w F) :
    Calls Try.prog 11 #[] w fun e w' => ∃ h A, e = .returned (.pointer (some ⟨h, 0, none⟩)) ∧ HeapA h [] A ∧ Sat W w' (A ++ F) := by
  have hm1 := (((newMap_sl hs (.int .i64)).newCells #[.slice none 0 0, .map (some w.heap.size)] 55).newCells #[.pointer (some ⟨w.heap.size + 1, 0, none⟩)] 57)
  have HM := Lib.hid hm1
  clear hm1
  go_enter Try.func11, Try.ntmps11
  have hmm := @run_makeMap Try.prog
  go_wp2
  go_ret
  refine ⟨w.heap.size + 1 + 1, _, rfl, ⟨w.heap.size + 1, [], _, rfl, ⟨.slice none 0 0, w.heap.size, fun _ => none, [], RowA.nil _ _, ⟨by simp, by simp⟩, rfl⟩, .refl _, ?_, .nil⟩, ?_⟩
  · intro k k0 kl; simp at kl
  · have := HM.out
    simp only [World.size_alloc] at this
    exact this

theorem heap_len (h : Nat) (S : List It) (A F : List Atom) (W w : World) (hA : HeapA h S A) (hs : Sat W w (A ++ F)) :
    Calls Try.prog 15 #[.pointer (some ⟨h, 0, none⟩)] w fun e w' => e = .returned (.int .i64 S.length) ∧ w = w' := by
  obtain ⟨x, l, A0, rfl, ⟨v, m, f, R, hr, hf, rfl⟩, hp, hh, hS⟩ := hA
  have c0 : w.cell? ⟨h, 0, none⟩ = some (.pointer (some ⟨x, 0, none⟩)) := hs.cell m0 0
  have c1 : w.cell? ⟨x, 0, none⟩ = some v := hs.cell m1 0
  have hl := hp.length_eq
  obtain ⟨a, c, rfl⟩ := RowA.slice hr
  rw [← hl]
  clear hr hf hs hp hh hS hl
  go_enter Try.func15, Try.ntmps15
  go_wp2
  go_ret
  exact ⟨rfl, rfl⟩

theorem srt_nodup {S : List It} (h : Srt S) : S.Nodup := List.nodup_iff_pairwise_ne.2 (h.imp fun {a b} h e => by subst e; unfold lt at h; omega)

theorem peek_hd {l S : List It} {p : It} (hp : l.Perm (p :: S)) (hh : Hp l l.length) (hS : Srt (p :: S)) : at_ l 0 = p := by
  have hlen := hp.length_eq
  simp at hlen
  have h0 : 0 < l.length := by omega
  have hm : at_ l 0 ∈ p :: S := hp.mem_iff.1 (by unfold at_; simp [h0])
  have hpl : p ∈ l := hp.mem_iff.2 (List.mem_cons_self ..)
  obtain ⟨k, hk⟩ := List.getElem?_of_mem hpl
  have hkl := (List.getElem?_eq_some_iff.1 hk).1
  have h1 := heap_min hh k hkl
  have h2 : at_ l k = p := by unfold at_; simp [hk]
  rw [h2] at h1
  rcases List.mem_cons.1 hm with e | hm
  · exact e
  · exact (le_antisymm h1 (le_of_lt ((List.pairwise_cons.1 hS).1 _ hm)))

theorem heap_peek_none (h : Nat) (A F : List Atom) (W w : World) (hA : HeapA h [] A) (hs : Sat W w (A ++ F)) :
    Calls Try.prog 28 #[.pointer (some ⟨h, 0, none⟩)] w fun e w' => e = .returned (.tuple #[.agg #[.int .i64 0, .int .i64 0], .bool false]) ∧ Ext w w' := by
  obtain ⟨x, l, A0, rfl, ⟨v, m, f, R, hr, hf, rfl⟩, hp, hh, hS⟩ := hA
  have c0 : w.cell? ⟨h, 0, none⟩ = some (.pointer (some ⟨x, 0, none⟩)) := hs.cell m0 0
  have c1 : w.cell? ⟨x, 0, none⟩ = some v := hs.cell m1 0
  have hl := hp.length_eq
  have n0 : h < w.heap.size := hs.lt m0
  have n1 : x < w.heap.size := hs.lt m1
  obtain ⟨a, c, rfl⟩ := RowA.slice hr
  simp at hl
  subst hl
  simp only [List.length_nil] at c1
  clear hr hf hs hp hh hS
  go_enter Try.func28, Try.ntmps28
  go_wp2
  refine bodyPost_ret (v := .tuple #[.agg #[.int .i64 0, .int .i64 0], .bool false]) (by simp [results, Try.results28, go_sem]) rfl ⟨rfl, ?_⟩
  exact Ext.alloc _ _

theorem heap_peek_some (h : Nat) (p : It) (S : List It) (A F : List Atom) (W w : World) (hA : HeapA h (p :: S) A) (hs : Sat W w (A ++ F)) :
    Calls Try.prog 28 #[.pointer (some ⟨h, 0, none⟩)] w fun e w' => e = .returned (.tuple #[.agg #[.int .i64 p.1, .int .i64 p.2], .bool true]) ∧ Ext w w' := by
  obtain ⟨x, l, A0, rfl, ⟨v, m, f, R, hr, hf, rfl⟩, hp, hh, hS⟩ := hA
  have hhd := peek_hd hp hh hS
  have c0 : w.cell? ⟨h, 0, none⟩ = some (.pointer (some ⟨x, 0, none⟩)) := hs.cell m0 0
  have c1 : w.cell? ⟨x, 0, none⟩ = some v := hs.cell m1 0
  have hl := hp.length_eq
  have n0 : h < w.heap.size := hs.lt m0
  have n1 : x < w.heap.size := hs.lt m1
  simp only [List.length_cons] at hl
  rcases hr.2 with ⟨rfl, hn, _⟩ | ⟨g, off, cap, rfl, hnc, hcm, rfl⟩
  · omega
  · have n2 : g < w.heap.size := hs.lt m3
    have hget : l[0]? = some p := by
      rw [← hhd]; unfold at_; simp [show 0 < l.length by omega]
    obtain ⟨f0, f1⟩ := flat_get hget
    obtain ⟨o, ho, hro⟩ := hs.get m3
    have hfl := flat_length l
    have d0 : w.cell? ⟨g, off, none⟩ = some (.int .i64 p.1) := by
      have := (hro.cell ho 0 (by omega)).1
      rw [show (flat l)[0]? = _ from f0] at this
      exact this
    have d1 : w.cell? ⟨g, off + 1, none⟩ = some (.int .i64 p.2) := by
      have := (hro.cell ho 1 (by omega)).1
      rw [show (flat l)[1]? = _ from f1] at this
      exact this
    have b1 : (0 : Int) < l.length := by omega
    have b2 : ((l.length : Int) == 0) = false := by rw [beq_eq_false_iff_ne]; omega
    clear hr hf hs hp hh hS hl hget f0 f1 ho hro hfl hhd
    go_enter Try.func28, Try.ntmps28
    go_wp2
    refine bodyPost_ret (v := .tuple #[.agg #[.int .i64 p.1, .int .i64 p.2], .bool true]) (by simp [results, Try.results28, go_sem]) rfl ⟨rfl, ?_⟩
    exact Ext.alloc _ _

theorem heap_pop_none (h : Nat) (A F : List Atom) (W w : World) (hA : HeapA h [] A) (hs : Sat W w (A ++ F)) :
    Calls Try.prog 14 #[.pointer (some ⟨h, 0, none⟩)] w fun e w' => e = .returned (.tuple #[.agg #[.int .i64 0, .int .i64 0], .bool false]) ∧ Sat W w' (A ++ F) := by
  go_enter Try.func14, Try.ntmps14
  go_wp2_with fail
  have hs0 := (Sat.newCells hs #[.int .i64 0, .int .i64 0] 28)
  have hs0' : Sat W _ (A ++ (cellsA w.heap.size #[.int .i64 0, .int .i64 0] 28 :: F)) := hs0.use (by intro x; simp only [cnt_append, cnt_cons, cnt_nil]; omega)
  refine (heap_peek_none h A _ W _ hA hs0').mono ?_; rintro e w1 ⟨rfl, hx⟩
  have hs1 := hs0'.below hx
  generalize w.heap.size = z at *
  clear hs hs0 hs0' hx
  have hz : z < w1.heap.size := hs1.lt (List.mem_append_right _ m0)
  have z0 : w1.cell? ⟨z, 0, none⟩ = some (.int .i64 0) := hs1.cell (List.mem_append_right _ m0) 0
  have z1 : w1.cell? ⟨z, 1, none⟩ = some (.int .i64 0) := hs1.cell (List.mem_append_right _ m0) 1
  have z2 : w1.frozen? ⟨z, 0, none⟩ = false := hs1.free (List.mem_append_right _ m0) 0
  have z3 : w1.frozen? ⟨z, 1, none⟩ = false := hs1.free (List.mem_append_right _ m0) 1
  go_wp2_with fail
  refine bodyPost_ret (v := .tuple #[.agg #[.int .i64 0, .int .i64 0], .bool false]) (by simp [results, Try.results14, go_sem, *]) rfl ⟨rfl, ?_⟩
  have hs2 : Sat W w1 (cellsA z #[.int .i64 0, .int .i64 0] 28 :: (A ++ F)) := hs1.use (by intro x; simp only [cnt_append, cnt_cons, cnt_nil]; omega)
  exact ((Sat.setCell (Sat.setCell hs2 0 _) 1 _).tail).alloc _

theorem heap_pop_some (h : Nat) (p : It) (S : List It) (A F : List Atom) (W w : World) (hA : HeapA h (p :: S) A) (hs : Sat W w (A ++ F)) (hb : S.length < 900000) :
    Calls Try.prog 14 #[.pointer (some ⟨h, 0, none⟩)] w fun e w' => e = .returned (.tuple #[.agg #[.int .i64 p.1, .int .i64 p.2], .bool true]) ∧ ∃ A', HeapA h S A' ∧ Sat W w' (A' ++ F) := by
  go_enter Try.func14, Try.ntmps14
  go_wp2_with fail
  have hs0 := (Sat.newCells hs #[.int .i64 0, .int .i64 0] 28)
  have hs0' : Sat W _ (A ++ (cellsA w.heap.size #[.int .i64 0, .int .i64 0] 28 :: F)) := hs0.use (by intro x; simp only [cnt_append, cnt_cons, cnt_nil]; omega)
  refine (heap_peek_some h p S A _ W _ hA hs0').mono ?_; rintro e w1 ⟨rfl, hx⟩
  have hs1 := hs0'.below hx
  generalize w.heap.size = z at *
  obtain ⟨x, l, A0, rfl, hI, hp, hh, hS⟩ := hA
  have hlen := hp.length_eq
  simp only [List.length_cons] at hlen
  have hhd := peek_hd hp hh hS
  have hpp := pop_perm (l := l) (by omega)
  have hph := pop_heap (l := l) (by omega) hh
  have c0 : w1.cell? ⟨h, 0, none⟩ = some (.pointer (some ⟨x, 0, none⟩)) := hs1.cell m0 0
  have n0 : h < w1.heap.size := hs1.lt m0
  have HL := Lib.hid hlen
  have HH := Lib.hid hhd
  have HP := Lib.hid hpp
  clear hs hs0 hs0' hx hlen hhd hpp
  go_wp2_with fail
  have hs2 := Sat.newCells hs1 #[.int .i64 p.1, .int .i64 p.2] 28
  have hs3 : Sat W _ (A0 ++ (cellsA w1.heap.size #[.int .i64 p.1, .int .i64 p.2] 28 :: cellsA z #[.int .i64 0, .int .i64 0] 28 :: cellsA h #[.pointer (some ⟨x, 0, none⟩)] 57 :: F)) := hs2.use (by intro x; simp only [cnt_append, cnt_cons, cnt_nil]; omega)
  refine (heap_pop x l A0 _ W _ hI hs3 (by have := HL.out; omega) (by have := HL.out; omega)).mono ?_; rintro e w2 ⟨⟨v, rfl⟩, A2, hA2, hs4⟩
  generalize w1.heap.size = y at *
  clear hs1 hs2 hs3 c0 n0 hI
  have hs5 : Sat W w2 (cellsA z #[.int .i64 0, .int .i64 0] 28 :: cellsA y #[.int .i64 p.1, .int .i64 p.2] 28 :: (cellsA h #[.pointer (some ⟨x, 0, none⟩)] 57 :: A2 ++ F)) := hs4.use (by intro x; simp only [cnt_append, cnt_cons, cnt_nil]; omega)
  have z0 : w2.cell? ⟨z, 0, none⟩ = some (.int .i64 0) := hs5.cell m0 0
  have z1 : w2.cell? ⟨z, 1, none⟩ = some (.int .i64 0) := hs5.cell m0 1
  have z2 : w2.frozen? ⟨z, 0, none⟩ = false := hs5.free m0 0
  have z3 : w2.frozen? ⟨z, 1, none⟩ = false := hs5.free m0 1
  have y0 : w2.cell? ⟨y, 0, none⟩ = some (.int .i64 p.1) := hs5.cell m1 0
  have y1 : w2.cell? ⟨y, 1, none⟩ = some (.int .i64 p.2) := hs5.cell m1 1
  clear hs4
  go_wp2_with fail
  refine bodyPost_ret (v := .tuple #[.agg #[.int .i64 p.1, .int .i64 p.2], .bool true]) (by simp [results, Try.results14, go_sem, *]) rfl ⟨rfl, _, ⟨x, popL l, A2, rfl, hA2, ?_, hph, (List.pairwise_cons.1 hS).2⟩, ?_⟩
  · have h1 := HP.out
    rw [HH.out] at h1
    exact (h1.symm.trans hp).cons_inv
  · exact (Sat.setCell (Sat.setCell hs5 0 _) 1 _).tail.tail
end Go.Proofs.Ytelcaeapflhadaa.Pk
