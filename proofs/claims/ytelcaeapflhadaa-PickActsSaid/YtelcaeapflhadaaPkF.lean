/-
  The heap's own methods: Put, Drop, Key.
-/
import Derived.Test.YtelcaeapflhadaaPkE
namespace Go.Proofs.Ytelcaeapflhadaa.Pk
set_option linter.unusedSimpArgs false
open Go Go.RowKit Go.Sl Go.BigFrame
set_option linter.unusedVariables false

theorem filter_absent {S : List It} {id : Int} (h : S.any (fun q => q.1 == id) = false) : S.filter (fun q => q.1 != id) = S := by
  rw [List.filter_eq_self]
  intro q hq
  rw [List.any_eq_false] at h
  have := h q hq
  simpa using this

theorem idx_find {f : Value → Option Value} {l : List It} (hf : IdxOk f l) (id : Int) :
    (l.any (fun q => q.1 == id) = false ∧ f (.int .i64 id) = none) ∨ ∃ (j : Nat) (k : Int), l[j]? = some (id, k) ∧ f (.int .i64 id) = some (.int .i64 j) ∧ l.any (fun q => q.1 == id) = true := by
  cases hfi : f (.int .i64 id) with
  | none =>
    left
    refine ⟨?_, rfl⟩
    rw [List.any_eq_false]
    intro q hq he
    obtain ⟨j, hj⟩ := List.getElem?_of_mem hq
    have := hf.2 j q hj
    rw [beq_iff_eq.1 he, hfi] at this
    cases this
  | some v =>
    right
    obtain ⟨j, q, hj, he, rfl⟩ := hf.1 _ _ hfi
    obtain ⟨q1, q2⟩ := q
    simp at he
    subst he
    exact ⟨j, q2, hj, rfl, List.any_eq_true.2 ⟨_, List.mem_of_getElem? hj, by simp⟩⟩

theorem any_perm {l S : List It} (h : l.Perm S) (id : Int) : l.any (fun q => q.1 == id) = S.any (fun q => q.1 == id) := by
  rw [Bool.eq_iff_iff, List.any_eq_true, List.any_eq_true]
  constructor
  · rintro ⟨q, hq, e⟩; exact ⟨q, h.mem_iff.1 hq, e⟩
  · rintro ⟨q, hq, e⟩; exact ⟨q, h.mem_iff.2 hq, e⟩

/-- The others of a list whose ids are apart. -/
theorem filter_erase {f : Value → Option Value} {l : List It} (hf : IdxOk f l) {j : Nat} {id k : Int} (hj : l[j]? = some (id, k)) : l.filter (fun q => q.1 != id) = l.eraseIdx j := by
  have hsub : ∀ q ∈ l.eraseIdx j, (q.1 != id) = true := by
    intro q hq
    obtain ⟨i, hij, hi⟩ := List.mem_eraseIdx_iff_getElem?.1 hq
    rw [bne_iff_ne]
    intro e
    exact hij (hf.inj hi hj e)
  obtain ⟨hlt, he⟩ := List.getElem?_eq_some_iff.1 hj
  rw [List.eraseIdx_eq_take_drop_succ] at hsub ⊢
  have hl : l = l.take j ++ (id, k) :: l.drop (j + 1) := by
    rw [← he, ← List.drop_eq_getElem_cons hlt, List.take_append_drop]
  conv => lhs; rw [hl]
  rw [List.filter_append, List.filter_cons]
  have e1 : (l.take j).filter (fun q => q.1 != id) = l.take j := List.filter_eq_self.2 fun q hq => hsub q (List.mem_append_left _ hq)
  have e2 : (l.drop (j + 1)).filter (fun q => q.1 != id) = l.drop (j + 1) := List.filter_eq_self.2 fun q hq => hsub q (List.mem_append_right _ hq)
  rw [e1, e2]
  simp

theorem filter_srt {S : List It} (h : Srt S) (f : It → Bool) : Srt (S.filter f) := h.filter _

theorem put_srt {S : List It} (h : Srt S) (id key : Int) : Srt (putS S id key) := by
  refine ins_srt (filter_srt h _) ?_
  intro hm
  have := (List.mem_filter.1 hm).2
  simp at this

theorem idx_set {f : Value → Option Value} {l : List It} (hf : IdxOk f l) {j : Nat} {id k : Int} (hj : l[j]? = some (id, k)) (k' : Int) : IdxOk f (l.set j (id, k')) := by
  have hlt := (List.getElem?_eq_some_iff.1 hj).1
  refine ⟨fun a v ha => ?_, fun i u hi => ?_⟩
  · obtain ⟨i, u, hi, h1, h2⟩ := hf.1 a v ha
    by_cases e : j = i
    · subst e
      rw [hj] at hi
      cases hi
      exact ⟨j, (id, k'), by simp [hlt], h1, h2⟩
    · exact ⟨i, u, by rw [List.getElem?_set_ne e]; exact hi, h1, h2⟩
  · by_cases e : j = i
    · subst e
      simp [hlt] at hi
      rw [← hi]
      exact hf.2 j (id, k) hj
    · rw [List.getElem?_set_ne e] at hi
      exact hf.2 i u hi

theorem heap_put_new (h : Nat) (S : List It) (id key : Int) (A F : List Atom) (W w : World) (hA : HeapA h S A) (hs : Sat W w (A ++ F)) (hb : S.length < 900000) (hn : S.any (fun q => q.1 == id) = false) :
    Calls Try.prog 13 #[.pointer (some ⟨h, 0, none⟩), .int .i64 id, .int .i64 key] w fun e w' => e = .returned (.bool true) ∧ ∃ A', HeapA h (putS S id key) A' ∧ Sat W w' (A' ++ F) := by
  obtain ⟨x, l, A0, rfl, hI, hp, hh, hS⟩ := hA
  have hlen := hp.length_eq
  have hI' := hI
  obtain ⟨v, m, f, R, hr, hf, rfl⟩ := hI'
  have hfi : f (.int .i64 id) = none := by
    rcases idx_find hf id with ⟨_, h2⟩ | ⟨j, k, h1, h2, h3⟩
    · exact h2
    · rw [any_perm hp, hn] at h3; cases h3
  have c0 : w.cell? ⟨h, 0, none⟩ = some (.pointer (some ⟨x, 0, none⟩)) := hs.cell m0 0
  have c1 : w.cell? ⟨x, 1, none⟩ = some (.map (some m)) := hs.cell m1 1
  have hlk := lookup_sl (P := Try.prog) (t := 34) (key := .int .i64 id) (z := .int .i64 0) hs m2 Try.underlying34 Try.underlying3 rfl (Try.zeroValue3 _) true
  simp only [hfi, Option.getD_none, Option.isSome_none, if_true] at hlk
  have hs2 : Sat W w ((cellsA x #[v, .map (some m)] 55 :: mapA m (.int .i64) f l.length :: R) ++ (cellsA h #[.pointer (some ⟨x, 0, none⟩)] 57 :: F)) := hs.use (by intro x; simp only [cnt_append, cnt_cons, cnt_nil]; omega)
  have hq : ∀ q ∈ l, q.1 ≠ (id, key).1 := by
    intro q hq e
    have : l.any (fun q => q.1 == id) = true := List.any_eq_true.2 ⟨q, hq, by simpa using e⟩
    rw [any_perm hp, hn] at this
    cases this
  have HH := Lib.hid hh
  have HN := Lib.hid hn
  have HLN := Lib.hid hlen
  clear hfi hr hf hs hh hn hlen
  go_enter Try.func13, Try.ntmps13
  go_wp2_with fail
  refine (heap_push x l (id, key) _ _ W _ hI hs2 hq (by have := HLN.out; omega)).mono ?_; rintro e w1 ⟨rfl, A1, hA1, hs1⟩
  clear hlk c0 c1 hs2 hI
  go_wp2_with fail
  go_ret
  refine ⟨rfl, _, ⟨x, _, A1, rfl, hA1, ?_, ?_, put_srt hS id key⟩, hs1.use (by intro x; simp only [cnt_append, cnt_cons, cnt_nil]; omega)⟩
  · unfold putS
    rw [filter_absent HN.out]
    exact (push_perm l (id, key)).trans ((hp.cons _).trans (ins_perm _ _).symm)
  · rw [length_upF]
    simp only [List.length_append, List.length_cons, List.length_nil]
    exact push_heap (id, key) HH.out

theorem heap_put_old (h : Nat) (S : List It) (id key : Int) (A F : List Atom) (W w : World) (hA : HeapA h S A) (hs : Sat W w (A ++ F)) (hb : S.length < 900000) (hn : S.any (fun q => q.1 == id) = true) :
    Calls Try.prog 13 #[.pointer (some ⟨h, 0, none⟩), .int .i64 id, .int .i64 key] w fun e w' => e = .returned (.bool false) ∧ ∃ A', HeapA h (putS S id key) A' ∧ Sat W w' (A' ++ F) := by
  obtain ⟨x, l, A0, rfl, hI, hp, hh, hS⟩ := hA
  have hlen := hp.length_eq
  obtain ⟨v, m, f, R, hr, hf, rfl⟩ := hI
  obtain ⟨j, k, hj, hfi⟩ : ∃ (j : Nat) (k : Int), l[j]? = some (id, k) ∧ f (.int .i64 id) = some (.int .i64 j) := by
    rcases idx_find hf id with ⟨h1, _⟩ | ⟨j, k, h1, h2, h3⟩
    · rw [any_perm hp, hn] at h1; cases h1
    · exact ⟨j, k, h1, h2⟩
  have hjl := (List.getElem?_eq_some_iff.1 hj).1
  have c0 : w.cell? ⟨h, 0, none⟩ = some (.pointer (some ⟨x, 0, none⟩)) := hs.cell m0 0
  have c1 : w.cell? ⟨x, 1, none⟩ = some (.map (some m)) := hs.cell m1 1
  have c2 : w.cell? ⟨x, 0, none⟩ = some v := hs.cell m1 0
  have hlk := lookup_sl (P := Try.prog) (t := 34) (key := .int .i64 id) (z := .int .i64 0) hs m2 Try.underlying34 Try.underlying3 rfl (Try.zeroValue3 _) true
  simp only [hfi, Option.getD_some, Option.isSome_some, if_true] at hlk
  rcases hr.2 with ⟨rfl, hn0, _⟩ | ⟨g, off, cap, rfl, hnc, hcm, rfl⟩
  · omega
  · have hfl := flat_length l
    obtain ⟨o, ho, hro⟩ := hs.get m3
    have d1 : w.cell? ⟨g, off + j * 2 + 1, none⟩ = some (.int .i64 k) := by rw [Nat.add_assoc, (hro.cell ho (j * 2 + 1) (by omega)).1, (flat_get hj).2]
    have e1 : w.frozen? ⟨g, off + j * 2 + 1, none⟩ = false := (hro.cell ho (j * 2 + 1) (by omega)).2
    have hs2 : Sat W w ((g, rowP 28 off (cap * 2) (flat l)) :: cellsA x #[.slice (some ⟨g, off, none⟩) l.length cap, .map (some m)] 55 :: mapA m (.int .i64) f l.length :: cellsA h #[.pointer (some ⟨x, 0, none⟩)] 57 :: F) := hs.use (by intro x; simp only [cnt_append, cnt_cons, cnt_nil]; omega)
    have hs3 := row_store hs2 (j * 2 + 1) (by omega) (.int .i64 key)
    have hst : (flat l).set (j * 2 + 1) (.int .i64 key) = flat (l.set j (id, key)) := by
      rw [flat_set]
      have := (flat_get hj).1
      have e2 : (flat l).set (j * 2) (.int .i64 id) = flat l := by
        apply List.ext_getElem?
        intro i
        rw [List.getElem?_set]
        by_cases hi : j * 2 = i
        · subst hi; rw [if_pos rfl, if_pos (by omega), this]
        · rw [if_neg hi]
      simp only [e2]
    rw [hst] at hs3
    have hne : x ≠ g := by
      have : Sat W w (cellsA x #[.slice (some ⟨g, off, none⟩) l.length cap, .map (some m)] 55 :: (g, rowP 28 off (cap * 2) (flat l)) :: F) := hs.use (by intro x; simp only [cnt_append, cnt_cons, cnt_nil]; omega)
      exact this.ne
    have hne2 : h ≠ g := by
      have : Sat W w (cellsA h #[.pointer (some ⟨x, 0, none⟩)] 57 :: (g, rowP 28 off (cap * 2) (flat l)) :: F) := hs.use (by intro x; simp only [cnt_append, cnt_cons, cnt_nil]; omega)
      exact this.ne
    have hI2 : ItemsA x (l.set j (id, key)) (cellsA x #[.slice (some ⟨g, off, none⟩) l.length cap, .map (some m)] 55 :: mapA m (.int .i64) f l.length :: [(g, rowP 28 off (cap * 2) (flat (l.set j (id, key))))]) := by
      refine ⟨.slice (some ⟨g, off, none⟩) l.length cap, m, f, _, ⟨flat_length _, .inr ⟨g, off, cap, by simp, by simpa using hnc, hcm, rfl⟩⟩, idx_set hf hj key, by simp⟩
    have hs4 := hs3.use (M := (cellsA x #[.slice (some ⟨g, off, none⟩) l.length cap, .map (some m)] 55 :: mapA m (.int .i64) f l.length :: [(g, rowP 28 off (cap * 2) (flat (l.set j (id, key))))]) ++ (cellsA h #[.pointer (some ⟨x, 0, none⟩)] 57 :: F)) (by intro x; simp only [cnt_append, cnt_cons, cnt_nil]; omega)
    have c3 : (w.setCell ⟨g, off + (j * 2 + 1), none⟩ (.int .i64 key)).cell? ⟨h, 0, none⟩ = some (.pointer (some ⟨x, 0, none⟩)) := hs3.cell m3 0
    have b1 : (0 : Int) ≤ j := by omega
    have b2 : (j : Int) < l.length := by omega
    have hfe := filter_erase hf hj
    have HJ := Lib.hid hj
    have HH := Lib.hid hh
    have HF := Lib.hid hfe
    have HLN := Lib.hid hlen
    clear hfi hr hf hs hh hn hlen hst hs2 hs3 hfl ho hro hfe hj
    go_enter Try.func13, Try.ntmps13
    go_wp2_with fail
    refine (heap_fix x (l.set j (id, key)) j _ rfl _ _ W _ hI2 hs4 (by simpa using hjl) (by rw [List.length_set]; have := HLN.out; omega)).mono ?_; rintro e w1 ⟨rfl, A1, hA1, hs1⟩
    clear hlk c0 c1 c2 c3 d1 e1 hs4 hI2
    go_wp2_with fail
    go_ret
    refine ⟨rfl, _, ⟨x, _, A1, rfl, hA1, ?_, ?_, put_srt hS id key⟩, hs1.use (by intro x; simp only [cnt_append, cnt_cons, cnt_nil]; omega)⟩
    · unfold putS
      refine (fix_perm (by simpa using hjl)).trans (List.Perm.trans ?_ (ins_perm _ _).symm)
      have h1 : (l.set j (id, key)).Perm ((id, key) :: l.eraseIdx j) := by
        have h2 := perm_eraseIdx (l := l.set j (id, key)) (j := j) (x := (id, key)) (by simp [hjl])
        rwa [List.eraseIdx_set_eq] at h2
      rw [← HF.out] at h1
      exact h1.trans ((hp.filter _).cons _)
    · rw [length_fixL]
      refine fix_heap (by simpa using hjl) ?_
      have := near_set (i := j) (id, key) HH.out
      simpa using this

theorem heap_put (h : Nat) (S : List It) (id key : Int) (A F : List Atom) (W w : World) (hA : HeapA h S A) (hs : Sat W w (A ++ F)) (hb : S.length < 900000) (b : Bool) (hn : S.any (fun q => q.1 == id) = b) :
    Calls Try.prog 13 #[.pointer (some ⟨h, 0, none⟩), .int .i64 id, .int .i64 key] w fun e w' => e = .returned (.bool (!b)) ∧ ∃ A', HeapA h (putS S id key) A' ∧ Sat W w' (A' ++ F) := by
  cases b with
  | false => exact heap_put_new h S id key A F W w hA hs hb hn
  | true => exact heap_put_old h S id key A F W w hA hs hb hn

def dropS (S : List It) (id : Int) : List It := S.filter fun q => q.1 != id

theorem heap_drop_none (h : Nat) (S : List It) (id : Int) (A F : List Atom) (W w : World) (hA : HeapA h S A) (hs : Sat W w (A ++ F)) (hn : S.any (fun q => q.1 == id) = false) :
    Calls Try.prog 26 #[.pointer (some ⟨h, 0, none⟩), .int .i64 id] w fun e w' => e = .returned (.bool false) ∧ w = w' := by
  obtain ⟨x, l, A0, rfl, ⟨v, m, f, R, hr, hf, rfl⟩, hp, hh, hS⟩ := hA
  have hfi : f (.int .i64 id) = none := by
    rcases idx_find hf id with ⟨_, h2⟩ | ⟨j, k, h1, h2, h3⟩
    · exact h2
    · rw [any_perm hp, hn] at h3; cases h3
  have c0 : w.cell? ⟨h, 0, none⟩ = some (.pointer (some ⟨x, 0, none⟩)) := hs.cell m0 0
  have c1 : w.cell? ⟨x, 1, none⟩ = some (.map (some m)) := hs.cell m1 1
  have hlk := lookup_sl (P := Try.prog) (t := 34) (key := .int .i64 id) (z := .int .i64 0) hs m2 Try.underlying34 Try.underlying3 rfl (Try.zeroValue3 _) true
  simp only [hfi, Option.getD_none, Option.isSome_none, if_true] at hlk
  clear hfi hr hf hs hh hn hp hS
  go_enter Try.func26, Try.ntmps26
  go_wp2_with fail
  go_ret
  exact ⟨rfl, rfl⟩

theorem heap_drop_some (h : Nat) (S : List It) (id : Int) (A F : List Atom) (W w : World) (hA : HeapA h S A) (hs : Sat W w (A ++ F)) (hb : S.length < 900000) (hn : S.any (fun q => q.1 == id) = true) :
    Calls Try.prog 26 #[.pointer (some ⟨h, 0, none⟩), .int .i64 id] w fun e w' => e = .returned (.bool true) ∧ ∃ A', HeapA h (dropS S id) A' ∧ Sat W w' (A' ++ F) := by
  obtain ⟨x, l, A0, rfl, hI, hp, hh, hS⟩ := hA
  have hlen := hp.length_eq
  have hI' := hI
  obtain ⟨v, m, f, R, hr, hf, rfl⟩ := hI'
  obtain ⟨j, k, hj, hfi⟩ : ∃ (j : Nat) (k : Int), l[j]? = some (id, k) ∧ f (.int .i64 id) = some (.int .i64 j) := by
    rcases idx_find hf id with ⟨h1, _⟩ | ⟨j, k, h1, h2, h3⟩
    · rw [any_perm hp, hn] at h1; cases h1
    · exact ⟨j, k, h1, h2⟩
  have hjl := (List.getElem?_eq_some_iff.1 hj).1
  have c0 : w.cell? ⟨h, 0, none⟩ = some (.pointer (some ⟨x, 0, none⟩)) := hs.cell m0 0
  have c1 : w.cell? ⟨x, 1, none⟩ = some (.map (some m)) := hs.cell m1 1
  have hlk := lookup_sl (P := Try.prog) (t := 34) (key := .int .i64 id) (z := .int .i64 0) hs m2 Try.underlying34 Try.underlying3 rfl (Try.zeroValue3 _) true
  simp only [hfi, Option.getD_some, Option.isSome_some, if_true] at hlk
  have hs2 : Sat W w ((cellsA x #[v, .map (some m)] 55 :: mapA m (.int .i64) f l.length :: R) ++ (cellsA h #[.pointer (some ⟨x, 0, none⟩)] 57 :: F)) := hs.use (by intro x; simp only [cnt_append, cnt_cons, cnt_nil]; omega)
  have hfe := filter_erase hf hj
  have hat : at_ l j = (id, k) := by unfold at_; simp [hj]
  have HJ := Lib.hid hat
  have HH := Lib.hid hh
  have HF := Lib.hid hfe
  have HLN := Lib.hid hlen
  clear hfi hr hf hs hh hn hlen hfe hj hat
  go_enter Try.func26, Try.ntmps26
  go_wp2_with fail
  refine (heap_remove x l j _ rfl _ _ W _ hI hs2 hjl (by have := HLN.out; omega)).mono ?_; rintro e w1 ⟨⟨u, rfl⟩, A1, hA1, hs1⟩
  clear hlk c0 c1 hs2 hI
  go_wp2_with fail
  go_ret
  refine ⟨rfl, _, ⟨x, _, A1, rfl, hA1, ?_, ?_, filter_srt hS _⟩, hs1.use (by intro x; simp only [cnt_append, cnt_cons, cnt_nil]; omega)⟩
  · have h1 := rem_perm hjl
    rw [HJ.out] at h1
    have h2 := h1.filter (fun q => q.1 != id)
    rw [List.filter_cons] at h2
    simp only [bne_self_eq_false, Bool.false_eq_true, if_false] at h2
    have h3 : (remL l j).Perm (l.eraseIdx j) := by
      have h4 := (perm_eraseIdx (l := l) (j := j) (x := (id, k)) (by rw [← HJ.out]; unfold at_; simp [hjl])).symm.trans h1
      exact h4.cons_inv.symm
    rw [← HF.out] at h3
    exact h3.trans (hp.filter _)
  · rw [length_remL hjl]
    exact rem_heap hjl HH.out

theorem heap_key_none (h : Nat) (S : List It) (id : Int) (A F : List Atom) (W w : World) (hA : HeapA h S A) (hs : Sat W w (A ++ F)) (hn : S.any (fun q => q.1 == id) = false) :
    Calls Try.prog 29 #[.pointer (some ⟨h, 0, none⟩), .int .i64 id] w fun e w' => e = .returned (.tuple #[.int .i64 0, .bool false]) ∧ w = w' := by
  obtain ⟨x, l, A0, rfl, ⟨v, m, f, R, hr, hf, rfl⟩, hp, hh, hS⟩ := hA
  have hfi : f (.int .i64 id) = none := by
    rcases idx_find hf id with ⟨_, h2⟩ | ⟨j, k, h1, h2, h3⟩
    · exact h2
    · rw [any_perm hp, hn] at h3; cases h3
  have c0 : w.cell? ⟨h, 0, none⟩ = some (.pointer (some ⟨x, 0, none⟩)) := hs.cell m0 0
  have c1 : w.cell? ⟨x, 1, none⟩ = some (.map (some m)) := hs.cell m1 1
  have hlk := lookup_sl (P := Try.prog) (t := 34) (key := .int .i64 id) (z := .int .i64 0) hs m2 Try.underlying34 Try.underlying3 rfl (Try.zeroValue3 _) true
  simp only [hfi, Option.getD_none, Option.isSome_none, if_true] at hlk
  clear hfi hr hf hs hh hn hp hS
  go_enter Try.func29, Try.ntmps29
  go_wp2_with fail
  go_ret2
  exact ⟨rfl, rfl⟩

theorem heap_key_some (h : Nat) (S : List It) (id k : Int) (A F : List Atom) (W w : World) (hA : HeapA h S A) (hs : Sat W w (A ++ F)) (hn : (id, k) ∈ S) :
    Calls Try.prog 29 #[.pointer (some ⟨h, 0, none⟩), .int .i64 id] w fun e w' => e = .returned (.tuple #[.int .i64 k, .bool true]) ∧ w = w' := by
  obtain ⟨x, l, A0, rfl, ⟨v, m, f, R, hr, hf, rfl⟩, hp, hh, hS⟩ := hA
  obtain ⟨j, hj⟩ := List.getElem?_of_mem (hp.mem_iff.2 hn)
  have hfi := hf.2 j (id, k) hj
  have hjl := (List.getElem?_eq_some_iff.1 hj).1
  have c0 : w.cell? ⟨h, 0, none⟩ = some (.pointer (some ⟨x, 0, none⟩)) := hs.cell m0 0
  have c1 : w.cell? ⟨x, 1, none⟩ = some (.map (some m)) := hs.cell m1 1
  have c2 : w.cell? ⟨x, 0, none⟩ = some v := hs.cell m1 0
  have hlk := lookup_sl (P := Try.prog) (t := 34) (key := .int .i64 id) (z := .int .i64 0) hs m2 Try.underlying34 Try.underlying3 rfl (Try.zeroValue3 _) true
  simp only [hfi, Option.getD_some, Option.isSome_some, if_true] at hlk
  rcases hr.2 with ⟨rfl, hn0, _⟩ | ⟨g, off, cap, rfl, hnc, hcm, rfl⟩
  · omega
  · have hfl := flat_length l
    obtain ⟨o, ho, hro⟩ := hs.get m3
    have d1 : w.cell? ⟨g, off + j * 2 + 1, none⟩ = some (.int .i64 k) := by rw [Nat.add_assoc, (hro.cell ho (j * 2 + 1) (by omega)).1, (flat_get hj).2]
    have b1 : (0 : Int) ≤ j := by omega
    have b2 : (j : Int) < l.length := by omega
    clear hfi hr hf hs hh hn hp hS hfl ho hro hj
    go_enter Try.func29, Try.ntmps29
    go_wp2_with fail
    go_ret2
    exact ⟨rfl, rfl⟩
end Go.Proofs.Ytelcaeapflhadaa.Pk
