/-
  Package refs: what each of its functions does to what a Refs owns.
-/
import Derived.Test.YtelcaeapflhadaaRfM
import Derived.Test.YtelcaeapflhadaaSlRange
namespace Go.Proofs.Ytelcaeapflhadaa.Rf
set_option linter.unusedSimpArgs false
open Go Go.RowKit Go.Sl Go.BigFrame Go.Proofs.Ytelcaeapflhadaa.Pk
set_option linter.unusedVariables false

/-- The map of counts: c's entries that are not 0. -/
structure CntOk (f : Value → Option Value) (c : Int → Int) : Prop where
  gives : ∀ k v, f k = some v → ∃ i : Int, k = .int .i64 i ∧ c i ≠ 0 ∧ v = .int .i64 (c i)
  all : ∀ i, c i ≠ 0 → f (.int .i64 i) = some (.int .i64 (c i))
/-- The map of what is held. -/
structure HeldOk (f : Value → Option Value) (hs : List Int) : Prop where
  gives : ∀ k v, f k = some v → ∃ i ∈ hs, k = .int .i64 i ∧ v = .bool true
  all : ∀ i ∈ hs, f (.int .i64 i) = some (.bool true)
  apart : hs.Nodup

def upd (c : Int → Int) (i v : Int) (j : Int) : Int := if j = i then v else c j
theorem upd_same (c : Int → Int) (i v : Int) : upd c i v i = v := by simp [upd]
theorem upd_other (c : Int → Int) {i j : Int} (v : Int) (h : j ≠ i) : upd c i v j = c j := by simp [upd, h]

theorem CntOk.none {f : Value → Option Value} {c : Int → Int} (h : CntOk f c) {i : Int} (hi : c i = 0) : f (.int .i64 i) = none := by
  cases hf : f (.int .i64 i) with
  | none => rfl
  | some v =>
    obtain ⟨j, e, hj, _⟩ := h.gives _ _ hf
    cases e
    exact absurd hi hj
theorem CntOk.get {f : Value → Option Value} {c : Int → Int} (h : CntOk f c) (i : Int) : (f (.int .i64 i)).getD (.int .i64 0) = .int .i64 (c i) := by
  by_cases hi : c i = 0
  · rw [h.none hi, hi]; rfl
  · rw [h.all i hi]; rfl
theorem CntOk.set {f : Value → Option Value} {c : Int → Int} (h : CntOk f c) (i v : Int) (hv : v ≠ 0) : CntOk (updV f (.int .i64 i) (.int .i64 v)) (upd c i v) := by
  refine ⟨fun k u hk => ?_, fun j hj => ?_⟩
  · by_cases e : k = .int .i64 i
    · subst e
      rw [updV_same] at hk
      cases hk
      exact ⟨i, rfl, by rw [upd_same]; exact hv, by rw [upd_same]⟩
    · rw [updV_other _ _ e] at hk
      obtain ⟨j, rfl, h1, rfl⟩ := h.gives _ _ hk
      have : j ≠ i := fun e' => e (by rw [e'])
      exact ⟨j, rfl, by rw [upd_other _ _ this]; exact h1, by rw [upd_other _ _ this]⟩
  · by_cases e : j = i
    · subst e; rw [updV_same, upd_same]
    · rw [upd_other _ _ e] at hj ⊢
      rw [updV_other]
      · exact h.all j hj
      · intro e'; cases e'; exact e rfl
theorem CntOk.zero {f : Value → Option Value} {c : Int → Int} (h : CntOk f c) (i : Int) (v : Value) : CntOk (delV (updV f (.int .i64 i) v) (.int .i64 i)) (upd c i 0) := by
  refine ⟨fun k u hk => ?_, fun j hj => ?_⟩
  · by_cases e : k = .int .i64 i
    · subst e
      rw [delV_same] at hk
      cases hk
    · rw [delV_other _ e, updV_other _ _ e] at hk
      obtain ⟨j, rfl, h1, rfl⟩ := h.gives _ _ hk
      have : j ≠ i := fun e' => e (by rw [e'])
      exact ⟨j, rfl, by rw [upd_other _ _ this]; exact h1, by rw [upd_other _ _ this]⟩
  · by_cases e : j = i
    · subst e; rw [upd_same] at hj; exact absurd rfl hj
    · rw [upd_other _ _ e] at hj ⊢
      have e' : Value.int .i64 j ≠ .int .i64 i := by intro e'; cases e'; exact e rfl
      rw [delV_other _ e', updV_other _ _ e']
      exact h.all j hj
theorem CntOk.nil : CntOk (fun _ => Option.none) (fun _ => 0) := ⟨fun k v h => (by cases h), fun i h => absurd rfl h⟩
theorem HeldOk.nil : HeldOk (fun _ => Option.none) [] := ⟨fun k v h => (by cases h), fun i h => (by cases h), .nil⟩
theorem HeldOk.none {f : Value → Option Value} {hs : List Int} (h : HeldOk f hs) {i : Int} (hi : i ∉ hs) : f (.int .i64 i) = Option.none := by
  cases hf : f (.int .i64 i) with
  | none => rfl
  | some v =>
    obtain ⟨j, hj, e, _⟩ := h.gives _ _ hf
    cases e
    exact absurd hj hi
theorem HeldOk.add {f : Value → Option Value} {hs : List Int} (h : HeldOk f hs) {i : Int} (hi : i ∉ hs) : HeldOk (updV f (.int .i64 i) (.bool true)) (i :: hs) := by
  refine ⟨fun k v hk => ?_, fun j hj => ?_, List.nodup_cons.2 ⟨hi, h.apart⟩⟩
  · by_cases e : k = .int .i64 i
    · subst e
      rw [updV_same] at hk
      cases hk
      exact ⟨i, List.mem_cons_self .., rfl, rfl⟩
    · rw [updV_other _ _ e] at hk
      obtain ⟨j, hj, h1, h2⟩ := h.gives _ _ hk
      exact ⟨j, List.mem_cons_of_mem _ hj, h1, h2⟩
  · by_cases e : j = i
    · subst e; exact updV_same _ _ _
    · rw [updV_other]
      · rcases List.mem_cons.1 hj with e' | hj
        · exact absurd e' e
        · exact h.all j hj
      · intro e'; cases e'; exact e rfl

/-- The Refs at r: free S, counts c, held hs. -/
def RefsA (r : Nat) (S : List It) (c : Int → Int) (hs : List Int) (A : List Atom) : Prop :=
  ∃ (lo hi : Int) (h mc mh : Nat) (fc : Value → Option Value) (nc : Nat) (fh : Value → Option Value) (A0 : List Atom),
    A = cellsA r #[.int .i64 lo, .int .i64 hi, .pointer (some ⟨h, 0, none⟩), .map (some mc), .map (some mh)] 62 :: mapA mc (.int .i64) fc nc :: mapA mh (.int .i64) fh hs.length :: A0 ∧
      HeapA h S A0 ∧ CntOk fc c ∧ HeldOk fh hs

theorem refs_free (r : Nat) (S : List It) (c : Int → Int) (hs : List Int) (A F : List Atom) (W w : World) (hA : RefsA r S c hs A) (hw : Sat W w (A ++ F)) :
    Calls Try.prog 19 #[.pointer (some ⟨r, 0, none⟩)] w fun e w' => e = .returned (.int .i64 S.length) ∧ w = w' := by
  obtain ⟨lo, hi, h, mc, mh, fc, nc, fh, A0, rfl, hH, hC, hD⟩ := hA
  have c2 : w.cell? ⟨r, 2, none⟩ = some (.pointer (some ⟨h, 0, none⟩)) := hw.cell m0 2
  have hw0 : Sat W w (A0 ++ F) := hw.use (by intro x; simp only [cnt_append, cnt_cons, cnt_nil]; omega)
  go_enter Try.func19, Try.ntmps19
  go_wp2_with fail
  refine (heap_len h S A0 F W _ hH hw0).mono ?_; rintro e w' ⟨rfl, rfl⟩
  go_wp2
  go_ret
  exact ⟨rfl, rfl⟩

theorem refs_held (r : Nat) (S : List It) (c : Int → Int) (hs : List Int) (A F : List Atom) (W w : World) (hA : RefsA r S c hs A) (hw : Sat W w (A ++ F)) :
    Calls Try.prog 22 #[.pointer (some ⟨r, 0, none⟩)] w fun e w' => e = .returned (.int .i64 hs.length) ∧ w = w' := by
  obtain ⟨lo, hi, h, mc, mh, fc, nc, fh, A0, rfl, hH, hC, hD⟩ := hA
  have c4 : w.cell? ⟨r, 4, none⟩ = some (.map (some mh)) := hw.cell m0 4
  have hl := len_sl (P := Try.prog) (t := 40) hw m2 Try.underlying40 3
  go_enter Try.func22, Try.ntmps22
  go_wp2
  go_ret
  exact ⟨rfl, rfl⟩

theorem refs_count (r : Nat) (S : List It) (c : Int → Int) (hs : List Int) (id : Int) (A F : List Atom) (W w : World) (hA : RefsA r S c hs A) (hw : Sat W w (A ++ F)) :
    Calls Try.prog 25 #[.pointer (some ⟨r, 0, none⟩), .int .i64 id] w fun e w' => e = .returned (.int .i64 (c id)) ∧ w = w' := by
  obtain ⟨lo, hi, h, mc, mh, fc, nc, fh, A0, rfl, hH, hC, hD⟩ := hA
  have c3 : w.cell? ⟨r, 3, none⟩ = some (.map (some mc)) := hw.cell m0 3
  have hlk := lookup_sl (P := Try.prog) (t := 34) (key := .int .i64 id) (z := .int .i64 0) hw m1 Try.underlying34 Try.underlying3 rfl (Try.zeroValue3 _) false
  rw [hC.get id] at hlk
  go_enter Try.func25, Try.ntmps25
  go_wp2
  go_ret
  exact ⟨rfl, rfl⟩

theorem refs_add_none (r : Nat) (S : List It) (c : Int → Int) (hs : List Int) (id : Int) (A F : List Atom) (W w : World) (hA : RefsA r S c hs A) (hw : Sat W w (A ++ F)) (h0 : c id = 0) :
    Calls Try.prog 24 #[.pointer (some ⟨r, 0, none⟩), .int .i64 id] w fun e w' => e = .returned (.bool false) ∧ w = w' := by
  obtain ⟨lo, hi, h, mc, mh, fc, nc, fh, A0, rfl, hH, hC, hD⟩ := hA
  have c3 : w.cell? ⟨r, 3, none⟩ = some (.map (some mc)) := hw.cell m0 3
  have hlk := lookup_sl (P := Try.prog) (t := 34) (key := .int .i64 id) (z := .int .i64 0) hw m1 Try.underlying34 Try.underlying3 rfl (Try.zeroValue3 _) false
  rw [hC.get id, h0] at hlk
  go_enter Try.func24, Try.ntmps24
  go_wp2
  go_ret
  exact ⟨rfl, rfl⟩

theorem refs_add_some (r : Nat) (S : List It) (c : Int → Int) (hs : List Int) (id : Int) (A F : List Atom) (W w : World) (hA : RefsA r S c hs A) (hw : Sat W w (A ++ F)) (h0 : 0 < c id) (h1 : c id < 1000000) :
    Calls Try.prog 24 #[.pointer (some ⟨r, 0, none⟩), .int .i64 id] w fun e w' => e = .returned (.bool true) ∧ ∃ A', RefsA r S (upd c id (c id + 1)) hs A' ∧ Sat W w' (A' ++ F) := by
  obtain ⟨lo, hi, h, mc, mh, fc, nc, fh, A0, rfl, hH, hC, hD⟩ := hA
  have c3 : w.cell? ⟨r, 3, none⟩ = some (.map (some mc)) := hw.cell m0 3
  have hlk := lookup_sl (P := Try.prog) (t := 34) (key := .int .i64 id) (z := .int .i64 0) hw m1 Try.underlying34 Try.underlying3 rfl (Try.zeroValue3 _) false
  rw [hC.get id] at hlk
  have hC' := hC.set id (c id + 1) (by omega)
  generalize c id = k at *
  have d0 : (k == 0) = false := by simp; omega
  have d1 : decide (k = 0) = false := by simp; omega
  have hw1 : Sat W w (mapA mc (.int .i64) fc nc :: cellsA r #[.int .i64 lo, .int .i64 hi, .pointer (some ⟨h, 0, none⟩), .map (some mc), .map (some mh)] 62 :: mapA mh (.int .i64) fh hs.length :: (A0 ++ F)) := hw.use (by intro x; simp only [cnt_append, cnt_cons, cnt_nil]; omega)
  obtain ⟨w1, hr1, hs1⟩ := mapUpdate_sl (P := Try.prog) (t := 34) (key := .int .i64 id) hw1 Try.underlying34 Try.underlying3 rfl (.int .i64 (k + 1))
  generalize (if (fc (.int .i64 id)).isSome = true then nc else nc + 1) = n1 at hs1
  go_enter Try.func24, Try.ntmps24
  go_wp2
  go_ret
  exact ⟨rfl, _, ⟨lo, hi, h, mc, mh, _, n1, fh, A0, rfl, hH, hC', hD⟩, hs1.use (by intro x; simp only [cnt_append, cnt_cons, cnt_nil]; omega)⟩

theorem refs_take_none (r : Nat) (c : Int → Int) (hs : List Int) (A F : List Atom) (W w : World) (hA : RefsA r [] c hs A) (hw : Sat W w (A ++ F)) :
    Calls Try.prog 20 #[.pointer (some ⟨r, 0, none⟩)] w fun e w' => e = .returned (.tuple #[.int .i64 0, .bool false]) ∧ Sat W w' (A ++ F) := by
  obtain ⟨lo, hi, h, mc, mh, fc, nc, fh, A0, rfl, hH, hC, hD⟩ := hA
  have c2 : w.cell? ⟨r, 2, none⟩ = some (.pointer (some ⟨h, 0, none⟩)) := hw.cell m0 2
  have hw0 : Sat W w (A0 ++ (cellsA r #[.int .i64 lo, .int .i64 hi, .pointer (some ⟨h, 0, none⟩), .map (some mc), .map (some mh)] 62 :: mapA mc (.int .i64) fc nc :: mapA mh (.int .i64) fh hs.length :: F)) := hw.use (by intro x; simp only [cnt_append, cnt_cons, cnt_nil]; omega)
  go_enter Try.func20, Try.ntmps20
  go_wp2_with fail
  refine (heap_pop_none h A0 _ W _ hH hw0).mono ?_; rintro e w1 ⟨rfl, hs1⟩
  have hx := Sat.newCells hs1 #[.int .i64 0, .int .i64 0] 28
  go_wp2
  go_ret2
  exact ⟨rfl, hx.use (by intro x; simp only [cnt_append, cnt_cons, cnt_nil]; omega)⟩

theorem refs_take_some (r : Nat) (p : It) (S : List It) (c : Int → Int) (hs : List Int) (A F : List Atom) (W w : World) (hA : RefsA r (p :: S) c hs A) (hw : Sat W w (A ++ F)) (hb : S.length < 900000) :
    Calls Try.prog 20 #[.pointer (some ⟨r, 0, none⟩)] w fun e w' => e = .returned (.tuple #[.int .i64 p.1, .bool true]) ∧ ∃ A', RefsA r S (upd c p.1 1) hs A' ∧ Sat W w' (A' ++ F) := by
  obtain ⟨lo, hi, h, mc, mh, fc, nc, fh, A0, rfl, hH, hC, hD⟩ := hA
  have c2 : w.cell? ⟨r, 2, none⟩ = some (.pointer (some ⟨h, 0, none⟩)) := hw.cell m0 2
  have hw0 : Sat W w (A0 ++ (cellsA r #[.int .i64 lo, .int .i64 hi, .pointer (some ⟨h, 0, none⟩), .map (some mc), .map (some mh)] 62 :: mapA mc (.int .i64) fc nc :: mapA mh (.int .i64) fh hs.length :: F)) := hw.use (by intro x; simp only [cnt_append, cnt_cons, cnt_nil]; omega)
  go_enter Try.func20, Try.ntmps20
  go_wp2_with fail
  refine (heap_pop_some h p S A0 _ W _ hH hw0 hb).mono ?_; rintro e w1 ⟨rfl, A1, hH1, hs1⟩
  have hx := Sat.newCells hs1 #[.int .i64 p.1, .int .i64 p.2] 28
  clear c2 hw0 hw hs1
  go_wp2
  refine wp_region_one [6] [] [] [] [0, 1, 2, 3, 4, 5, 6] (by kernel_rfl) (by kernel_rfl) ?_
  refine with_sat hx.drew ?_
  generalize w1.heap.size = z
  clear hx
  intro w2 hx
  have hx2 : Sat W w2 (mapA mc (.int .i64) fc nc :: cellsA r #[.int .i64 lo, .int .i64 hi, .pointer (some ⟨h, 0, none⟩), .map (some mc), .map (some mh)] 62 :: cellsA z #[.int .i64 p.1, .int .i64 p.2] 28 :: mapA mh (.int .i64) fh hs.length :: (A1 ++ F)) := hx.use (by intro x; simp only [cnt_append, cnt_cons, cnt_nil]; omega)
  have c3 : w2.cell? ⟨r, 3, none⟩ = some (.map (some mc)) := hx2.cell m1 3
  have x0 : w2.cell? ⟨z, 0, none⟩ = some (.int .i64 p.1) := hx2.cell m2 0
  obtain ⟨w3, hr3, hs3⟩ := mapUpdate_sl (P := Try.prog) (t := 34) (key := .int .i64 p.1) hx2 Try.underlying34 Try.underlying3 rfl (.int .i64 1)
  generalize (if (fc (.int .i64 p.1)).isSome = true then nc else nc + 1) = n1 at hs3
  have x1 : w3.cell? ⟨z, 0, none⟩ = some (.int .i64 p.1) := hs3.cell m2 0
  have hC' := hC.set p.1 1 (by omega)
  repeat (first | (refine can_pu1 rfl rfl rfl rfl rfl rfl (fun K hK => ?_); go_big_quiet_op; refine hK _ ?_; clear hK K) | (refine can_st1 rfl rfl rfl rfl rfl rfl (fun K hK => ?_); go_big_quiet_op; refine hK _ ?_; clear hK K) | (refine can_early1 rfl rfl rfl rfl rfl (fun K hK => ?_); go_big_quiet_op; refine hK _ ?_; clear hK K) | (refine can_skip rfl rfl rfl ?_; simp only [Act.put, List.setIfInBounds_toArray, List.set_cons_zero, List.set_cons_succ]))
  refine can_act1 rfl rfl rfl (fun K hK => ?_)
  go_wp2
  refine can_end1 ?_; (try simp only [Exit.then])
  go_wp2
  go_ret2
  exact ⟨rfl, _, ⟨lo, hi, h, mc, mh, _, n1, fh, A1, rfl, hH1, hC', hD⟩, hs3.use (by intro x; simp only [cnt_append, cnt_cons, cnt_nil]; omega)⟩

theorem refs_drop_none (r : Nat) (S : List It) (c : Int → Int) (hs : List Int) (id : Int) (A F : List Atom) (W w : World) (hA : RefsA r S c hs A) (hw : Sat W w (A ++ F)) (h0 : c id = 0) :
    Calls Try.prog 21 #[.pointer (some ⟨r, 0, none⟩), .int .i64 id] w fun e w' => e = .returned (.bool false) ∧ w = w' := by
  obtain ⟨lo, hi, h, mc, mh, fc, nc, fh, A0, rfl, hH, hC, hD⟩ := hA
  have c3 : w.cell? ⟨r, 3, none⟩ = some (.map (some mc)) := hw.cell m0 3
  have hlk := lookup_sl (P := Try.prog) (t := 34) (key := .int .i64 id) (z := .int .i64 0) hw m1 Try.underlying34 Try.underlying3 rfl (Try.zeroValue3 _) false
  rw [hC.get id, h0] at hlk
  go_enter Try.func21, Try.ntmps21
  go_wp2
  go_ret
  exact ⟨rfl, rfl⟩

theorem refs_drop_more (r : Nat) (S : List It) (c : Int → Int) (hs : List Int) (id : Int) (A F : List Atom) (W w : World) (hA : RefsA r S c hs A) (hw : Sat W w (A ++ F)) (h0 : 1 < c id) (h1 : c id < 1000000) :
    Calls Try.prog 21 #[.pointer (some ⟨r, 0, none⟩), .int .i64 id] w fun e w' => e = .returned (.bool true) ∧ ∃ A', RefsA r S (upd c id (c id - 1)) hs A' ∧ Sat W w' (A' ++ F) := by
  obtain ⟨lo, hi, h, mc, mh, fc, nc, fh, A0, rfl, hH, hC, hD⟩ := hA
  have c3 : w.cell? ⟨r, 3, none⟩ = some (.map (some mc)) := hw.cell m0 3
  have hlk := lookup_sl (P := Try.prog) (t := 34) (key := .int .i64 id) (z := .int .i64 0) hw m1 Try.underlying34 Try.underlying3 rfl (Try.zeroValue3 _) false
  rw [hC.get id] at hlk
  have hC' := hC.set id (c id - 1) (by omega)
  generalize c id = k at *
  have d0 : (k == 0) = false := by simp; omega
  have d1 : decide (k = 0) = false := by simp; omega
  have d2 : (k - 1 == 0) = false := by simp; omega
  have d3 : decide (k - 1 = 0) = false := by simp; omega
  have hw1 : Sat W w (mapA mc (.int .i64) fc nc :: cellsA r #[.int .i64 lo, .int .i64 hi, .pointer (some ⟨h, 0, none⟩), .map (some mc), .map (some mh)] 62 :: mapA mh (.int .i64) fh hs.length :: (A0 ++ F)) := hw.use (by intro x; simp only [cnt_append, cnt_cons, cnt_nil]; omega)
  obtain ⟨w1, hr1, hs1⟩ := mapUpdate_sl (P := Try.prog) (t := 34) (key := .int .i64 id) hw1 Try.underlying34 Try.underlying3 rfl (.int .i64 (k - 1))
  generalize (if (fc (.int .i64 id)).isSome = true then nc else nc + 1) = n1 at hs1
  have e3 : w1.cell? ⟨r, 3, none⟩ = some (.map (some mc)) := hs1.cell m1 3
  have hlk1 := lookup_sl (P := Try.prog) (t := 34) (key := .int .i64 id) (z := .int .i64 0) hs1 m0 Try.underlying34 Try.underlying3 rfl (Try.zeroValue3 _) false
  rw [updV_same] at hlk1
  go_enter Try.func21, Try.ntmps21
  go_wp2
  go_ret
  exact ⟨rfl, _, ⟨lo, hi, h, mc, mh, _, n1, fh, A0, rfl, hH, hC', hD⟩, hs1.use (by intro x; simp only [cnt_append, cnt_cons, cnt_nil]; omega)⟩

theorem refs_drop_last (r : Nat) (S : List It) (c : Int → Int) (hs : List Int) (id : Int) (A F : List Atom) (W w : World) (hA : RefsA r S c hs A) (hw : Sat W w (A ++ F)) (h0 : c id = 1) (hn : id ∉ hs) :
    Calls Try.prog 21 #[.pointer (some ⟨r, 0, none⟩), .int .i64 id] w fun e w' => e = .returned (.bool true) ∧ ∃ A', RefsA r S (upd c id 0) (id :: hs) A' ∧ Sat W w' (A' ++ F) := by
  obtain ⟨lo, hi, h, mc, mh, fc, nc, fh, A0, rfl, hH, hC, hD⟩ := hA
  have c3 : w.cell? ⟨r, 3, none⟩ = some (.map (some mc)) := hw.cell m0 3
  have hlk := lookup_sl (P := Try.prog) (t := 34) (key := .int .i64 id) (z := .int .i64 0) hw m1 Try.underlying34 Try.underlying3 rfl (Try.zeroValue3 _) false
  rw [hC.get id, h0] at hlk
  have hC' := hC.zero id (.int .i64 0)
  have hD' := hD.add hn
  have hw1 : Sat W w (mapA mc (.int .i64) fc nc :: cellsA r #[.int .i64 lo, .int .i64 hi, .pointer (some ⟨h, 0, none⟩), .map (some mc), .map (some mh)] 62 :: mapA mh (.int .i64) fh hs.length :: (A0 ++ F)) := hw.use (by intro x; simp only [cnt_append, cnt_cons, cnt_nil]; omega)
  obtain ⟨w1, hr1, hs1⟩ := mapUpdate_sl (P := Try.prog) (t := 34) (key := .int .i64 id) hw1 Try.underlying34 Try.underlying3 rfl (.int .i64 0)
  generalize (if (fc (.int .i64 id)).isSome = true then nc else nc + 1) = n1 at hs1
  have e3 : w1.cell? ⟨r, 3, none⟩ = some (.map (some mc)) := hs1.cell m1 3
  have hlk1 := lookup_sl (P := Try.prog) (t := 34) (key := .int .i64 id) (z := .int .i64 0) hs1 m0 Try.underlying34 Try.underlying3 rfl (Try.zeroValue3 _) false
  rw [updV_same] at hlk1
  obtain ⟨w2, hr2, hs2⟩ := delete_sl (P := Try.prog) (t := 34) (key := .int .i64 id) hs1 Try.underlying34 Try.underlying3 rfl 3 0
  generalize (if ((updV fc (.int .i64 id) (.int .i64 0)) (.int .i64 id)).isSome = true then n1 - 1 else n1) = n2 at hs2
  have hw3 : Sat W w2 (mapA mh (.int .i64) fh hs.length :: mapA mc (.int .i64) (delV (updV fc (.int .i64 id) (.int .i64 0)) (.int .i64 id)) n2 :: cellsA r #[.int .i64 lo, .int .i64 hi, .pointer (some ⟨h, 0, none⟩), .map (some mc), .map (some mh)] 62 :: (A0 ++ F)) := hs2.use (by intro x; simp only [cnt_append, cnt_cons, cnt_nil]; omega)
  have f4 : w2.cell? ⟨r, 4, none⟩ = some (.map (some mh)) := hw3.cell m2 4
  obtain ⟨w3, hr3, hs3⟩ := mapUpdate_sl (P := Try.prog) (t := 40) (key := .int .i64 id) hw3 Try.underlying40 Try.underlying3 rfl (.bool true)
  rw [hD.none hn] at hs3
  simp only [Option.isSome_none, Bool.false_eq_true, if_false] at hs3
  go_enter Try.func21, Try.ntmps21
  go_wp2
  go_ret
  exact ⟨rfl, _, ⟨lo, hi, h, mc, mh, _, n2, _, A0, rfl, hH, hC', hD'⟩, hs3.use (by intro x; simp only [cnt_append, cnt_cons, cnt_nil, List.length_cons]; omega)⟩
end Go.Proofs.Ytelcaeapflhadaa.Rf
