/-
  Package pick: what All is made of: the order as the sort asks for it, a row's clone, what the sort leaves.
-/
import Derived.Test.YtelcaeapflhadaaPkH
import Derived.Shelf.SlSortCmp.NoneTotal
import Derived.Lib.SliceRun
namespace Go.Proofs.Ytelcaeapflhadaa.Pk
set_option linter.unusedSimpArgs false
open Go Go.RowKit Go.Sl Go.BigFrame
set_option linter.unusedVariables false

/-- order: what it turns, to the block. -/
theorem order_lay (p q : It) (w : World) : Calls Try.prog 37 #[.agg #[.int .i64 p.1, .int .i64 p.2], .agg #[.int .i64 q.1, .int .i64 q.2]] w fun e w' => e = .returned (.int .i64 (ordI p q)) ∧ ∃ n os, w' = Go.Sort.grow (w.drewN n) os := by
  obtain ⟨p1, p2⟩ := p
  obtain ⟨q1, q2⟩ := q
  go_enter Try.func37, Try.ntmps37
  go_wp2
  refine wp_region_one [10, 11] [] [] [] [0, 1, 2, 3, 4, 5, 6, 7, 8, 9, 10, 11, 12] (by kernel_rfl) (by kernel_rfl) ?_
  repeat (first | (refine can_pu1 rfl rfl rfl rfl rfl rfl (fun K hK => ?_); go_big_quiet_op; refine hK _ ?_; clear hK K) | (refine can_st1 rfl rfl rfl rfl rfl rfl (fun K hK => ?_); go_big_quiet_op; refine hK _ ?_; clear hK K) | (refine can_early1 rfl rfl rfl rfl rfl (fun K hK => ?_); go_big_quiet_op; refine hK _ ?_; clear hK K) | (refine can_skip rfl rfl rfl ?_; simp only [Act.put, List.setIfInBounds_toArray, List.set_cons_zero, List.set_cons_succ]))
  refine can_call1 rfl rfl rfl rfl (by (intro w; go_simp); (try (repeat' apply And.intro)); all_goals rfl) ((cmp_any _ _ _).mono fun e w' h => ⟨h.1, h.2.symm⟩) ?_; simp only [Act.put, List.setIfInBounds_toArray, List.set_cons_zero, List.set_cons_succ]
  repeat (first | (refine can_pu1 rfl rfl rfl rfl rfl rfl (fun K hK => ?_); go_big_quiet_op; refine hK _ ?_; clear hK K) | (refine can_st1 rfl rfl rfl rfl rfl rfl (fun K hK => ?_); go_big_quiet_op; refine hK _ ?_; clear hK K) | (refine can_early1 rfl rfl rfl rfl rfl (fun K hK => ?_); go_big_quiet_op; refine hK _ ?_; clear hK K) | (refine can_skip rfl rfl rfl ?_; simp only [Act.put, List.setIfInBounds_toArray, List.set_cons_zero, List.set_cons_succ]))
  refine can_call1 rfl rfl rfl rfl (by (intro w; go_simp); (try (repeat' apply And.intro)); all_goals rfl) ((cmp_any _ _ _).mono fun e w' h => ⟨h.1, h.2.symm⟩) ?_; simp only [Act.put, List.setIfInBounds_toArray, List.set_cons_zero, List.set_cons_succ]
  repeat (first | (refine can_pu1 rfl rfl rfl rfl rfl rfl (fun K hK => ?_); go_big_quiet_op; refine hK _ ?_; clear hK K) | (refine can_st1 rfl rfl rfl rfl rfl rfl (fun K hK => ?_); go_big_quiet_op; refine hK _ ?_; clear hK K) | (refine can_early1 rfl rfl rfl rfl rfl (fun K hK => ?_); go_big_quiet_op; refine hK _ ?_; clear hK K) | (refine can_skip rfl rfl rfl ?_; simp only [Act.put, List.setIfInBounds_toArray, List.set_cons_zero, List.set_cons_succ]))
  refine can_act1 rfl rfl rfl (fun K hK => ?_)
  go_wp2
  repeat (first | (refine can_pu1 rfl rfl rfl rfl rfl rfl (fun K hK => ?_); go_big_quiet_op; refine hK _ ?_; clear hK K) | (refine can_st1 rfl rfl rfl rfl rfl rfl (fun K hK => ?_); go_big_quiet_op; refine hK _ ?_; clear hK K) | (refine can_early1 rfl rfl rfl rfl rfl (fun K hK => ?_); go_big_quiet_op; refine hK _ ?_; clear hK K) | (refine can_skip rfl rfl rfl ?_; simp only [Act.put, List.setIfInBounds_toArray, List.set_cons_zero, List.set_cons_succ]))
  refine can_act1 rfl rfl rfl (fun K hK => ?_)
  go_wp2_with (go_at_call 42; refine (or_two (cmpI p2 q2) (cmpI p1 q1) _ _ (by go_simp) (by go_simp)).mono ?_; rintro e w' ⟨rfl, rfl⟩)
  repeat (first | (refine can_pu1 rfl rfl rfl rfl rfl rfl (fun K hK => ?_); go_big_quiet_op; refine hK _ ?_; clear hK K) | (refine can_st1 rfl rfl rfl rfl rfl rfl (fun K hK => ?_); go_big_quiet_op; refine hK _ ?_; clear hK K) | (refine can_early1 rfl rfl rfl rfl rfl (fun K hK => ?_); go_big_quiet_op; refine hK _ ?_; clear hK K) | (refine can_skip rfl rfl rfl ?_; simp only [Act.put, List.setIfInBounds_toArray, List.set_cons_zero, List.set_cons_succ]))
  refine can_end1 ?_; (try simp only [Exit.then])
  go_wp2
  go_ret
  refine ⟨rfl, 1, (#[.cells #[.int .i64 p1, .int .i64 p2] 28] ++ #[.cells #[.int .i64 q1, .int .i64 q2] 28]) ++ #[.cells #[.int .i64 (cmpI p2 q2), .int .i64 (cmpI p1 q1)] 3], ?_⟩
  rw [Go.Sort.alloc_eq_grow, Go.Sort.alloc_eq_grow, Go.Sort.alloc_eq_grow, Go.Sort.grow_grow, Go.Sort.grow_grow]
  rfl

/-- An item's two cells. -/
def encI (p : It) : List Value := [.int .i64 p.1, .int .i64 p.2]

theorem flatK_list (d : Array It) : (Go.Sort.flatK encI 2 d).toList = flat d.toList := by
  apply List.ext_getElem?
  intro t
  by_cases h : t < d.size * 2
  · obtain ⟨i, c, rfl, hc⟩ : ∃ i c, t = i * 2 + c ∧ c < 2 := ⟨t / 2, t % 2, by omega, by omega⟩
    have hi : i < d.size := by omega
    have hp : d.toList[i]? = some d[i] := by simp [hi]
    obtain ⟨f0, f1⟩ := flat_get hp
    have hg := Go.Sort.get_flatK encI 2 d (i * 2 + c) h
    have hs : (Go.Sort.flatK encI 2 d).toList[i * 2 + c]? = some ((Go.Sort.flatK encI 2 d)[i * 2 + c]!) := by
      rw [getElem!_pos (Go.Sort.flatK encI 2 d) _ (by simpa using h), Array.getElem?_toList, Array.getElem?_eq_getElem]
    have e1 : (i * 2 + c) / 2 = i := by omega
    have e2 : (i * 2 + c) % 2 = c := by omega
    rw [hs, hg, e1, e2, getElem!_pos d i hi]
    rcases (show c = 0 ∨ c = 1 by omega) with rfl | rfl
    · rw [Nat.add_zero, f0]; rfl
    · rw [f1]; rfl
  · rw [List.getElem?_eq_none (by simp; omega), List.getElem?_eq_none (by rw [flat_length]; simp; omega)]

theorem holds_items {W w : World} {F : List Atom} {e : TypeId} {g off cap : Nat} {l : List It} (hs : Sat W w ((g, rowP e off cap (flat l)) :: F)) : Go.Sort.HoldsK encI 2 w g off l.toArray := by
  intro j hj
  obtain ⟨o, ho, hp⟩ := hs.head
  have hl := flatK_list l.toArray
  simp only at hl
  have hj2 : j < (flat l).length := by rw [← hl]; simpa using hj
  obtain ⟨c1, c2⟩ := hp.cell ho j hj2
  refine ⟨?_, c2⟩
  rw [c1, ← hl, Array.getElem?_toList, Array.getElem?_eq_getElem hj, getElem!_pos (Go.Sort.flatK encI 2 l.toArray) j hj]
  rfl

theorem sat_sorted {W w : World} {F : List Atom} {e : TypeId} {g off cap : Nat} {l : List It} (hs : Sat W w ((g, rowP e off cap (flat l)) :: F)) (d : Array It) (hd : d.size = l.length) (n : Nat) (os : Array Obj) :
    Sat W (Go.Proofs.sortWorldK encI 2 w g off n d os) ((g, rowP e off cap (flat d.toList)) :: F) := by
  have hlt := hs.lt m0
  have hb : ∀ k, k < w.heap.size → (Go.Proofs.sortWorldK encI 2 w g off n d os).heap[k]? = if k = g then (w.heap[k]?).map (Go.Sort.onCells (Go.Sort.putCells id off (Go.Sort.flatK encI 2 d))) else w.heap[k]? := by
    intro k hk
    show (w.heap.modify g _ ++ os)[k]? = _
    rw [Array.getElem?_append_left (by simpa using hk), Array.getElem?_modify]
    by_cases h : g = k
    · subst h; simp
    · simp [h, Ne.symm h]
  refine hs.turn ⟨rfl, rfl, rfl, ?_⟩ (fun k hk hne => by rw [hb k hk, if_neg hne]) ?_
  · show w.heap.size ≤ (w.heap.modify g _ ++ os).size
    simp
  · obtain ⟨o, ho, cur, rfl, h1, h2, h3⟩ := hs.head
    refine ⟨_, by rw [hb g hlt, if_pos rfl, ho]; rfl, _, rfl, ?_, ?_, ?_⟩
    · simpa [Go.Sort.putCells] using h1
    · rw [flat_length] at h2 ⊢
      simpa [hd] using h2
    · have hl := flatK_list d
      have hz : (Go.Sort.flatK encI 2 d).size = d.size * 2 := by simp
      rw [← hl]
      rw [flat_length] at h2
      apply List.ext_getElem?
      intro j
      by_cases hj : j < d.size * 2
      · have hin : off + j < cur.size := by omega
        rw [List.getElem?_take, if_pos (by simpa using hj), List.getElem?_drop, Array.getElem?_toList, Array.getElem?_toList]
        simp only [Go.Sort.putCells, Array.getElem?_mapIdx, hz]
        rw [Array.getElem?_eq_getElem hin, Array.getElem?_eq_getElem (by simpa using hj)]
        simp only [Option.map_some]
        rw [if_pos (by omega), Nat.add_sub_cancel_left, getElem!_pos (Go.Sort.flatK encI 2 d) j (by simpa using hj)]
        rfl
      · rw [List.getElem?_eq_none (by simp; omega), List.getElem?_eq_none (by simp; omega)]

set_option maxRecDepth 100000 in
/-- slices.Clone of items. -/
theorem clone_any (W w : World) (F : List Atom) (v : Value) (l : List It) (R : List Atom) (hr : RowA 28 2 v l.length (flat l) R) (hs : Sat W w (R ++ F)) (hb : l.length < 1000000) :
    Calls Try.prog 35 #[v] w fun e w' => ∃ v' R', e = .returned v' ∧ RowA 28 2 v' l.length (flat l) R' ∧ Sat W w' (R' ++ (R ++ F)) := by
  have q44 : ∀ (w : World) (a : Option Addr) (n c n' c' : Nat), (binOp .eql 44 (.slice a n c) (.slice none n' c')).run Try.prog w = .ok (.bool a.isNone) w := fun w a n c n' c' => Go.Lib.run_eql_slice_nil w _ _ a n c n' c' Try.underlying44
  have hs0 : Sat W (w.alloc (.cells #[] 28)) ([(w.heap.size, rowP 28 0 (0 * 2) [])] ++ (R ++ F)) := hs.new (.cells #[] 28) ⟨#[], rfl, by simp, by simp, by simp⟩
  have hrd := hr.reads hs0.tail
  have hr0 : RowA 28 2 (.slice (some ⟨w.heap.size, 0, none⟩) 0 0) 0 [] [(w.heap.size, rowP 28 0 (0 * 2) [])] := ⟨rfl, .inr ⟨_, _, _, rfl, Nat.le_refl _, Nat.zero_le _, rfl⟩⟩
  obtain ⟨i0, hi, hz0, hz1, hz2⟩ := info_parts infoIt
  obtain ⟨v2, w2, R2, hra, hrow, hs2⟩ := append_sl (P := Try.prog) 44 Try.underlying44 hi hz0 hz1 hz2 rfl (by decide) hr0 hs0 hrd (flat_length l) (by
    intro u hu
    obtain ⟨p, _, hu⟩ := List.mem_flatMap.1 hu
    simp at hu
    rcases hu with rfl | rfl <;> rfl) (by unfold maxLen; omega) (by omega)
  clear hrd hr0 hs0
  rcases hr.2 with ⟨rfl, hn, rfl⟩ | ⟨g, off, cap, rfl, hnc, hcm, rfl⟩
  · go_enter Try.func35, Try.ntmps35
    go_wp2
    go_ret
    exact ⟨_, [], rfl, hr, hs⟩
  · go_enter Try.func35, Try.ntmps35
    go_wp2_with (at_builtin; refine wpList_plain rfl (fun K hK => ?_); refine wp_append rfl hra ?_; refine hK _ _ ?_; simp only [Act.put, List.setIfInBounds_toArray, List.set_cons_zero, List.set_cons_succ])
    go_ret
    refine ⟨_, R2, rfl, ?_, hs2⟩
    simpa using hrow
end Go.Proofs.Ytelcaeapflhadaa.Pk
