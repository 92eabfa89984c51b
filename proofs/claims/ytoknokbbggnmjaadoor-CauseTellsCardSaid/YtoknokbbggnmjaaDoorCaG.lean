/-
  cause.Join; the laws' comparison of two rows of ints.
-/
import Derived.Test.YtoknokbbggnmjaaDoorCaF
namespace Go.Proofs.YtoknokbbggnmjaaDoor.Ca
set_option linter.unusedSimpArgs false
open Go Go.RowKit Go.Sl Go.Extern.Stop Go.Stop Go.Extern Go.BigFrame
set_option linter.unusedVariables false

def oval : Option ET → Value
  | none => .nilIface
  | some e => val e

section
variable {W w : World} {F L A : List Atom} {v sv : Value} {o : Oper} {a : Act} {K : Act → World → Prop} {Q : Exit → Act → World → Prop}
theorem wp_append_err {x y : Operand} (ho : o.op = .call { callee := .builtin .append, args := #[x, y], argTypes := #[24, 24] }) (l m : List ET) (hv : a.eval x = v) (hsv : a.eval y = sv)
    (hr : RowA 27 1 v l.length (l.map val) A) (hs : Sat W w (A ++ F)) (hsrc : Reads w sv m.length (m.map val)) (hb : l.length + m.length < 1000000)
    (h : ∀ v' w' A', RowA 27 1 v' (l ++ m).length ((l ++ m).map val) A' → Sat W w' (A' ++ F) → K (a.put o.dst v') w') : o.wp Tryd.prog a w K Q := by
  obtain ⟨i0, hi, hz0, hz1, hz2⟩ := info_parts infoErr
  obtain ⟨v2, w2, R2, hra, hrow, hs2⟩ := append_sl (P := Tryd.prog) o.type Tryd.underlying24 hi hz0 hz1 hz2 rfl (by decide) hr hs hsrc (by simp) (fun u hu => by obtain ⟨x, _, rfl⟩ := List.mem_map.1 hu; exact val_one x) (by unfold maxLen; omega) (by omega)
  refine wp_append ho (by rw [hv, hsv]; exact hra) (h _ _ _ ?_ hs2)
  rw [List.length_append, List.map_append]
  exact hrow
end

/-- What Join hands back of some errors. -/
def Joined (W : World) (L : List Atom) (js : List ET) (r : Ending) (w' : World) : Prop :=
  match js with
  | [] => r = .returned .nilIface ∧ Sat W w' L
  | [e] => r = .returned (val e) ∧ Sat W w' L
  | js => ∃ b v R, r = .returned (val (.all b v js)) ∧ RowA 27 1 v js.length (js.map val) R ∧ Sat W w' (cellsA b #[v] 60 :: (R ++ L))

set_option maxRecDepth 100000 in
set_option maxHeartbeats 4000000 in
theorem join_any (W w : World) (L : List Atom) (v : Value) (os : List (Option ET)) (hs : Sat W w L) (hrow : InRow L v (os.map oval)) :
    Calls Tryd.prog 12 #[v] w fun r w' => Joined W L (os.filterMap id) r w' := by
  obtain ⟨hlen, R0, hr0, hR0⟩ := hrow
  rw [List.length_map] at hlen
  have hsh := Ca.RowA.short hr0
  obtain ⟨a0, c0, e0⟩ := Ca.RowA.slice hr0
  rw [List.length_map] at e0
  subst e0
  generalize hjs : os.filterMap id = js
  have HJS := Lib.hid hjs
  clear hjs
  go_enter Tryd.func12, Tryd.ntmps12
  go_wp2_with fail
  go_loopw [8, 3] (fun kv ov wr => ∃ (k : Nat) (R : List Atom), kv = .int .i64 k ∧ k ≤ os.length ∧ RowA 27 1 ov ((os.take k).filterMap id).length (((os.take k).filterMap id).map val) R ∧ Sat W wr (R ++ L)) (fun kv _ _ => (os.length - (intOf kv).toNat))
  case atStart => exact ⟨0, [], rfl, Nat.zero_le _, RowA.nil _ _, hs⟩
  case round =>
    clear hs
    obtain ⟨k, R, rfl, hk, hr, hs⟩ := hrel
    have b0 : (0 : Int) ≤ k := by omega
    by_cases hkl : k < os.length
    · have b1 : (k : Int) < os.length := by omega
      have b2 : (k : Int) < 1000000 := by omega
      have hf : ((os.take k).filterMap id).length ≤ k := by
        have h1 := List.length_filterMap_le (id : Option ET → Option ET) (os.take k)
        have h2 := List.length_take_le k os
        omega
      obtain ⟨ok, hok⟩ : ∃ ok, os[k]? = some ok := ⟨_, List.getElem?_eq_getElem hkl⟩
      have htk : os.take (k + 1) = os.take k ++ [ok] := by
        rw [List.take_add_one, hok]; rfl
      rcases hr0.2 with ⟨_, hz, _⟩ | ⟨gb, go, cc, e1, _, _, _⟩
      · rw [List.length_map] at hz; omega
      simp only [List.length_map, Value.slice.injEq] at e1
      obtain ⟨rfl, _, rfl⟩ := e1
      have d0 : wr.cell? ⟨gb, go + k, none⟩ = some (oval ok) := by
        rw [(hr0.cells (Sat.pick hs.right hsh hR0) (by rw [List.length_map]) k (by simpa using hkl)).1, List.getElem?_map, hok]; rfl
      have HTK := Lib.hid htk
      clear htk hok
      cases ok with
      | none =>
        have d1 : wr.cell? ⟨gb, go + k, none⟩ = some .nilIface := d0
        clear d0
        go_wp2_with fail
        refine ⟨⟨k + 1, R, by simp, by omega, ?_, hs⟩, ?_⟩
        · rw [HTK.out, List.filterMap_append]
          simpa using hr
        · simp [intOf]
          omega
      | some e =>
        have hk1 := val_one e
        have hval : oval (some e) = val e := rfl
        obtain ⟨t, x, hv⟩ := val_iface e
        have d1 : wr.cell? ⟨gb, go + k, none⟩ = some (.iface t x) := by rw [d0, hval, hv]
        have hs1 : Sat W (wr.alloc (.cells #[.iface t x] 27)) (R ++ (cellsA wr.heap.size #[.iface t x] 27 :: L)) := (hs.newCells _ _).use (by intro x; simp only [cnt_append, cnt_cons, cnt_nil]; omega)
        have hsrc : Reads (wr.alloc (.cells #[.iface t x] 27)) (.slice (some ⟨wr.heap.size, 0, none⟩) 1 1) [e].length ([e].map val) := by
          refine .inr ⟨_, _, rfl, fun j u hu => ?_⟩
          rw [add_row, hs1.cell (List.mem_append_right _ m0) (0 + j), ← hu]
          simp [hv]
        have HV := Lib.hid hv
        clear d0 hs hv hval hk1
        go_wp2_with (at_builtin; refine wpList_plain rfl (fun K hK => ?_); refine wp_append_err rfl ((os.take k).filterMap id) [e] rfl rfl hr hs1 hsrc (by simp; omega) (fun v4 w4 R4 hr4 hs6 => ?_); refine hK _ _ ?_; simp only [Act.put, List.setIfInBounds_toArray, List.set_cons_zero, List.set_cons_succ]; clear hK)
        refine ⟨⟨k + 1, R4, by simp, by omega, ?_, hs6.use (by intro x; simp only [cnt_append, cnt_cons, cnt_nil]; omega)⟩, ?_⟩
        · rw [HTK.out, List.filterMap_append]
          exact hr4
        · simp [intOf]
          omega
    · obtain rfl : k = os.length := by omega
      rw [List.take_length] at hr
      rw [HJS.out] at hr
      clear HJS
      obtain ⟨a1, c1, rfl⟩ := Ca.RowA.slice hr
      rcases js with _ | ⟨e1, _ | ⟨e2, es⟩⟩
      ·
        go_wp2_with fail
        go_ret
        exact ⟨rfl, hs.right⟩
      ·
        rcases hr.2 with ⟨_, hz, _⟩ | ⟨g1, o1, cap1, e3, _, _, _⟩
        · simp at hz
        cases e3
        have d0 : wr.cell? ⟨g1, o1, none⟩ = some (val e1) := (hr.cells hs rfl 0 (by simp)).1
        go_wp2_with fail
        go_ret
        exact ⟨rfl, hs.right⟩
      ·
        have q1 : ¬ ((es.length + 1 + 1 : Nat) : Int) = 0 := by omega
        have q2 : ¬ ((es.length + 1 + 1 : Nat) : Int) = 1 := by omega
        have hs1 := hs.newCells #[.slice a1 (e1 :: e2 :: es).length c1] 60
        go_wp2_with fail
        go_ret
        exact ⟨_, _, R, rfl, hr, hs1⟩

set_option maxRecDepth 100000 in
set_option maxHeartbeats 4000000 in
/-- same: of two rows of ints. -/
theorem same_any (W w : World) (L : List Atom) (va vb : Value) (la lb : List Int) (Ra Rb : List Atom) (hs : Sat W w L) (ha : RowA 3 1 va la.length (ints la) Ra) (hb : RowA 3 1 vb lb.length (ints lb) Rb) (hRa : ∀ x ∈ Ra, x ∈ L) (hRb : ∀ x ∈ Rb, x ∈ L) (hl : la.length < 1000000) :
    Calls Tryd.prog 14 #[va, vb] w fun r w' => r = .returned (.bool (decide (la = lb))) ∧ Sat W w' L := by
  obtain ⟨a1, c1, rfl⟩ := Ca.RowA.slice ha
  obtain ⟨a2, c2, rfl⟩ := Ca.RowA.slice hb
  have hsa := Ca.RowA.short ha
  have hsb := Ca.RowA.short hb
  by_cases hlen : la.length = lb.length
  · have q0 : ((la.length : Int) != (lb.length : Int)) = false := by simp; omega
    have q1 : (la.length != lb.length) = false := by simp; omega
    have HL := Lib.hid hlen
    clear hlen
    go_enter Tryd.func14, Tryd.ntmps14
    go_wp2_with fail
    go_loopw [13] (fun kv wr => ∃ k : Nat, kv = .int .i64 k ∧ k ≤ la.length ∧ la.take k = lb.take k ∧ Sat W wr L) (fun kv _ => (la.length - (intOf kv).toNat))
    case atStart => exact ⟨0, rfl, Nat.zero_le _, rfl, hs⟩
    case round =>
      clear hs
      obtain ⟨k, rfl, hk, htk, hs⟩ := hrel
      have HTK := Lib.hid htk
      clear htk
      have b0 : (0 : Int) ≤ k := by omega
      by_cases hkl : k < la.length
      · have b1 : (k : Int) < la.length := by omega
        have hkb : k < lb.length := by have := HL.out; omega
        have b3 : (k : Int) < lb.length := by omega
        have b2 : (k : Int) < 1000000 := by omega
        obtain ⟨x, hx⟩ : ∃ x, la[k]? = some x := ⟨_, List.getElem?_eq_getElem hkl⟩
        obtain ⟨y, hy⟩ : ∃ y, lb[k]? = some y := ⟨_, List.getElem?_eq_getElem hkb⟩
        rcases ha.2 with ⟨_, hz, _⟩ | ⟨g1, o1, cap1, e1, _, _, _⟩
        · omega
        rcases hb.2 with ⟨_, hz, _⟩ | ⟨g2, o2, cap2, e2, _, _, _⟩
        · omega
        cases e1
        cases e2
        have d0 : wr.cell? ⟨g1, o1 + k, none⟩ = some (.int .i64 x) := by
          rw [(ha.cells (Sat.pick hs hsa hRa) rfl k (by simpa [ints] using hkl)).1, ints, List.getElem?_map, hx]; rfl
        have d1 : wr.cell? ⟨g2, o2 + k, none⟩ = some (.int .i64 y) := by
          rw [(hb.cells (Sat.pick hs hsb hRb) rfl k (by simpa [ints] using hkb)).1, ints, List.getElem?_map, hy]; rfl
        have HX := Lib.hid hx
        have HY := Lib.hid hy
        clear hx hy
        by_cases hxy : x = y
        · subst hxy
          go_wp2_with fail
          refine wp_region_one [] [] [] [] [0, 1, 2, 3, 4, 5, 6, 7, 8] (by kernel_rfl) (by kernel_rfl) ?_
          repeat (first | (refine can_pu1 rfl rfl rfl rfl rfl rfl (fun K hK => ?_); go_big_quiet_op; refine hK _ ?_; clear hK K) | (refine can_st1 rfl rfl rfl rfl rfl rfl (fun K hK => ?_); go_big_quiet_op; refine hK _ ?_; clear hK K) | (refine can_early1 rfl rfl rfl rfl rfl (fun K hK => ?_); go_big_quiet_op; refine hK _ ?_; clear hK K) | (refine can_skip rfl rfl rfl ?_; simp only [Act.put, List.setIfInBounds_toArray, List.set_cons_zero, List.set_cons_succ]))
          refine can_end1 ?_; (try simp only [Exit.then])
          go_wp2_with fail
          refine ⟨⟨k + 1, by simp, by omega, ?_, hs.drew⟩, ?_⟩
          · rw [List.take_add_one, List.take_add_one, HTK.out, HX.out, HY.out]
          · simp [intOf]
            omega
        · have hb2 : (x != y) = true := by simpa using hxy
          go_wp2_with fail
          refine wp_region_one [] [] [] [] [0, 1, 2, 3, 4, 5, 6, 7, 8] (by kernel_rfl) (by kernel_rfl) ?_
          repeat (first | (refine can_pu1 rfl rfl rfl rfl rfl rfl (fun K hK => ?_); go_big_quiet_op; refine hK _ ?_; clear hK K) | (refine can_st1 rfl rfl rfl rfl rfl rfl (fun K hK => ?_); go_big_quiet_op; refine hK _ ?_; clear hK K) | (refine can_early1 rfl rfl rfl rfl rfl (fun K hK => ?_); go_big_quiet_op; refine hK _ ?_; clear hK K) | (refine can_skip rfl rfl rfl ?_; simp only [Act.put, List.setIfInBounds_toArray, List.set_cons_zero, List.set_cons_succ]))
          refine can_end1 ?_; (try simp only [Exit.then])
          go_wp2_with fail
          go_ret
          have hne : ¬ la = lb := fun h => hxy (by
            have h1 := HX.out
            rw [h, HY.out] at h1
            simpa using h1.symm)
          exact ⟨by simp [hne], hs.drew⟩
      · obtain rfl : k = la.length := by omega
        have heq : la = lb := by
          have h := HTK.out
          rw [List.take_length, List.take_of_length_le (by have := HL.out; omega)] at h
          exact h
        have HE := Lib.hid heq
        clear heq
        go_wp2_with fail
        go_ret
        exact ⟨by simp [HE.out], hs⟩
  · have q0 : ((la.length : Int) != (lb.length : Int)) = true := by simp; omega
    have q1 : (la.length != lb.length) = true := by simp; omega
    have hne : ¬ la = lb := fun h => hlen (by rw [h])
    go_enter Tryd.func14, Tryd.ntmps14
    go_wp2_with fail
    go_ret
    exact ⟨by simp [hne], hs⟩
end Go.Proofs.YtoknokbbggnmjaaDoor.Ca
