/-
  CauseFirst: the walk.
-/
import Derived.Test.YtoknokbbggnmjaaDoorCaN
import Derived.Deep.CutBlock
import Derived.Deep.DeepCutAuto
namespace Go.Proofs.YtoknokbbggnmjaaDoor.Ca
set_option linter.unusedSimpArgs false
open Go Go.RowKit Go.Sl Go.Extern.Stop Go.Stop Go.Extern
set_option linter.unusedVariables false

def BoolsAt (W : World) (v : Value) (ds : List Bool) : Prop :=
  ∃ g c, v = .slice g ds.length c ∧ ds.length ≤ maxLen ∧
    ∀ w, Below W.heap.size W w → ∀ j, j < ds.length → ∃ b o, g = some ⟨b, o, none⟩ ∧ w.cell? ⟨b, o + j, none⟩ = some (.bool (ds.getD j false))

theorem handPick_bounds (x m : Int) (hm : 0 < m) : 0 ≤ handPick x m ∧ handPick x m < m := by
  have b1 : x.tmod m < m := Int.tmod_lt_of_pos _ hm
  have b2 : -m < x.tmod m := by
    have := Int.tmod_lt_of_pos (-x) hm
    rw [Int.neg_tmod] at this
    omega
  unfold handPick
  split <;> omega


theorem one_step {f : Nat → Int} {es : List ET} {i : Nat} {e : ET} (hl : es.length = i) (h : ∀ k e, es[k]? = some e → One (f k) k e) (he : One (f i) i e) : ∀ k x, (es ++ [e])[k]? = some x → One (f k) k x := fun k x hx => by
  by_cases hk : k < es.length
  · rw [List.getElem?_append_left hk] at hx
    exact h k x hx
  · rw [List.getElem?_append_right (by omega)] at hx
    have hk2 : k - es.length = 0 := by
      have := (List.getElem?_eq_some_iff.1 hx).1
      simpa using this
    rw [hk2] at hx
    have : x = e := by simpa using hx.symm
    subst this
    have : k = i := by omega
    subst this
    exact he


set_option maxRecDepth 100000 in
set_option maxHeartbeats 4000000 in
theorem causeFirst_walk (lv pv : Value) (ls : List Int) (ds : List Bool) (W : World) (hlv : IntsAt W lv ls) (hpv : BoolsAt W pv ds) (hG : ErrT W) :
    Calls Tryd.prog 4 #[lv, pv] W fun e w' => e = .returned (.bool true) ∧ Below W.heap.size W w' := by
  obtain ⟨gl, cl, rfl, hll, hl⟩ := hlv
  obtain ⟨gp, cp, rfl, hpl, hp⟩ := hpv
  unfold maxLen at hll hpl
  have hGW : ∀ w, Below W.heap.size W w → ErrT w := fun w hb => by
    unfold ErrT at hG ⊢
    rw [hb.cell (World.block_lt_of_cell? _ _ hG), hG]
  obtain ⟨lf, hl1⟩ : ∃ lf : Nat → Int, ∀ w, Below W.heap.size W w → ∀ j, j < ls.length → ∃ b o, gl = some ⟨b, o, none⟩ ∧ w.cell? ⟨b, o + j, none⟩ = some (.int .i64 (lf j)) := ⟨_, hl⟩
  obtain ⟨df, hp1⟩ : ∃ df : Nat → Bool, ∀ w, Below W.heap.size W w → ∀ j, j < ds.length → ∃ b o, gp = some ⟨b, o, none⟩ ∧ w.cell? ⟨b, o + j, none⟩ = some (.bool (df j)) := ⟨_, hp⟩
  clear hl hp
  go_enter Tryd.func4, Tryd.ntmps4
  go_wp2_with fail
  refine (known_true W W (allOf W) (allOf_sat W) (fun w h => hGW w (Sat.below_all (L := []) h))).mono ?_; rintro r w1 ⟨rfl, hs⟩
  go_wp2_with fail
  go_loopw [5, 6] (fun ev iv wr => ∃ (i : Nat) (es : List ET) (Re T : List Atom), iv = .int .i64 i ∧ i ≤ 15 ∧ i ≤ ls.length ∧ RowA 27 1 ev es.length (es.map val) Re ∧ InL T es ∧ es.length = i ∧ (∀ k e, es[k]? = some e → One (1 + handPick (lf k) 12) k e) ∧ Sat W wr (Re ++ (T ++ allOf W))) (fun _ iv _ => (15 - (intOf iv).toNat))
  case atStart => exact ⟨0, [], [], [], rfl, Nat.zero_le _, Nat.zero_le _, RowA.nil _ _, InL.of (fun e h => by cases h), rfl, fun k e h => (by simp at h), hs⟩
  case round =>
    clear hs
    obtain ⟨i, es, Re, T, rfl, hi, hil, hre, hin, hel, hone, hs⟩ := hrel
    have HEL := Lib.hid hel
    have hlt : es.length < 100 := by omega
    clear hel
    have b0 : (0 : Int) ≤ i := by omega
    by_cases hin1 : i < ls.length ∧ i < 15
    · obtain ⟨hi1, hi2⟩ := hin1
      have b1 : (i : Int) < ls.length := by omega
      have b2 : (i : Int) < 15 := by omega
      obtain ⟨b, o, rfl, hc⟩ := hl1 wr (Sat.below_all (L := Re ++ T) (by simpa using hs)) i hi1
      obtain ⟨p1, p2⟩ := handPick_bounds (lf i) 12 (by omega)
      obtain ⟨c, hcq⟩ : ∃ c, c = 1 + handPick (lf i) 12 := ⟨_, rfl⟩
      have HCQ := Lib.hid hcq
      obtain ⟨aE, cE, rfl⟩ := Ca.RowA.slice hre
      go_wp2_with fail
      refine (hand_pick (lf i) 12 _ (by omega) (by omega)).mono ?_; rintro r w4 ⟨rfl, rfl⟩
      by_cases hwr : i < ds.length ∧ df i = true
      · obtain ⟨hw1, hw2⟩ := hwr
        have q1 : (i : Int) < ds.length := by omega
        obtain ⟨b', o', rfl, hc'⟩ := hp1 wr (Sat.below_all (L := Re ++ T) (by simpa using hs)) i hw1
        rw [hw2] at hc'
        clear hcq
        go_wp2_with fail
        refine (at_node i (.code (1 + handPick (lf i) 12)) W wr _ hs).mono ?_; rintro r w5 ⟨b3, rfl, hs2⟩
        simp only [val]
        obtain ⟨T2, hT2⟩ : ∃ T2, T2 = cellsA b3 #[.int .i64 i, val (.code (1 + handPick (lf i) 12))] 52 :: T := ⟨_, rfl⟩
        have hs3 : Sat W w5 (Re ++ (T2 ++ allOf W)) := by rw [hT2]; exact hs2.use (by intro x; simp only [cnt_append, cnt_cons, cnt_nil]; omega)
        have hsub : ∀ y ∈ T, y ∈ T2 := fun y hy => by rw [hT2]; exact List.mem_cons_of_mem _ hy
        have hin2 : In T2 (.on b3 i (.code (1 + handPick (lf i) 12))) := by rw [hT2]; exact In.on' (List.mem_cons_self ..) In.code'
        have hone2 : One (1 + handPick (lf i) 12) i (.on b3 i (.code (1 + handPick (lf i) 12))) := .inr ⟨b3, rfl⟩
        clear hs hs2 hT2 hc hc'
        have hs4 : Sat W (w5.alloc (.cells #[.iface 46 (.pointer (some ⟨b3, 0, none⟩))] 27)) (Re ++ (cellsA w5.heap.size #[.iface 46 (.pointer (some ⟨b3, 0, none⟩))] 27 :: (T2 ++ allOf W))) := (hs3.newCells _ _).use (by intro x; simp only [cnt_append, cnt_cons, cnt_nil]; omega)
        have hsrc2 : Reads (w5.alloc (.cells #[.iface 46 (.pointer (some ⟨b3, 0, none⟩))] 27)) (.slice (some ⟨w5.heap.size, 0, none⟩) 1 1) [ET.on b3 i (.code (1 + handPick (lf i) 12))].length ([ET.on b3 i (.code (1 + handPick (lf i) 12))].map val) := by
          refine .inr ⟨_, _, rfl, fun j u hu => ?_⟩
          rw [add_row, hs4.cell (List.mem_append_right _ m0) (0 + j), ← hu]
          simp [val]
        clear hs3
        go_wp2_with (at_builtin; refine wpList_plain rfl (fun K hK => ?_); refine wp_append_err rfl es [ET.on b3 i (.code (1 + handPick (lf i) 12))] rfl rfl hre hs4 hsrc2 (by simp; omega) (fun v2 w7 Re2 hre2 hs5 => ?_); refine hK _ _ ?_; simp only [Act.put, List.setIfInBounds_toArray, List.set_cons_zero, List.set_cons_succ]; clear hK)
        refine ⟨⟨i + 1, es ++ [ET.on b3 i (.code (1 + handPick (lf i) 12))], Re2, T2, by simp, by omega, by omega, hre2, InL.of fun x hx => ?_, by have := HEL.out; simp; omega, one_step (f := fun k => 1 + handPick (lf k) 12) HEL.out hone hone2, hs5.use (by intro x; simp only [cnt_append, cnt_cons, cnt_nil]; omega)⟩, ?_⟩
        · rcases List.mem_append.1 hx with hx | hx
          · exact (hin.mem x hx).mono hsub
          · rw [List.mem_singleton.1 hx]; exact hin2
        · simp [intOf]
          omega
      · obtain ⟨T2, hT2⟩ : ∃ T2, T2 = T := ⟨_, rfl⟩
        have hs3 : Sat W wr (Re ++ (T2 ++ allOf W)) := by rw [hT2]; exact hs
        have hsub : ∀ y ∈ T, y ∈ T2 := fun y hy => by rw [hT2]; exact hy
        have hin2 : In T2 (.code (1 + handPick (lf i) 12)) := In.code'
        have hone2 : One (1 + handPick (lf i) 12) i (.code (1 + handPick (lf i) 12)) := .inl rfl
        clear hs hT2 hc hcq
        by_cases hw1 : i < ds.length
        · have q1 : (i : Int) < ds.length := by omega
          have hw2 : df i = false := by
            cases hd : df i with
            | false => rfl
            | true => exact absurd ⟨hw1, hd⟩ hwr
          obtain ⟨b', o', rfl, hc'⟩ := hp1 wr (Sat.below_all (L := Re ++ T2) (by simpa using hs3)) i hw1
          rw [hw2] at hc'
          have hs4 : Sat W (wr.alloc (.cells #[.iface 29 (.int .i64 (1 + handPick (lf i) 12))] 27)) (Re ++ (cellsA wr.heap.size #[.iface 29 (.int .i64 (1 + handPick (lf i) 12))] 27 :: (T2 ++ allOf W))) := (hs3.newCells _ _).use (by intro x; simp only [cnt_append, cnt_cons, cnt_nil]; omega)
          have hsrc2 : Reads (wr.alloc (.cells #[.iface 29 (.int .i64 (1 + handPick (lf i) 12))] 27)) (.slice (some ⟨wr.heap.size, 0, none⟩) 1 1) [ET.code (1 + handPick (lf i) 12)].length ([ET.code (1 + handPick (lf i) 12)].map val) := by
            refine .inr ⟨_, _, rfl, fun j u hu => ?_⟩
            rw [add_row, hs4.cell (List.mem_append_right _ m0) (0 + j), ← hu]
            simp [val]
          clear hs3
          go_wp2_with (at_builtin; refine wpList_plain rfl (fun K hK => ?_); refine wp_append_err rfl es [ET.code (1 + handPick (lf i) 12)] rfl rfl hre hs4 hsrc2 (by simp; omega) (fun v2 w7 Re2 hre2 hs5 => ?_); refine hK _ _ ?_; simp only [Act.put, List.setIfInBounds_toArray, List.set_cons_zero, List.set_cons_succ]; clear hK)
          refine ⟨⟨i + 1, es ++ [ET.code (1 + handPick (lf i) 12)], Re2, T2, by simp, by omega, by omega, hre2, InL.of fun x hx => ?_, by have := HEL.out; simp; omega, one_step (f := fun k => 1 + handPick (lf k) 12) HEL.out hone hone2, hs5.use (by intro x; simp only [cnt_append, cnt_cons, cnt_nil]; omega)⟩, ?_⟩
          · rcases List.mem_append.1 hx with hx | hx
            · exact (hin.mem x hx).mono hsub
            · rw [List.mem_singleton.1 hx]; exact hin2
          · simp [intOf]
            omega
        · have q1 : ¬ (i : Int) < ds.length := by omega
          have hs4 : Sat W (wr.alloc (.cells #[.iface 29 (.int .i64 (1 + handPick (lf i) 12))] 27)) (Re ++ (cellsA wr.heap.size #[.iface 29 (.int .i64 (1 + handPick (lf i) 12))] 27 :: (T2 ++ allOf W))) := (hs3.newCells _ _).use (by intro x; simp only [cnt_append, cnt_cons, cnt_nil]; omega)
          have hsrc2 : Reads (wr.alloc (.cells #[.iface 29 (.int .i64 (1 + handPick (lf i) 12))] 27)) (.slice (some ⟨wr.heap.size, 0, none⟩) 1 1) [ET.code (1 + handPick (lf i) 12)].length ([ET.code (1 + handPick (lf i) 12)].map val) := by
            refine .inr ⟨_, _, rfl, fun j u hu => ?_⟩
            rw [add_row, hs4.cell (List.mem_append_right _ m0) (0 + j), ← hu]
            simp [val]
          clear hs3
          go_wp2_with (at_builtin; refine wpList_plain rfl (fun K hK => ?_); refine wp_append_err rfl es [ET.code (1 + handPick (lf i) 12)] rfl rfl hre hs4 hsrc2 (by simp; omega) (fun v2 w7 Re2 hre2 hs5 => ?_); refine hK _ _ ?_; simp only [Act.put, List.setIfInBounds_toArray, List.set_cons_zero, List.set_cons_succ]; clear hK)
          refine ⟨⟨i + 1, es ++ [ET.code (1 + handPick (lf i) 12)], Re2, T2, by simp, by omega, by omega, hre2, InL.of fun x hx => ?_, by have := HEL.out; simp; omega, one_step (f := fun k => 1 + handPick (lf k) 12) HEL.out hone hone2, hs5.use (by intro x; simp only [cnt_append, cnt_cons, cnt_nil]; omega)⟩, ?_⟩
          · rcases List.mem_append.1 hx with hx | hx
            · exact (hin.mem x hx).mono hsub
            · rw [List.mem_singleton.1 hx]; exact hin2
          · simp [intOf]
            omega
    · obtain ⟨aE, cE, rfl⟩ := Ca.RowA.slice hre
      by_cases hx1 : i < ls.length
      · have q1 : (i : Int) < ls.length := by omega
        have q2 : ¬ (i : Int) < 15 := by omega
        have hi0 : 0 < i := by omega
        cases es with
        | nil => have := HEL.out; simp at this; omega
        | cons e0 es =>
        have h0 := (hone 0 e0 (by simp)).code1
        go_wp2_with fail
        refine (join_first W wr _ T _ e0 es hs ⟨by simp at hlt ⊢; omega, Re, by simpa using hre, fun x hx => List.mem_append_left _ hx⟩ hin _ h0).mono ?_; rintro r w8 ⟨e3, N, rfl, hin3, hc3, hh3, hp3, hs7⟩
        have HH := Lib.hid hh3
        have HP := Lib.hid hp3
        have HC3 := Lib.hid hc3
        have H0 := Lib.hid h0
        clear hh3 hp3 hc3 h0
        have hs8 : Sat W w8 ((N ++ T) ++ (Re ++ allOf W)) := hs7.use (by intro x; simp only [cnt_append, cnt_cons, cnt_nil]; omega)
        clear hs7 hs
        have hi16 : i ≤ ls.length := hil
        go_wp2_with fail
        go_loopw [50] (fun kv wr => ∃ k : Nat, kv = .int .i64 k ∧ k ≤ (e0 :: es).length ∧ Sat W wr ((N ++ T) ++ (Re ++ allOf W))) (fun kv _ => ((e0 :: es).length - (intOf kv).toNat))
        case atStart => exact ⟨0, rfl, Nat.zero_le _, hs8⟩
        case round =>
          clear hs8
          obtain ⟨k, rfl, hk, hs⟩ := hrel
          have d0 : (0 : Int) ≤ k := by omega
          by_cases hks : k < (e0 :: es).length
          · have d1 : (k : Int) < (e0 :: es).length := by omega
            have d4 : (k : Int) < (es.length : Int) + 1 := by simp at hks; omega
            have d5 : k < es.length + 1 := by simpa using hks
            have hki : k < i := by have := HEL.out; omega
            have d2 : (k : Int) < 15 := by omega
            have d3 : (k : Int) < ls.length := by omega
            obtain ⟨ek, hek⟩ : ∃ ek, (e0 :: es)[k]? = some ek := ⟨_, List.getElem?_eq_getElem hks⟩
            have hmem := List.mem_of_getElem? hek
            have hok := hone k ek hek
            rcases hre.2 with ⟨_, hz, _⟩ | ⟨g1, o1, cap1, e1, _, _, _⟩
            · omega
            cases e1
            have hs0 : Sat W wr (Re ++ (N ++ (T ++ allOf W))) := hs.use (by intro x; simp only [cnt_append, cnt_cons, cnt_nil]; omega)
            have c0 : wr.cell? ⟨g1, o1 + k, none⟩ = some (val ek) := by
              rw [(hre.cells hs0 rfl k (by simpa using hks)).1, List.getElem?_map, hek]; rfl
            obtain ⟨b', o', rfl, hc'⟩ := hl1 wr (Sat.below_all (L := N ++ T ++ Re) (by simpa using hs)) k (by omega)
            obtain ⟨p1, p2⟩ := handPick_bounds (lf k) 12 (by omega)
            clear hs0 hek
            have HCM := Lib.hid (hasL_mem hmem hok.has)
            rcases hok with rfl | ⟨bk, rfl⟩
            · simp only [val] at c0
              go_wp2_with fail
              refine (Is_code e3 _ W wr (N ++ T) _ hin3 hs).mono ?_; rintro r w9 ⟨rfl, hs9⟩
              rw [HH.out, HCM.out]
              obtain ⟨b2, o2, e2, hc2⟩ := hl1 w9 (Sat.below_all (L := N ++ T ++ Re) (by simpa using hs9)) k (by omega)
              cases e2
              clear hs c0 hc'
              go_wp2_with fail
              refine (hand_pick (lf k) 12 _ (by omega) (by omega)).mono ?_; rintro r w10 ⟨rfl, rfl⟩
              go_wp2_with fail
              refine (causeIs e3 _ W w9 (N ++ T) _ hin3 hs9).mono ?_; rintro r w11 ⟨rfl, hs11⟩
              rw [HH.out, HCM.out]
              clear hs9 hc2
              go_wp2_with fail
              refine ⟨⟨k + 1, by simp, by omega, hs11⟩, ?_⟩
              simp [intOf]
              omega
            · simp only [val] at c0
              have hinb := hin.mem _ hmem
              unfold In at hinb
              have hpb : hasP bk e3 = true := by
                rw [HP.out]
                exact hasPL_mem hmem (by unfold hasP; simp)
              have HPB := Lib.hid hpb
              clear hpb
              go_wp2_with fail
              refine (Is_ptr e3 bk k _ W wr (N ++ T) _ (List.mem_append_right _ hinb.1) hin3 hs).mono ?_; rintro r w9 ⟨rfl, hs9⟩
              rw [HPB.out]
              obtain ⟨b2, o2, e2, hc2⟩ := hl1 w9 (Sat.below_all (L := N ++ T ++ Re) (by simpa using hs9)) k (by omega)
              cases e2
              clear hs c0 hc'
              go_wp2_with fail
              refine (hand_pick (lf k) 12 _ (by omega) (by omega)).mono ?_; rintro r w10 ⟨rfl, rfl⟩
              go_wp2_with fail
              refine (causeIs e3 _ W w9 (N ++ T) _ hin3 hs9).mono ?_; rintro r w11 ⟨rfl, hs11⟩
              rw [HH.out, HCM.out]
              clear hs9 hc2
              go_wp2_with fail
              refine ⟨⟨k + 1, by simp, by omega, hs11⟩, ?_⟩
              simp [intOf]
              omega
          · obtain rfl : k = (e0 :: es).length := by omega
            obtain ⟨b', o', rfl, hc'⟩ := hl1 wr (Sat.below_all (L := N ++ T ++ Re) (by simpa using hs)) 0 (by omega)
            have hcl : ∀ y : Of W ((N ++ T) ++ (Re ++ allOf W)), y.v.cell? ⟨b', o', none⟩ = some (.int .i64 (lf 0)) := fun y => by
              obtain ⟨b2, o2, e2, hc2⟩ := hl1 y.v (Sat.below_all (L := N ++ T ++ Re) (by simpa using y.s)) 0 (by omega)
              cases e2
              simpa using hc2
            obtain ⟨p1, p2⟩ := handPick_bounds (lf 0) 12 (by omega)
            have d6 : (0 : Int) < ls.length := by omega
            have n1 := val_nil e3
            have n2 := guard_nil e3
            go_wp2_with fail
            refine wp_region_held1 [13, 17] [14, 15, 16] [14, 15] [13] [0, 1, 2, 3, 4, 5, 6, 7, 8, 9, 10, 11, 12, 14, 15, 16, 13, 17, 18, 19, 20, 21, 22] (Held W ((N ++ T) ++ (Re ++ allOf W))) (by kernel_rfl) (by kernel_rfl) ?_ ?_
            · exact Held.mk hs.drew
            have hne : Nonempty (Of W ((N ++ T) ++ (Re ++ allOf W))) := ⟨⟨_, hs⟩⟩
            repeat (first | (refine can_pu1 rfl rfl rfl rfl rfl rfl (fun K hK => ?_); go_big_quiet_op; refine hK _ ?_; clear hK K) | (refine can_st1 rfl rfl rfl rfl rfl rfl (fun K hK => ?_); go_big_quiet_op; refine hK _ ?_; clear hK K) | (refine can_early1 rfl rfl rfl rfl rfl (fun K hK => ?_); go_big_quiet_op; refine hK _ ?_; clear hK K) | (refine can_skip rfl rfl rfl ?_; simp only [Act.put, List.setIfInBounds_toArray, List.set_cons_zero, List.set_cons_succ]))
            refine can_st1 rfl rfl rfl rfl rfl rfl (fun K hK => ?_)
            refine quiet_load (a := ⟨b', o', none⟩) (v := .int .i64 (lf 0)) rfl (fun w => Tryd.isAgg3 w) (by go_simp) (fun y hy => by obtain ⟨y, rfl⟩ := hy; exact hcl y) ?_
            refine hK _ ?_; clear hK K; simp only [Act.put, List.setIfInBounds_toArray, List.set_cons_zero, List.set_cons_succ]
            refine can_actS rfl rfl rfl rfl (fun K hK => ?_)
            go_wp2_with fail
            have hs2 : Sat W wr.drew ((N ++ T) ++ (Re ++ allOf W)) := hs.drew
            have hc0 : codeOf (some e3) = 1 + handPick (lf 0) 12 := by simp only [codeOf, HC3.out]
            refine (code_any e3 W _ (N ++ T) _ hin3 (hGW _ (Sat.below_all (L := N ++ T ++ Re) (by simpa using hs2))) hs2).mono ?_; rintro ev w9 ⟨rfl, hs9⟩
            rw [hc0]
            apply hK
            refine ⟨Held.mk hs9, ?_⟩
            refine can_actF rfl rfl rfl rfl (fun K hK => ?_)
            go_wp2_with fail
            refine (hand_pick (lf 0) 12 _ (by omega) (by omega)).mono ?_; rintro r w10 ⟨rfl, rfl⟩
            apply hK
            repeat (first | (refine can_pu1 rfl rfl rfl rfl rfl rfl (fun K hK => ?_); go_big_quiet_op; refine hK _ ?_; clear hK K) | (refine can_st1 rfl rfl rfl rfl rfl rfl (fun K hK => ?_); go_big_quiet_op; refine hK _ ?_; clear hK K) | (refine can_early1 rfl rfl rfl rfl rfl (fun K hK => ?_); go_big_quiet_op; refine hK _ ?_; clear hK K) | (refine can_skip rfl rfl rfl ?_; simp only [Act.put, List.setIfInBounds_toArray, List.set_cons_zero, List.set_cons_succ]))
            refine can_end1 ?_; (try simp only [Exit.then])
            go_wp2_with fail
            go_ret
            exact ⟨by simp, Sat.below_all (L := N ++ T ++ Re) (by simpa using hs9)⟩
      · have q1 : ¬ (i : Int) < ls.length := by omega
        by_cases hz : i = 0
        · subst hz
          obtain rfl : es = [] := List.eq_nil_of_length_eq_zero HEL.out
          go_wp2_with fail
          refine (join_any W wr _ _ [] hs ⟨by simp, Re, by simpa using hre, fun x hx => List.mem_append_left _ hx⟩).mono ?_
          rintro r w8 ⟨rfl, hs7⟩
          go_wp2_with fail
          refine wp_loop_rounds 1 ?_
          rw [rounds_succ]
          go_wp2_with fail
          refine wp_region_one [] [] [] [] [0, 1, 2, 3, 4, 5, 6, 7, 8, 9, 10, 11, 12, 13, 14, 15, 16, 17, 18, 19, 20, 21, 22] (by kernel_rfl) (by kernel_rfl) ?_
          repeat (first | (refine can_pu1 rfl rfl rfl rfl rfl rfl (fun K hK => ?_); go_big_quiet_op; refine hK _ ?_; clear hK K) | (refine can_st1 rfl rfl rfl rfl rfl rfl (fun K hK => ?_); go_big_quiet_op; refine hK _ ?_; clear hK K) | (refine can_early1 rfl rfl rfl rfl rfl (fun K hK => ?_); go_big_quiet_op; refine hK _ ?_; clear hK K) | (refine can_skip rfl rfl rfl ?_; simp only [Act.put, List.setIfInBounds_toArray, List.set_cons_zero, List.set_cons_succ]))
          refine can_end1 ?_; (try simp only [Exit.then])
          go_wp2_with fail
          go_ret
          exact ⟨by simp, (Sat.below_all (L := Re ++ T) (by simpa using hs7)).drew⟩
        · have hi0 : 0 < i := by omega
          cases es with
          | nil => have := HEL.out; simp at this; omega
          | cons e0 es =>
          have h0 := (hone 0 e0 (by simp)).code1
          go_wp2_with fail
          refine (join_first W wr _ T _ e0 es hs ⟨by simp at hlt ⊢; omega, Re, by simpa using hre, fun x hx => List.mem_append_left _ hx⟩ hin _ h0).mono ?_; rintro r w8 ⟨e3, N, rfl, hin3, hc3, hh3, hp3, hs7⟩
          have HH := Lib.hid hh3
          have HP := Lib.hid hp3
          have HC3 := Lib.hid hc3
          have H0 := Lib.hid h0
          clear hh3 hp3 hc3 h0
          have hs8 : Sat W w8 ((N ++ T) ++ (Re ++ allOf W)) := hs7.use (by intro x; simp only [cnt_append, cnt_cons, cnt_nil]; omega)
          clear hs7 hs
          have hi16 : i ≤ ls.length := hil
          go_wp2_with fail
          go_loopw [50] (fun kv wr => ∃ k : Nat, kv = .int .i64 k ∧ k ≤ (e0 :: es).length ∧ Sat W wr ((N ++ T) ++ (Re ++ allOf W))) (fun kv _ => ((e0 :: es).length - (intOf kv).toNat))
          case atStart => exact ⟨0, rfl, Nat.zero_le _, hs8⟩
          case round =>
            clear hs8
            obtain ⟨k, rfl, hk, hs⟩ := hrel
            have d0 : (0 : Int) ≤ k := by omega
            by_cases hks : k < (e0 :: es).length
            · have d1 : (k : Int) < (e0 :: es).length := by omega
              have d4 : (k : Int) < (es.length : Int) + 1 := by simp at hks; omega
              have d5 : k < es.length + 1 := by simpa using hks
              have hki : k < i := by have := HEL.out; omega
              have d2 : (k : Int) < 15 := by omega
              have d3 : (k : Int) < ls.length := by omega
              obtain ⟨ek, hek⟩ : ∃ ek, (e0 :: es)[k]? = some ek := ⟨_, List.getElem?_eq_getElem hks⟩
              have hmem := List.mem_of_getElem? hek
              have hok := hone k ek hek
              rcases hre.2 with ⟨_, hz, _⟩ | ⟨g1, o1, cap1, e1, _, _, _⟩
              · omega
              cases e1
              have hs0 : Sat W wr (Re ++ (N ++ (T ++ allOf W))) := hs.use (by intro x; simp only [cnt_append, cnt_cons, cnt_nil]; omega)
              have c0 : wr.cell? ⟨g1, o1 + k, none⟩ = some (val ek) := by
                rw [(hre.cells hs0 rfl k (by simpa using hks)).1, List.getElem?_map, hek]; rfl
              obtain ⟨b', o', rfl, hc'⟩ := hl1 wr (Sat.below_all (L := N ++ T ++ Re) (by simpa using hs)) k (by omega)
              obtain ⟨p1, p2⟩ := handPick_bounds (lf k) 12 (by omega)
              clear hs0 hek
              have HCM := Lib.hid (hasL_mem hmem hok.has)
              rcases hok with rfl | ⟨bk, rfl⟩
              · simp only [val] at c0
                go_wp2_with fail
                refine (Is_code e3 _ W wr (N ++ T) _ hin3 hs).mono ?_; rintro r w9 ⟨rfl, hs9⟩
                rw [HH.out, HCM.out]
                obtain ⟨b2, o2, e2, hc2⟩ := hl1 w9 (Sat.below_all (L := N ++ T ++ Re) (by simpa using hs9)) k (by omega)
                cases e2
                clear hs c0 hc'
                go_wp2_with fail
                refine (hand_pick (lf k) 12 _ (by omega) (by omega)).mono ?_; rintro r w10 ⟨rfl, rfl⟩
                go_wp2_with fail
                refine (causeIs e3 _ W w9 (N ++ T) _ hin3 hs9).mono ?_; rintro r w11 ⟨rfl, hs11⟩
                rw [HH.out, HCM.out]
                clear hs9 hc2
                go_wp2_with fail
                refine ⟨⟨k + 1, by simp, by omega, hs11⟩, ?_⟩
                simp [intOf]
                omega
              · simp only [val] at c0
                have hinb := hin.mem _ hmem
                unfold In at hinb
                have hpb : hasP bk e3 = true := by
                  rw [HP.out]
                  exact hasPL_mem hmem (by unfold hasP; simp)
                have HPB := Lib.hid hpb
                clear hpb
                go_wp2_with fail
                refine (Is_ptr e3 bk k _ W wr (N ++ T) _ (List.mem_append_right _ hinb.1) hin3 hs).mono ?_; rintro r w9 ⟨rfl, hs9⟩
                rw [HPB.out]
                obtain ⟨b2, o2, e2, hc2⟩ := hl1 w9 (Sat.below_all (L := N ++ T ++ Re) (by simpa using hs9)) k (by omega)
                cases e2
                clear hs c0 hc'
                go_wp2_with fail
                refine (hand_pick (lf k) 12 _ (by omega) (by omega)).mono ?_; rintro r w10 ⟨rfl, rfl⟩
                go_wp2_with fail
                refine (causeIs e3 _ W w9 (N ++ T) _ hin3 hs9).mono ?_; rintro r w11 ⟨rfl, hs11⟩
                rw [HH.out, HCM.out]
                clear hs9 hc2
                go_wp2_with fail
                refine ⟨⟨k + 1, by simp, by omega, hs11⟩, ?_⟩
                simp [intOf]
                omega
            · obtain rfl : k = (e0 :: es).length := by omega
              obtain ⟨b', o', rfl, hc'⟩ := hl1 wr (Sat.below_all (L := N ++ T ++ Re) (by simpa using hs)) 0 (by omega)
              have hcl : ∀ y : Of W ((N ++ T) ++ (Re ++ allOf W)), y.v.cell? ⟨b', o', none⟩ = some (.int .i64 (lf 0)) := fun y => by
                obtain ⟨b2, o2, e2, hc2⟩ := hl1 y.v (Sat.below_all (L := N ++ T ++ Re) (by simpa using y.s)) 0 (by omega)
                cases e2
                simpa using hc2
              obtain ⟨p1, p2⟩ := handPick_bounds (lf 0) 12 (by omega)
              have d6 : (0 : Int) < ls.length := by omega
              have n1 := val_nil e3
              have n2 := guard_nil e3
              go_wp2_with fail
              refine wp_region_held1 [13, 17] [14, 15, 16] [14, 15] [13] [0, 1, 2, 3, 4, 5, 6, 7, 8, 9, 10, 11, 12, 14, 15, 16, 13, 17, 18, 19, 20, 21, 22] (Held W ((N ++ T) ++ (Re ++ allOf W))) (by kernel_rfl) (by kernel_rfl) ?_ ?_
              · exact Held.mk hs.drew
              have hne : Nonempty (Of W ((N ++ T) ++ (Re ++ allOf W))) := ⟨⟨_, hs⟩⟩
              repeat (first | (refine can_pu1 rfl rfl rfl rfl rfl rfl (fun K hK => ?_); go_big_quiet_op; refine hK _ ?_; clear hK K) | (refine can_st1 rfl rfl rfl rfl rfl rfl (fun K hK => ?_); go_big_quiet_op; refine hK _ ?_; clear hK K) | (refine can_early1 rfl rfl rfl rfl rfl (fun K hK => ?_); go_big_quiet_op; refine hK _ ?_; clear hK K) | (refine can_skip rfl rfl rfl ?_; simp only [Act.put, List.setIfInBounds_toArray, List.set_cons_zero, List.set_cons_succ]))
              refine can_st1 rfl rfl rfl rfl rfl rfl (fun K hK => ?_)
              refine quiet_load (a := ⟨b', o', none⟩) (v := .int .i64 (lf 0)) rfl (fun w => Tryd.isAgg3 w) (by go_simp) (fun y hy => by obtain ⟨y, rfl⟩ := hy; exact hcl y) ?_
              refine hK _ ?_; clear hK K; simp only [Act.put, List.setIfInBounds_toArray, List.set_cons_zero, List.set_cons_succ]
              refine can_actS rfl rfl rfl rfl (fun K hK => ?_)
              go_wp2_with fail
              have hs2 : Sat W wr.drew ((N ++ T) ++ (Re ++ allOf W)) := hs.drew
              have hc0 : codeOf (some e3) = 1 + handPick (lf 0) 12 := by simp only [codeOf, HC3.out]
              refine (code_any e3 W _ (N ++ T) _ hin3 (hGW _ (Sat.below_all (L := N ++ T ++ Re) (by simpa using hs2))) hs2).mono ?_; rintro ev w9 ⟨rfl, hs9⟩
              rw [hc0]
              apply hK
              refine ⟨Held.mk hs9, ?_⟩
              refine can_actF rfl rfl rfl rfl (fun K hK => ?_)
              go_wp2_with fail
              refine (hand_pick (lf 0) 12 _ (by omega) (by omega)).mono ?_; rintro r w10 ⟨rfl, rfl⟩
              apply hK
              repeat (first | (refine can_pu1 rfl rfl rfl rfl rfl rfl (fun K hK => ?_); go_big_quiet_op; refine hK _ ?_; clear hK K) | (refine can_st1 rfl rfl rfl rfl rfl rfl (fun K hK => ?_); go_big_quiet_op; refine hK _ ?_; clear hK K) | (refine can_early1 rfl rfl rfl rfl rfl (fun K hK => ?_); go_big_quiet_op; refine hK _ ?_; clear hK K) | (refine can_skip rfl rfl rfl ?_; simp only [Act.put, List.setIfInBounds_toArray, List.set_cons_zero, List.set_cons_succ]))
              refine can_end1 ?_; (try simp only [Exit.then])
              go_wp2_with fail
              go_ret
              exact ⟨by simp, Sat.below_all (L := N ++ T ++ Re) (by simpa using hs9)⟩
end Go.Proofs.YtoknokbbggnmjaaDoor.Ca
