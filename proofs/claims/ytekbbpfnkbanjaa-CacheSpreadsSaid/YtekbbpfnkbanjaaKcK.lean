
/-
  CacheSpreads: the walk.
-/
import Derived.Test.YtekbbpfnkbanjaaKcJ
namespace Go.Proofs.Ytekbbpfnkbanjaa.Ch
open Go Go.RowKit Go.Sl Go.BigFrame
set_option linter.unusedVariables false
set_option linter.unusedSimpArgs false

/-- What stands behind the first loop: the cache, the sets of sectors. -/
structure Sp (m : Mo) (E1 E2 : List Int) : Prop where
  names : ∀ p ∈ m, p.1 = nA ∨ p.1 = nB
  a : ∀ x, x ∈ E1 ↔ x ∈ m.keys nA
  b : ∀ x, x ∈ E2 ↔ x ∈ m.keys nB
theorem Sp.start : Sp [] [] [] := ⟨by simp, by simp [Mo.keys, Mo.get, getK], by simp [Mo.keys, Mo.get, getK]⟩
theorem nBA : nB ≠ nA := by decide
theorem Sp.putA {m : Mo} {E1 E2 : List Int} (h : Sp m E1 E2) (k : Int) (d : List UInt8) : Sp (m.put nA k d) (k :: E1) E2 :=
  ⟨fun p hp => by
    rcases put_names hp with h1 | h1
    · exact .inl h1
    · exact h.names p h1,
   fun x => by rw [keys_put_same, List.mem_cons, h.a],
   fun x => by rw [keys_put_other m nBA, h.b]⟩
theorem Sp.putB {m : Mo} {E1 E2 : List Int} (h : Sp m E1 E2) (k : Int) (d : List UInt8) : Sp (m.put nB k d) E1 (k :: E2) :=
  ⟨fun p hp => by
    rcases put_names hp with h1 | h1
    · exact .inr h1
    · exact h.names p h1,
   fun x => by rw [keys_put_other m nBA.symm, h.a],
   fun x => by rw [keys_put_same, List.mem_cons, h.b]⟩
theorem Sp.counts {m : Mo} {E1 E2 : List Int} (h : Sp m E1 E2) (hm : MoOk m) : (dd E1).length = (m.get nA).length ∧ (dd E2).length = (m.get nB).length ∧ m.count = (dd E1).length + (dd E2).length ∧ m.spread = (dd (extN (m.keys nA))).length + (dd (extN (m.keys nB))).length := by
  have h1 := dd_len h.a (hm.get_nodup nA)
  have h2 := dd_len h.b (hm.get_nodup nB)
  simp only [Mo.keys, List.length_map] at h1 h2
  obtain ⟨h3, h4⟩ := two_names hm nBA h.names
  exact ⟨h1, h2, by rw [h3, h1, h2], h4⟩


set_option maxHeartbeats 8000000 in
set_option maxRecDepth 100000 in
theorem spreads_walk (a1 a2 : Option Addr) (c1 c2 : Nat) (l m : List Int) (W : World) (h1 : ∀ y, Below W.heap.size W y → Reads y (.slice a1 l.length c1) l.length (intsC l)) (h2 : ∀ y, Below W.heap.size W y → Reads y (.slice a2 m.length c2) m.length (intsC m)) :
    Calls Try.prog 3 #[.slice a1 l.length c1, .slice a2 m.length c2] W fun e w' => e = .returned (.bool true) ∧ Below W.heap.size W w' := by
  have hs0 := allOf_sat W
  have HB := Lib.hid (fun w (h : Sat W w ([] ++ allOf W)) => h.below_all)
  have H1 := Lib.hid h1
  have H2 := Lib.hid h2
  clear h1 h2
  generalize allOf W = aW at *
  go_enter Try.func3, Try.ntmps3
  go_wp2_with fail
  refine (cache_new W _ _ hs0).mono ?_; rintro r w1 ⟨bc, A, rfl, hA, hs1⟩
  clear hs0
  go_wp2_with fail
  refine (known21 W _ _ hs1).mono ?_; rintro r w2 ⟨rfl, hs2⟩
  clear hs1
  go_wp2_with fail
  have hs3 := hs2.newCells #[.string nA, .string nB] 26
  have hs4 := hs3.newCells #[.map none, .map none] 28
  have hz : (w2.alloc (.cells #[.string nA, .string nB] 26)).heap.size = w2.heap.size + 1 := by simp
  rw [hz] at hs4
  generalize w2.heap.size + 1 = bw at *
  generalize w2.heap.size = bn at *
  have hs5 : Sat W _ (cellsA bn #[.string nA, .string nB] 26 :: (cellsA bw #[.map none, .map none] 28 :: (A ++ aW))) := hs4.use (by intro x; simp only [cnt_append, cnt_cons, cnt_nil]; omega)
  clear hs2 hs3 hs4 hz
  have hidx0 : ∀ w v u, (Instr.index 29 (.agg #[.slice v l.length u, .slice a2 m.length c2]) (.int .i64 0)).run Try.prog w = .ok (.slice v l.length u) w := fun w v u => by kernel_rfl
  have hidx1 : ∀ w v u, (Instr.index 29 (.agg #[.slice a1 l.length c1, .slice v m.length u]) (.int .i64 1)).run Try.prog w = .ok (.slice v m.length u) w := fun w v u => by kernel_rfl
  have HI0 := Lib.hid hidx0
  have HI1 := Lib.hid hidx1
  clear hidx0 hidx1
  go_loopw [8, 9, 10, 11, 12, 31] (fun av _ _ _ _ kv wr => ∃ (mo : Mo) (A : List Atom) (E1 E2 : List Int) (v1 v2 : Value) (B : List Atom), Sp mo E1 E2 ∧ CaA bc mo A ∧ mo.count ≤ 60 ∧ Sat W wr (cellsA bn #[.string nA, .string nB] 26 :: (cellsA bw #[v1, v2] 28 :: (A ++ (B ++ aW)))) ∧
      ((kv = .int .i64 0 ∧ av = .int .i64 0 ∧ mo = [] ∧ E1 = [] ∧ E2 = [] ∧ v1 = .map none ∧ v2 = .map none ∧ B = []) ∨
       (∃ b1, kv = .int .i64 1 ∧ av = .int .i64 ((dd E1).length : Nat) ∧ mo.count ≤ 30 ∧ E2 = [] ∧ v1 = .map (some b1) ∧ v2 = .map none ∧ B = [mapA b1 (.int .i64) (inF E1) (dd E1).length]) ∨
       (∃ b1 b2, kv = .int .i64 2 ∧ av = .int .i64 ((dd E1).length + (dd E2).length : Nat) ∧ v1 = .map (some b1) ∧ v2 = .map (some b2) ∧ B = [mapA b1 (.int .i64) (inF E1) (dd E1).length, mapA b2 (.int .i64) (inF E2) (dd E2).length]))) (fun _ _ _ _ _ kv _ => (2 - (intOf kv).toNat))
  case atStart => exact ⟨[], A, [], [], .map none, .map none, [], Sp.start, hA, by simp [Mo.count], hs5, .inl ⟨rfl, rfl, rfl, rfl, rfl, rfl, rfl, rfl⟩⟩
  case round =>
    clear hs5 hA
    obtain ⟨mo, A, E1, E2, v1, v2, B, hsp, hA, hc, hs, hcase⟩ := hrel
    rcases hcase with ⟨rfl, rfl, rfl, rfl, rfl, rfl, rfl, rfl⟩ | ⟨b1, rfl, rfl, hc2, rfl, rfl, rfl, rfl⟩ | ⟨b1, b2, rfl, rfl, rfl, rfl, rfl⟩
    · have hidx := HI0.out
      have hmm := @run_makeMap Try.prog
      have hs1 := newMap_sl hs (.int .i64)
      have hs2 : Sat W (wr.alloc (.map #[] 0)) (cellsA bw #[.map none, .map none] 28 :: (mapA wr.heap.size (.int .i64) (fun _ => none) 0 :: (cellsA bn #[.string nA, .string nB] 26 :: (A ++ aW)))) := hs1.use (by intro x; simp only [cnt_append, cnt_cons, cnt_nil]; omega)
      have hs3 := hs2.setCell 0 (.map (some wr.heap.size))
      have cf0 : (wr.alloc (.map #[] 0)).frozen? ⟨bw, 0, none⟩ = false := hs2.free m0 0
      have cc0 : (wr.alloc (.map #[] 0)).cell? ⟨bw, 0, none⟩ = some (.map none) := hs2.cell m0 0
      clear hs1 hs2
      go_wp2_with fail
      clear hidx hmm cf0 cc0
      generalize wr.heap.size = z at *
      obtain ⟨CW, hCW⟩ : ∃ CW, CW = (#[.map none, .map none] : Array Value).setIfInBounds 0 (.map (some z)) := ⟨_, rfl⟩
      rw [← hCW] at hs3
      have HCW := Lib.hid (show CW[0]? = some (.map (some z)) by rw [hCW]; rfl)
      have HCWD := Lib.hid (show CW = #[.map (some z), .map none] by rw [hCW]; rfl)
      obtain ⟨FF, hFF⟩ : ∃ FF, FF = aW := ⟨_, rfl⟩
      have HFF := Lib.hid hFF
      have HA0 := Lib.hid hA
      obtain ⟨c0, hc0⟩ : ∃ c0 : Nat, c0 = 0 := ⟨_, rfl⟩
      have hc0 : Mo.count [] ≤ c0 ∧ c0 = 0 := ⟨by simp [Mo.count], hc0⟩
      have hsI := hs3.use (M := cellsA bn #[.string nA, .string nB] 26 :: (cellsA bw CW 28 :: (mapA z (.int .i64) (fun _ => none) 0 :: (A ++ aW)))) (by intro x; simp only [cnt_append, cnt_cons, cnt_nil]; omega)
      rw [← hFF] at hsI
      clear hs3 hCW hFF hc
      have HSP0 := Lib.hid hsp
      have HC0 := Lib.hid hc0
      have HS0 := Lib.hid hsI
      clear hsp hc0 hs hsI hA
      go_loopw [11, 12] (fun iv _ wr => ∃ (i : Nat) (mo : Mo) (A : List Atom) (E : List Int) (n : Nat), iv = .int .i64 i ∧ i ≤ 30 ∧ Sp mo E [] ∧ CaA bc mo A ∧ mo.count ≤ c0 + i ∧ Sat W wr (cellsA bn #[.string nA, .string nB] 26 :: (cellsA bw CW 28 :: (mapA z (.int .i64) (inF E) n :: (A ++ FF))))) (fun iv _ _ => (30 - (intOf iv).toNat))
      case atStart =>
        refine ⟨0, _, _, [], 0, rfl, by omega, HSP0.out, HA0.out, by have := HC0.out; omega, ?_⟩
        rw [inF_nil]
        exact HS0.out
      case round =>
        obtain ⟨i, mo2, A2, E, n, rfl, hi, hsp, hA, hcn, hs⟩ := hrel
        have i0 : (0 : Int) ≤ i := by omega
        by_cases hgo : i < l.length ∧ i < 30
        case neg =>
          have hd : decide (i < l.length ∧ i < 30) = false := decide_eq_false hgo
          have hn := sat_inF (hs.use (M := mapA z (.int .i64) (inF E) n :: []) (by intro x; simp only [cnt_append, cnt_cons, cnt_nil]; omega))
          have HSPN := Lib.hid hsp
          have HAN := Lib.hid hA
          have HCN := Lib.hid hcn
          have HFN := Lib.hid hn
          have w1c : wr.cell? ⟨bw, 0, none⟩ = some (.map (some z)) := by
            have := (hs.cell m1 0 : wr.cell? ⟨bw, 0, none⟩ = CW[0]?)
            rw [this, HCW.out]
          have hlen := len_sl (P := Try.prog) (t := 27) hs m2 Try.underlying27 3
          clear hsp hA hcn hn
          by_cases hil : i < l.length
          · have i1 : (i : Int) < l.length := by omega
            have i2 : ¬ (i : Int) < 30 := by omega
            have hcs := HSPN.out.counts HAN.out.ok
            have n9 : (n : Int) ≤ 60 := by have := HFN.out; have := HCN.out; have := HC0.out; omega
            have n0 : (0 : Int) ≤ n := by omega
            clear hcs
            go_wp2_with fail
            rw [HFN.out, HFF.out, HCWD.out] at hs
            refine ⟨⟨mo2, A2, E, [], .map (some z), .map none, [mapA z (.int .i64) (inF E) (dd E).length], HSPN.out, HAN.out, by have := HCN.out; have := HC0.out; omega, hs.use (by intro x; simp only [cnt_append, cnt_cons, cnt_nil]; omega), .inr (.inl ⟨z, rfl, by rw [HFN.out], by have := HCN.out; have := HC0.out; omega, rfl, rfl, rfl, rfl⟩)⟩, ?_⟩
            simp [intOf]
          · have i1 : ¬ (i : Int) < l.length := by omega
            have hcs := HSPN.out.counts HAN.out.ok
            have n9 : (n : Int) ≤ 60 := by have := HFN.out; have := HCN.out; have := HC0.out; omega
            have n0 : (0 : Int) ≤ n := by omega
            clear hcs
            go_wp2_with fail
            rw [HFN.out, HFF.out, HCWD.out] at hs
            refine ⟨⟨mo2, A2, E, [], .map (some z), .map none, [mapA z (.int .i64) (inF E) (dd E).length], HSPN.out, HAN.out, by have := HCN.out; have := HC0.out; omega, hs.use (by intro x; simp only [cnt_append, cnt_cons, cnt_nil]; omega), .inr (.inl ⟨z, rfl, by rw [HFN.out], by have := HCN.out; have := HC0.out; omega, rfl, rfl, rfl, rfl⟩)⟩, ?_⟩
            simp [intOf]
        case pos =>
        obtain ⟨hil, hi30⟩ := hgo
        have i1 : (i : Int) < l.length := by omega
        have i2 : (i : Int) < 30 := by omega
        obtain ⟨x, hx⟩ : ∃ x, l[i]? = some x := ⟨_, List.getElem?_eq_getElem hil⟩
        have hbl := HB.out wr (hs.use (by intro y; rw [HFF.out]; simp only [cnt_append, cnt_cons, cnt_nil]; omega))
        rcases H1.out wr hbl with ⟨_, hz, _⟩ | ⟨a, c, e1, hc1⟩
        · omega
        cases e1
        have d1 : wr.cell? (a.add i) = some (.int .i64 x) := hc1 i _ (intsC_get hx)
        obtain ⟨p0, p1⟩ := handPick_bounds x 100 (by omega)
        have HPK := Lib.hid (fun w => hand_pick x 100 w (by omega) (by omega))
        obtain ⟨q, hq⟩ : ∃ q, q = handPick x 100 := ⟨_, rfl⟩
        rw [← hq] at HPK p0 p1
        have HSPN := Lib.hid hsp
        have HAN := Lib.hid hA
        have HCN := Lib.hid hcn
        clear hx hq hc1 hbl hsp hA hcn
        go_wp2_with fail
        refine (HPK.out _).mono ?_; rintro r w4 ⟨rfl, rfl⟩
        clear d1 HPK
        go_wp2_with fail
        obtain ⟨LL, hLL⟩ : ∃ LL, LL = cellsA bn #[.string nA, .string nB] 26 :: (cellsA bw CW 28 :: (mapA z (.int .i64) (inF E) n :: FF)) := ⟨_, rfl⟩
        have hsd : Sat W wr.drew (A2 ++ LL) := by
          rw [hLL]
          exact hs.drew.use (by intro x; simp only [cnt_append, cnt_cons, cnt_nil]; omega)
        have HLL := Lib.hid hLL
        have hmN : cellsA bn #[.string nA, .string nB] 26 ∈ LL := by rw [hLL]; exact m0
        have s0 : ∀ y : Of W LL, y.v.cell? ⟨bn, 0, none⟩ = some (.string nA) := fun y => y.s.cell hmN 0
        have hne : Nonempty (Of W LL) := ⟨⟨_, hsd.right⟩⟩
        clear hLL hs
        refine wp_region_held1 [6, 7] [0, 1, 2, 3, 4] [0, 1, 2, 4] [6] [0, 1, 2, 3, 4, 5, 6, 7, 8] (Held W LL) (by kernel_rfl) (by kernel_rfl) ?_ ?_
        · exact Held.mk hsd.right
        have HON := Lib.hid (one21 i W wr.drew _ hsd)
        repeat (first | (refine can_pu1 rfl rfl rfl rfl rfl rfl (fun K hK => ?_); go_big_quiet_op; refine hK _ ?_; clear hK K) | (refine can_st1 rfl rfl rfl rfl rfl rfl (fun K hK => ?_); go_big_quiet_op; refine hK _ ?_; clear hK K) | (refine can_early1 rfl rfl rfl rfl rfl (fun K hK => ?_); go_big_quiet_op; refine hK _ ?_; clear hK K) | (refine can_skip rfl rfl rfl ?_; simp only [Act.put, List.setIfInBounds_toArray, List.set_cons_zero, List.set_cons_succ]))
        refine can_actS rfl rfl rfl rfl (fun K hK => ?_)
        go_wp2_with fail
        refine HON.out.mono ?_; rintro r w5 ⟨v, R, rfl, hr, hl, hs5⟩
        have hs6 : Sat W w5 (A2 ++ (R ++ LL)) := hs5.use (by intro x; simp only [cnt_append, cnt_cons, cnt_nil]; omega)
        apply hK
        refine ⟨Held.mk hs5.right.right, ?_⟩
        have HPU := Lib.hid (cache_put bc mo2 A2 nA q (bytesOf i 16) v W w5 (R ++ LL) HAN.out hs6 p0 (by omega) hl (fun y hy => by rw [hl]; exact hr.reads hy))
        have HOKM := Lib.hid HAN.out.ok
        clear hK HON hs5 hs6 hr hl
        repeat (first | (refine can_pu1 rfl rfl rfl rfl rfl rfl (fun K hK => ?_); go_big_quiet_op; refine hK _ ?_; clear hK K) | (refine can_st1 rfl rfl rfl rfl rfl rfl (fun K hK => ?_); go_big_quiet_op; refine hK _ ?_; clear hK K) | (refine can_early1 rfl rfl rfl rfl rfl (fun K hK => ?_); go_big_quiet_op; refine hK _ ?_; clear hK K) | (refine can_skip rfl rfl rfl ?_; simp only [Act.put, List.setIfInBounds_toArray, List.set_cons_zero, List.set_cons_succ]))
        refine can_actF rfl rfl rfl rfl (fun K hK => ?_)
        go_wp2_with fail
        refine HPU.out.mono ?_; rintro r w6 ⟨A3, rfl, hA3, hs7⟩
        apply hK
        clear hK HPU s0 hmN hsd hne
        repeat (first | (refine can_pu1 rfl rfl rfl rfl rfl rfl (fun K hK => ?_); go_big_quiet_op; refine hK _ ?_; clear hK K) | (refine can_st1 rfl rfl rfl rfl rfl rfl (fun K hK => ?_); go_big_quiet_op; refine hK _ ?_; clear hK K) | (refine can_early1 rfl rfl rfl rfl rfl (fun K hK => ?_); go_big_quiet_op; refine hK _ ?_; clear hK K) | (refine can_skip rfl rfl rfl ?_; simp only [Act.put, List.setIfInBounds_toArray, List.set_cons_zero, List.set_cons_succ]))
        refine can_end1 ?_; (try simp only [Exit.then])
        rw [HLL.out] at hs7
        have hs8 : Sat W w6 (mapA z (.int .i64) (inF E) n :: (cellsA bn #[.string nA, .string nB] 26 :: (cellsA bw CW 28 :: (A3 ++ FF)))) := hs7.use (by intro x; simp only [cnt_append, cnt_cons, cnt_nil]; omega)
        have w1c : w6.cell? ⟨bw, 0, none⟩ = some (.map (some z)) := by
          have := (hs8.cell m2 0 : w6.cell? ⟨bw, 0, none⟩ = CW[0]?)
          rw [this, HCW.out]
        obtain ⟨w7, hr7, hs9⟩ := mapUpdate_sl (P := Try.prog) (t := 27) (key := .int .i64 q) hs8 Try.underlying27 Try.underlying3 rfl (.bool true)
        rw [inF_put] at hs9
        obtain ⟨n', hs9⟩ : ∃ n', Sat W w7 (mapA z (.int .i64) (inF (q :: E)) n' :: (cellsA bn #[.string nA, .string nB] 26 :: (cellsA bw CW 28 :: (A3 ++ FF)))) := ⟨_, hs9⟩
        have HSPQ := Lib.hid (HSPN.out.putA q (bytesOf i 16))
        have HCNQ := Lib.hid (count_put HOKM.out nA q (bytesOf i 16))
        have HA3 := Lib.hid hA3
        clear hs7 hs8 hA3
        go_wp2_with fail
        refine ⟨⟨i + 1, _, A3, q :: E, n', by simp, by omega, HSPQ.out, HA3.out, by have := HCN.out; have := HCNQ.out; omega, hs9.use (by intro x; simp only [cnt_append, cnt_cons, cnt_nil]; omega)⟩, ?_⟩
        simp [intOf]
        omega
    · have hidx := HI1.out
      have hmm := @run_makeMap Try.prog
      have hs1 := newMap_sl hs (.int .i64)
      have hs2 : Sat W (wr.alloc (.map #[] 0)) (cellsA bw #[.map (some b1), .map none] 28 :: (mapA wr.heap.size (.int .i64) (fun _ => none) 0 :: (cellsA bn #[.string nA, .string nB] 26 :: (A ++ (mapA b1 (.int .i64) (inF E1) (dd E1).length :: aW))))) := hs1.use (by intro x; simp only [cnt_append, cnt_cons, cnt_nil]; omega)
      have hs3 := hs2.setCell 1 (.map (some wr.heap.size))
      have cf0 : (wr.alloc (.map #[] 0)).frozen? ⟨bw, 1, none⟩ = false := hs2.free m0 1
      have cc0 : (wr.alloc (.map #[] 0)).cell? ⟨bw, 1, none⟩ = some (.map none) := hs2.cell m0 1
      clear hs1 hs2
      obtain ⟨q1, hq1⟩ : ∃ q1, q1 = (dd E1).length := ⟨_, rfl⟩
      have HQ1 := Lib.hid hq1
      rw [← hq1] at hs3
      rw [← hq1]
      clear hq1
      go_wp2_with fail
      clear hidx hmm cf0 cc0
      generalize wr.heap.size = z at *
      obtain ⟨CW, hCW⟩ : ∃ CW, CW = (#[.map (some b1), .map none] : Array Value).setIfInBounds 1 (.map (some z)) := ⟨_, rfl⟩
      rw [← hCW] at hs3
      have HCW := Lib.hid (show CW[1]? = some (.map (some z)) by rw [hCW]; rfl)
      have HCWD := Lib.hid (show CW = #[.map (some b1), .map (some z)] by rw [hCW]; rfl)
      obtain ⟨FF, hFF⟩ : ∃ FF, FF = mapA b1 (.int .i64) (inF E1) q1 :: aW := ⟨_, rfl⟩
      have HA0 := Lib.hid hA
      obtain ⟨c0, hc0⟩ : ∃ c0 : Nat, c0 = 30 := ⟨_, rfl⟩
      have hc0 : mo.count ≤ c0 ∧ c0 = 30 := ⟨by omega, hc0⟩
      have hsI := hs3.use (M := cellsA bn #[.string nA, .string nB] 26 :: (cellsA bw CW 28 :: (mapA z (.int .i64) (fun _ => none) 0 :: (A ++ (mapA b1 (.int .i64) (inF E1) q1 :: aW))))) (by intro x; simp only [cnt_append, cnt_cons, cnt_nil]; omega)
      rw [← hFF] at hsI
      rw [HQ1.out] at hFF
      have HFF := Lib.hid hFF
      clear hs3 hCW hFF hc hc2
      have HSP0 := Lib.hid hsp
      have HC0 := Lib.hid hc0
      have HS0 := Lib.hid hsI
      clear hsp hc0 hs hsI hA
      go_loopw [11, 12] (fun iv _ wr => ∃ (i : Nat) (mo : Mo) (A : List Atom) (E : List Int) (n : Nat), iv = .int .i64 i ∧ i ≤ 30 ∧ Sp mo E1 E ∧ CaA bc mo A ∧ mo.count ≤ c0 + i ∧ Sat W wr (cellsA bn #[.string nA, .string nB] 26 :: (cellsA bw CW 28 :: (mapA z (.int .i64) (inF E) n :: (A ++ FF))))) (fun iv _ _ => (30 - (intOf iv).toNat))
      case atStart =>
        refine ⟨0, _, _, [], 0, rfl, by omega, HSP0.out, HA0.out, by have := HC0.out; omega, ?_⟩
        rw [inF_nil]
        exact HS0.out
      case round =>
        obtain ⟨i, mo2, A2, E, n, rfl, hi, hsp, hA, hcn, hs⟩ := hrel
        have i0 : (0 : Int) ≤ i := by omega
        by_cases hgo : i < m.length ∧ i < 30
        case neg =>
          have hd : decide (i < m.length ∧ i < 30) = false := decide_eq_false hgo
          have hn := sat_inF (hs.use (M := mapA z (.int .i64) (inF E) n :: []) (by intro x; simp only [cnt_append, cnt_cons, cnt_nil]; omega))
          have HSPN := Lib.hid hsp
          have HAN := Lib.hid hA
          have HCN := Lib.hid hcn
          have HFN := Lib.hid hn
          have w1c : wr.cell? ⟨bw, 1, none⟩ = some (.map (some z)) := by
            have := (hs.cell m1 1 : wr.cell? ⟨bw, 1, none⟩ = CW[1]?)
            rw [this, HCW.out]
          have hlen := len_sl (P := Try.prog) (t := 27) hs m2 Try.underlying27 3
          clear hsp hA hcn hn
          by_cases hil : i < m.length
          · have i1 : (i : Int) < m.length := by omega
            have i2 : ¬ (i : Int) < 30 := by omega
            have hcs := HSPN.out.counts HAN.out.ok
            have n9 : (n : Int) ≤ 60 := by have := HFN.out; have := HCN.out; have := HC0.out; omega
            have n0 : (0 : Int) ≤ n := by omega
            have q9 : (q1 : Int) ≤ 60 := by have := HQ1.out; have := HCN.out; have := HC0.out; omega
            have q0 : (0 : Int) ≤ q1 := by omega
            clear hcs
            go_wp2_with fail
            rw [HFN.out, HFF.out, HCWD.out] at hs
            refine ⟨⟨mo2, A2, E1, E, .map (some b1), .map (some z), [mapA b1 (.int .i64) (inF E1) (dd E1).length, mapA z (.int .i64) (inF E) (dd E).length], HSPN.out, HAN.out, by have := HCN.out; have := HC0.out; omega, hs.use (by intro x; simp only [cnt_append, cnt_cons, cnt_nil]; omega), .inr (.inr ⟨b1, z, rfl, by rw [HFN.out, HQ1.out]; simp, rfl, rfl, rfl⟩)⟩, ?_⟩
            simp [intOf]
          · have i1 : ¬ (i : Int) < m.length := by omega
            have hcs := HSPN.out.counts HAN.out.ok
            have n9 : (n : Int) ≤ 60 := by have := HFN.out; have := HCN.out; have := HC0.out; omega
            have n0 : (0 : Int) ≤ n := by omega
            have q9 : (q1 : Int) ≤ 60 := by have := HQ1.out; have := HCN.out; have := HC0.out; omega
            have q0 : (0 : Int) ≤ q1 := by omega
            clear hcs
            go_wp2_with fail
            rw [HFN.out, HFF.out, HCWD.out] at hs
            refine ⟨⟨mo2, A2, E1, E, .map (some b1), .map (some z), [mapA b1 (.int .i64) (inF E1) (dd E1).length, mapA z (.int .i64) (inF E) (dd E).length], HSPN.out, HAN.out, by have := HCN.out; have := HC0.out; omega, hs.use (by intro x; simp only [cnt_append, cnt_cons, cnt_nil]; omega), .inr (.inr ⟨b1, z, rfl, by rw [HFN.out, HQ1.out]; simp, rfl, rfl, rfl⟩)⟩, ?_⟩
            simp [intOf]
        case pos =>
        obtain ⟨hil, hi30⟩ := hgo
        have i1 : (i : Int) < m.length := by omega
        have i2 : (i : Int) < 30 := by omega
        obtain ⟨x, hx⟩ : ∃ x, m[i]? = some x := ⟨_, List.getElem?_eq_getElem hil⟩
        have hbl := HB.out wr (hs.use (by intro y; rw [HFF.out]; simp only [cnt_append, cnt_cons, cnt_nil]; omega))
        rcases H2.out wr hbl with ⟨_, hz, _⟩ | ⟨a, c, e1, hc1⟩
        · omega
        cases e1
        have d1 : wr.cell? (a.add i) = some (.int .i64 x) := hc1 i _ (intsC_get hx)
        obtain ⟨p0, p1⟩ := handPick_bounds x 100 (by omega)
        have HPK := Lib.hid (fun w => hand_pick x 100 w (by omega) (by omega))
        obtain ⟨q, hq⟩ : ∃ q, q = handPick x 100 := ⟨_, rfl⟩
        rw [← hq] at HPK p0 p1
        have HSPN := Lib.hid hsp
        have HAN := Lib.hid hA
        have HCN := Lib.hid hcn
        clear hx hq hc1 hbl hsp hA hcn
        go_wp2_with fail
        refine (HPK.out _).mono ?_; rintro r w4 ⟨rfl, rfl⟩
        clear d1 HPK
        go_wp2_with fail
        obtain ⟨LL, hLL⟩ : ∃ LL, LL = cellsA bn #[.string nA, .string nB] 26 :: (cellsA bw CW 28 :: (mapA z (.int .i64) (inF E) n :: FF)) := ⟨_, rfl⟩
        have hsd : Sat W wr.drew (A2 ++ LL) := by
          rw [hLL]
          exact hs.drew.use (by intro x; simp only [cnt_append, cnt_cons, cnt_nil]; omega)
        have HLL := Lib.hid hLL
        have hmN : cellsA bn #[.string nA, .string nB] 26 ∈ LL := by rw [hLL]; exact m0
        have s0 : ∀ y : Of W LL, y.v.cell? ⟨bn, 1, none⟩ = some (.string nB) := fun y => y.s.cell hmN 1
        have hne : Nonempty (Of W LL) := ⟨⟨_, hsd.right⟩⟩
        clear hLL hs
        refine wp_region_held1 [6, 7] [0, 1, 2, 3, 4] [0, 1, 2, 4] [6] [0, 1, 2, 3, 4, 5, 6, 7, 8] (Held W LL) (by kernel_rfl) (by kernel_rfl) ?_ ?_
        · exact Held.mk hsd.right
        have HON := Lib.hid (one21 i W wr.drew _ hsd)
        repeat (first | (refine can_pu1 rfl rfl rfl rfl rfl rfl (fun K hK => ?_); go_big_quiet_op; refine hK _ ?_; clear hK K) | (refine can_st1 rfl rfl rfl rfl rfl rfl (fun K hK => ?_); go_big_quiet_op; refine hK _ ?_; clear hK K) | (refine can_early1 rfl rfl rfl rfl rfl (fun K hK => ?_); go_big_quiet_op; refine hK _ ?_; clear hK K) | (refine can_skip rfl rfl rfl ?_; simp only [Act.put, List.setIfInBounds_toArray, List.set_cons_zero, List.set_cons_succ]))
        refine can_actS rfl rfl rfl rfl (fun K hK => ?_)
        go_wp2_with fail
        refine HON.out.mono ?_; rintro r w5 ⟨v, R, rfl, hr, hl, hs5⟩
        have hs6 : Sat W w5 (A2 ++ (R ++ LL)) := hs5.use (by intro x; simp only [cnt_append, cnt_cons, cnt_nil]; omega)
        apply hK
        refine ⟨Held.mk hs5.right.right, ?_⟩
        have HPU := Lib.hid (cache_put bc mo2 A2 nB q (bytesOf i 16) v W w5 (R ++ LL) HAN.out hs6 p0 (by omega) hl (fun y hy => by rw [hl]; exact hr.reads hy))
        have HOKM := Lib.hid HAN.out.ok
        clear hK HON hs5 hs6 hr hl
        repeat (first | (refine can_pu1 rfl rfl rfl rfl rfl rfl (fun K hK => ?_); go_big_quiet_op; refine hK _ ?_; clear hK K) | (refine can_st1 rfl rfl rfl rfl rfl rfl (fun K hK => ?_); go_big_quiet_op; refine hK _ ?_; clear hK K) | (refine can_early1 rfl rfl rfl rfl rfl (fun K hK => ?_); go_big_quiet_op; refine hK _ ?_; clear hK K) | (refine can_skip rfl rfl rfl ?_; simp only [Act.put, List.setIfInBounds_toArray, List.set_cons_zero, List.set_cons_succ]))
        refine can_actF rfl rfl rfl rfl (fun K hK => ?_)
        go_wp2_with fail
        refine HPU.out.mono ?_; rintro r w6 ⟨A3, rfl, hA3, hs7⟩
        apply hK
        clear hK HPU s0 hmN hsd hne
        repeat (first | (refine can_pu1 rfl rfl rfl rfl rfl rfl (fun K hK => ?_); go_big_quiet_op; refine hK _ ?_; clear hK K) | (refine can_st1 rfl rfl rfl rfl rfl rfl (fun K hK => ?_); go_big_quiet_op; refine hK _ ?_; clear hK K) | (refine can_early1 rfl rfl rfl rfl rfl (fun K hK => ?_); go_big_quiet_op; refine hK _ ?_; clear hK K) | (refine can_skip rfl rfl rfl ?_; simp only [Act.put, List.setIfInBounds_toArray, List.set_cons_zero, List.set_cons_succ]))
        refine can_end1 ?_; (try simp only [Exit.then])
        rw [HLL.out] at hs7
        have hs8 : Sat W w6 (mapA z (.int .i64) (inF E) n :: (cellsA bn #[.string nA, .string nB] 26 :: (cellsA bw CW 28 :: (A3 ++ FF)))) := hs7.use (by intro x; simp only [cnt_append, cnt_cons, cnt_nil]; omega)
        have w1c : w6.cell? ⟨bw, 1, none⟩ = some (.map (some z)) := by
          have := (hs8.cell m2 1 : w6.cell? ⟨bw, 1, none⟩ = CW[1]?)
          rw [this, HCW.out]
        obtain ⟨w7, hr7, hs9⟩ := mapUpdate_sl (P := Try.prog) (t := 27) (key := .int .i64 q) hs8 Try.underlying27 Try.underlying3 rfl (.bool true)
        rw [inF_put] at hs9
        obtain ⟨n', hs9⟩ : ∃ n', Sat W w7 (mapA z (.int .i64) (inF (q :: E)) n' :: (cellsA bn #[.string nA, .string nB] 26 :: (cellsA bw CW 28 :: (A3 ++ FF)))) := ⟨_, hs9⟩
        have HSPQ := Lib.hid (HSPN.out.putB q (bytesOf i 16))
        have HCNQ := Lib.hid (count_put HOKM.out nB q (bytesOf i 16))
        have HA3 := Lib.hid hA3
        clear hs7 hs8 hA3
        go_wp2_with fail
        refine ⟨⟨i + 1, _, A3, q :: E, n', by simp, by omega, HSPQ.out, HA3.out, by have := HCN.out; have := HCNQ.out; omega, hs9.use (by intro x; simp only [cnt_append, cnt_cons, cnt_nil]; omega)⟩, ?_⟩
        simp [intOf]
        omega
    · have HSP := Lib.hid hsp
      have HA := Lib.hid hA
      have HC := Lib.hid hc
      obtain ⟨RS, hRS⟩ : ∃ RS, RS = mapA b1 (.int .i64) (inF E1) (dd E1).length :: mapA b2 (.int .i64) (inF E2) (dd E2).length :: aW := ⟨_, rfl⟩
      have hs1 : Sat W wr (cellsA bn #[.string nA, .string nB] 26 :: (cellsA bw #[.map (some b1), .map (some b2)] 28 :: (A ++ RS))) := by rw [hRS]; exact hs.use (by intro x; simp only [cnt_append, cnt_cons, cnt_nil]; omega)
      have HRS := Lib.hid hRS
      have hcs := hsp.counts hA.ok
      have HCS := Lib.hid hcs
      have hl1 := Nat.le_trans (Nat.le_add_right (dd E1).length (dd E2).length) (Nat.le_of_eq hcs.2.2.1.symm)
      have hsl := spread_le mo
      obtain ⟨q1, hq1⟩ : ∃ q1, q1 = (dd E1).length := ⟨_, rfl⟩
      obtain ⟨q2, hq2⟩ : ∃ q2, q2 = (dd E2).length := ⟨_, rfl⟩
      obtain ⟨s1, hs1d⟩ : ∃ s1, s1 = (dd (extN (mo.keys nA))).length := ⟨_, rfl⟩
      obtain ⟨s2, hs2d⟩ : ∃ s2, s2 = (dd (extN (mo.keys nB))).length := ⟨_, rfl⟩
      rw [← hs1d, ← hs2d] at hcs
      have HS1 := Lib.hid hs1d
      have HS2 := Lib.hid hs2d
      rw [← hq1, ← hq2]
      rw [← hq1, ← hq2] at hRS
      have t1 : (s1 : Int) ≤ 60 := by omega
      have t2 : (s1 : Int) + s2 ≤ 60 := by omega
      have t3 : (0 : Int) ≤ s1 := by omega
      have t4 : (0 : Int) ≤ s2 := by omega
      have HQ1 := Lib.hid hq1
      have HQ2 := Lib.hid hq2
      clear hcs hl1 hsl hs hsp hA hc hRS hq1 hq2 hs1d hs2d
      go_wp2_with fail
      trace_state
      go_loopw [13, 14, 15, 16, 17, 18, 19, 73] (fun sv _ _ _ _ _ _ kv wr => Sat W wr (cellsA bn #[.string nA, .string nB] 26 :: (cellsA bw #[.map (some b1), .map (some b2)] 28 :: (A ++ RS))) ∧
        ((kv = .int .i64 0 ∧ sv = .int .i64 0) ∨ (kv = .int .i64 1 ∧ sv = .int .i64 s1) ∨ (kv = .int .i64 2 ∧ sv = .int .i64 ((s1 : Int) + s2)))) (fun _ _ _ _ _ _ _ kv _ => (2 - (intOf kv).toNat))
      case atStart => exact ⟨hs1, .inl ⟨rfl, rfl⟩⟩
      case round =>
        clear hs1
        obtain ⟨hs, ⟨rfl, rfl⟩ | ⟨rfl, rfl⟩ | ⟨rfl, rfl⟩⟩ := hrel
        · skip
          have hsB : Sat W wr (A ++ (cellsA bn #[.string nA, .string nB] 26 :: (cellsA bw #[.map (some b1), .map (some b2)] 28 :: RS))) := hs.use (by intro x; simp only [cnt_append, cnt_cons, cnt_nil]; omega)
          have HX := Lib.hid (cache_extents bc mo A nA W wr _ HA.out hsB (by have := HC.out; omega))
          have sN : wr.cell? ⟨bn, 0, none⟩ = some (.string nA) := hs.cell m0 0
          clear hs hsB
          go_wp2_with fail
          refine HX.out.mono ?_; rintro r w3 ⟨v, ss, R, rfl, hsort, hmem, hlen, hr, hs3⟩
          clear HX sN
          obtain ⟨av, cv, rfl⟩ := Ch.RowA.slice hr
          have HSORT := Lib.hid hsort
          have HMEM := Lib.hid hmem
          have HLEN := Lib.hid hlen
          have HR := Lib.hid hr
          have hl60 : (ss.length : Int) ≤ 60 := by rw [hlen, ← HS1.out]; omega
          have htot := sect_total (m := mo) (s := nA) (hsort.imp fun h => by omega) hmem
          have hcn := HCS.out
          have htot2 : (ss.map fun x => (mo.sect nA x).length).sum = q1 := by rw [htot, HQ1.out]; exact HCS.out.1.symm
          have HTOT := Lib.hid htot2
          obtain ⟨n1, hn1⟩ : ∃ n1, n1 = ss.length := ⟨_, rfl⟩
          have HN1 := Lib.hid hn1
          rw [← hn1] at hl60 ⊢
          have hq60 : (q1 : Int) ≤ 60 := by have h1 := HCS.out.2.2.1; rw [← HQ1.out, ← HQ2.out] at h1; have := HC.out; omega
          obtain ⟨F, hF⟩ : ∃ F, F = cellsA bn #[.string nA, .string nB] 26 :: (cellsA bw #[.map (some b1), .map (some b2)] 28 :: (R ++ RS)) := ⟨_, rfl⟩
          have hs4 : Sat W w3 (A ++ F) := by rw [hF]; exact hs3.use (by intro x; simp only [cnt_append, cnt_cons, cnt_nil]; omega)
          have HF := Lib.hid hF
          clear hsort hmem hlen hr hs3 htot htot2 hn1 hF hcn
          go_wp2_with fail
          go_loopw [16, 17, 18, 19, 83] (fun nv _ _ _ iv wr => ∃ i : Nat, iv = .int .i64 i ∧ i ≤ n1 ∧ nv = .int .i64 ((((ss.take i).map fun x => (mo.sect nA x).length).sum : Nat) : Int) ∧ Sat W wr (A ++ F)) (fun _ _ _ _ iv _ => (n1 - (intOf iv).toNat))
          case atStart => exact ⟨0, rfl, by omega, by simp, hs4⟩
          case round =>
            clear hs4
            obtain ⟨i, rfl, hi, rfl, hs⟩ := hrel
            have i0 : (0 : Int) ≤ i := by omega
            have hsumle : ((ss.take i).map fun x => (mo.sect nA x).length).sum ≤ q1 := by
              rw [← HTOT.out]
              conv => rhs; rw [← List.take_append_drop i ss, List.map_append, List.sum_append]
              omega
            by_cases hin : i < n1
            case neg =>
              have i1 : ¬ (i : Int) < n1 := by omega
              have hfull : ((ss.take i).map fun x => (mo.sect nA x).length).sum = q1 := by
                rw [List.take_of_length_le (by rw [← HN1.out]; omega)]
                exact HTOT.out
              rw [hfull]
              rw [HF.out, HRS.out] at hs
              have hl := len_sl (P := Try.prog) (t := 27) (b := b1) (d := .int .i64) (f := inF E1) (n := (dd E1).length) (hs.use (M := [mapA b1 (.int .i64) (inF E1) (dd E1).length]) (by intro x; simp only [cnt_append, cnt_cons, cnt_nil]; omega)) m0 Try.underlying27 3
              rw [← HQ1.out] at hl
              have w1c : wr.cell? ⟨bw, 0, none⟩ = some (.map (some b1)) := (hs.use (M := [cellsA bw #[.map (some b1), .map (some b2)] 28]) (by intro x; simp only [cnt_append, cnt_cons, cnt_nil]; omega)).cell m0 0
              have hs9 : Sat W wr (cellsA bn #[.string nA, .string nB] 26 :: (cellsA bw #[.map (some b1), .map (some b2)] 28 :: (A ++ RS))) := by rw [HRS.out]; exact hs.use (by intro x; simp only [cnt_append, cnt_cons, cnt_nil]; omega)
              have n10 : (0 : Int) ≤ n1 := by omega
              have hn9 : (n1 : Int) = s1 := by rw [HN1.out, HLEN.out, HS1.out]
              have HN9 := Lib.hid hn9
              clear hs hfull hsumle hn9
              go_wp2_with fail
              refine ⟨⟨_, _, _, _, _, _, _, _, _, ?_, rfl, rfl, rfl, rfl, rfl, rfl, rfl, rfl, rfl⟩, ?_⟩
              · rw [HN9.out]
                first | exact .inr (.inl ⟨rfl, rfl⟩) | exact .inr (.inr ⟨rfl, rfl⟩)
              · simp [intOf]
            case pos =>
            have i1 : (i : Int) < n1 := by omega
            obtain ⟨x, hx⟩ : ∃ x, ss[i]? = some x := ⟨_, List.getElem?_eq_getElem (by rw [← HN1.out]; exact hin)⟩
            have hrd : Reads wr (.slice av ss.length cv) ss.length (ss.map (Value.int .i64)) := HR.out.reads (F := A ++ (cellsA bn #[.string nA, .string nB] 26 :: (cellsA bw #[.map (some b1), .map (some b2)] 28 :: RS))) (by rw [HF.out] at hs; exact hs.use (by intro x; simp only [cnt_append, cnt_cons, cnt_nil]; omega))
            rcases hrd with ⟨_, hz, _⟩ | ⟨a, c, e1, hc1⟩
            · have := HN1.out; omega
            cases e1
            have d1 : wr.cell? (a.add i) = some (.int .i64 x) := hc1 i _ (by rw [List.getElem?_map, hx]; rfl)
            have hxk : x ∈ extN (mo.keys nA) := (HMEM.out x).1 (List.mem_of_getElem? hx)
            have hno : getK Prod.fst nA mo ≠ none := fun h => by
              unfold Mo.keys Mo.get at hxk
              rw [h] at hxk
              simp [extN] at hxk
            have hprev : i = 0 ∨ ∃ y, ss[i - 1]? = some y ∧ y < x := by
              by_cases h0 : i = 0
              · exact .inl h0
              · refine .inr ?_
                have hlt : i - 1 < ss.length := by rw [← HN1.out]; omega
                refine ⟨ss[i - 1], List.getElem?_eq_getElem hlt, ?_⟩
                have hlt2 : i < ss.length := by rw [← HN1.out]; exact hin
                have e2 : x = ss[i] := by
                  rw [List.getElem?_eq_getElem hlt2] at hx
                  exact (Option.some.inj hx).symm
                rw [e2]
                exact List.pairwise_iff_getElem.1 HSORT.out (i - 1) i hlt hlt2 (by omega)
            have hprev2 : i = 0 ∨ ∃ y, 0 < (i : Int) ∧ wr.cell? (a.add (i - 1)) = some (.int .i64 y) ∧ y < x := by
              rcases hprev with h | ⟨y, hy, hlt⟩
              · exact .inl h
              · by_cases h0 : i = 0
                · exact .inl h0
                · exact .inr ⟨y, by omega, hc1 (i - 1) _ (by rw [List.getElem?_map, hy]; rfl), hlt⟩
            have hsN : wr.cell? ⟨bn, 0, none⟩ = some (.string nA) := by
              rw [HF.out] at hs
              exact (hs.use (M := [cellsA bn #[.string nA, .string nB] 26]) (by intro x; simp only [cnt_append, cnt_cons, cnt_nil]; omega)).cell m0 0
            have HSC := Lib.hid (cache_sectors_some bc mo A nA x W wr F HA.out hs hno)
            have HXK := Lib.hid hxk
            have htk : ((ss.take (i + 1)).map fun x => (mo.sect nA x).length).sum = ((ss.take i).map fun x => (mo.sect nA x).length).sum + (mo.sect nA x).length := by
              rw [List.take_succ_eq_append_getElem (by rw [← HN1.out]; exact hin), List.map_append, List.sum_append]
              have e2 : ss[i]'(by rw [← HN1.out]; exact hin) = x := by
                rw [List.getElem?_eq_getElem (by rw [← HN1.out]; exact hin)] at hx
                exact Option.some.inj hx
              rw [e2]
              simp
            have hsumle2 : ((ss.take (i + 1)).map fun x => (mo.sect nA x).length).sum ≤ q1 := by
              rw [← HTOT.out]
              conv => rhs; rw [← List.take_append_drop (i + 1) ss, List.map_append, List.sum_append]
              omega
            rw [htk] at hsumle2
            have HTK := Lib.hid htk
            obtain ⟨base, hbase⟩ : ∃ base, base = ((ss.take i).map fun x => (mo.sect nA x).length).sum := ⟨_, rfl⟩
            rw [← hbase] at hsumle hsumle2 HTK
            rw [← hbase]
            have hb0 : (0 : Int) ≤ base := by omega
            have hb1 : (base : Int) + (mo.sect nA x).length ≤ 60 := by omega
            have HB1 := Lib.hid hb1
            have hb2 : (base : Int) ≤ 60 := by omega
            clear hx hc1 hxk hno hprev hs htk hsumle hsumle2 hbase hb1
            go_upto_region 29 with fail
            go_cut [98] (fun tv wx => tv = .bool false ∧ wr = wx)
            case first =>
              rcases hprev2 with rfl | ⟨y, hy0, hyc, hyx⟩
              · go_wp2_with fail
                go_meet
                exact ⟨rfl, rfl⟩
              · obtain ⟨j, rfl⟩ : ∃ j, i = j + 1 := ⟨i - 1, by omega⟩
                rw [Nat.add_sub_cancel] at hyc
                have hle : ¬ x ≤ y := by omega
                have j0 : (0 : Int) ≤ j := by omega
                go_wp2_with fail
                go_meet
                exact ⟨rfl, rfl⟩
            case rest =>
            obtain ⟨rfl, rfl⟩ := hcut
            clear hprev2 d1
            go_wp2_with fail
            refine HSC.out.mono ?_; rintro r w5 ⟨z, l', rfl, hnm, hpm, hs5⟩
            clear HSC
            obtain ⟨es, clock, hm, hsE⟩ := Sat.openMap (b := z) (d := .int .i64) (f := secF l') (n := l'.length) (L := secAt l' ++ (A ++ F)) (hs5.use (by intro y; simp only [nmAt, cnt_append, cnt_cons, cnt_nil]; omega))
            obtain ⟨hrr, hsR⟩ := range_sl (P := Try.prog) Try.underlying35 hsE
            have hr0 : RngL es #[] (fun a : Sec => .int .i64 a.k) (fun a => a.v) l' := rng_start hm l' (sec_keys hnm.apart) (secF_iff l' hnm.apart)
            have hll : l'.length = (mo.sect nA x).length := by
              have := hpm.length_eq
              rw [List.length_map] at this
              exact this
            have hin' : ∀ t ∈ l', t.k ∈ E1 ∧ t.k / 8 = x ∧ 0 ≤ t.k ∧ t.k < 1000000 := fun t ht => by
              have h1 := hpm.subset (List.mem_map.2 ⟨t, ht, rfl⟩)
              unfold Mo.sect at h1
              obtain ⟨h2, h3⟩ := List.mem_filter.1 h1
              have h4 := hnm.secs t ht
              exact ⟨(by first | exact (HSP.out.a t.k).2 (List.mem_map.2 ⟨t.abs, h2, rfl⟩) | exact (HSP.out.b t.k).2 (List.mem_map.2 ⟨t.abs, h2, rfl⟩)), of_decide_eq_true h3, h4.lo, h4.hi⟩
            have HLL := Lib.hid hll
            have HIN := Lib.hid hin'
            go_wp2_with fail
            clear hs5 hsE hrr hnm hpm hll hin'
            generalize w5.heap.size = rr at *
            have HR0 := Lib.hid hr0
            clear hr0
            go_loopw [16, 19] (fun nv _ wr => ∃ seen dn todo, nv = .int .i64 ((base : Int) + (dn.length : Nat)) ∧ (dn ++ todo).Perm l' ∧ RngL es seen (fun a : Sec => .int .i64 a.k) (fun a => a.v) todo ∧ Sat W wr (iterA rr z clock seen :: mapE z es clock :: (secAt l' ++ (A ++ F)))) (fun _ _ wr => (leftOf es (wr.iterSeen rr)).size)
            case atStart => exact ⟨#[], [], l', by simp, by simp, HR0.out, hsR⟩
            case round =>
              clear hsR
              obtain ⟨seen, dn, todo, rfl, hp, hr, hs1⟩ := hrel
              have hseen := hs1.iterSeen
              rcases next_sl (P := Try.prog) 0 hm hs1 with ⟨h0, hn0⟩ | ⟨e, he, w6, hnx, hs6⟩
              · have ht := rng_end hr h0
                subst ht
                rw [List.append_nil] at hp
                have he : (base : Int) + (dn.length : Nat) = ((((ss.take (i + 1)).map fun x => (mo.sect nA x).length).sum : Nat) : Int) := by
                  rw [HTK.out, hp.length_eq, HLL.out]
                  simp
                rw [he]
                have HE := Lib.hid (hs1.use (M := A ++ F) (by intro x; simp only [cnt_append, cnt_cons, cnt_nil]; omega))
                clear hr hp hseen he hs1
                go_wp2_with fail
                refine ⟨⟨i + 1, by simp, by omega, rfl, HE.out⟩, ?_⟩
                simp [intOf]
                omega
              · obtain ⟨q, todo', hpt, hek, hev, hr2⟩ := rng_next hm.stamps hr he
                have hent := entry_sl (P := Try.prog) hm he hs6
                rw [hek, hev] at hnx hent
                have hms := left_shrinks es seen e he
                have hqt : q ∈ todo := hpt.symm.subset (List.mem_cons_self ..)
                obtain ⟨k1, k2, k3, k4⟩ := HIN.out q (hp.subset (List.mem_append_right _ hqt))
                have hdl : (base : Int) + dn.length < 60 := by
                  have h1 := hp.length_eq
                  have h2 := HB1.out
                  have h3 := List.length_pos_of_mem hqt
                  rw [List.length_append] at h1
                  rw [← HLL.out] at h2
                  omega
                have hp2 : ((dn ++ [q]) ++ todo').Perm l' := by
                  refine List.Perm.trans ?_ hp
                  rw [List.append_assoc]
                  exact List.Perm.append_left dn hpt.symm
                have w1c : w6.cell? ⟨bw, 0, none⟩ = some (.map (some b1)) := by
                  have h := hs6
                  rw [HF.out] at h
                  exact (h.use (M := [cellsA bw #[.map (some b1), .map (some b2)] 28]) (by intro x; simp only [cnt_append, cnt_cons, cnt_nil]; omega)).cell m0 0
                have hlk : (Instr.lookup 27 (.map (some b1)) (.int .i64 q.k) false).run Try.prog w6 = .ok (.bool true) w6 := by
                  have h := hs6
                  rw [HF.out, HRS.out] at h
                  have h2 := look_inF (P := Try.prog) (t := 27) (b := b1) (E := E1) (n := (dd E1).length) (h.use (M := [mapA b1 (.int .i64) (inF E1) (dd E1).length]) (by intro x; simp only [cnt_append, cnt_cons, cnt_nil]; omega)) m0 Try.underlying27 Try.underlying3 (Try.zeroValue4 _) q.k
                  rw [decide_eq_true k1] at h2
                  exact h2
                have HM := Lib.hid hms
                have HS := Lib.hid hseen
                have HP := Lib.hid hp2
                have HR2 := Lib.hid hr2
                have hk8 : (q.k / 8 != x) = false := by simpa using k2
                have hd0 : (0 : Int) ≤ dn.length := by omega
                clear hs1 hms hseen hp hp2 hpt hr hr2 hqt hek hev k1 k2
                go_wp2_with fail
                refine ⟨⟨_, _, todo', by simp [Int.add_assoc], HP.out, HR2.out, hs6⟩, ?_⟩
                rw [HS.out, hs6.iterSeen]
                exact HM.out
        · skip
          have hsB : Sat W wr (A ++ (cellsA bn #[.string nA, .string nB] 26 :: (cellsA bw #[.map (some b1), .map (some b2)] 28 :: RS))) := hs.use (by intro x; simp only [cnt_append, cnt_cons, cnt_nil]; omega)
          have HX := Lib.hid (cache_extents bc mo A nB W wr _ HA.out hsB (by have := HC.out; omega))
          have sN : wr.cell? ⟨bn, 1, none⟩ = some (.string nB) := hs.cell m0 1
          clear hs hsB
          go_wp2_with fail
          refine HX.out.mono ?_; rintro r w3 ⟨v, ss, R, rfl, hsort, hmem, hlen, hr, hs3⟩
          clear HX sN
          obtain ⟨av, cv, rfl⟩ := Ch.RowA.slice hr
          have HSORT := Lib.hid hsort
          have HMEM := Lib.hid hmem
          have HLEN := Lib.hid hlen
          have HR := Lib.hid hr
          have hl60 : (ss.length : Int) ≤ 60 := by rw [hlen, ← HS2.out]; omega
          have htot := sect_total (m := mo) (s := nB) (hsort.imp fun h => by omega) hmem
          have hcn := HCS.out
          have htot2 : (ss.map fun x => (mo.sect nB x).length).sum = q2 := by rw [htot, HQ2.out]; exact HCS.out.2.1.symm
          have HTOT := Lib.hid htot2
          obtain ⟨n1, hn1⟩ : ∃ n1, n1 = ss.length := ⟨_, rfl⟩
          have HN1 := Lib.hid hn1
          rw [← hn1] at hl60 ⊢
          have hq60 : (q2 : Int) ≤ 60 := by have h1 := HCS.out.2.2.1; rw [← HQ1.out, ← HQ2.out] at h1; have := HC.out; omega
          obtain ⟨F, hF⟩ : ∃ F, F = cellsA bn #[.string nA, .string nB] 26 :: (cellsA bw #[.map (some b1), .map (some b2)] 28 :: (R ++ RS)) := ⟨_, rfl⟩
          have hs4 : Sat W w3 (A ++ F) := by rw [hF]; exact hs3.use (by intro x; simp only [cnt_append, cnt_cons, cnt_nil]; omega)
          have HF := Lib.hid hF
          clear hsort hmem hlen hr hs3 htot htot2 hn1 hF hcn
          go_wp2_with fail
          go_loopw [16, 17, 18, 19, 83] (fun nv _ _ _ iv wr => ∃ i : Nat, iv = .int .i64 i ∧ i ≤ n1 ∧ nv = .int .i64 ((((ss.take i).map fun x => (mo.sect nB x).length).sum : Nat) : Int) ∧ Sat W wr (A ++ F)) (fun _ _ _ _ iv _ => (n1 - (intOf iv).toNat))
          case atStart => exact ⟨0, rfl, by omega, by simp, hs4⟩
          case round =>
            clear hs4
            obtain ⟨i, rfl, hi, rfl, hs⟩ := hrel
            have i0 : (0 : Int) ≤ i := by omega
            have hsumle : ((ss.take i).map fun x => (mo.sect nB x).length).sum ≤ q2 := by
              rw [← HTOT.out]
              conv => rhs; rw [← List.take_append_drop i ss, List.map_append, List.sum_append]
              omega
            by_cases hin : i < n1
            case neg =>
              have i1 : ¬ (i : Int) < n1 := by omega
              have hfull : ((ss.take i).map fun x => (mo.sect nB x).length).sum = q2 := by
                rw [List.take_of_length_le (by rw [← HN1.out]; omega)]
                exact HTOT.out
              rw [hfull]
              rw [HF.out, HRS.out] at hs
              have hl := len_sl (P := Try.prog) (t := 27) (b := b2) (d := .int .i64) (f := inF E2) (n := (dd E2).length) (hs.use (M := [mapA b2 (.int .i64) (inF E2) (dd E2).length]) (by intro x; simp only [cnt_append, cnt_cons, cnt_nil]; omega)) m0 Try.underlying27 3
              rw [← HQ2.out] at hl
              have w1c : wr.cell? ⟨bw, 1, none⟩ = some (.map (some b2)) := (hs.use (M := [cellsA bw #[.map (some b1), .map (some b2)] 28]) (by intro x; simp only [cnt_append, cnt_cons, cnt_nil]; omega)).cell m0 1
              have hs9 : Sat W wr (cellsA bn #[.string nA, .string nB] 26 :: (cellsA bw #[.map (some b1), .map (some b2)] 28 :: (A ++ RS))) := by rw [HRS.out]; exact hs.use (by intro x; simp only [cnt_append, cnt_cons, cnt_nil]; omega)
              have n10 : (0 : Int) ≤ n1 := by omega
              have hn9 : (n1 : Int) = s2 := by rw [HN1.out, HLEN.out, HS2.out]
              have HN9 := Lib.hid hn9
              clear hs hfull hsumle hn9
              go_wp2_with fail
              refine ⟨⟨_, _, _, _, _, _, _, _, _, ?_, rfl, rfl, rfl, rfl, rfl, rfl, rfl, rfl, rfl⟩, ?_⟩
              · rw [HN9.out]
                first | exact .inr (.inl ⟨rfl, rfl⟩) | exact .inr (.inr ⟨rfl, rfl⟩)
              · simp [intOf]
            case pos =>
            have i1 : (i : Int) < n1 := by omega
            obtain ⟨x, hx⟩ : ∃ x, ss[i]? = some x := ⟨_, List.getElem?_eq_getElem (by rw [← HN1.out]; exact hin)⟩
            have hrd : Reads wr (.slice av ss.length cv) ss.length (ss.map (Value.int .i64)) := HR.out.reads (F := A ++ (cellsA bn #[.string nA, .string nB] 26 :: (cellsA bw #[.map (some b1), .map (some b2)] 28 :: RS))) (by rw [HF.out] at hs; exact hs.use (by intro x; simp only [cnt_append, cnt_cons, cnt_nil]; omega))
            rcases hrd with ⟨_, hz, _⟩ | ⟨a, c, e1, hc1⟩
            · have := HN1.out; omega
            cases e1
            have d1 : wr.cell? (a.add i) = some (.int .i64 x) := hc1 i _ (by rw [List.getElem?_map, hx]; rfl)
            have hxk : x ∈ extN (mo.keys nB) := (HMEM.out x).1 (List.mem_of_getElem? hx)
            have hno : getK Prod.fst nB mo ≠ none := fun h => by
              unfold Mo.keys Mo.get at hxk
              rw [h] at hxk
              simp [extN] at hxk
            have hprev : i = 0 ∨ ∃ y, ss[i - 1]? = some y ∧ y < x := by
              by_cases h0 : i = 0
              · exact .inl h0
              · refine .inr ?_
                have hlt : i - 1 < ss.length := by rw [← HN1.out]; omega
                refine ⟨ss[i - 1], List.getElem?_eq_getElem hlt, ?_⟩
                have hlt2 : i < ss.length := by rw [← HN1.out]; exact hin
                have e2 : x = ss[i] := by
                  rw [List.getElem?_eq_getElem hlt2] at hx
                  exact (Option.some.inj hx).symm
                rw [e2]
                exact List.pairwise_iff_getElem.1 HSORT.out (i - 1) i hlt hlt2 (by omega)
            have hprev2 : i = 0 ∨ ∃ y, 0 < (i : Int) ∧ wr.cell? (a.add (i - 1)) = some (.int .i64 y) ∧ y < x := by
              rcases hprev with h | ⟨y, hy, hlt⟩
              · exact .inl h
              · by_cases h0 : i = 0
                · exact .inl h0
                · exact .inr ⟨y, by omega, hc1 (i - 1) _ (by rw [List.getElem?_map, hy]; rfl), hlt⟩
            have hsN : wr.cell? ⟨bn, 1, none⟩ = some (.string nB) := by
              rw [HF.out] at hs
              exact (hs.use (M := [cellsA bn #[.string nA, .string nB] 26]) (by intro x; simp only [cnt_append, cnt_cons, cnt_nil]; omega)).cell m0 1
            have HSC := Lib.hid (cache_sectors_some bc mo A nB x W wr F HA.out hs hno)
            have HXK := Lib.hid hxk
            have htk : ((ss.take (i + 1)).map fun x => (mo.sect nB x).length).sum = ((ss.take i).map fun x => (mo.sect nB x).length).sum + (mo.sect nB x).length := by
              rw [List.take_succ_eq_append_getElem (by rw [← HN1.out]; exact hin), List.map_append, List.sum_append]
              have e2 : ss[i]'(by rw [← HN1.out]; exact hin) = x := by
                rw [List.getElem?_eq_getElem (by rw [← HN1.out]; exact hin)] at hx
                exact Option.some.inj hx
              rw [e2]
              simp
            have hsumle2 : ((ss.take (i + 1)).map fun x => (mo.sect nB x).length).sum ≤ q2 := by
              rw [← HTOT.out]
              conv => rhs; rw [← List.take_append_drop (i + 1) ss, List.map_append, List.sum_append]
              omega
            rw [htk] at hsumle2
            have HTK := Lib.hid htk
            obtain ⟨base, hbase⟩ : ∃ base, base = ((ss.take i).map fun x => (mo.sect nB x).length).sum := ⟨_, rfl⟩
            rw [← hbase] at hsumle hsumle2 HTK
            rw [← hbase]
            have hb0 : (0 : Int) ≤ base := by omega
            have hb1 : (base : Int) + (mo.sect nB x).length ≤ 60 := by omega
            have HB1 := Lib.hid hb1
            have hb2 : (base : Int) ≤ 60 := by omega
            clear hx hc1 hxk hno hprev hs htk hsumle hsumle2 hbase hb1
            go_upto_region 29 with fail
            go_cut [98] (fun tv wx => tv = .bool false ∧ wr = wx)
            case first =>
              rcases hprev2 with rfl | ⟨y, hy0, hyc, hyx⟩
              · go_wp2_with fail
                go_meet
                exact ⟨rfl, rfl⟩
              · obtain ⟨j, rfl⟩ : ∃ j, i = j + 1 := ⟨i - 1, by omega⟩
                rw [Nat.add_sub_cancel] at hyc
                have hle : ¬ x ≤ y := by omega
                have j0 : (0 : Int) ≤ j := by omega
                go_wp2_with fail
                go_meet
                exact ⟨rfl, rfl⟩
            case rest =>
            obtain ⟨rfl, rfl⟩ := hcut
            clear hprev2 d1
            go_wp2_with fail
            refine HSC.out.mono ?_; rintro r w5 ⟨z, l', rfl, hnm, hpm, hs5⟩
            clear HSC
            obtain ⟨es, clock, hm, hsE⟩ := Sat.openMap (b := z) (d := .int .i64) (f := secF l') (n := l'.length) (L := secAt l' ++ (A ++ F)) (hs5.use (by intro y; simp only [nmAt, cnt_append, cnt_cons, cnt_nil]; omega))
            obtain ⟨hrr, hsR⟩ := range_sl (P := Try.prog) Try.underlying35 hsE
            have hr0 : RngL es #[] (fun a : Sec => .int .i64 a.k) (fun a => a.v) l' := rng_start hm l' (sec_keys hnm.apart) (secF_iff l' hnm.apart)
            have hll : l'.length = (mo.sect nB x).length := by
              have := hpm.length_eq
              rw [List.length_map] at this
              exact this
            have hin' : ∀ t ∈ l', t.k ∈ E2 ∧ t.k / 8 = x ∧ 0 ≤ t.k ∧ t.k < 1000000 := fun t ht => by
              have h1 := hpm.subset (List.mem_map.2 ⟨t, ht, rfl⟩)
              unfold Mo.sect at h1
              obtain ⟨h2, h3⟩ := List.mem_filter.1 h1
              have h4 := hnm.secs t ht
              exact ⟨(by first | exact (HSP.out.a t.k).2 (List.mem_map.2 ⟨t.abs, h2, rfl⟩) | exact (HSP.out.b t.k).2 (List.mem_map.2 ⟨t.abs, h2, rfl⟩)), of_decide_eq_true h3, h4.lo, h4.hi⟩
            have HLL := Lib.hid hll
            have HIN := Lib.hid hin'
            go_wp2_with fail
            clear hs5 hsE hrr hnm hpm hll hin'
            generalize w5.heap.size = rr at *
            have HR0 := Lib.hid hr0
            clear hr0
            go_loopw [16, 19] (fun nv _ wr => ∃ seen dn todo, nv = .int .i64 ((base : Int) + (dn.length : Nat)) ∧ (dn ++ todo).Perm l' ∧ RngL es seen (fun a : Sec => .int .i64 a.k) (fun a => a.v) todo ∧ Sat W wr (iterA rr z clock seen :: mapE z es clock :: (secAt l' ++ (A ++ F)))) (fun _ _ wr => (leftOf es (wr.iterSeen rr)).size)
            case atStart => exact ⟨#[], [], l', by simp, by simp, HR0.out, hsR⟩
            case round =>
              clear hsR
              obtain ⟨seen, dn, todo, rfl, hp, hr, hs1⟩ := hrel
              have hseen := hs1.iterSeen
              rcases next_sl (P := Try.prog) 0 hm hs1 with ⟨h0, hn0⟩ | ⟨e, he, w6, hnx, hs6⟩
              · have ht := rng_end hr h0
                subst ht
                rw [List.append_nil] at hp
                have he : (base : Int) + (dn.length : Nat) = ((((ss.take (i + 1)).map fun x => (mo.sect nB x).length).sum : Nat) : Int) := by
                  rw [HTK.out, hp.length_eq, HLL.out]
                  simp
                rw [he]
                have HE := Lib.hid (hs1.use (M := A ++ F) (by intro x; simp only [cnt_append, cnt_cons, cnt_nil]; omega))
                clear hr hp hseen he hs1
                go_wp2_with fail
                refine ⟨⟨i + 1, by simp, by omega, rfl, HE.out⟩, ?_⟩
                simp [intOf]
                omega
              · obtain ⟨q, todo', hpt, hek, hev, hr2⟩ := rng_next hm.stamps hr he
                have hent := entry_sl (P := Try.prog) hm he hs6
                rw [hek, hev] at hnx hent
                have hms := left_shrinks es seen e he
                have hqt : q ∈ todo := hpt.symm.subset (List.mem_cons_self ..)
                obtain ⟨k1, k2, k3, k4⟩ := HIN.out q (hp.subset (List.mem_append_right _ hqt))
                have hdl : (base : Int) + dn.length < 60 := by
                  have h1 := hp.length_eq
                  have h2 := HB1.out
                  have h3 := List.length_pos_of_mem hqt
                  rw [List.length_append] at h1
                  rw [← HLL.out] at h2
                  omega
                have hp2 : ((dn ++ [q]) ++ todo').Perm l' := by
                  refine List.Perm.trans ?_ hp
                  rw [List.append_assoc]
                  exact List.Perm.append_left dn hpt.symm
                have w1c : w6.cell? ⟨bw, 1, none⟩ = some (.map (some b2)) := by
                  have h := hs6
                  rw [HF.out] at h
                  exact (h.use (M := [cellsA bw #[.map (some b1), .map (some b2)] 28]) (by intro x; simp only [cnt_append, cnt_cons, cnt_nil]; omega)).cell m0 1
                have hlk : (Instr.lookup 27 (.map (some b2)) (.int .i64 q.k) false).run Try.prog w6 = .ok (.bool true) w6 := by
                  have h := hs6
                  rw [HF.out, HRS.out] at h
                  have h2 := look_inF (P := Try.prog) (t := 27) (b := b2) (E := E2) (n := (dd E2).length) (h.use (M := [mapA b2 (.int .i64) (inF E2) (dd E2).length]) (by intro x; simp only [cnt_append, cnt_cons, cnt_nil]; omega)) m0 Try.underlying27 Try.underlying3 (Try.zeroValue4 _) q.k
                  rw [decide_eq_true k1] at h2
                  exact h2
                have HM := Lib.hid hms
                have HS := Lib.hid hseen
                have HP := Lib.hid hp2
                have HR2 := Lib.hid hr2
                have hk8 : (q.k / 8 != x) = false := by simpa using k2
                have hd0 : (0 : Int) ≤ dn.length := by omega
                clear hs1 hms hseen hp hp2 hpt hr hr2 hqt hek hev k1 k2
                go_wp2_with fail
                refine ⟨⟨_, _, todo', by simp [Int.add_assoc], HP.out, HR2.out, hs6⟩, ?_⟩
                rw [HS.out, hs6.iterSeen]
                exact HM.out
        · have hc9 : mo.count = q1 + q2 := by rw [HQ1.out, HQ2.out]; exact HCS.out.2.2.1
          have hsp9 : mo.spread = s1 + s2 := by rw [HS1.out, HS2.out]; exact HCS.out.2.2.2
          have hs2 : Sat W wr (A ++ (cellsA bn #[.string nA, .string nB] 26 :: (cellsA bw #[.map (some b1), .map (some b2)] 28 :: RS))) := hs.use (by intro x; simp only [cnt_append, cnt_cons, cnt_nil]; omega)
          have H1c := Lib.hid (cache_count bc mo A W wr _ HA.out hs2 (by have := HC.out; omega))
          have H2c := Lib.hid (fun w (h : Sat W w (A ++ (cellsA bn #[.string nA, .string nB] 26 :: (cellsA bw #[.map (some b1), .map (some b2)] 28 :: RS)))) => cache_spread bc mo A W w _ HA.out h (by have := HC.out; omega))
          have H3c := Lib.hid (fun w (h : Sat W w (A ++ (cellsA bn #[.string nA, .string nB] 26 :: (cellsA bw #[.map (some b1), .map (some b2)] 28 :: RS)))) => cache_with bc mo A nA 0 0 W w _ HA.out h (by have := HC.out; omega))
          have H4c := Lib.hid (fun w (h : Sat W w (A ++ (cellsA bn #[.string nA, .string nB] 26 :: (cellsA bw #[.map (some b1), .map (some b2)] 28 :: RS)))) => cache_extents bc mo A ⟨#[99]⟩ W w _ HA.out h (by have := HC.out; omega))
          have hw9 : mo.withN nA 0 0 = s1 + s2 := by
            unfold Mo.withN
            rw [hsp9]
            rfl
          have hk9 : mo.keys ⟨#[99]⟩ = [] := by
            unfold Mo.keys
            rw [no_name (fun p hp e => by
              rcases HSP.out.names p hp with h | h
              · rw [h] at e; exact absurd e (by decide)
              · rw [h] at e; exact absurd e (by decide))]
            rfl
          have HK9 := Lib.hid hk9
          rw [hc9] at H1c
          rw [hsp9] at H2c
          rw [hw9] at H3c
          have a1 : (((s1 + s2 : Nat)) : Int) = (s1 : Int) + s2 := by simp
          have a2' : (((q1 + q2 : Nat)) : Int) = (q1 : Int) + q2 := by simp
          clear hs hs2 hc9 hsp9 hw9 hk9
          go_wp2_with fail
          refine H1c.out.mono ?_; rintro r w3 ⟨rfl, hs3⟩
          go_wp2_with fail
          refine (H2c.out _ hs3).mono ?_; rintro r w4 ⟨rfl, hs4⟩
          go_wp2_with fail
          refine (H3c.out _ hs4).mono ?_; rintro r w5 ⟨rfl, hs5⟩
          go_wp2_with fail
          refine (H4c.out _ hs5).mono ?_; rintro r w6 ⟨v, ss, R, rfl, _, hmem, _, hr, hs6⟩
          have hss : ss = [] := by
            apply List.eq_nil_iff_forall_not_mem.2
            intro x hx
            have := (hmem x).1 hx
            rw [HK9.out] at this
            simp [extN] at this
          subst hss
          have HN := Lib.hid (same_nil v w6 (hr.reads hs6))
          have HRR := Lib.hid (HB.out w6 (hs6.use (by intro y; rw [HRS.out]; simp only [cnt_append, cnt_cons, cnt_nil]; omega)))
          clear hmem hr hs3 hs4 hs5 hs6
          go_wp2_with fail
          refine HN.out.mono ?_; rintro r w7 ⟨rfl, rfl⟩
          go_wp2_with fail
          go_ret
          exact ⟨rfl, HRR.out⟩
theorem spreads_law (v1 : Value) (l : List Int) (v2 : Value) (m : List Int) (W : World) (h1 : ∀ y, Below W.heap.size W y → Reads y v1 l.length (intsC l)) (_ : l.length ≤ maxLen) (h2 : ∀ y, Below W.heap.size W y → Reads y v2 m.length (intsC m)) (_ : m.length ≤ maxLen) :
    Calls Try.prog 3 #[v1, v2] W fun e w' => e = .returned (.bool true) ∧ Below W.heap.size W w' := by
  obtain ⟨a1, c1, rfl⟩ := reads_shape (h1 W (Below.refl _ _))
  obtain ⟨a2, c2, rfl⟩ := reads_shape (h2 W (Below.refl _ _))
  exact spreads_walk a1 a2 c1 c2 l m W h1 h2
end Go.Proofs.Ytekbbpfnkbanjaa.Ch
