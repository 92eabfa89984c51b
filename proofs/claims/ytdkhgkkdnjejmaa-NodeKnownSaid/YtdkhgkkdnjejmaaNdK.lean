/-
  The ring: Live, where at most one is live.
-/
import Derived.Test.YtdkhgkkdnjejmaaNdJ
import Derived.Deep.DeepCutAuto
import Derived.Deep.CutBlock
namespace Go.Proofs.Ytdkhgkkdnjejmaa.Ch
set_option linter.unusedSimpArgs false
open Go Go.RowKit Go.Sl Go.BigFrame
set_option linter.unusedVariables false

theorem infoSl : (Try.prog.info? 157).map (fun i => (i.zero, i.size, i.bytes)) = some (some (.agg #[.bool false, .int .i64 0, .int .i64 0, .int .i64 0, .slice none 0 0]), 5, 56) := by kernel_rfl
theorem infoIt : (Try.prog.info? 141).map (fun i => (i.zero, i.size, i.bytes)) = some (some (.agg #[.int .i64 0, .int .i64 0, .slice none 0 0]), 3, 40) := by kernel_rfl

theorem insI_small (v : Value) (n : Nat) (hn : n ≤ 1) (w : World) :
    Calls Try.prog 146 #[v, .int .i64 0, .int .i64 n, .func (.func 124) #[] #[]] w fun e w' => e = .returned (.tuple #[]) ∧ w = w' := by
  obtain ⟨x, hx⟩ : ∃ x : Int, x = n := ⟨_, rfl⟩
  have h1 : ¬ (1 : Int) < x := by omega
  rw [← hx]
  clear hx hn
  go_enter Try.func146, Try.ntmps146
  go_wp2_with fail
  refine wp_loop_rounds 1 ?_
  rw [rounds_succ]
  go_wp2_with fail
  go_end0
  exact ⟨rfl, rfl⟩
theorem sortI_small (a : Option Addr) (c n : Nat) (hn : n ≤ 1) (w : World) :
    Calls Try.prog 123 #[.slice a n c, .func (.func 124) #[] #[]] w fun e w' => e = .returned (.tuple #[]) ∧ w = w' := by
  have hst : Calls Try.prog 140 #[.slice a n c, .int .i64 n, .func (.func 124) #[] #[]] w fun e w' => e = .returned (.tuple #[]) ∧ w = w' := by
    have hi := insI_small (.slice a n c) n hn w
    obtain ⟨x, hx⟩ : ∃ x : Int, x = n := ⟨_, rfl⟩
    have h1 : ¬ (20 : Int) ≤ x := by omega
    have h2 : ¬ (20 : Int) < x := by omega
    rw [← hx] at hi ⊢
    have HI := Lib.hid hi
    clear hx hn hi
    go_enter Try.func140, Try.ntmps140
    go_wp2_with fail
    refine wp_loop_rounds 1 ?_
    rw [rounds_succ]
    go_wp2_with fail
    refine HI.out.mono ?_; rintro r w2 ⟨rfl, rfl⟩
    go_wp2_with fail
    refine wp_loop_rounds 1 ?_
    rw [rounds_succ]
    go_wp2_with fail
    go_end0
    exact ⟨rfl, rfl⟩
  have HST := Lib.hid hst
  clear hst hn
  go_enter Try.func123, Try.ntmps123
  go_wp2_with fail
  refine HST.out.mono ?_; rintro r w2 ⟨rfl, rfl⟩
  go_wp2_with fail
  go_end0
  exact ⟨rfl, rfl⟩
theorem slotsC_append (xs ys : List (Sl5 × Value)) : slotsC (xs ++ ys) = slotsC xs ++ slotsC ys := by simp [slotsC]
def liveOf (xs : List (Sl5 × Value)) : List (Sl5 × Value) := xs.filter fun x => x.1.live
theorem liveOf_snoc {xs : List (Sl5 × Value)} {k : Nat} {x : Sl5 × Value} (h : xs[k]? = some x) : liveOf (xs.take (k + 1)) = if x.1.live then liveOf (xs.take k) ++ [x] else liveOf (xs.take k) := by
  rw [take_snoc h]
  unfold liveOf
  rw [List.filter_append]
  split
  · rename_i hl
    rw [List.filter_cons_of_pos (by simpa using hl), List.filter_nil]
  · rename_i hl
    rw [List.filter_cons_of_neg (by simpa using hl), List.filter_nil, List.append_nil]
def itsC (xs : List (It × Value)) : List Value := (xs.map fun x => [Value.int .i64 x.1.stripe, .int .i64 x.1.gen, x.2]).flatten
theorem itsC_append (xs ys : List (It × Value)) : itsC (xs ++ ys) = itsC xs ++ itsC ys := by simp [itsC]

set_option maxRecDepth 100000 in
set_option maxHeartbeats 8000000 in
theorem live_small (b bp : Nat) (xs : List (Sl5 × Value)) (nx : Int) (B : List Atom) (W w : World) (L : List Atom) (hri : RowsIn B xs) (hxl : xs.length = 16) (hsm : ∀ x ∈ xs, x.1.i.data.length < 1000000) (h1 : (liveOf xs).length ≤ 1) (hs : Sat W w (cellsA b (ringC bp xs nx) 160 :: (B ++ L))) :
    Calls Try.prog 100 #[.pointer (some ⟨b, 0, none⟩)] w fun e w' => ∃ v ys R C, e = .returned v ∧ RowA 141 3 v ys.length (itsC ys) R ∧ ys.map Prod.fst = (liveOf xs).map (fun x => x.1.i) ∧ Sat W w' (R ++ (C ++ (cellsA b (ringC bp xs nx) 160 :: (B ++ L)))) := by
  have HRI := Lib.hid hri
  have HXL := Lib.hid hxl
  have HSM := Lib.hid hsm
  have H1 := Lib.hid h1
  clear hri hxl hsm h1
  go_enter Try.func100, Try.ntmps100
  go_wp2_with fail
  refine wp_load_mid 158 _ rfl b 1 rfl (slotsC xs) _ (slots_range hs) Try.underlying158 rfl (by rw [slotsC_length, HXL.out]; exact infoSlots) ?_
  simp only [Act.put, List.setIfInBounds_toArray, List.set_cons_zero, List.set_cons_succ]
  generalize hav : (Value.agg (slotsC xs).toArray) = av at *
  have HAV := Lib.hid hav
  clear hav
  go_wp2_with fail
  go_loopw [13, 3] (fun kv lv wr => ∃ (k : Nat) (R : List Atom), kv = .int .i64 k ∧ k ≤ 16 ∧ RowA 157 5 lv (liveOf (xs.take k)).length (slotsC (liveOf (xs.take k))) R ∧ Sat W wr (R ++ (cellsA b (ringC bp xs nx) 160 :: (B ++ L)))) (fun kv _ _ => (16 - (intOf kv).toNat))
  case atStart => exact ⟨0, [], rfl, by omega, RowA.nil _ _, hs⟩
  case round =>
    clear hs
    obtain ⟨k, R, rfl, hk, hr, hs⟩ := hrel
    have k0 : (0 : Int) ≤ k := by omega
    have HLS := Lib.hid (show (liveOf (xs.take k)).length ≤ 16 from Nat.le_trans (List.length_filter_le _ _) (by rw [List.length_take]; omega))
    generalize hls : liveOf (xs.take k) = ls at *
    have HLE := Lib.hid hls
    clear hls
    obtain ⟨al, cl, rfl⟩ := Ch.RowA.slice hr
    by_cases hkn : k < 16
    · have k1 : (k : Int) < 16 := by omega
      obtain ⟨⟨⟨sl, sn, ⟨ss, sg, sd⟩⟩, v⟩, hx⟩ : ∃ x, xs[k]? = some x := ⟨_, List.getElem?_eq_getElem (by have := HXL.out; omega)⟩
      obtain ⟨va, vc, hv⟩ := (HRI.out _ (List.mem_of_getElem? hx)).shape
      try simp only at hv
      subst hv
      have hix := slot_index hx hkn
      rw [HAV.out] at hix
      unfold slV at hix
      simp only at hix
      have hlv := liveOf_snoc hx
      rw [HLE.out] at hlv
      have HLV := Lib.hid hlv
      clear hx hlv
      have hs1 := hs.newCells #[.bool sl, .int .i64 sn, .int .i64 ss, .int .i64 sg, .slice va sd.length vc] 157
      cases sl
      · clear hs
        go_wp2_with fail
        refine ⟨⟨k + 1, R, by simp, by omega, ?_, hs1.tail⟩, ?_⟩
        · rw [HLV.out]
          exact hr
        · simp [intOf]
          omega
      · have hs2 := hs1.newCells #[.bool true, .int .i64 sn, .int .i64 ss, .int .i64 sg, .slice va sd.length vc] 157
        have hsz : (wr.alloc (.cells #[.bool true, .int .i64 sn, .int .i64 ss, .int .i64 sg, .slice va sd.length vc] 157)).heap.size = wr.heap.size + 1 := by simp
        have hsrc := reads_cells hs2 m0 1 1 (slCells ⟨true, sn, ⟨ss, sg, sd⟩⟩ (.slice va sd.length vc)) rfl
        rw [hsz] at hs2 hsrc
        have hs3 := Sat.use (M := R ++ (cellsA b (ringC bp xs nx) 160 :: (B ++ L))) hs2 (by intro x; simp only [cnt_append, cnt_cons, cnt_nil]; omega)
        clear hs hs1 hs2 hsz
        go_wp2_with (at_builtin; go_loud (refine wpList_plain rfl (fun K hK => ?_); refine wp_append_g Try.underlying165 infoSl rfl (by decide) (by decide) rfl rfl rfl hr hs3 hsrc rfl (by intro u hu; simp only [slCells, List.mem_cons, List.not_mem_nil, or_false] at hu; rcases hu with rfl | rfl | rfl | rfl | rfl <;> rfl) (by have := HLS.out; omega) (fun v2 w7 R2 hr2 hs10 => ?_); refine hK _ _ ?_; simp only [Act.put, List.setIfInBounds_toArray, List.set_cons_zero, List.set_cons_succ]; clear hK))
        refine ⟨⟨k + 1, R2, by simp, by omega, ?_, hs10⟩, ?_⟩
        · rw [HLV.out]
          simp only [if_true]
          rw [slotsC_append]
          simp only [List.length_append, List.length_cons, List.length_nil]
          exact hr2
        · simp [intOf]
          omega
    · have e : k = 16 := by omega
      subst e
      rw [List.take_of_length_le (by rw [HXL.out]; omega)] at HLE
      have hl1 : ls.length ≤ 1 := by rw [← HLE.out]; exact H1.out
      have hso := fun w => sortI_small al cl ls.length hl1 w
      have HSO := Lib.hid hso
      clear hso
      go_wp2_with fail
      refine (HSO.out _).mono ?_; rintro r w2 ⟨rfl, rfl⟩
      go_wp2_with fail
      have HIT := Lib.hid (show ∀ x ∈ ls, RowIn B x.2 x.1.i.data ∧ x.1.i.data.length < 1000000 from fun x hx => by
        rw [← HLE.out] at hx
        have hx2 := (List.mem_filter.1 hx).1
        exact ⟨HRI.out x hx2, HSM.out x hx2⟩)
      have HR := Lib.hid hr
      obtain ⟨N, hN⟩ : ∃ N, N = ls.length := ⟨_, rfl⟩
      have HN := Lib.hid hN
      rw [← hN] at hl1 hr ⊢
      clear hN HSO HLS HAV HSM HRI H1
      go_loopw [27, 6] (fun kv ov wr => ∃ (j : Nat) (ys : List (It × Value)) (R2 C : List Atom), kv = .int .i64 j ∧ j ≤ N ∧ ys.length = j ∧ ys.map Prod.fst = (ls.take j).map (fun x => x.1.i) ∧ RowA 141 3 ov ys.length (itsC ys) R2 ∧ Sat W wr (R2 ++ (C ++ (R ++ (cellsA b (ringC bp xs nx) 160 :: (B ++ L)))))) (fun kv _ _ => (N - (intOf kv).toNat))
      case atStart => exact ⟨0, [], [], [], rfl, Nat.zero_le _, rfl, rfl, RowA.nil _ _, hs⟩
      case round =>
        clear hs
        obtain ⟨j, ys, R2, C, rfl, hj, hyl, hym, hr2, hs⟩ := hrel
        have j0 : (0 : Int) ≤ j := by omega
        have HYM := Lib.hid hym
        have HYL := Lib.hid hyl
        clear hym hyl
        obtain ⟨ao, co, rfl⟩ := Ch.RowA.slice hr2
        by_cases hjn : j < N
        · have j1 : (j : Int) < N := by omega
          have j2 : (j : Int) < 1000000 := by omega
          obtain ⟨⟨⟨sl, sn, ⟨ss, sg, sd⟩⟩, v⟩, hx⟩ : ∃ x, ls[j]? = some x := ⟨_, List.getElem?_eq_getElem (by have := HN.out; omega)⟩
          obtain ⟨hri, hsd⟩ := HIT.out _ (List.mem_of_getElem? hx)
          simp only at hri hsd
          have hri2 := hri
          obtain ⟨va, vc, rfl⟩ := hri2.shape
          obtain ⟨gl, ol, kl, he, _, _, hR⟩ := Ch.RowA.some_of hr (by omega)
          obtain ⟨rfl, rfl⟩ : al = some ⟨gl, ol, none⟩ ∧ cl = kl := by cases he; exact ⟨rfl, rfl⟩
          have hsr := Sat.use (M := R ++ (R2 ++ (C ++ (cellsA b (ringC bp xs nx) 160 :: (B ++ L))))) hs (by intro x; simp only [cnt_append, cnt_cons, cnt_nil]; omega)
          have hc := fun f u (hu : (slCells ⟨sl, sn, ⟨ss, sg, sd⟩⟩ (.slice va sd.length vc))[f]? = some u) => (hr.cells hsr rfl (j * 5 + f) (List.getElem?_eq_some_iff.1 (slotsC_get hx f u hu)).1).1.trans (slotsC_get hx f u hu)
          have c0 : wr.cell? ⟨gl, ol + j * 5, none⟩ = some (.bool sl) := hc 0 _ rfl
          have c1 : wr.cell? ⟨gl, ol + j * 5 + 1, none⟩ = some (.int .i64 sn) := by rw [Nat.add_assoc]; exact hc 1 _ rfl
          have c2 : wr.cell? ⟨gl, ol + j * 5 + 2, none⟩ = some (.int .i64 ss) := by rw [Nat.add_assoc]; exact hc 2 _ rfl
          have c3 : wr.cell? ⟨gl, ol + j * 5 + 3, none⟩ = some (.int .i64 sg) := by rw [Nat.add_assoc]; exact hc 3 _ rfl
          have c4 : wr.cell? ⟨gl, ol + j * 5 + 4, none⟩ = some (.slice va sd.length vc) := by rw [Nat.add_assoc]; exact hc 4 _ rfl
          have hs1 := hs.newCells #[.bool sl, .int .i64 sn, .int .i64 ss, .int .i64 sg, .slice va sd.length vc] 157
          have hcl := clone_any (.slice va sd.length vc) sd W _ _ (hri.reads hs1 (fun x hx => .tail _ (List.mem_append_right _ (List.mem_append_right _ (List.mem_append_right _ (.tail _ (List.mem_append_left _ hx))))))) hsd hs1
          have htk : (ls.take (j + 1)).map (fun x => x.1.i) = (ls.take j).map (fun x => x.1.i) ++ [⟨ss, sg, sd⟩] := by
            rw [take_snoc hx, List.map_append]
            rfl
          have HTK := Lib.hid htk
          have HCL := Lib.hid hcl
          clear hcl hs hsr hs1 hx hc hri hri2 he hR htk
          go_wp2_with fail
          refine HCL.out.mono ?_; rintro r w3 ⟨v3, R3, rfl, hr3, hs3⟩
          obtain ⟨a3, c3', rfl⟩ := Ch.RowA.slice hr3
          generalize wr.heap.size = z8 at *
          have hs4 := Sat.use (M := cellsA z8 #[.bool sl, .int .i64 sn, .int .i64 ss, .int .i64 sg, .slice va sd.length vc] 157 :: (R3 ++ (R2 ++ (C ++ (R ++ (cellsA b (ringC bp xs nx) 160 :: (B ++ L))))))) hs3 (by intro x; simp only [cnt_append, cnt_cons, cnt_nil]; omega)
          have e4 := hs4.cell m0 4
          have f4 := hs4.free m0 4
          have hs5 := Sat.setCell hs4 4 (.slice a3 sd.length c3')
          simp only [List.setIfInBounds_toArray, List.set_cons_zero, List.set_cons_succ] at hs5
          clear hs3 hs4 c0 c1 c2 c3 c4 HCL
          go_upto_region 14 with fail
          refine with_sat hs5 ?_
          clear hs5 e4 f4
          intro w5 hs5
          have e2 : w5.cell? ⟨z8, 2, none⟩ = some (.int .i64 ss) := hs5.cell m0 2
          have e3 : w5.cell? ⟨z8, 3, none⟩ = some (.int .i64 sg) := hs5.cell m0 3
          have e4 : w5.cell? ⟨z8, 4, none⟩ = some (.slice a3 sd.length c3') := hs5.cell m0 4
          have hs6 := hs5.newCells #[.int .i64 ss, .int .i64 sg, .slice a3 sd.length c3'] 141
          have hsrc := reads_cells hs6 m0 1 1 [.int .i64 ss, .int .i64 sg, .slice a3 sd.length c3'] rfl
          have hs7 := Sat.use (M := R2 ++ ((R3 ++ C) ++ (R ++ (cellsA b (ringC bp xs nx) 160 :: (B ++ L))))) hs6 (by intro x; simp only [cnt_append, cnt_cons, cnt_nil]; omega)
          clear hs5 hs6
          go_wp2_with (at_builtin; go_loud (refine wpList_plain rfl (fun K hK => ?_); refine wp_append_g Try.underlying78 infoIt rfl (by decide) (by decide) rfl rfl rfl hr2 hs7 hsrc rfl (by intro u hu; simp at hu; rcases hu with rfl | rfl | rfl <;> rfl) (by have := HYL.out; omega) (fun v8 w8 R8 hr8 hs8 => ?_); refine hK _ _ ?_; simp only [Act.put, List.setIfInBounds_toArray, List.set_cons_zero, List.set_cons_succ]; clear hK))
          refine ⟨⟨j + 1, ys ++ [(⟨ss, sg, sd⟩, .slice a3 sd.length c3')], R8, R3 ++ C, by simp, by omega, by rw [List.length_append, HYL.out]; rfl, ?_, ?_, hs8⟩, ?_⟩
          · rw [HTK.out, List.map_append, HYM.out]
            rfl
          · rw [itsC_append]
            simp only [List.length_append, List.length_cons, List.length_nil]
            exact hr8
          · simp [intOf]
            omega
        · have e : N = j := by omega
          subst e
          go_wp2_with fail
          go_ret
          refine ⟨_, ys, R2, C ++ R, rfl, hr2, ?_, hs.use (by intro x; simp only [cnt_append, cnt_cons, cnt_nil]; omega)⟩
          rw [HYM.out, HN.out, List.take_length, HLE.out]
end Go.Proofs.Ytdkhgkkdnjejmaa.Ch
