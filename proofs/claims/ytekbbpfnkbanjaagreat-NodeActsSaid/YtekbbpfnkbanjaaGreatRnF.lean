
/-
  The document's ring: Log.
-/
import Derived.Test.YtekbbpfnkbanjaaGreatRnE
namespace Go.Proofs.YtekbbpfnkbanjaaGreat.Ch
open Go Go.RowKit Go.Sl Go.BigFrame
set_option linter.unusedVariables false
set_option linter.unusedSimpArgs false

/-- What the document's Log does: slots, next number, platter. -/
def LogX (i : It) (xs : List (Sl5 × Value)) (nx : Int) (r : Rt) (xs' : List (Sl5 × Value)) (nx' : Int) (r' : Rt) (code : Int) : Prop :=
  (¬ rightI i ∧ code = 1 ∧ xs' = xs ∧ nx' = nx ∧ r' = r) ∨ (rightI i ∧ hasI (xs.map Prod.fst) i ∧ code = 0 ∧ xs' = xs ∧ nx' = nx ∧ r' = r) ∨
  (rightI i ∧ ¬ hasI (xs.map Prod.fst) i ∧ (freeS (xs.map Prod.fst) 0 < 0 ∨ 281474976710655 < nx) ∧ code = 6 ∧ xs' = xs ∧ nx' = nx ∧ r' = r) ∨
  (rightI i ∧ ¬ hasI (xs.map Prod.fst) i ∧ nx ≤ 281474976710655 ∧ code = 0 ∧ ∃ (k : Nat) (v : Value), k < 16 ∧ freeS (xs.map Prod.fst) 0 = k ∧ xs' = xs.set k (⟨true, nx, i⟩, v) ∧ nx' = nx + 1 ∧ r' = r.wr (80 + k) (layI nx i))
theorem drop_step {α : Type} {l : List α} {m : Nat} {x : α} (h : l[m]? = some x) : l.drop m = x :: l.drop (m + 1) := by
  obtain ⟨hl, rfl⟩ := List.getElem?_eq_some_iff.1 h
  exact List.drop_eq_getElem_cons hl

theorem freeS_live {s : Sl5} {ss : List Sl5} {k : Int} (h : s.live = true) : freeS (s :: ss) k = freeS ss (k + 1) := by
  rw [freeS, if_pos h]
theorem freeS_free {s : Sl5} {ss : List Sl5} {k : Int} (h : ¬ s.live = true) : freeS (s :: ss) k = k := by
  rw [freeS, if_neg h]
set_option maxRecDepth 100000 in
set_option maxHeartbeats 16000000 in
theorem ref_log (b bp : Nat) (r : Rt) (Ap : List Atom) (xs : List (Sl5 × Value)) (nx : Int) (B : List Atom) (i : It) (da : Option Addr) (dc : Nat) (W w : World) (L : List Atom) (hq : RtA bp r Ap) (hri : RowsIn B xs) (hxl : xs.length = 16) (hok : ∀ x ∈ xs, SlOk x.1) (n0 : 1 ≤ nx) (n1 : nx ≤ 281474976710656)
    (hs : Sat W w (cellsA b (rringC bp xs nx) 96 :: (B ++ (Ap ++ L)))) (hin : ∀ y, Sat W y L → Reads y (.slice da i.data.length dc) i.data.length (bts i.data)) (h96 : r.done.length = 96) (hpl : r.pend.length < 900000) (hw0 : 0 ≤ r.writes) (hw1 : r.writes < 1000000000) :
    Calls Tryz.prog 37 #[.pointer (some ⟨b, 0, none⟩), itV i (.slice da i.data.length dc)] w fun e w' => ∃ code xs' nx' r' B' A', e = .returned (.int .i64 code) ∧ RowsIn B' xs' ∧ RtA bp r' A' ∧ LogX i xs nx r xs' nx' r' code ∧ Sat W w' (cellsA b (rringC bp xs' nx') 96 :: (B' ++ (A' ++ L))) := by
  by_cases hp : rightI i
  case neg =>
    have hr := ref_iright i da dc
    rw [decide_eq_false hp] at hr
    have HP := Lib.hid hp
    have HRI := Lib.hid hri
    have HQ := Lib.hid hq
    obtain ⟨s, g, d⟩ := i
    unfold itV at hr ⊢
    simp only at hr hin ⊢
    have hs1 := hs.newCells #[.int .i64 s, .int .i64 g, .slice da d.length dc] 77
    have HR := Lib.hid hr
    clear hr hs hin hp hri hq
    go_enter Tryz.func37, Tryz.ntmps37
    go_wp2_with fail
    refine (HR.out _).mono ?_; rintro r2 w2 ⟨rfl, hx⟩
    have hs2 := (hs1.below hx).tail
    go_wp2_with fail
    go_ret
    exact ⟨1, xs, nx, r, B, Ap, rfl, HRI.out, HQ.out, .inl ⟨HP.out, rfl, rfl, rfl, rfl⟩, hs2⟩
  case pos =>
  have hr := ref_iright i da dc
  rw [decide_eq_true hp] at hr
  have HP := Lib.hid hp
  have HRI := Lib.hid hri
  have HQ := Lib.hid hq
  have HXL := Lib.hid hxl
  have HOK := Lib.hid hok
  have HIN := Lib.hid hin
  have H96 := Lib.hid h96
  have hdl := hp.2.2.2.2
  have HDL := Lib.hid hdl
  clear hp hri hq hxl hok hin h96 hdl
  obtain ⟨s, g, d⟩ := i
  unfold itV at hr ⊢
  simp only at hr HIN HDL ⊢
  have hs1 := hs.newCells #[.int .i64 s, .int .i64 g, .slice da d.length dc] 77
  have HR := Lib.hid hr
  clear hr hs
  obtain ⟨dn, hdn⟩ : ∃ dn, dn = d.length := ⟨_, rfl⟩
  have HDN := Lib.hid hdn
  rw [← hdn] at HR hs1 ⊢
  rw [← hdn] at HIN
  clear hdn
  go_enter Tryz.func37, Tryz.ntmps37
  go_wp2_with fail
  refine (HR.out _).mono ?_; rintro r2 w2 ⟨rfl, hx⟩
  have hs2 := hs1.below hx
  generalize w.heap.size = z at *
  clear hs1 hx HR
  go_wp2_with fail
  go_loopw [6, 5] (fun kv av wr => ∃ j : Nat, kv = .int .i64 ((j : Int) - 1) ∧ j ≤ 16 ∧ av = .int .i64 (freeS ((xs.map Prod.fst).drop j) j) ∧ (¬ hasI ((xs.map Prod.fst).drop j) ⟨s, g, d⟩) ∧ Sat W wr (cellsA z #[.int .i64 s, .int .i64 g, .slice da dn dc] 77 :: (cellsA b (rringC bp xs nx) 96 :: (B ++ (Ap ++ L))))) (fun kv _ _ => (intOf kv + 1).toNat)
  case atStart =>
    have hd : (xs.map Prod.fst).drop 16 = [] := List.drop_eq_nil_of_le (by rw [List.length_map, HXL.out]; exact Nat.le_refl _)
    refine ⟨16, rfl, Nat.le_refl _, ?_, ?_, hs2⟩
    · rw [hd]; rfl
    · rw [hd]; rintro ⟨x, hx, _⟩; cases hx
  case round =>
    clear hs2
    obtain ⟨j, rfl, hj, rfl, hnh, hs⟩ := hrel
    have HNH := Lib.hid hnh
    clear hnh
    cases j with
    | succ m =>
      have e1 : (((m + 1 : Nat) : Int) - 1) = m := by omega
      rw [e1]
      have m0' : (0 : Int) ≤ m := by omega
      have m1' : (m : Int) < 16 := by omega
      obtain ⟨⟨⟨sl, sn, ⟨ss, sg, sd⟩⟩, v⟩, hx⟩ : ∃ x, xs[m]? = some x := ⟨_, List.getElem?_eq_getElem (by have := HXL.out; omega)⟩
      have hso := HOK.out _ (List.mem_of_getElem? hx)
      have hrow := HRI.out _ (List.mem_of_getElem? hx)
      simp only at hso hrow
      obtain ⟨va, vc, rfl⟩ := hrow.shape
      have hrg := Sat.use (M := cellsA b (rringC bp xs nx) 96 :: []) hs (by intro x; simp only [cnt_append, cnt_cons, cnt_nil]; omega)
      have c0 : wr.cell? ⟨b, 1 + m * 4, none⟩ = some (.int .i64 sn) := by rw [hrg.cell m0]; exact rring_get hx 0 _ rfl
      have c1 : wr.cell? ⟨b, 1 + m * 4 + 1, none⟩ = some (.int .i64 ss) := by rw [hrg.cell m0]; exact rring_get hx 1 _ rfl
      have c2 : wr.cell? ⟨b, 1 + m * 4 + 2, none⟩ = some (.int .i64 sg) := by rw [hrg.cell m0]; exact rring_get hx 2 _ rfl
      have c3 : wr.cell? ⟨b, 1 + m * 4 + 3, none⟩ = some (.slice va sd.length vc) := by rw [hrg.cell m0]; exact rring_get hx 3 _ rfl
      have hdr : (xs.map Prod.fst).drop m = ⟨sl, sn, ⟨ss, sg, sd⟩⟩ :: (xs.map Prod.fst).drop (m + 1) := drop_step (by rw [List.getElem?_map, hx]; rfl)
      have HDR := Lib.hid hdr
      have HMEM := Lib.hid (List.mem_map.2 ⟨_, List.mem_of_getElem? hx, rfl⟩ : (⟨sl, sn, ⟨ss, sg, sd⟩⟩ : Sl5) ∈ xs.map Prod.fst)
      clear hrg hx hdr
      by_cases hl : sl = true
      · subst hl
        have q1 : (sn == 0) = false := by
          rcases hso with h | ⟨_, h, _⟩
          · cases h
          · simp only at h; simp; omega
        have z0 : wr.drew.cell? ⟨z, 0, none⟩ = some (.int .i64 s) := hs.cell m0 0
        have z1 : wr.drew.cell? ⟨z, 1, none⟩ = some (.int .i64 g) := hs.cell m0 1
        have z2 : wr.drew.cell? ⟨z, 2, none⟩ = some (.slice da dn dc) := hs.cell m0 2
        have hsm := ref_sameI ⟨ss, sg, sd⟩ ⟨s, g, d⟩ (.slice va sd.length vc) (.slice da dn dc) W wr.drew _ hs.drew (fun y hy => hrow.reads hy (fun x hx => .tail _ (.tail _ (List.mem_append_left _ hx)))) (fun y hy => by
          have h := HIN.out y hy.tail.tail.right.right
          have e := HDN.out
          show Reads y _ d.length _
          rw [← e]
          exact h)
        unfold itV at hsm
        simp only at hsm
        generalize hbb : decide ((⟨ss, sg, sd⟩ : It) = ⟨s, g, d⟩) = bb at hsm
        have HBB := Lib.hid hbb
        have HSM := Lib.hid hsm
        clear hso hrow hs hsm hbb
        go_wp2_with fail
        refine wp_region_one [8] [] [] [] [0, 1, 2, 3, 4, 5, 6, 7, 8] (by kernel_rfl) (by kernel_rfl) ?_
        repeat (first | (refine can_pu1 rfl rfl rfl rfl rfl rfl (fun K hK => ?_); go_big_quiet_op; refine hK _ ?_; clear hK K) | (refine can_st1 rfl rfl rfl rfl rfl rfl (fun K hK => ?_); go_big_quiet_op; refine hK _ ?_; clear hK K) | (refine can_early1 rfl rfl rfl rfl rfl (fun K hK => ?_); go_big_quiet_op; refine hK _ ?_; clear hK K) | (refine can_skip rfl rfl rfl ?_; simp only [Act.put, List.setIfInBounds_toArray, List.set_cons_zero, List.set_cons_succ]))
        refine can_act1 rfl rfl rfl (fun K hK => ?_)
        go_wp2_with fail
        refine HSM.out.mono ?_; rintro r3 w3 ⟨rfl, hs3⟩
        apply hK
        clear hK HSM c0 c1 c2 c3 z0 z1 z2
        refine can_end1 ?_; (try simp only [Exit.then])
        cases bb with
        | true =>
          go_wp2_with fail
          go_ret
          exact ⟨0, xs, nx, r, B, Ap, rfl, HRI.out, HQ.out, .inr (.inl ⟨HP.out, ⟨_, HMEM.out, rfl, of_decide_eq_true HBB.out⟩, rfl, rfl, rfl, rfl⟩), hs3.tail⟩
        | false =>
          go_wp2_with fail
          refine ⟨⟨m, by simp, by omega, ?_, ?_, hs3⟩, ?_⟩
          · rw [HDR.out, freeS_live rfl]
          · rw [HDR.out]
            rintro ⟨y, hy, hyl, hyi⟩
            rcases List.mem_cons.1 hy with rfl | hy
            · exact absurd hyi (of_decide_eq_false HBB.out)
            · exact HNH.out ⟨y, hy, hyl, hyi⟩
          · simp [intOf]
      · have hsn : sn = 0 := by
          rcases hso with h | ⟨h, _⟩
          · injection h
          · exact absurd h hl
        subst hsn
        have HL := Lib.hid hl
        clear hso hrow hl
        go_wp2_with fail
        refine ⟨⟨m, by simp, by omega, ?_, ?_, hs⟩, ?_⟩
        · rw [HDR.out, freeS_free HL.out]
        · rw [HDR.out]
          rintro ⟨y, hy, hyl, hyi⟩
          rcases List.mem_cons.1 hy with rfl | hy
          · exact absurd hyl HL.out
          · exact HNH.out ⟨y, hy, hyl, hyi⟩
        · simp [intOf]
    | zero =>
      rw [List.drop_zero] at HNH ⊢
      have hfb := freeS_bounds (xs.map Prod.fst) 0 (by omega)
      rw [List.length_map, HXL.out] at hfb
      obtain ⟨f, hf⟩ : ∃ f, freeS (xs.map Prod.fst) 0 = f := ⟨_, rfl⟩
      have e0 : freeS (xs.map Prod.fst) ((0 : Nat) : Int) = f := hf
      rw [e0]
      rw [hf] at hfb
      have HF := Lib.hid hf
      clear e0 hf
      have hrg := Sat.use (M := cellsA b (rringC bp xs nx) 96 :: []) hs (by intro x; simp only [cnt_append, cnt_cons, cnt_nil]; omega)
      have cn : wr.cell? ⟨b, 65, none⟩ = some (.int .i64 nx) := by rw [hrg.cell m0]; exact rring_next HXL.out
      clear hrg
      by_cases hf0 : f < 0
      · skip
        go_wp2_with fail
        go_ret
        first
          | exact ⟨6, xs, nx, r, B, Ap, rfl, HRI.out, HQ.out, .inr (.inr (.inl ⟨HP.out, HNH.out, .inl (by rw [HF.out]; exact hf0), rfl, rfl, rfl, rfl⟩)), hs.tail⟩
          | exact ⟨6, rfl, xs, nx, r, B, HRI.out, Ap, HQ.out, .inr (.inr (.inl ⟨HP.out, HNH.out, .inl (by rw [HF.out]; exact hf0), rfl, rfl, rfl, rfl⟩)), hs.tail⟩
      · by_cases hnx : 281474976710655 < nx
        · skip
          go_wp2_with fail
          go_ret
          first
            | exact ⟨6, xs, nx, r, B, Ap, rfl, HRI.out, HQ.out, .inr (.inr (.inl ⟨HP.out, HNH.out, .inr hnx, rfl, rfl, rfl, rfl⟩)), hs.tail⟩
            | exact ⟨6, rfl, xs, nx, r, B, HRI.out, Ap, HQ.out, .inr (.inr (.inl ⟨HP.out, HNH.out, .inr hnx, rfl, rfl, rfl, rfl⟩)), hs.tail⟩
        · obtain ⟨k, hk⟩ : ∃ k : Nat, f = k := ⟨f.toNat, by omega⟩
          have hk16 : k < 16 := by omega
          subst hk
          have k0 : (0 : Int) ≤ k := by omega
          have k1 : (k : Int) < 16 := by omega
          have q1 : ¬ (k : Int) < 0 := by omega
          have HNX := Lib.hid hnx
          obtain ⟨Y, hY⟩ : ∃ Y, Y = layI nx ⟨s, g, d⟩ := ⟨_, rfl⟩
          have HY := Lib.hid hY
          have HYL := Lib.hid (show Y.length = 160 by rw [hY]; exact layI_length _ _ HDL.out)
          have hly := fun (a7 : Option Addr) (c7 : Nat) w (L' : List Atom) (hs : Sat W w L') hin => ref_layI nx ⟨s, g, d⟩ a7 c7 W w L' hs hin HP.out (by omega) (by omega)
          unfold itV at hly
          simp only at hly
          rw [← hY] at hly
          have HLY := Lib.hid hly
          clear hY hly hfb hf0
          have z2 : wr.cell? ⟨z, 2, none⟩ = some (.slice da dn dc) := hs.cell m0 2
          have hzl : z < wr.heap.size := hs.lt m0
          have hse := none_sat hs
          have hrd : Reads (wr.alloc (.cells #[] 5)) (.slice da dn dc) d.length (bts d) := by rw [← HDN.out]; exact HIN.out _ hse.right.tail.tail.right.right
          have HD6 := Lib.hid (show d.length = 128 from HDL.out)
          go_wp2_with (at_builtin; refine wpList_plain rfl (fun K hK => ?_); refine wp_append_u8 rfl [] d rfl rfl (none_row _) hse hrd (by rw [HD6.out]; decide) (fun v7 w7 R7 hr7 hs7 => ?_); refine hK _ _ ?_; simp only [Act.put, List.setIfInBounds_toArray, List.set_cons_zero, List.set_cons_succ]; clear hK; rw [List.nil_append] at hr7; obtain ⟨a7, c7, rfl⟩ := Ch.RowA.slice hr7; have hs8 := Sat.use (M := cellsA z #[.int .i64 s, .int .i64 g, .slice da dn dc] 77 :: (R7 ++ (cellsA b (rringC bp xs nx) 96 :: (B ++ (Ap ++ L))))) hs7 (by intro x; simp only [cnt_append, cnt_cons, cnt_nil]; omega); have y2 := hs8.cell m0 2; have j2 := hs8.free m0 2; have hz := Sat.setCell hs8 2 (.slice a7 d.length c7); clear hs hse hrd z2 cn hzl hs7 hs8)
          simp only [List.setIfInBounds_toArray, List.set_cons_zero, List.set_cons_succ] at hz
          refine with_sat hz ?_
          clear hz y2 j2
          intro w9 hs9
          have HR7 := Lib.hid hr7
          clear hr7
          obtain ⟨LL, hLL⟩ : ∃ LL, LL = cellsA z #[.int .i64 s, .int .i64 g, .slice a7 d.length c7] 77 :: (R7 ++ (cellsA b (rringC bp xs nx) 96 :: (B ++ (Ap ++ L)))) := ⟨_, rfl⟩
          have HLL := Lib.hid hLL
          have hmz : cellsA z #[.int .i64 s, .int .i64 g, .slice a7 d.length c7] 77 ∈ LL := by rw [hLL]; exact m0
          have hmb : cellsA b (rringC bp xs nx) 96 ∈ LL := by rw [hLL]; simp
          rw [← hLL] at hs9
          have c0 : ∀ y : Of W LL, y.v.cell? ⟨b, 0, none⟩ = some (.pointer (some ⟨bp, 0, none⟩)) := fun y => by rw [y.s.cell hmb]; rfl
          have c65 : ∀ y : Of W LL, y.v.cell? ⟨b, 65, none⟩ = some (.int .i64 nx) := fun y => by rw [y.s.cell hmb]; exact rring_next HXL.out
          have z0 : ∀ y : Of W LL, y.v.cell? ⟨z, 0, none⟩ = some (.int .i64 s) := fun y => y.s.cell hmz 0
          have z1 : ∀ y : Of W LL, y.v.cell? ⟨z, 1, none⟩ = some (.int .i64 g) := fun y => y.s.cell hmz 1
          have z2 : ∀ y : Of W LL, y.v.cell? ⟨z, 2, none⟩ = some (.slice a7 d.length c7) := fun y => y.s.cell hmz 2
          have d65 := c65 ⟨_, hs9.drew⟩
          have y0 := z0 ⟨_, hs9.drew⟩
          have y1 := z1 ⟨_, hs9.drew⟩
          have y2 := z2 ⟨_, hs9.drew⟩
          simp only at d65 y0 y1 y2
          have hsd : Sat W w9.drew LL := hs9.drew
          clear hLL
          go_wp2_with fail
          refine wp_region_held1 [11, 12] [0, 1, 2, 3, 4, 5] [0, 1, 2, 4, 5] [11] [0, 1, 2, 3, 4, 5, 6, 7, 8, 9, 10, 11, 12] (Held W LL) (by kernel_rfl) (by kernel_rfl) ?_ ?_
          · exact Held.mk hsd
          have hne : Nonempty (Of W LL) := ⟨⟨_, hs9⟩⟩
          repeat (first | (refine can_pu1 rfl rfl rfl rfl rfl rfl (fun K hK => ?_); go_big_quiet_op; refine hK _ ?_; clear hK K) | (refine can_st1 rfl rfl rfl rfl rfl rfl (fun K hK => ?_); go_big_quiet_op; refine hK _ ?_; clear hK K) | (refine can_early1 rfl rfl rfl rfl rfl (fun K hK => ?_); go_big_quiet_op; refine hK _ ?_; clear hK K) | (refine can_skip rfl rfl rfl ?_; simp only [Act.put, List.setIfInBounds_toArray, List.set_cons_zero, List.set_cons_succ]))
          clear c0 c65 z0 z1 z2 d65 y0 y1 y2 hne hs9
          refine can_actS rfl rfl rfl rfl (fun K hK => ?_)
          go_wp2_with fail
          refine (HLY.out a7 c7 _ _ hsd (fun y hy => HR7.out.reads (Sat.use (M := R7 ++ L) hy (by rw [HLL.out]; intro y; simp only [cnt_append, cnt_cons, cnt_nil]; omega)))).mono ?_; rintro r9 w10 ⟨yv, RY, rfl, hry, hs10⟩
          apply hK
          refine ⟨Held.mk hs10.right, ?_⟩
          clear hK hsd HLY
          have hs11 := Sat.use (M := Ap ++ (RY ++ (cellsA z #[.int .i64 s, .int .i64 g, .slice a7 d.length c7] 77 :: (R7 ++ (cellsA b (rringC bp xs nx) 96 :: (B ++ L)))))) hs10 (by rw [HLL.out]; intro y; simp only [cnt_append, cnt_cons, cnt_nil]; omega)
          have hwr := ref_write bp r Ap (80 + k) yv Y W w10 _ HQ.out hs11 (by rw [H96.out]; omega) HYL.out (fun y hy => hry.reads (F := L) (hy.use (by intro x; simp only [cnt_append, cnt_cons, cnt_nil]; omega))) hpl hw0 hw1
          rw [show (((80 + k : Nat)) : Int) = 80 + (k : Int) by omega] at hwr
          obtain ⟨ay, cy, rfl⟩ := Ch.RowA.slice hry
          have HWR := Lib.hid hwr
          clear hwr hs11 hs10 hry
          repeat (first | (refine can_pu1 rfl rfl rfl rfl rfl rfl (fun K hK => ?_); go_big_quiet_op; refine hK _ ?_; clear hK K) | (refine can_st1 rfl rfl rfl rfl rfl rfl (fun K hK => ?_); go_big_quiet_op; refine hK _ ?_; clear hK K) | (refine can_early1 rfl rfl rfl rfl rfl (fun K hK => ?_); go_big_quiet_op; refine hK _ ?_; clear hK K) | (refine can_skip rfl rfl rfl ?_; simp only [Act.put, List.setIfInBounds_toArray, List.set_cons_zero, List.set_cons_succ]))
          refine can_actF rfl rfl rfl rfl (fun K hK => ?_)
          go_wp2_with fail
          refine HWR.out.mono ?_; rintro r10 w11 ⟨A', rfl, hA', hs12⟩
          apply hK
          clear hK HWR
          repeat (first | (refine can_pu1 rfl rfl rfl rfl rfl rfl (fun K hK => ?_); go_big_quiet_op; refine hK _ ?_; clear hK K) | (refine can_st1 rfl rfl rfl rfl rfl rfl (fun K hK => ?_); go_big_quiet_op; refine hK _ ?_; clear hK K) | (refine can_early1 rfl rfl rfl rfl rfl (fun K hK => ?_); go_big_quiet_op; refine hK _ ?_; clear hK K) | (refine can_skip rfl rfl rfl ?_; simp only [Act.put, List.setIfInBounds_toArray, List.set_cons_zero, List.set_cons_succ]))
          refine can_end1 ?_; (try simp only [Exit.then])
          have hs13 := Sat.use (M := cellsA z #[.int .i64 s, .int .i64 g, .slice a7 d.length c7] 77 :: (cellsA b (rringC bp xs nx) 96 :: (R7 ++ (B ++ (A' ++ L))))) hs12 (by intro x; simp only [cnt_append, cnt_cons, cnt_nil]; omega)
          clear hs12
          have y0 : w11.cell? ⟨z, 0, none⟩ = some (.int .i64 s) := hs13.cell m0 0
          have y1 : w11.cell? ⟨z, 1, none⟩ = some (.int .i64 g) := hs13.cell m0 1
          have y2 : w11.cell? ⟨z, 2, none⟩ = some (.slice a7 d.length c7) := hs13.cell m0 2
          have hs14 := hs13.tail
          obtain ⟨⟨⟨ol, on, ⟨os, og, od⟩⟩, ov⟩, hxk⟩ : ∃ y, xs[k]? = some y := ⟨_, List.getElem?_eq_getElem (by rw [HXL.out]; exact hk16)⟩
          have e65 : w11.cell? ⟨b, 65, none⟩ = some (.int .i64 nx) := by rw [hs14.cell m0]; exact rring_next HXL.out
          have e0 : w11.cell? ⟨b, 1 + k * 4, none⟩ = some (.int .i64 on) := by rw [hs14.cell m0]; exact rring_get hxk 0 _ rfl
          have e1 : w11.cell? ⟨b, 1 + k * 4 + 1, none⟩ = some (.int .i64 os) := by rw [hs14.cell m0]; exact rring_get hxk 1 _ rfl
          have e2 : w11.cell? ⟨b, 1 + k * 4 + 2, none⟩ = some (.int .i64 og) := by rw [hs14.cell m0]; exact rring_get hxk 2 _ rfl
          have e3 : w11.cell? ⟨b, 1 + k * 4 + 3, none⟩ = some ov := by rw [hs14.cell m0]; exact rring_get hxk 3 _ rfl
          have f0 := hs14.free m0 (1 + k * 4)
          have f1 := hs14.free m0 (1 + k * 4 + 1)
          have f2 := hs14.free m0 (1 + k * 4 + 2)
          have f3 := hs14.free m0 (1 + k * 4 + 3)
          have hz := Sat.setCell (Sat.setCell (Sat.setCell (Sat.setCell hs14 (1 + k * 4) (.int .i64 nx)) (1 + k * 4 + 1) (.int .i64 s)) (1 + k * 4 + 2) (.int .i64 g)) (1 + k * 4 + 3) (.slice a7 d.length c7)
          rw [rring_set (xs := xs) ⟨true, nx, ⟨s, g, d⟩⟩ (.slice a7 d.length c7) (by rw [HXL.out]; exact hk16)] at hz
          have hz := hz.drew
          have HZ := Lib.hid hz
          clear hz hs13 hs14 hxk
          go_wp2_with fail
          refine wp_region_one [11] [] [] [] [0, 1, 2, 3, 4, 5, 6, 7, 8, 9, 10, 11] (by kernel_rfl) (by kernel_rfl) ?_
          repeat (first | (refine can_pu1 rfl rfl rfl rfl rfl rfl (fun K hK => ?_); go_big_quiet_op; refine hK _ ?_; clear hK K) | (refine can_st1 rfl rfl rfl rfl rfl rfl (fun K hK => ?_); go_big_quiet_op; refine hK _ ?_; clear hK K) | (refine can_early1 rfl rfl rfl rfl rfl (fun K hK => ?_); go_big_quiet_op; refine hK _ ?_; clear hK K) | (refine can_skip rfl rfl rfl ?_; simp only [Act.put, List.setIfInBounds_toArray, List.set_cons_zero, List.set_cons_succ]))
          refine can_act1 rfl rfl rfl (fun K hK => ?_)
          go_wp2_with fail
          refine can_end1 ?_; (try simp only [Exit.then])
          refine with_sat HZ.out ?_
          clear HZ e65 e0 e1 e2 e3 f0 f1 f2 f3 y0 y1 y2
          intro w12 hs15
          have hxl2 : (xs.set k (⟨true, nx, ⟨s, g, d⟩⟩, .slice a7 d.length c7)).length = 16 := by rw [List.length_set, HXL.out]
          have e65 : w12.cell? ⟨b, 65, none⟩ = some (.int .i64 nx) := by rw [hs15.cell m0]; exact rring_next hxl2
          have f65 := hs15.free m0 65
          have hz := Sat.setCell hs15 65 (.int .i64 (nx + 1))
          rw [rring_setn (nx + 1) hxl2] at hz
          have HZ := Lib.hid hz
          clear hz hs15 hxl2
          go_wp2_with fail
          go_ret
          exact ⟨0, _, nx + 1, r.wr (80 + k) Y, R7 ++ B, A', rfl, (HRI.out.mono (fun x hx => List.mem_append_right R7 hx)).set k (s := ⟨true, nx, ⟨s, g, d⟩⟩) (v := .slice a7 d.length c7) ⟨R7, HR7.out, fun x hx => List.mem_append_left _ hx⟩, hA', .inr (.inr (.inr ⟨HP.out, HNH.out, by have := HNX.out; omega, rfl, k, _, hk16, HF.out, rfl, rfl, by rw [HY.out]⟩)), HZ.out.use (by intro x; simp only [cnt_append, cnt_cons, cnt_nil]; omega)⟩
end Go.Proofs.YtekbbpfnkbanjaaGreat.Ch
