/-
  The document's platter: Pieces.
-/
import Derived.Test.YtdkhgkkdnjejmaaPuD
import Derived.Lib.ConvBytes
namespace Go.Proofs.Ytdkhgkkdnjejmaa.Ch
set_option linter.unusedSimpArgs false
open Go Go.RowKit Go.Sl Go.BigFrame
set_option linter.unusedVariables false

/-- A block whose first cells are the bytes l. -/
def bytP (l : List UInt8) (o : Obj) : Prop := ∃ (cs : Array Value) (fr : Nat × Nat), o = .cells cs 5 fr ∧ ∀ (j : Nat) (u : Value), (bts l)[j]? = some u → cs[j]? = some u
theorem bsOf_size (l : List UInt8) : (bsOf l).size = l.length := by
  simp [bsOf, ByteArray.size]
theorem bytes_sat {W w : World} {L : List Atom} (hs : Sat W w L) (l : List UInt8) : Sat W (Lib.bytesWorld w 5 (bsOf l)) ((w.heap.size, bytP l) :: L) := by
  refine hs.moved ⟨?_, ?_, ?_, ?_⟩ (Nat.le_refl _) (fun k hk _ => Lib.bytesWorld_at_old w _ _ k hk) ⟨_, Lib.bytesWorld_at_new w _ _, _, _, rfl, fun j u hu => ?_⟩
  · rfl
  · rfl
  · rfl
  · rw [Lib.bytesWorld_size]; omega
  · have hj := (List.getElem?_eq_some_iff.1 hu).1
    unfold Lib.bytesCells
    rw [Array.getElem?_append_left (by rw [bts_length] at hj; simpa [bsOf] using hj)]
    rw [bts, List.getElem?_map] at hu
    simp only [bsOf, Array.getElem?_map, List.getElem?_toArray]
    exact hu
theorem bytes_reads {W y : World} {L : List Atom} {z : Nat} {l : List UInt8} (hs : Sat W y ((z, bytP l) :: L)) (c : Nat) : Reads y (.slice (some ⟨z, 0, none⟩) l.length c) l.length (bts l) := by
  obtain ⟨o, ho, cs, fr, rfl, hc⟩ := hs.head
  refine .inr ⟨_, _, rfl, fun j u hu => ?_⟩
  rw [add_row, cell_at ho, Nat.zero_add]
  exact hc j u hu
theorem conv_str (l : List UInt8) (w : World) : (convert 9 32 (.string (bsOf l))).run Try.prog w = .ok (.slice (some ⟨w.heap.size, 0, none⟩) l.length (grownCap w l.length 0 5)) (Lib.bytesWorld w 5 (bsOf l)) := by
  have h := Lib.run_convert_string_bytes (P := Try.prog) w 9 32 5 (bsOf l) Try.underlying9 Try.underlying32 Try.underlying5
  rw [bsOf_size] at h
  exact h

theorem ref_pieces_none (b : Nat) (s : Int) (w : World) (h : s < 0 ∨ 40 ≤ s) :
    Calls Try.prog 50 #[.pointer (some ⟨b, 0, none⟩), .int .i64 s] w fun e w' => e = .returned (.slice none 0 0) ∧ w = w' := by
  rcases h with h | h
  · go_enter Try.func50, Try.ntmps50
    go_wp2_with fail
    go_ret
    exact ⟨rfl, rfl⟩
  · have h0 : ¬ s < 0 := by omega
    go_enter Try.func50, Try.ntmps50
    go_wp2_with fail
    go_ret
    exact ⟨rfl, rfl⟩

theorem srt_one (l : List Pc) (h : l.length ≤ 1) : srt l = l := by
  rcases l with _ | ⟨x, _ | ⟨y, l⟩⟩
  · rfl
  · rfl
  · simp at h
theorem getN_len (q : Pt) (s : Int) : ∀ k, (getN q s k).length ≤ k
  | 0 => by simp [getN]
  | k + 1 => by
    rw [getN_succ, List.length_append]
    have := getN_len q s k
    cases getAt q s (placeN s k) <;> simp <;> omega

theorem getAt_none {q : Pt} {s : Int} {k : Nat} {l : List UInt8} (h : q.now[k]? = some l) (hb : readB l = none) : getAt q s k = none := by
  unfold getAt
  rw [h]
  simp only
  rw [hb]
theorem getAt_some {q : Pt} {s : Int} {k : Nat} {l : List UInt8} {p : Pc} (h : q.now[k]? = some l) (hb : readB l = some p) : getAt q s k = if p.stripe = s ∧ placeI s p.gen = k then some p else none := by
  unfold getAt
  rw [h]
  simp only
  rw [hb]
set_option maxRecDepth 100000 in
set_option maxHeartbeats 8000000 in
theorem ref_pieces (b : Nat) (q : Pt) (r : Rt) (A : List Atom) (s : Int) (W w : World) (L : List Atom) (hq : RtA b r A) (ha : Alike q r) (hs : Sat W w (A ++ L)) (h0 : 0 ≤ s) (h1 : s < 40) (h80 : 80 ≤ q.now.length) (hl : ∀ l ∈ q.now, l.length < 1000000) (hpl : r.pend.length < 900000) :
    Calls Try.prog 50 #[.pointer (some ⟨b, 0, none⟩), .int .i64 s] w fun e w' => ∃ v xs R B, e = .returned v ∧ RowA 45 4 v xs.length (pcsC xs) R ∧ xs.map Prod.fst = getL q s ∧ PcBl B xs ∧ Sat W w' (R ++ (B ++ (A ++ L))) := by
  have n0 : ¬ s < 0 := by omega
  have n1 : ¬ 40 ≤ s := by omega
  have hdl : r.done.length = q.now.length := by rw [← ha.now, Rt.now_length]
  have d0 : ∃ vd, w.cell? ⟨b, 0, none⟩ = some vd ∧ ∃ a c, vd = .slice a r.done.length c := by
    obtain ⟨vd, vp, Rd, Rp, rfl, hrd, hrp⟩ := hq
    obtain ⟨ad, cd, rfl⟩ := Ch.RowA.slice hrd
    exact ⟨_, hs.cell m0 0, _, _, rfl⟩
  obtain ⟨_, d0, ad, cd, rfl⟩ := d0
  have hp : ∀ j : Nat, j < 2 → 2 * s + (j : Int) = (placeN s j : Nat) ∧ placeN s j < 80 := fun j hj => by
    have := placeI_bounds s j h0 h1
    unfold placeN
    unfold placeI at *
    omega
  have h80' : ¬ (r.done.length : Int) < 80 := by omega
  have HP := Lib.hid hp
  have HQ := Lib.hid hq
  have HLQ := Lib.hid hl
  have HA := Lib.hid ha
  clear hp hq hl ha hdl
  obtain ⟨Z, hZ⟩ : ∃ Z, Z = getL q s := ⟨_, rfl⟩
  rw [← hZ]
  have HZ := Lib.hid hZ
  clear hZ
  go_enter Try.func50, Try.ntmps50
  go_wp2_with fail
  go_loopw [6, 5] (fun kv ov wr => ∃ (k : Nat) (xs : List (Pc × Value)) (R B : List Atom), kv = .int .i64 k ∧ k ≤ 2 ∧ xs.length ≤ k ∧ RowA 45 4 ov xs.length (pcsC xs) R ∧ xs.map Prod.fst = srt (getN q s k) ∧ PcBl B xs ∧ Sat W wr (R ++ (B ++ (A ++ L)))) (fun kv _ _ => (2 - (intOf kv).toNat))
  case atStart => exact ⟨0, [], [], [], rfl, by omega, by simp, RowA.nil _ _, rfl, (fun x hx => by simp at hx), hs⟩
  case round =>
    clear hs d0
    obtain ⟨k, xs, R, B, rfl, hk, hxl, hr, hxs, hxb, hs⟩ := hrel
    have k0 : (0 : Int) ≤ k := by omega
    have HXS := Lib.hid hxs
    have HXB := Lib.hid hxb
    clear hxs hxb
    obtain ⟨ao, co, rfl⟩ := Ch.RowA.slice hr
    by_cases hkn : k < 2
    · have k1 : (k : Int) < 2 := by omega
      obtain ⟨K, hK⟩ : ∃ K, K = placeN s (k : Nat) := ⟨_, rfl⟩
      have hKp := HP.out k hkn
      rw [← hK] at hKp
      obtain ⟨l, hl⟩ : ∃ l, q.now[K]? = some l := ⟨_, List.getElem?_eq_getElem (by omega)⟩
      have hll := HLQ.out l (List.mem_of_getElem? hl)
      have hgn : getN q s (k + 1) = getN q s k ++ (getAt q s K).toList := by rw [getN_succ, hK]
      have hgl := getN_len q s k
      have hrd := ref_read_k b r A K l W wr (R ++ (B ++ L)) HQ.out (hs.use (by intro x; simp only [cnt_append, cnt_cons, cnt_nil]; omega)) (by rw [HA.out.now]; exact hl) hpl
      have hcv := conv_str l
      have hsb := bytes_sat hs l
      have hrb := ref_read_free W _ _ (.slice (some ⟨wr.heap.size, 0, none⟩) l.length (grownCap wr l.length 0 5)) l hsb (fun y hy => bytes_reads hy _) (fun a n c h => by cases h; exact grownCap_ge _ _ _ _)
      have HRD := Lib.hid hrd
      have HGN := Lib.hid hgn
      have HGL := Lib.hid hgl
      have HKP := Lib.hid hKp
      have HRB := Lib.hid hrb
      have HLK := Lib.hid hl
      clear hrd hgn hgl hl hK hKp hs hrb hsb
      go_wp2_with fail
      rw [HKP.out.1]
      refine HRD.out.mono ?_; rintro r2 w4 ⟨rfl, rfl⟩
      go_wp2_with fail
      refine HRB.out.mono ?_; rintro r2 w5 ⟨bv, R5, rfl, hr5, hs5'⟩
      have hs5 := Sat.use (M := R5 ++ (R ++ (B ++ (A ++ L)))) hs5' (by intro x; simp only [cnt_append, cnt_cons, cnt_nil]; omega)
      obtain ⟨a5, c5, rfl⟩ := Ch.RowA.slice hr5
      have hgn := HGN.out
      have hkp := HKP.out
      clear HRD HRB HGN HKP hcv hs5'
      have hs6 : Sat W w5 (R ++ (B ++ (A ++ L))) := hs5.use (by intro x; simp only [cnt_append, cnt_cons, cnt_nil]; omega)
      rcases hb : readB l with _ | p
      · have e1 : readP l = pc0 := by unfold readP; rw [hb]; rfl
        rw [getAt_none HLK.out hb] at hgn
        have HGN := Lib.hid hgn
        rw [e1]
        unfold pcV pc0
        simp only [Option.isSome_none]
        clear hb e1 hgn hr5 hs5
        have hs7 := hs6.alloc (.cells #[.int .i64 0, .int .i64 0, .int .i64 0, .slice a5 ([] : List UInt8).length c5] 45)
        go_wp2_with fail
        refine ⟨⟨k + 1, xs, R, B, by simp, by omega, by omega, hr, ?_, HXB.out, hs7⟩, ?_⟩
        · rw [HGN.out, Option.toList_none, List.append_nil]
          exact HXS.out
        · simp [intOf]
          omega
      · have e1 : readP l = p := by unfold readP; rw [hb]; rfl
        have hright := readB_right hb
        have hga := getAt_some (s := s) HLK.out hb
        rw [e1] at hr5 ⊢
        obtain ⟨ps, pg, pi, pd⟩ := p
        unfold pcV
        simp only [Option.isSome_some] at hr5 hga ⊢
        have hpg1 : 1 ≤ pg := hright.2.2.1
        have hpg2 : pg.tmod 2 = pg % 2 := Int.tmod_eq_emod_of_nonneg (by omega)
        have hpl2 : placeI s pg = K ↔ pg % 2 = k := by
          have := hkp.1
          unfold placeI
          omega
        have HR := Lib.hid hright
        have hs7 := hs5.newCells #[.int .i64 ps, .int .i64 pg, .int .i64 pi, .slice a5 pd.length c5] 45
        clear hb e1 hright
        by_cases hps : ps = s
        case neg =>
          rw [if_neg (fun h => hps h.1)] at hga
          rw [hga] at hgn
          have HGN := Lib.hid hgn
          have q0 : (ps == s) = false := by simpa using hps
          have hs8 := hs7.tail.right
          clear hga hgn hr5 hs5 hps hpg2 hpl2 hkp hs6 hs7
          go_wp2_with fail
          refine ⟨⟨k + 1, xs, R, B, by simp, by omega, by omega, hr, ?_, HXB.out, hs8⟩, ?_⟩
          · rw [HGN.out, Option.toList_none, List.append_nil]
            exact HXS.out
          · simp [intOf]
            omega
        case pos =>
        subst hps
        by_cases hpl : pg % 2 = k
        case neg =>
          rw [if_neg (fun h => hpl (hpl2.1 h.2))] at hga
          rw [hga] at hgn
          have HGN := Lib.hid hgn
          obtain ⟨m, hm⟩ : ∃ m, pg.tmod 2 = m := ⟨_, rfl⟩
          have q0 : (m == (k : Int)) = false := by simp; omega
          have hs8 := hs7.tail.right
          clear hga hgn hr5 hs5 hpl hpg2 hpl2 hkp hs6 hs7
          go_wp2_with fail
          refine ⟨⟨k + 1, xs, R, B, by simp, by omega, by omega, hr, ?_, HXB.out, hs8⟩, ?_⟩
          · rw [HGN.out, Option.toList_none, List.append_nil]
            exact HXS.out
          · simp [intOf]
            omega
        case pos =>
        rw [if_pos ⟨rfl, hpl2.2 hpl⟩] at hga
        rw [hga] at hgn
        have HGN := Lib.hid hgn
        have hm : pg.tmod 2 = (k : Int) := by omega
        clear hga hgn hs5 hpl hpg2 hpl2 hkp hs6
        have hp32 : 0 < pd.length := by
          have := HR.out.2.2.2.2.2.2
          simp only at this
          omega
        have hbi := (BlkIn.of_row hr5 hp32).mono (B' := R5 ++ B) (fun x hx => List.mem_append_left _ hx)
        have HBI := Lib.hid hbi
        have HR5 := Lib.hid hr5
        clear hbi hp32 hr5
        have e0 := hs7.cell m0 0
        have e1 := hs7.cell m0 1
        have e2 := hs7.cell m0 2
        have e3 := hs7.cell m0 3
        have hx1 : xs.map Prod.fst = getN q ps k := by rw [HXS.out, srt_one _ (by have := HGL.out; omega)]
        have HX1 := Lib.hid hx1
        clear hx1
        rcases xs with _ | ⟨⟨⟨xs0, xg0, xi0, xd0⟩, xv0⟩, _ | ⟨y, xs⟩⟩
        · clear hxl
          simp only [List.length_nil] at hr ⊢
          go_wp2_with fail
          refine wp_region_one [] [] [] [] [0, 1, 2, 3, 4, 5, 6, 7, 8, 9, 10, 11] (by kernel_rfl) (by kernel_rfl) ?_
          repeat (first | (refine can_pu1 rfl rfl rfl rfl rfl rfl (fun K hK => ?_); go_big_quiet_op; refine hK _ ?_; clear hK K) | (refine can_st1 rfl rfl rfl rfl rfl rfl (fun K hK => ?_); go_big_quiet_op; refine hK _ ?_; clear hK K) | (refine can_early1 rfl rfl rfl rfl rfl (fun K hK => ?_); go_big_quiet_op; refine hK _ ?_; clear hK K) | (refine can_skip rfl rfl rfl ?_; simp only [Act.put, List.setIfInBounds_toArray, List.set_cons_zero, List.set_cons_succ]))
          refine can_end1 ?_; (try simp only [Exit.then])
          have hs8 := (hs7.drew).newCells #[.int .i64 ps, .int .i64 pg, .int .i64 pi, .slice a5 pd.length c5] 45
          have hsz : ((w5.alloc (.cells #[.int .i64 ps, .int .i64 pg, .int .i64 pi, .slice a5 pd.length c5] 45)).drew).heap.size = w5.heap.size + 1 := by simp
          have hsrc := reads_cells hs8 m0 1 1 (pcCells ⟨ps, pg, pi, pd⟩ (.slice a5 pd.length c5)) rfl
          rw [hsz] at hs8 hsrc
          have hs9 := Sat.use (M := R ++ (R5 ++ (B ++ (A ++ L)))) hs8 (by intro x; simp only [cnt_append, cnt_cons, cnt_nil]; omega)
          clear hsz hs8
          go_wp2_with (at_builtin; go_loud (refine wpList_plain rfl (fun K hK => ?_); refine wp_append_g Try.underlying53 infoPc rfl (by decide) (by decide) rfl rfl rfl hr hs9 hsrc rfl (by intro u hu; simp only [pcCells, List.mem_cons, List.not_mem_nil, or_false] at hu; rcases hu with rfl | rfl | rfl | rfl <;> rfl) (by omega) (fun v2 w7 R2 hr2 hs10 => ?_); refine hK _ _ ?_; simp only [Act.put, List.setIfInBounds_toArray, List.set_cons_zero, List.set_cons_succ]; clear hK))
          refine ⟨⟨_, ([] : List (Pc × Value)) ++ [(⟨ps, pg, pi, pd⟩, .slice a5 pd.length c5)], R2, R5 ++ B, rfl, by simp; try omega, by simp; try omega, ?_, ?_, ?_, hs10.use (by intro x; simp only [cnt_append, cnt_cons, cnt_nil]; omega)⟩, ?_⟩
          · rw [pcsC_append]
            exact hr2
          · rw [show ∀ k' : Nat, k' = k + 1 → getN q ps k' = getN q ps k ++ [⟨ps, pg, pi, pd⟩] from fun k' hk' => by rw [hk']; exact HGN.out] <;> try (simp; done)
            rw [← HX1.out]
            rfl
          · intro x hx
            rcases List.mem_append.1 hx with h | h
            · obtain ⟨h1, h2⟩ := HXB.out x h
              exact ⟨h1.mono (fun y hy => List.mem_append_right _ hy), h2⟩
            · rw [List.mem_singleton] at h
              rw [h]
              exact ⟨HBI.out, HR.out⟩
          · simp [intOf]
            try omega
        · have hk1 : k = 1 := by simp at hxl; omega
          subst hk1
          clear hxl
          obtain ⟨hb0, hr0⟩ := HXB.out _ (List.mem_singleton.2 rfl)
          try simp only at hb0 hr0
          obtain ⟨bg, bo, bc, hv0, hb01, hb02⟩ := hb0
          try simp only at hv0
          subst hv0
          have HB0 := Lib.hid (show BlkIn B (.slice (some ⟨bg, bo, none⟩) xd0.length bc) xd0 from ⟨_, _, _, rfl, hb01, hb02⟩)
          have HR0 := Lib.hid hr0
          clear hr0 hb01 hb02
          simp only [List.length_cons, List.length_nil, Nat.zero_add] at hr ⊢
          obtain ⟨g0, o0, k0', he, hk01, hk02, hR0⟩ := Ch.RowA.some_of hr (by omega)
          obtain ⟨rfl, rfl⟩ : ao = some ⟨g0, o0, none⟩ ∧ co = k0' := by cases he; exact ⟨rfl, rfl⟩
          have hsq := Sat.use (M := R ++ (cellsA w5.heap.size #[.int .i64 ps, .int .i64 pg, .int .i64 pi, .slice a5 pd.length c5] 45 :: (R5 ++ (B ++ (A ++ L))))) hs7 (by intro x; simp only [cnt_append, cnt_cons, cnt_nil]; omega)
          have f0 : (w5.alloc (.cells #[.int .i64 ps, .int .i64 pg, .int .i64 pi, .slice a5 pd.length c5] 45)).cell? ⟨g0, o0, none⟩ = some (.int .i64 xs0) := (hr.cells hsq rfl 0 (by simp [pcsC, pcCells])).1
          have f1 : (w5.alloc (.cells #[.int .i64 ps, .int .i64 pg, .int .i64 pi, .slice a5 pd.length c5] 45)).cell? ⟨g0, o0 + 1, none⟩ = some (.int .i64 xg0) := (hr.cells hsq rfl 1 (by simp [pcsC, pcCells])).1
          have f2 : (w5.alloc (.cells #[.int .i64 ps, .int .i64 pg, .int .i64 pi, .slice a5 pd.length c5] 45)).cell? ⟨g0, o0 + 2, none⟩ = some (.int .i64 xi0) := (hr.cells hsq rfl 2 (by simp [pcsC, pcCells])).1
          have f3 : (w5.alloc (.cells #[.int .i64 ps, .int .i64 pg, .int .i64 pi, .slice a5 pd.length c5] 45)).cell? ⟨g0, o0 + 3, none⟩ = some (.slice (some ⟨bg, bo, none⟩) xd0.length bc) := (hr.cells hsq rfl 3 (by simp [pcsC, pcCells])).1
          clear hsq hk01 hk02 hR0 he
          by_cases hgt : xg0 < pg
          · go_wp2_with fail
            refine wp_region_one [] [] [] [] [0, 1, 2, 3, 4, 5, 6, 7, 8, 9, 10, 11] (by kernel_rfl) (by kernel_rfl) ?_
            repeat (first | (refine can_pu1 rfl rfl rfl rfl rfl rfl (fun K hK => ?_); go_big_quiet_op; refine hK _ ?_; clear hK K) | (refine can_st1 rfl rfl rfl rfl rfl rfl (fun K hK => ?_); go_big_quiet_op; refine hK _ ?_; clear hK K) | (refine can_early1 rfl rfl rfl rfl rfl (fun K hK => ?_); go_big_quiet_op; refine hK _ ?_; clear hK K) | (refine can_skip rfl rfl rfl ?_; simp only [Act.put, List.setIfInBounds_toArray, List.set_cons_zero, List.set_cons_succ]))
            refine can_end1 ?_; (try simp only [Exit.then])
            go_wp2_with fail
            refine wp_region_one [4] [] [] [] [0, 1, 2, 3, 4, 5] (by kernel_rfl) (by kernel_rfl) ?_
            repeat (first | (refine can_pu1 rfl rfl rfl rfl rfl rfl (fun K hK => ?_); go_big_quiet_op; refine hK _ ?_; clear hK K) | (refine can_st1 rfl rfl rfl rfl rfl rfl (fun K hK => ?_); go_big_quiet_op; refine hK _ ?_; clear hK K) | (refine can_early1 rfl rfl rfl rfl rfl (fun K hK => ?_); go_big_quiet_op; refine hK _ ?_; clear hK K) | (refine can_skip rfl rfl rfl ?_; simp only [Act.put, List.setIfInBounds_toArray, List.set_cons_zero, List.set_cons_succ]))
            refine can_act1 rfl rfl rfl (fun K hK => ?_)
            go_wp2_with fail
            repeat (first | (refine can_pu1 rfl rfl rfl rfl rfl rfl (fun K hK => ?_); go_big_quiet_op; refine hK _ ?_; clear hK K) | (refine can_st1 rfl rfl rfl rfl rfl rfl (fun K hK => ?_); go_big_quiet_op; refine hK _ ?_; clear hK K) | (refine can_early1 rfl rfl rfl rfl rfl (fun K hK => ?_); go_big_quiet_op; refine hK _ ?_; clear hK K) | (refine can_skip rfl rfl rfl ?_; simp only [Act.put, List.setIfInBounds_toArray, List.set_cons_zero, List.set_cons_succ]))
            refine can_end1 ?_; (try simp only [Exit.then])
            go_wp2_with fail
            have hsn : Sat W ((w5.alloc (.cells #[.int .i64 ps, .int .i64 pg, .int .i64 pi, .slice a5 pd.length c5] 45)).alloc (.cells #[.int .i64 ps, .int .i64 pg, .int .i64 pi, .slice a5 pd.length c5, .int .i64 xs0, .int .i64 xg0, .int .i64 xi0, .slice (some ⟨bg, bo, none⟩) xd0.length bc] 45)) ((w5.heap.size + 1, rowP 45 0 (2 * 4) (pcsC [((⟨ps, pg, pi, pd⟩ : Pc), (Value.slice a5 pd.length c5)), ((⟨xs0, xg0, xi0, xd0⟩ : Pc), (Value.slice (some ⟨bg, bo, none⟩) xd0.length bc))])) :: (R5 ++ (B ++ (A ++ L)))) := by
              have h := hs7.new (.cells #[.int .i64 ps, .int .i64 pg, .int .i64 pi, .slice a5 pd.length c5, .int .i64 xs0, .int .i64 xg0, .int .i64 xi0, .slice (some ⟨bg, bo, none⟩) xd0.length bc] 45) (p := rowP 45 0 (2 * 4) (pcsC [((⟨ps, pg, pi, pd⟩ : Pc), (Value.slice a5 pd.length c5)), ((⟨xs0, xg0, xi0, xd0⟩ : Pc), (Value.slice (some ⟨bg, bo, none⟩) xd0.length bc))])) ⟨_, rfl, by simp, by simp [pcsC, pcCells], rfl⟩
              rw [show (w5.alloc (.cells #[.int .i64 ps, .int .i64 pg, .int .i64 pi, .slice a5 pd.length c5] 45)).heap.size = w5.heap.size + 1 by simp] at h
              exact h.use (by intro x; simp only [cnt_append, cnt_cons, cnt_nil]; omega)
            refine ⟨⟨2, [((⟨ps, pg, pi, pd⟩ : Pc), (Value.slice a5 pd.length c5)), ((⟨xs0, xg0, xi0, xd0⟩ : Pc), (Value.slice (some ⟨bg, bo, none⟩) xd0.length bc))], [(w5.heap.size + 1, rowP 45 0 (2 * 4) (pcsC [((⟨ps, pg, pi, pd⟩ : Pc), (Value.slice a5 pd.length c5)), ((⟨xs0, xg0, xi0, xd0⟩ : Pc), (Value.slice (some ⟨bg, bo, none⟩) xd0.length bc))]))], R5 ++ B, rfl, Nat.le_refl _, Nat.le_refl _, ⟨rfl, .inr ⟨_, _, _, rfl, Nat.le_refl _, by unfold maxLen; omega, rfl⟩⟩, ?_, ?_, ?_⟩, by decide⟩
            · rw [show getN q ps 2 = getN q ps 1 ++ [⟨ps, pg, pi, pd⟩] from HGN.out, ← HX1.out]
              exact (if_pos (show xg0 < pg from hgt)).symm
            · intro x hx
              rcases List.mem_cons.1 hx with h | h
              · rw [h]
                exact ⟨HBI.out, HR.out⟩
              · rw [List.mem_singleton] at h
                rw [h]
                exact ⟨HB0.out.mono (fun y hy => List.mem_append_right _ hy), HR0.out⟩
            · have h2 := hsn.drew.drew
              exact h2.use (by intro x; simp only [cnt_append, cnt_cons, cnt_nil]; omega)
          · skip
            go_wp2_with fail
            refine wp_region_one [] [] [] [] [0, 1, 2, 3, 4, 5, 6, 7, 8, 9, 10, 11] (by kernel_rfl) (by kernel_rfl) ?_
            repeat (first | (refine can_pu1 rfl rfl rfl rfl rfl rfl (fun K hK => ?_); go_big_quiet_op; refine hK _ ?_; clear hK K) | (refine can_st1 rfl rfl rfl rfl rfl rfl (fun K hK => ?_); go_big_quiet_op; refine hK _ ?_; clear hK K) | (refine can_early1 rfl rfl rfl rfl rfl (fun K hK => ?_); go_big_quiet_op; refine hK _ ?_; clear hK K) | (refine can_skip rfl rfl rfl ?_; simp only [Act.put, List.setIfInBounds_toArray, List.set_cons_zero, List.set_cons_succ]))
            refine can_end1 ?_; (try simp only [Exit.then])
            have hs8 := (hs7.drew).newCells #[.int .i64 ps, .int .i64 pg, .int .i64 pi, .slice a5 pd.length c5] 45
            have hsz : ((w5.alloc (.cells #[.int .i64 ps, .int .i64 pg, .int .i64 pi, .slice a5 pd.length c5] 45)).drew).heap.size = w5.heap.size + 1 := by simp
            have hsrc := reads_cells hs8 m0 1 1 (pcCells ⟨ps, pg, pi, pd⟩ (.slice a5 pd.length c5)) rfl
            rw [hsz] at hs8 hsrc
            have hs9 := Sat.use (M := R ++ (R5 ++ (B ++ (A ++ L)))) hs8 (by intro x; simp only [cnt_append, cnt_cons, cnt_nil]; omega)
            clear hsz hs8
            go_wp2_with (at_builtin; go_loud (refine wpList_plain rfl (fun K hK => ?_); refine wp_append_g Try.underlying53 infoPc rfl (by decide) (by decide) rfl rfl rfl hr hs9 hsrc rfl (by intro u hu; simp only [pcCells, List.mem_cons, List.not_mem_nil, or_false] at hu; rcases hu with rfl | rfl | rfl | rfl <;> rfl) (by omega) (fun v2 w7 R2 hr2 hs10 => ?_); refine hK _ _ ?_; simp only [Act.put, List.setIfInBounds_toArray, List.set_cons_zero, List.set_cons_succ]; clear hK))
            refine ⟨⟨_, [((⟨xs0, xg0, xi0, xd0⟩ : Pc), (Value.slice (some ⟨bg, bo, none⟩) xd0.length bc))] ++ [(⟨ps, pg, pi, pd⟩, .slice a5 pd.length c5)], R2, R5 ++ B, rfl, by simp; try omega, by simp; try omega, ?_, ?_, ?_, hs10.use (by intro x; simp only [cnt_append, cnt_cons, cnt_nil]; omega)⟩, ?_⟩
            · rw [pcsC_append]
              exact hr2
            · rw [show ∀ k' : Nat, k' = 1 + 1 → getN q ps k' = getN q ps 1 ++ [⟨ps, pg, pi, pd⟩] from fun k' hk' => by rw [hk']; exact HGN.out] <;> try (simp; done)
              rw [← HX1.out]
              exact (if_neg (show ¬ xg0 < pg by omega)).symm
            · intro x hx
              rcases List.mem_append.1 hx with h | h
              · obtain ⟨h1, h2⟩ := HXB.out x h
                exact ⟨h1.mono (fun y hy => List.mem_append_right _ hy), h2⟩
              · rw [List.mem_singleton] at h
                rw [h]
                exact ⟨HBI.out, HR.out⟩
            · simp [intOf]
              try omega
        · simp at hxl
          omega
    · have e : k = 2 := by omega
      subst e
      go_wp2_with fail
      go_ret
      refine ⟨_, xs, R, B, rfl, hr, ?_, HXB.out, hs⟩
      rw [HZ.out, HXS.out]
      rfl
end Go.Proofs.Ytdkhgkkdnjejmaa.Ch
