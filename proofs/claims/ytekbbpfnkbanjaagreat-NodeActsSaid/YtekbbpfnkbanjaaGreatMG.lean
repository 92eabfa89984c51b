
/-
  The ring: Live, whatever is live.
  node.did and node.Do at Log where it is there already, full, or no intent, and at Intents whatever is live.
  node.Do at any request: what is answered, and the node then.
-/
import Derived.Test.YtekbbpfnkbanjaaGreatMF
namespace Go.Proofs.YtekbbpfnkbanjaaGreat.Ch
set_option linter.unusedSimpArgs false
open Go Go.RowKit Go.Sl Go.BigFrame
set_option linter.unusedVariables false

/-- Intents whose bytes stand in rows of B. -/
def ItsIn (B : List Atom) (ys : List (It × Value)) : Prop := ∀ y ∈ ys, RowIn B y.2 y.1.data
theorem ItsIn.mono {B B' : List Atom} {ys : List (It × Value)} (h : ItsIn B ys) (hs : ∀ x ∈ B, x ∈ B') : ItsIn B' ys := fun y hy => (h y hy).mono hs
theorem ItsIn.snoc {B : List Atom} {ys : List (It × Value)} {y : It × Value} (h : ItsIn B ys) (hy : RowIn B y.2 y.1.data) : ItsIn B (ys ++ [y]) := fun x hx => by
  rcases List.mem_append.1 hx with h1 | h1
  · exact h x h1
  · rw [List.mem_singleton.1 h1]; exact hy

set_option maxRecDepth 100000 in
set_option maxHeartbeats 8000000 in
theorem live_any (b bp : Nat) (xs : List (Sl5 × Value)) (nx : Int) (B : List Atom) (W w : World) (L : List Atom) (hri : RowsIn B xs) (hxl : xs.length = 16) (hsm : ∀ x ∈ xs, x.1.i.data.length < 1000000) (h1 : ∀ x ∈ xs, 0 ≤ x.1.num ∧ x.1.num ≤ 281474976710656) (hs : Sat W w (cellsA b (ringC bp xs nx) 120 :: (B ++ L))) :
    Calls Tryz.prog 56 #[.pointer (some ⟨b, 0, none⟩)] w fun e w' => ∃ v ys, ∃ zs : List (Sl5 × Value), ∃ R C, e = .returned v ∧ RowA 77 3 v ys.length (itsC ys) R ∧ zs.Perm (liveOf xs) ∧ zs.Pairwise (fun x y => x.1.num ≤ y.1.num) ∧ ys.map Prod.fst = zs.map (fun x => x.1.i) ∧ ItsIn C ys ∧ Sat W w' (R ++ (C ++ (cellsA b (ringC bp xs nx) 120 :: (B ++ L)))) := by
  have HRI := Lib.hid hri
  have HXL := Lib.hid hxl
  have HSM := Lib.hid hsm
  have H1 := Lib.hid h1
  clear hri hxl hsm h1
  go_enter Tryz.func56, Tryz.ntmps56
  go_wp2_with fail
  refine wp_load_mid 118 _ rfl b 1 rfl (slotsC xs) _ (slots_range hs) Tryz.underlying118 rfl (by rw [slotsC_length, HXL.out]; exact infoSlots) ?_
  simp only [Act.put, List.setIfInBounds_toArray, List.set_cons_zero, List.set_cons_succ]
  generalize hav : (Value.agg (slotsC xs).toArray) = av at *
  have HAV := Lib.hid hav
  clear hav
  go_wp2_with fail
  go_loopw [13, 3] (fun kv lv wr => ∃ (k : Nat) (R : List Atom), kv = .int .i64 k ∧ k ≤ 16 ∧ RowA 117 5 lv (liveOf (xs.take k)).length (slotsC (liveOf (xs.take k))) R ∧ Sat W wr (R ++ (cellsA b (ringC bp xs nx) 120 :: (B ++ L)))) (fun kv _ _ => (16 - (intOf kv).toNat))
  case atStart => exact ⟨0, [], rfl, by omega, RowA.nil _ _, hs⟩
  case round =>
    clear hs
    obtain ⟨k, R, rfl, hk, hr, hs⟩ := hrel
    have k0 : (0 : Int) ≤ k := by omega
    have HLS := Lib.hid (show (liveOf (xs.take k)).length ≤ 16 from Nat.le_trans (List.length_filter_le _ _) (by rw [List.length_take]; omega))
    generalize hls : liveOf (xs.take k) = ls at *
    have HLE := Lib.hid hls
    clear hls
    obtain ⟨al, cl, rfl⟩ := Ch.RowA.slice hr
    by_cases hkn : k < 16
    · have k1 : (k : Int) < 16 := by omega
      obtain ⟨⟨⟨sl, sn, ⟨ss, sg, sd⟩⟩, v⟩, hx⟩ : ∃ x, xs[k]? = some x := ⟨_, List.getElem?_eq_getElem (by have := HXL.out; omega)⟩
      obtain ⟨va, vc, hv⟩ := (HRI.out _ (List.mem_of_getElem? hx)).shape
      try simp only at hv
      subst hv
      have hix := slot_index hx hkn
      rw [HAV.out] at hix
      unfold slV at hix
      simp only at hix
      have hlv := liveOf_snoc hx
      rw [HLE.out] at hlv
      have HLV := Lib.hid hlv
      clear hx hlv
      have hs1 := hs.newCells #[.bool sl, .int .i64 sn, .int .i64 ss, .int .i64 sg, .slice va sd.length vc] 117
      cases sl
      · clear hs
        go_wp2_with fail
        refine ⟨⟨k + 1, R, by simp, by omega, ?_, hs1.tail⟩, ?_⟩
        · rw [HLV.out]
          exact hr
        · simp [intOf]
          omega
      · have hs2 := hs1.newCells #[.bool true, .int .i64 sn, .int .i64 ss, .int .i64 sg, .slice va sd.length vc] 117
        have hsz : (wr.alloc (.cells #[.bool true, .int .i64 sn, .int .i64 ss, .int .i64 sg, .slice va sd.length vc] 117)).heap.size = wr.heap.size + 1 := by simp
        have hsrc := reads_cells hs2 m0 1 1 (slCells ⟨true, sn, ⟨ss, sg, sd⟩⟩ (.slice va sd.length vc)) rfl
        rw [hsz] at hs2 hsrc
        have hs3 := Sat.use (M := R ++ (cellsA b (ringC bp xs nx) 120 :: (B ++ L))) hs2 (by intro x; simp only [cnt_append, cnt_cons, cnt_nil]; omega)
        clear hs hs1 hs2 hsz
        go_wp2_with (at_builtin; go_loud (refine wpList_plain rfl (fun K hK => ?_); refine wp_append_g Tryz.underlying132 infoSl rfl (by decide) (by decide) rfl rfl rfl hr hs3 hsrc rfl (by intro u hu; simp only [slCells, List.mem_cons, List.not_mem_nil, or_false] at hu; rcases hu with rfl | rfl | rfl | rfl | rfl <;> rfl) (by have := HLS.out; omega) (fun v2 w7 R2 hr2 hs10 => ?_); refine hK _ _ ?_; simp only [Act.put, List.setIfInBounds_toArray, List.set_cons_zero, List.set_cons_succ]; clear hK))
        refine ⟨⟨k + 1, R2, by simp, by omega, ?_, hs10⟩, ?_⟩
        · rw [HLV.out]
          simp only [if_true]
          rw [slotsC_append]
          simp only [List.length_append, List.length_cons, List.length_nil]
          exact hr2
        · simp [intOf]
          omega
    · have e : k = 16 := by omega
      subst e
      rw [List.take_of_length_le (by rw [HXL.out]; omega)] at HLE
      have HMEM := Lib.hid (show ∀ x ∈ ls, x ∈ xs from fun x hx => by rw [← HLE.out] at hx; exact (List.mem_filter.1 hx).1)
      have hso := sort_row (.slice al ls.length cl) ls R W _ (cellsA b (ringC bp xs nx) 120 :: (B ++ L)) hr hs (by have := HLS.out; omega) (fun x hx => ⟨(HRI.out x (HMEM.out x hx)).shape.elim fun a h => h.elim fun c h => ⟨a, _, c, h⟩, H1.out x (HMEM.out x hx)⟩)
      have HSO := Lib.hid hso
      clear hso hr hs
      go_wp2_with fail
      refine HSO.out.mono ?_; rintro r w2 ⟨rfl, zs, R', hzl, hzp, hzq, hr, hs⟩
      have HZP := Lib.hid hzp
      have HZQ := Lib.hid hzq
      clear HSO hzp hzq
      go_wp2_with fail
      have HIT := Lib.hid (show ∀ x ∈ zs, RowIn B x.2 x.1.i.data ∧ x.1.i.data.length < 1000000 from fun x hx => by
        have hx2 := HMEM.out x (HZP.out.mem_iff.1 hx)
        exact ⟨HRI.out x hx2, HSM.out x hx2⟩)
      rw [← hzl] at hr ⊢
      have HLZ := Lib.hid (show zs.length ≤ 16 from by rw [hzl]; exact HLS.out)
      have HZE := Lib.hid (show zs.Perm (liveOf xs) from by rw [HLE.out]; exact HZP.out)
      clear HLS HLE HZP hzl
      generalize R' = R at *
      generalize zs = ls at *
      have HLS := HLZ
      have HR := Lib.hid hr
      obtain ⟨N, hN⟩ : ∃ N, N = ls.length := ⟨_, rfl⟩
      have HN := Lib.hid hN
      have hl1 : N ≤ 16 := by rw [hN]; exact HLS.out
      rw [← hN] at hr ⊢
      clear hN HLS HLZ HAV HSM HRI H1
      go_loopw [27, 6] (fun kv ov wr => ∃ (j : Nat) (ys : List (It × Value)) (R2 C : List Atom), kv = .int .i64 j ∧ j ≤ N ∧ ys.length = j ∧ ys.map Prod.fst = (ls.take j).map (fun x => x.1.i) ∧ RowA 77 3 ov ys.length (itsC ys) R2 ∧ ItsIn C ys ∧ Sat W wr (R2 ++ (C ++ (R ++ (cellsA b (ringC bp xs nx) 120 :: (B ++ L)))))) (fun kv _ _ => (N - (intOf kv).toNat))
      case atStart => exact ⟨0, [], [], [], rfl, Nat.zero_le _, rfl, rfl, RowA.nil _ _, (fun x hx => by cases hx), hs⟩
      case round =>
        clear hs
        obtain ⟨j, ys, R2, C, rfl, hj, hyl, hym, hr2, hyi, hs⟩ := hrel
        have HYI := Lib.hid hyi
        clear hyi
        have j0 : (0 : Int) ≤ j := by omega
        have HYM := Lib.hid hym
        have HYL := Lib.hid hyl
        clear hym hyl
        obtain ⟨ao, co, rfl⟩ := Ch.RowA.slice hr2
        by_cases hjn : j < N
        · have j1 : (j : Int) < N := by omega
          have j2 : (j : Int) < 1000000 := by omega
          obtain ⟨⟨⟨sl, sn, ⟨ss, sg, sd⟩⟩, v⟩, hx⟩ : ∃ x, ls[j]? = some x := ⟨_, List.getElem?_eq_getElem (by have := HN.out; omega)⟩
          obtain ⟨hri, hsd⟩ := HIT.out _ (List.mem_of_getElem? hx)
          simp only at hri hsd
          have hri2 := hri
          obtain ⟨va, vc, rfl⟩ := hri2.shape
          obtain ⟨gl, ol, kl, he, _, _, hR⟩ := Ch.RowA.some_of hr (by omega)
          obtain ⟨rfl, rfl⟩ : al = some ⟨gl, ol, none⟩ ∧ cl = kl := by cases he; exact ⟨rfl, rfl⟩
          have hsr := Sat.use (M := R ++ (R2 ++ (C ++ (cellsA b (ringC bp xs nx) 120 :: (B ++ L))))) hs (by intro x; simp only [cnt_append, cnt_cons, cnt_nil]; omega)
          have hc := fun f u (hu : (slCells ⟨sl, sn, ⟨ss, sg, sd⟩⟩ (.slice va sd.length vc))[f]? = some u) => (hr.cells hsr rfl (j * 5 + f) (List.getElem?_eq_some_iff.1 (slotsC_get hx f u hu)).1).1.trans (slotsC_get hx f u hu)
          have c0 : wr.cell? ⟨gl, ol + j * 5, none⟩ = some (.bool sl) := hc 0 _ rfl
          have c1 : wr.cell? ⟨gl, ol + j * 5 + 1, none⟩ = some (.int .i64 sn) := by rw [Nat.add_assoc]; exact hc 1 _ rfl
          have c2 : wr.cell? ⟨gl, ol + j * 5 + 2, none⟩ = some (.int .i64 ss) := by rw [Nat.add_assoc]; exact hc 2 _ rfl
          have c3 : wr.cell? ⟨gl, ol + j * 5 + 3, none⟩ = some (.int .i64 sg) := by rw [Nat.add_assoc]; exact hc 3 _ rfl
          have c4 : wr.cell? ⟨gl, ol + j * 5 + 4, none⟩ = some (.slice va sd.length vc) := by rw [Nat.add_assoc]; exact hc 4 _ rfl
          have hs1 := hs.newCells #[.bool sl, .int .i64 sn, .int .i64 ss, .int .i64 sg, .slice va sd.length vc] 117
          have hcl := clone_any (.slice va sd.length vc) sd W _ _ (hri.reads hs1 (fun x hx => .tail _ (List.mem_append_right _ (List.mem_append_right _ (List.mem_append_right _ (.tail _ (List.mem_append_left _ hx))))))) hsd hs1
          have htk : (ls.take (j + 1)).map (fun x => x.1.i) = (ls.take j).map (fun x => x.1.i) ++ [⟨ss, sg, sd⟩] := by
            rw [take_snoc hx, List.map_append]
            rfl
          have HTK := Lib.hid htk
          have HCL := Lib.hid hcl
          clear hcl hs hsr hs1 hx hc hri hri2 he hR htk
          go_wp2_with fail
          refine HCL.out.mono ?_; rintro r w3 ⟨v3, R3, rfl, hr3, hs3⟩
          have HR3 := Lib.hid hr3
          obtain ⟨a3, c3', rfl⟩ := Ch.RowA.slice hr3
          have HYI2 := Lib.hid (ItsIn.snoc (y := (⟨ss, sg, sd⟩, .slice a3 sd.length c3')) (HYI.out.mono (B' := R3 ++ C) fun x hx => List.mem_append_right _ hx) ⟨R3, HR3.out, fun x hx => List.mem_append_left _ hx⟩)
          generalize wr.heap.size = z8 at *
          have hs4 := Sat.use (M := cellsA z8 #[.bool sl, .int .i64 sn, .int .i64 ss, .int .i64 sg, .slice va sd.length vc] 117 :: (R3 ++ (R2 ++ (C ++ (R ++ (cellsA b (ringC bp xs nx) 120 :: (B ++ L))))))) hs3 (by intro x; simp only [cnt_append, cnt_cons, cnt_nil]; omega)
          have e4 := hs4.cell m0 4
          have f4 := hs4.free m0 4
          have hs5 := Sat.setCell hs4 4 (.slice a3 sd.length c3')
          simp only [List.setIfInBounds_toArray, List.set_cons_zero, List.set_cons_succ] at hs5
          clear hs3 hs4 c0 c1 c2 c3 c4 HCL
          go_upto_region 14 with fail
          refine with_sat hs5 ?_
          clear hs5 e4 f4
          intro w5 hs5
          have e2 : w5.cell? ⟨z8, 2, none⟩ = some (.int .i64 ss) := hs5.cell m0 2
          have e3 : w5.cell? ⟨z8, 3, none⟩ = some (.int .i64 sg) := hs5.cell m0 3
          have e4 : w5.cell? ⟨z8, 4, none⟩ = some (.slice a3 sd.length c3') := hs5.cell m0 4
          have hs6 := hs5.newCells #[.int .i64 ss, .int .i64 sg, .slice a3 sd.length c3'] 77
          have hsrc := reads_cells hs6 m0 1 1 [.int .i64 ss, .int .i64 sg, .slice a3 sd.length c3'] rfl
          have hs7 := Sat.use (M := R2 ++ ((R3 ++ C) ++ (R ++ (cellsA b (ringC bp xs nx) 120 :: (B ++ L))))) hs6 (by intro x; simp only [cnt_append, cnt_cons, cnt_nil]; omega)
          clear hs5 hs6
          go_wp2_with (at_builtin; go_loud (refine wpList_plain rfl (fun K hK => ?_); refine wp_append_g Tryz.underlying42 infoIt rfl (by decide) (by decide) rfl rfl rfl hr2 hs7 hsrc rfl (by intro u hu; simp at hu; rcases hu with rfl | rfl | rfl <;> rfl) (by have := HYL.out; omega) (fun v8 w8 R8 hr8 hs8 => ?_); refine hK _ _ ?_; simp only [Act.put, List.setIfInBounds_toArray, List.set_cons_zero, List.set_cons_succ]; clear hK))
          refine ⟨⟨j + 1, ys ++ [(⟨ss, sg, sd⟩, .slice a3 sd.length c3')], R8, R3 ++ C, by simp, by omega, by rw [List.length_append, HYL.out]; rfl, ?_, ?_, HYI2.out, hs8⟩, ?_⟩
          · rw [HTK.out, List.map_append, HYM.out]
            rfl
          · rw [itsC_append]
            simp only [List.length_append, List.length_cons, List.length_nil]
            exact hr8
          · simp [intOf]
            omega
        · have e : N = j := by omega
          subst e
          go_wp2_with fail
          go_ret
          refine ⟨_, ys, ls, R2, C ++ R, rfl, hr2, HZE.out, HZQ.out, ?_, HYI.out.mono (fun x hx => List.mem_append_left _ hx), hs.use (by intro x; simp only [cnt_append, cnt_cons, cnt_nil]; omega)⟩
          rw [HYM.out, HN.out, List.take_length]
end Go.Proofs.YtekbbpfnkbanjaaGreat.Ch

namespace Go.Proofs.YtekbbpfnkbanjaaGreat.Ch
set_option linter.unusedSimpArgs false
open Go Go.RowKit Go.Sl Go.BigFrame
set_option linter.unusedVariables false

set_option maxRecDepth 100000 in
set_option maxHeartbeats 4000000 in
theorem did_log_any (code : Int) (b : Nat) (n : Nd) (A : List Atom) (i : It) (ix : Int) (da : Option Addr) (dc : Nat) (W w : World) (L : List Atom) (hn : NodA b n A) (hs : Sat W w (A ++ L)) (hin : ∀ y, Sat W y L → Reads y (.slice da i.data.length dc) i.data.length (bts i.data))
    (hl : n.g.slots.length = 16) (hsm : ∀ x ∈ n.g.slots, x.i.data.length < 1000000) (hc : (code = 1 ∧ ¬ rightI i) ∨ (code = 0 ∧ rightI i ∧ ∃ x ∈ n.g.slots, x.live = true ∧ x.i = i) ∨ (code = 6 ∧ rightI i ∧ (¬ ∃ x ∈ n.g.slots, x.live = true ∧ x.i = i) ∧ (freeS n.g.slots 0 < 0 ∨ 281474976710655 < n.g.next))) :
    Calls Tryz.prog 32 #[.pointer (some ⟨b, 0, none⟩), .agg #[.int .i64 3, .int .i64 i.stripe, .int .i64 i.gen, .int .i64 ix, .slice da i.data.length dc]] w fun e w' => e = .returned (repV code 0 (.slice none 0 0) (.slice none 0 0)) ∧ Sat W w' (A ++ L) := by
  obtain ⟨bp, br, Aq, Ag, hq, ⟨xs, B, hxs, hrw, rfl⟩, rfl⟩ := hn
  obtain ⟨s, g, d⟩ := i
  simp only at hin ⊢
  obtain ⟨dn, hdn⟩ : ∃ dn, dn = d.length := ⟨_, rfl⟩
  have e0 : w.cell? ⟨b, 1, none⟩ = some (.pointer (some ⟨br, 0, none⟩)) := hs.cell m0 1
  have hbw : b < w.heap.size := hs.lt m0
  have hxl : xs.length = 16 := by have := congrArg List.length hxs; rw [List.length_map, hl] at this; exact this
  have hxm : ∀ x ∈ xs, x.1.i.data.length < 1000000 := fun x hx => hsm _ (by rw [← hxs]; exact List.mem_map.2 ⟨x, hx, rfl⟩)
  rw [← hdn]
  obtain ⟨i, hi⟩ : ∃ i : Int, i = ix := ⟨_, rfl⟩
  rw [← hi]
  have hsq := hs.newCells #[.int .i64 3, .int .i64 s, .int .i64 g, .int .i64 i, .slice da dn dc] 37
  have hsr := hsq.newCells #[.int .i64 0, .int .i64 0, .slice none 0 0, .slice none 0 0] 44
  have hsz : (w.alloc (.cells #[.int .i64 3, .int .i64 s, .int .i64 g, .int .i64 i, .slice da dn dc] 37)).heap.size = w.heap.size + 1 := by simp
  rw [hsz] at hsr
  clear hsz
  have hsv := Sat.drew (Sat.use (M := cellsA br (ringC bp xs n.g.next) 120 :: (B ++ (Aq ++ (cellsA (w.heap.size + 1) #[.int .i64 0, .int .i64 0, .slice none 0 0, .slice none 0 0] 44 :: (cellsA b #[.pointer (some ⟨bp, 0, none⟩), .pointer (some ⟨br, 0, none⟩), .int .i64 n.boot] 64 :: L))))) hsr (by intro x; simp only [cnt_append, cnt_cons, cnt_nil]; omega))
  have key : ∀ wv, Sat W wv (cellsA br (ringC bp xs n.g.next) 120 :: (B ++ (Aq ++ (cellsA (w.heap.size + 1) #[.int .i64 0, .int .i64 0, .slice none 0 0, .slice none 0 0] 44 :: (cellsA b #[.pointer (some ⟨bp, 0, none⟩), .pointer (some ⟨br, 0, none⟩), .int .i64 n.boot] 64 :: L))))) → Calls Tryz.prog 54 #[.pointer (some ⟨br, 0, none⟩), itV ⟨s, g, d⟩ (.slice da d.length dc)] wv fun e w' => e = .returned (.int .i64 code) ∧ Sat W w' (cellsA br (ringC bp xs n.g.next) 120 :: (B ++ (Aq ++ (cellsA (w.heap.size + 1) #[.int .i64 0, .int .i64 0, .slice none 0 0, .slice none 0 0] 44 :: (cellsA b #[.pointer (some ⟨bp, 0, none⟩), .pointer (some ⟨br, 0, none⟩), .int .i64 n.boot] 64 :: L))))) := by
    intro wv hsv
    rcases hc with ⟨rfl, hp⟩ | ⟨rfl, hp, hx⟩ | ⟨rfl, hp, hx, hf⟩
    · refine (log_bad br bp ⟨s, g, d⟩ da dc _ hp).mono ?_
      rintro e w' ⟨rfl, hx⟩
      exact ⟨rfl, hsv.below hx⟩
    · exact log_there br bp xs n.g.next B ⟨s, g, d⟩ da dc W _ Aq _ hrw hxl hxm hsv (fun y hy => hin y hy.tail.tail) hp ((liveIn_map xs _).2 (by rw [hxs]; exact hx))
    · exact log_full br bp xs n.g.next B ⟨s, g, d⟩ da dc W _ Aq _ hrw hxl hxm hsv (fun y hy => hin y hy.tail.tail) hp (fun h => hx (by rw [← hxs]; exact (liveIn_map xs _).1 h)) (by rw [freeI_map, hxs]; exact hf)
  have hlg := key _ hsv
  unfold itV at hlg
  simp only at hlg
  rw [← hdn] at hlg
  have HLG := Lib.hid hlg
  clear hs hsq hsr hlg key hin hdn hsm hl hxs hi hxm hxl hc hsv
  go_enter Tryz.func32, Tryz.ntmps32
  go_wp2_with fail
  refine wp_region_one [11, 13] [] [] [] [0, 1, 2, 3, 4, 5, 6, 7, 8, 9, 10, 11, 12, 13] (by kernel_rfl) (by kernel_rfl) ?_
  repeat (first | (refine can_pu1 rfl rfl rfl rfl rfl rfl (fun K hK => ?_); go_big_quiet_op; refine hK _ ?_; clear hK K) | (refine can_st1 rfl rfl rfl rfl rfl rfl (fun K hK => ?_); go_big_quiet_op; refine hK _ ?_; clear hK K) | (refine can_early1 rfl rfl rfl rfl rfl (fun K hK => ?_); go_big_quiet_op; refine hK _ ?_; clear hK K) | (refine can_skip rfl rfl rfl ?_; simp only [Act.put, List.setIfInBounds_toArray, List.set_cons_zero, List.set_cons_succ]))
  refine can_act1 rfl rfl rfl (fun K hK => ?_)
  go_wp2_with fail
  refine HLG.out.mono ?_; rintro r w2 ⟨rfl, hs2⟩
  apply hK
  clear hK HLG
  have hs3 := Sat.use (M := cellsA (w.heap.size + 1) #[.int .i64 0, .int .i64 0, .slice none 0 0, .slice none 0 0] 44 :: (cellsA b #[.pointer (some ⟨bp, 0, none⟩), .pointer (some ⟨br, 0, none⟩), .int .i64 n.boot] 64 :: (Aq ++ ((cellsA br (ringC bp xs n.g.next) 120 :: B) ++ L)))) hs2 (by intro x; simp only [cnt_append, cnt_cons, cnt_nil]; omega)
  clear hs2 e0
  have z0 : w2.cell? ⟨w.heap.size + 1, 0, none⟩ = some (.int .i64 0) := hs3.cell m0 0
  have z1 : w2.cell? ⟨w.heap.size + 1, 1, none⟩ = some (.int .i64 0) := hs3.cell m0 1
  have z2 : w2.cell? ⟨w.heap.size + 1, 2, none⟩ = some (.slice none 0 0) := hs3.cell m0 2
  have z3 : w2.cell? ⟨w.heap.size + 1, 3, none⟩ = some (.slice none 0 0) := hs3.cell m0 3
  have f0 := hs3.free m0 0
  have f1 := hs3.free m0 1
  have f2 := hs3.free m0 2
  have f3 := hs3.free m0 3
  have hz := Sat.setCell (Sat.setCell (Sat.setCell (Sat.setCell hs3 0 (.int .i64 code)) 1 (.int .i64 0)) 2 (.slice none 0 0)) 3 (.slice none 0 0)
  repeat (first | (refine can_pu1 rfl rfl rfl rfl rfl rfl (fun K hK => ?_); go_big_quiet_op; refine hK _ ?_; clear hK K) | (refine can_st1 rfl rfl rfl rfl rfl rfl (fun K hK => ?_); go_big_quiet_op; refine hK _ ?_; clear hK K) | (refine can_early1 rfl rfl rfl rfl rfl (fun K hK => ?_); go_big_quiet_op; refine hK _ ?_; clear hK K) | (refine can_skip rfl rfl rfl ?_; simp only [Act.put, List.setIfInBounds_toArray, List.set_cons_zero, List.set_cons_succ]))
  refine can_act1 rfl rfl rfl (fun K hK => ?_)
  go_wp2_with fail
  refine can_end1 ?_; (try simp only [Exit.then])
  go_wp2_with fail
  refine bodyPost_ret (v := repV code 0 (.slice none 0 0) (.slice none 0 0)) (by simp [results, Tryz.results32, go_sem, repV, *]) rfl ?_
  exact ⟨rfl, hz.tail.use (by intro x; simp only [cnt_append, cnt_cons, cnt_nil]; omega)⟩

theorem do_log_any (code : Int) (b : Nat) (n : Nd) (A : List Atom) (i : It) (ix : Int) (da : Option Addr) (dc : Nat) (W w : World) (L : List Atom) (hn : NodA b n A) (hs : Sat W w (A ++ L)) (hin : ∀ y, Sat W y L → Reads y (.slice da i.data.length dc) i.data.length (bts i.data))
    (hl : n.g.slots.length = 16) (hsm : ∀ x ∈ n.g.slots, x.i.data.length < 1000000) (hc : (code = 1 ∧ ¬ rightI i) ∨ (code = 0 ∧ rightI i ∧ ∃ x ∈ n.g.slots, x.live = true ∧ x.i = i) ∨ (code = 6 ∧ rightI i ∧ (¬ ∃ x ∈ n.g.slots, x.live = true ∧ x.i = i) ∧ (freeS n.g.slots 0 < 0 ∨ 281474976710655 < n.g.next))) :
    Calls Tryz.prog 14 #[.pointer (some ⟨b, 0, none⟩), .agg #[.int .i64 3, .int .i64 i.stripe, .int .i64 i.gen, .int .i64 ix, .slice da i.data.length dc]] w fun e w' => ∃ A', e = .returned (repV code n.boot (.slice none 0 0) (.slice none 0 0)) ∧ NodA b n A' ∧ Sat W w' (A' ++ L) := by
  refine (do_of (T := fun cd pv iv n' R => cd = code ∧ pv = .slice none 0 0 ∧ iv = .slice none 0 0 ∧ n' = n ∧ R = []) b A 3 i.stripe i.gen ix da i.data.length dc W w L hs (fun M w hM hs => ?_)).mono ?_
  · refine (did_log_any code b n A i ix da dc W w M hn hs (fun y hy => hin y (hM y hy)) hl hsm hc).mono ?_
    rintro e w' ⟨rfl, hs'⟩
    exact ⟨code, none, 0, 0, none, 0, 0, n, A, [], rfl, ⟨rfl, rfl, rfl, rfl, rfl⟩, hn, hs'⟩
  · rintro e w' ⟨cd, pa, pn, pc, ia, im, ic, n', A', R, rfl, ⟨rfl, h1, h2, rfl, rfl⟩, hA', hs'⟩
    rw [h1, h2]
    exact ⟨A', rfl, hA', hs'⟩

/-- What Live answers: the intents ys, of the live slots zs by their numbers. -/
def LiveY (ss : List Sl5) (ys : List (It × Value)) (C : List Atom) : Prop := ∃ zs : List Sl5, zs.Perm (liveS ss) ∧ zs.Pairwise (fun x y => x.num ≤ y.num) ∧ ys.map Prod.fst = zs.map (·.i) ∧ ItsIn C ys
theorem live_node (b bp : Nat) (g : Rg) (A : List Atom) (W w : World) (L : List Atom) (hg : RgA b bp g A) (hs : Sat W w (A ++ L)) (hl : g.slots.length = 16) (hsm : ∀ x ∈ g.slots, x.i.data.length < 1000000 ∧ 0 ≤ x.num ∧ x.num ≤ 281474976710656) :
    Calls Tryz.prog 56 #[.pointer (some ⟨b, 0, none⟩)] w fun e w' => ∃ v ys R C, e = .returned v ∧ RowA 77 3 v ys.length (itsC ys) R ∧ LiveY g.slots ys C ∧ Sat W w' (R ++ (C ++ (A ++ L))) := by
  obtain ⟨xs, B, hxs, hrw, rfl⟩ := hg
  have hxl : xs.length = 16 := by have := congrArg List.length hxs; rw [List.length_map, hl] at this; exact this
  refine (live_any b bp xs g.next B W w L hrw hxl (fun x hx => (hsm _ (by rw [← hxs]; exact List.mem_map.2 ⟨x, hx, rfl⟩)).1) (fun x hx => (hsm _ (by rw [← hxs]; exact List.mem_map.2 ⟨x, hx, rfl⟩)).2) (hs.use (by intro x; simp only [cnt_append, cnt_cons, cnt_nil]; omega))).mono ?_
  rintro e w' ⟨v, ys, zs, R, C, rfl, hr, hp, hq, hy, hi, hs'⟩
  refine ⟨v, ys, R, C, rfl, hr, ⟨zs.map Prod.fst, ?_, ?_, ?_, hi⟩, hs'.use (by intro x; simp only [cnt_append, cnt_cons, cnt_nil]; omega)⟩
  · have h := hp.map Prod.fst
    rw [liveOf_map, hxs] at h
    exact h
  · rw [List.pairwise_map]; exact hq
  · rw [hy, List.map_map]; rfl

set_option maxRecDepth 100000 in
set_option maxHeartbeats 4000000 in
theorem did_live_any (b : Nat) (n : Nd) (A : List Atom) (s g i : Int) (da : Option Addr) (dn dc : Nat) (W w : World) (L : List Atom) (hn : NodA b n A) (hs : Sat W w (A ++ L)) (hl : n.g.slots.length = 16) (hsm : ∀ x ∈ n.g.slots, x.i.data.length < 1000000 ∧ 0 ≤ x.num ∧ x.num ≤ 281474976710656) :
    Calls Tryz.prog 32 #[.pointer (some ⟨b, 0, none⟩), .agg #[.int .i64 5, .int .i64 s, .int .i64 g, .int .i64 i, .slice da dn dc]] w fun e w' => ∃ ia ic ys R C, e = .returned (repV 0 0 (.slice none 0 0) (.slice ia ys.length ic)) ∧ RowA 77 3 (.slice ia ys.length ic) ys.length (itsC ys) R ∧ LiveY n.g.slots ys C ∧ Sat W w' (A ++ ((R ++ C) ++ L)) := by
  obtain ⟨bp, br, Aq, Ag, hq, hg, rfl⟩ := hn
  have e0 : w.cell? ⟨b, 1, none⟩ = some (.pointer (some ⟨br, 0, none⟩)) := hs.cell m0 1
  have hbw : b < w.heap.size := hs.lt m0
  have hsq := hs.newCells #[.int .i64 5, .int .i64 s, .int .i64 g, .int .i64 i, .slice da dn dc] 37
  have hsr := hsq.newCells #[.int .i64 0, .int .i64 0, .slice none 0 0, .slice none 0 0] 44
  have hsz : (w.alloc (.cells #[.int .i64 5, .int .i64 s, .int .i64 g, .int .i64 i, .slice da dn dc] 37)).heap.size = w.heap.size + 1 := by simp
  rw [hsz] at hsr
  clear hsz
  have hlg := live_node br bp n.g Ag W _ (cellsA (w.heap.size + 1) #[.int .i64 0, .int .i64 0, .slice none 0 0, .slice none 0 0] 44 :: (cellsA b #[.pointer (some ⟨bp, 0, none⟩), .pointer (some ⟨br, 0, none⟩), .int .i64 n.boot] 64 :: (Aq ++ L))) hg (hsr.use (by intro x; simp only [cnt_append, cnt_cons, cnt_nil]; omega)) hl hsm
  have HLG := Lib.hid hlg
  clear hs hsq hsr hlg hsm hl
  go_enter Tryz.func32, Tryz.ntmps32
  go_wp2_with fail
  refine HLG.out.mono ?_; rintro r w2 ⟨v, ys, R, C, rfl, hr, hy, hs2⟩
  have HR := Lib.hid hr
  obtain ⟨N, hN⟩ : ∃ N, N = ys.length := ⟨_, rfl⟩
  have hr1 := hr
  rw [← hN] at hr1
  obtain ⟨ia, ic, rfl⟩ := Ch.RowA.slice hr1
  have HN := Lib.hid hN
  clear hN hr hr1
  have hs3 := Sat.use (M := cellsA (w.heap.size + 1) #[.int .i64 0, .int .i64 0, .slice none 0 0, .slice none 0 0] 44 :: (cellsA b #[.pointer (some ⟨bp, 0, none⟩), .pointer (some ⟨br, 0, none⟩), .int .i64 n.boot] 64 :: (Aq ++ (Ag ++ ((R ++ C) ++ L))))) hs2 (by intro x; simp only [cnt_append, cnt_cons, cnt_nil]; omega)
  clear hs2 e0 HLG
  have z0 : w2.cell? ⟨w.heap.size + 1, 0, none⟩ = some (.int .i64 0) := hs3.cell m0 0
  have z1 : w2.cell? ⟨w.heap.size + 1, 1, none⟩ = some (.int .i64 0) := hs3.cell m0 1
  have z2 : w2.cell? ⟨w.heap.size + 1, 2, none⟩ = some (.slice none 0 0) := hs3.cell m0 2
  have z3 : w2.cell? ⟨w.heap.size + 1, 3, none⟩ = some (.slice none 0 0) := hs3.cell m0 3
  have f0 := hs3.free m0 0
  have f1 := hs3.free m0 1
  have f2 := hs3.free m0 2
  have f3 := hs3.free m0 3
  have hz := Sat.setCell (Sat.setCell (Sat.setCell (Sat.setCell hs3 0 (.int .i64 0)) 1 (.int .i64 0)) 2 (.slice none 0 0)) 3 (.slice ia N ic)
  go_wp2_with fail
  refine bodyPost_ret (v := repV 0 0 (.slice none 0 0) (.slice ia N ic)) (by simp [results, Tryz.results32, go_sem, repV, *]) rfl ?_
  have h := HR.out
  have e := HN.out
  subst e
  exact ⟨ia, ic, ys, R, C, rfl, h, hy, hz.tail.use (by intro x; simp only [cnt_append, cnt_cons, cnt_nil]; omega)⟩

theorem do_live_any (b : Nat) (n : Nd) (A : List Atom) (s g i : Int) (da : Option Addr) (dn dc : Nat) (W w : World) (L : List Atom) (hn : NodA b n A) (hs : Sat W w (A ++ L)) (hl : n.g.slots.length = 16) (hsm : ∀ x ∈ n.g.slots, x.i.data.length < 1000000 ∧ 0 ≤ x.num ∧ x.num ≤ 281474976710656) :
    Calls Tryz.prog 14 #[.pointer (some ⟨b, 0, none⟩), .agg #[.int .i64 5, .int .i64 s, .int .i64 g, .int .i64 i, .slice da dn dc]] w fun e w' => ∃ A' ia ic ys R C, e = .returned (repV 0 n.boot (.slice none 0 0) (.slice ia ys.length ic)) ∧ RowA 77 3 (.slice ia ys.length ic) ys.length (itsC ys) R ∧ LiveY n.g.slots ys C ∧ NodA b n A' ∧ Sat W w' (A' ++ (R ++ (C ++ L))) := by
  refine (do_of (T := fun code pv iv n' RR => code = 0 ∧ pv = .slice none 0 0 ∧ (∃ ia ic ys R C, iv = .slice ia ys.length ic ∧ RowA 77 3 (.slice ia ys.length ic) ys.length (itsC ys) R ∧ LiveY n.g.slots ys C ∧ RR = R ++ C) ∧ n' = n) b A 5 s g i da dn dc W w L hs (fun M w hM hs => ?_)).mono ?_
  · refine (did_live_any b n A s g i da dn dc W w M hn hs hl hsm).mono ?_
    rintro e w' ⟨ia, ic, ys, R, C, rfl, hr, hy, hs'⟩
    exact ⟨0, none, 0, 0, ia, ys.length, ic, n, A, R ++ C, rfl, ⟨rfl, rfl, ⟨ia, ic, ys, R, C, rfl, hr, hy, rfl⟩, rfl⟩, hn, hs'⟩
  · rintro e w' ⟨code, pa, pn, pc, ia, im, ic, n', A', R, rfl, ⟨rfl, h1, ⟨ia', ic', ys, R1, C, h2, hr, hy, rfl⟩, rfl⟩, hA', hs'⟩
    rw [h1, h2]
    exact ⟨A', ia', ic', ys, R1, C, rfl, hr, hy, hA', hs'.use (by intro x; simp only [cnt_append, cnt_cons, cnt_nil]; omega)⟩
end Go.Proofs.YtekbbpfnkbanjaaGreat.Ch

namespace Go.Proofs.YtekbbpfnkbanjaaGreat.Ch
set_option linter.unusedSimpArgs false
open Go Go.RowKit Go.Sl Go.BigFrame
set_option linter.unusedVariables false

/-- A request. -/
structure Rq where
  kind : Int
  stripe : Int
  gen : Int
  index : Int
  data : List UInt8
def rqV (q : Rq) (v : Value) : Value := .agg #[.int .i64 q.kind, .int .i64 q.stripe, .int .i64 q.gen, .int .i64 q.index, v]
def Rq.pc (q : Rq) : Pc := ⟨q.stripe, q.gen, q.index, q.data⟩
def Rq.it (q : Rq) : It := ⟨q.stripe, q.gen, q.data⟩
/-- A reply, but for its boot. -/
structure Rp where
  code : Int
  pcs : List Pc
  its : List It
def RepA (pv iv : Value) (p : Rp) (R : List Atom) : Prop :=
  ∃ pa pc xs R1 B ia ic ys R2 C, pv = .slice pa xs.length pc ∧ RowA 72 4 (.slice pa xs.length pc) xs.length (pcsC xs) R1 ∧ xs.map Prod.fst = p.pcs ∧ PcBl B xs ∧
    iv = .slice ia ys.length ic ∧ RowA 77 3 (.slice ia ys.length ic) ys.length (itsC ys) R2 ∧ ys.map Prod.fst = p.its ∧ ItsIn C ys ∧ R = (R1 ++ B) ++ (R2 ++ C)
theorem RepA.nil0 (code : Int) : RepA (.slice none 0 0) (.slice none 0 0) ⟨code, [], []⟩ [] :=
  ⟨none, 0, [], [], [], none, 0, [], [], [], rfl, RowA.nil _ _, rfl, (fun x hx => by cases hx), rfl, RowA.nil _ _, rfl, (fun x hx => by cases hx), rfl⟩
theorem RepA.shape {pv iv : Value} {p : Rp} {R : List Atom} (h : RepA pv iv p R) : ∃ pa pn pc ia im ic, pv = .slice pa pn pc ∧ iv = .slice ia im ic := by
  obtain ⟨pa, pc, xs, R1, B, ia, ic, ys, R2, C, h1, _, _, _, h2, _⟩ := h
  exact ⟨_, _, _, _, _, _, h1, h2⟩
/-- The live intents by their numbers. -/
def LiveR (ss : List Sl5) (is : List It) : Prop := ∃ zs : List Sl5, zs.Perm (liveS ss) ∧ zs.Pairwise (fun x y => x.num ≤ y.num) ∧ is = zs.map (·.i)
def hasI (ss : List Sl5) (i : It) : Prop := ∃ x ∈ ss, x.live = true ∧ x.i = i
/-- What Log does. -/
def LogR (i : It) (n n' : Nd) (code : Int) : Prop :=
  (¬ rightI i ∧ code = 1 ∧ n' = n) ∨ (rightI i ∧ hasI n.g.slots i ∧ code = 0 ∧ n' = n) ∨
  (rightI i ∧ ¬ hasI n.g.slots i ∧ (freeS n.g.slots 0 < 0 ∨ 281474976710655 < n.g.next) ∧ code = 6 ∧ n' = n) ∨
  (rightI i ∧ ¬ hasI n.g.slots i ∧ n.g.next ≤ 281474976710655 ∧ code = 0 ∧ ∃ k : Nat, k < 16 ∧ freeS n.g.slots 0 = k ∧ n' = ⟨n.q.wr (80 + k) (layI n.g.next i), ⟨n.g.slots.set k ⟨true, n.g.next, i⟩, n.g.next + 1⟩, n.boot⟩)
/-- What Do does. -/
def DoR (q : Rq) (n n' : Nd) (p : Rp) : Prop :=
  (q.kind = 1 ∧ n' = n ∧ ((0 ≤ q.stripe ∧ q.stripe < 40 ∧ p = ⟨0, getL n.q q.stripe, []⟩) ∨ ((q.stripe < 0 ∨ 40 ≤ q.stripe) ∧ p = ⟨1, [], []⟩))) ∨
  (q.kind = 2 ∧ ((rightP q.pc ∧ n' = ⟨n.q.wr (placeN q.stripe q.gen) (layB q.pc), n.g, n.boot⟩ ∧ p = ⟨0, [], []⟩) ∨ (¬ rightP q.pc ∧ n' = n ∧ p = ⟨1, [], []⟩))) ∨
  (q.kind = 3 ∧ ∃ code, LogR q.it n n' code ∧ p = ⟨code, [], []⟩) ∨
  (q.kind = 4 ∧ n' = ⟨n.q.fl, n.g, n.boot⟩ ∧ p = ⟨0, [], []⟩) ∨
  (q.kind = 5 ∧ n' = n ∧ ∃ is, LiveR n.g.slots is ∧ p = ⟨0, [], is⟩) ∨
  (q.kind = 6 ∧ n' = ⟨n.q, ⟨relS n.g.slots q.stripe q.gen, n.g.next⟩, n.boot⟩ ∧ p = ⟨0, [], []⟩) ∨
  ((q.kind < 1 ∨ 6 < q.kind) ∧ n' = n ∧ p = ⟨1, [], []⟩)

def SlOk (s : Sl5) : Prop := s = sl0 ∨ (s.live = true ∧ 1 ≤ s.num ∧ s.num < 281474976710656 ∧ rightI s.i)
theorem SlOk.zero : SlOk sl0 := .inl rfl
theorem SlOk.len {s : Sl5} (h : SlOk s) : s.i.data.length < 1000000 ∧ 0 ≤ s.num ∧ s.num ≤ 281474976710656 := by
  rcases h with rfl | ⟨_, h1, h2, h3⟩
  · exact ⟨by decide, by decide, by decide⟩
  · obtain ⟨_, _, _, _, h7⟩ := h3
    omega
theorem SlOk.read (b : List UInt8) : SlOk (readI b) := by
  have hb := readI_num b
  unfold readI at hb ⊢
  split
  · split
    · rename_i h1 h2
      rw [if_pos h1, if_pos h2] at hb
      exact .inr ⟨rfl, by have := h2.1; show 1 ≤ numB _; omega, hb.2, h2.2⟩
    · exact .inl rfl
  · exact .inl rfl
structure NdFit (n : Nd) (m : Nat) : Prop where
  ok : NdOk n m
  slen : n.g.slots.length = 16
  sok : ∀ s ∈ n.g.slots, SlOk s
  n0 : 1 ≤ n.g.next
  n1 : n.g.next ≤ 281474976710656
theorem NdFit.mono {n : Nd} {i j : Nat} (h : NdFit n i) (hij : i ≤ j) : NdFit n j := ⟨h.ok.mono hij, h.slen, h.sok, h.n0, h.n1⟩
theorem opSl_ok (q : Pt) : ∀ k, ∀ s ∈ opSl q k, SlOk s
  | 0, s, h => by rw [opSl] at h; rw [(List.mem_replicate.1 h).2]; exact .inl rfl
  | k + 1, s, h => by
    rw [opSl] at h
    rcases List.mem_or_eq_of_mem_set h with h | h
    · exact opSl_ok q k s h
    · rw [h]; exact SlOk.read _
theorem fit_k (q : Pt) (k : Nat) : (⟨opSl q k, opNx q k⟩ : Rg).slots.length = 16 ∧ (∀ s ∈ (⟨opSl q k, opNx q k⟩ : Rg).slots, SlOk s) ∧ 1 ≤ (⟨opSl q k, opNx q k⟩ : Rg).next ∧ (⟨opSl q k, opNx q k⟩ : Rg).next ≤ 281474976710656 :=
  ⟨opSl_length q k, opSl_ok q k, (opNx_bounds q k).1, (opNx_bounds q k).2⟩
theorem open_fit (q : Pt) : (openRg q).slots.length = 16 ∧ (∀ s ∈ (openRg q).slots, SlOk s) ∧ 1 ≤ (openRg q).next ∧ (openRg q).next ≤ 281474976710656 := fit_k q 16
theorem NdFit.start : NdFit nd0 0 := ⟨NdOk.start, (open_fit _).1, (open_fit _).2.1, (open_fit _).2.2.1, (open_fit _).2.2.2⟩
theorem NdFit.crash {n : Nd} {i : Nat} (h : NdFit n i) (keep : List Int) : NdFit (n.crash keep) (i + 1) := ⟨h.ok.crash keep, (open_fit _).1, (open_fit _).2.1, (open_fit _).2.2.1, (open_fit _).2.2.2⟩
theorem NdFit.lose {n : Nd} {i : Nat} (h : NdFit n i) : NdFit n.lose (i + 1) := ⟨h.ok.lose, (open_fit _).1, (open_fit _).2.1, (open_fit _).2.2.1, (open_fit _).2.2.2⟩
theorem layB_small (p : Pc) (h : rightP p) : (layB p).length < 1000000 := by
  have := layB_length p h.2.2.2.2.2.2
  omega
theorem relS_ok {ss : List Sl5} (h : ∀ s ∈ ss, SlOk s) (s g : Int) : ∀ x ∈ relS ss s g, SlOk x := fun x hx => by
  obtain ⟨y, hy, rfl⟩ := List.mem_map.1 hx
  split
  · exact .inl rfl
  · exact h y hy
theorem LogR.fit {i : It} {n n' : Nd} {code : Int} {m : Nat} (h : LogR i n n' code) (hf : NdFit n m) : NdFit n' (m + 1) := by
  rcases h with ⟨_, _, rfl⟩ | ⟨_, _, _, rfl⟩ | ⟨_, _, _, _, rfl⟩ | ⟨hp, _, hx, _, k, hk, _, rfl⟩
  · exact hf.mono (by omega)
  · exact hf.mono (by omega)
  · exact hf.mono (by omega)
  · refine ⟨?_, by rw [List.length_set]; exact hf.slen, ?_, by have := hf.n0; show 1 ≤ n.g.next + 1; omega, by show n.g.next + 1 ≤ _; omega⟩
    · have h := hf.ok.wr (80 + k) (layI n.g.next i) (by omega) (by rw [layI_length _ _ hp.2.2.2.2]; decide)
      exact ⟨h.len, h.dlen, h.small, h.dsmall, h.pend, h.pok, h.w0, h.w1, h.b0, h.b1⟩
    · intro s hs
      rcases List.mem_or_eq_of_mem_set hs with h | h
      · exact hf.sok s h
      · rw [h]; exact .inr ⟨rfl, hf.n0, by show n.g.next < _; omega, hp⟩
theorem DoR.fit {q : Rq} {n n' : Nd} {p : Rp} {m : Nat} (h : DoR q n n' p) (hf : NdFit n m) : NdFit n' (m + 1) := by
  have same : NdFit n (m + 1) := hf.mono (by omega)
  rcases h with ⟨_, rfl, _⟩ | ⟨_, ⟨hp, rfl, _⟩ | ⟨_, rfl, _⟩⟩ | ⟨_, code, hl, _⟩ | ⟨_, rfl, _⟩ | ⟨_, rfl, _⟩ | ⟨_, rfl, _⟩ | ⟨_, rfl, _⟩
  · exact same
  · have hb := placeI_bounds q.stripe q.gen hp.1 hp.2.1
    exact ⟨hf.ok.wr _ _ (by unfold placeN; omega) (layB_small _ hp), hf.slen, hf.sok, hf.n0, hf.n1⟩
  · exact same
  · exact hl.fit hf
  · exact ⟨hf.ok.fl.mono (by omega), hf.slen, hf.sok, hf.n0, hf.n1⟩
  · exact same
  · exact ⟨⟨hf.ok.len, hf.ok.dlen, hf.ok.small, hf.ok.dsmall, by have := hf.ok.pend; show n.q.pend.length ≤ m + 1; omega, hf.ok.pok, hf.ok.w0, by have := hf.ok.w1; show n.q.writes ≤ _; omega, hf.ok.b0, by have := hf.ok.b1; show n.boot ≤ _; omega⟩, by show (relS _ _ _).length = 16; unfold relS; rw [List.length_map]; exact hf.slen, relS_ok hf.sok _ _, hf.n0, hf.n1⟩
  · exact same
theorem freeS_bounds : ∀ (ss : List Sl5) (k : Int), 0 ≤ k → freeS ss k < 0 ∨ (k ≤ freeS ss k ∧ freeS ss k < k + ss.length)
  | [], k, h => .inl (by unfold freeS; omega)
  | s :: ss, k, h => by
    unfold freeS
    split
    · rcases freeS_bounds ss (k + 1) (by omega) with h1 | h1
      · exact .inl h1
      · exact .inr (by simp only [List.length_cons]; omega)
    · exact .inr (by simp only [List.length_cons]; omega)

set_option maxHeartbeats 1000000 in
theorem do_any (b m : Nat) (n : Nd) (A : List Atom) (q : Rq) (da : Option Addr) (dc : Nat) (W w : World) (L : List Atom) (hn : NodA b n A) (hs : Sat W w (A ++ L)) (hin : ∀ y, Sat W y L → Reads y (.slice da q.data.length dc) q.data.length (bts q.data)) (hf : NdFit n m) (hm : m < 900000) :
    Calls Tryz.prog 14 #[.pointer (some ⟨b, 0, none⟩), rqV q (.slice da q.data.length dc)] w fun e w' => ∃ n' p pv iv A' R, e = .returned (repV p.code n.boot pv iv) ∧ DoR q n n' p ∧ RepA pv iv p R ∧ NodA b n' A' ∧ Sat W w' (A' ++ (R ++ L)) := by
  obtain ⟨k, s, g, i, d⟩ := q
  unfold rqV
  simp only at hin ⊢
  have hsl := fun x hx => (hf.sok x hx).len
  by_cases h1 : k = 1
  · subst h1
    by_cases hk : 0 ≤ s ∧ s < 40
    · refine (do_get b m n A s g i da d.length dc W w L hn hs hk.1 hk.2 hf.ok).mono ?_
      rintro e w' ⟨pa, pc, xs, R, B, A', rfl, hr, hx, hb, hA', hs'⟩
      exact ⟨n, ⟨0, getL n.q s, []⟩, _, _, A', (R ++ B) ++ ([] ++ []), rfl, .inl ⟨rfl, rfl, .inl ⟨hk.1, hk.2, rfl⟩⟩, ⟨pa, pc, xs, R, B, none, 0, [], [], [], rfl, hr, hx, hb, rfl, RowA.nil _ _, rfl, (fun x hx => by cases hx), rfl⟩, hA', hs'.use (by intro x; simp only [cnt_append, cnt_cons, cnt_nil]; omega)⟩
    · refine (do_get_out b n A s g i da d.length dc W w L hn hs (by omega)).mono ?_
      rintro e w' ⟨A', rfl, hA', hs'⟩
      exact ⟨n, ⟨1, [], []⟩, _, _, A', [], rfl, .inl ⟨rfl, rfl, .inr ⟨by show s < 0 ∨ 40 ≤ s; omega, rfl⟩⟩, RepA.nil0 _, hA', hs'⟩
  by_cases h2 : k = 2
  · subst h2
    by_cases hp : rightP ⟨s, g, i, d⟩
    · refine (do_put b m n A ⟨s, g, i, d⟩ da dc W w L hn hs hin hp hf.ok hm).mono ?_
      rintro e w' ⟨A', rfl, hA', hs'⟩
      exact ⟨_, ⟨0, [], []⟩, _, _, A', [], rfl, .inr (.inl ⟨rfl, .inl ⟨hp, rfl, rfl⟩⟩), RepA.nil0 _, hA', hs'⟩
    · refine (do_put_bad b n A ⟨s, g, i, d⟩ da dc W w L hn hs hp).mono ?_
      rintro e w' ⟨A', rfl, hA', hs'⟩
      exact ⟨_, ⟨1, [], []⟩, _, _, A', [], rfl, .inr (.inl ⟨rfl, .inr ⟨hp, rfl, rfl⟩⟩), RepA.nil0 _, hA', hs'⟩
  by_cases h3 : k = 3
  · subst h3
    by_cases hp : rightI ⟨s, g, d⟩
    · by_cases hh : hasI n.g.slots ⟨s, g, d⟩
      · refine (do_log_any 0 b n A ⟨s, g, d⟩ i da dc W w L hn hs hin hf.slen (fun x hx => (hsl x hx).1) (.inr (.inl ⟨rfl, hp, hh⟩))).mono ?_
        rintro e w' ⟨A', rfl, hA', hs'⟩
        exact ⟨n, ⟨0, [], []⟩, _, _, A', [], rfl, .inr (.inr (.inl ⟨rfl, 0, .inr (.inl ⟨hp, hh, rfl, rfl⟩), rfl⟩)), RepA.nil0 _, hA', hs'⟩
      · by_cases hx : freeS n.g.slots 0 < 0 ∨ 281474976710655 < n.g.next
        · refine (do_log_any 6 b n A ⟨s, g, d⟩ i da dc W w L hn hs hin hf.slen (fun x hx => (hsl x hx).1) (.inr (.inr ⟨rfl, hp, hh, hx⟩))).mono ?_
          rintro e w' ⟨A', rfl, hA', hs'⟩
          exact ⟨n, ⟨6, [], []⟩, _, _, A', [], rfl, .inr (.inr (.inl ⟨rfl, 6, .inr (.inr (.inl ⟨hp, hh, hx, rfl, rfl⟩)), rfl⟩)), RepA.nil0 _, hA', hs'⟩
        · obtain ⟨c, hc⟩ : ∃ c : Nat, freeS n.g.slots 0 = c := ⟨(freeS n.g.slots 0).toNat, by omega⟩
          have hb := freeS_bounds n.g.slots 0 (by omega)
          have hc16 : c < 16 := by have := hf.slen; omega
          refine (do_log_ok b c m n A ⟨s, g, d⟩ i da dc W w L hn hs hin hp hf.slen (fun x hx => (hsl x hx).1) hh hc hc16 (by have := hf.n0; omega) (by omega) hf.ok hm).mono ?_
          rintro e w' ⟨A', rfl, hA', hs'⟩
          exact ⟨_, ⟨0, [], []⟩, _, _, A', [], rfl, .inr (.inr (.inl ⟨rfl, 0, .inr (.inr (.inr ⟨hp, hh, by omega, rfl, c, hc16, hc, rfl⟩)), rfl⟩)), RepA.nil0 _, hA', hs'⟩
    · refine (do_log_any 1 b n A ⟨s, g, d⟩ i da dc W w L hn hs hin hf.slen (fun x hx => (hsl x hx).1) (.inl ⟨rfl, hp⟩)).mono ?_
      rintro e w' ⟨A', rfl, hA', hs'⟩
      exact ⟨n, ⟨1, [], []⟩, _, _, A', [], rfl, .inr (.inr (.inl ⟨rfl, 1, .inl ⟨hp, rfl, rfl⟩, rfl⟩)), RepA.nil0 _, hA', hs'⟩
  by_cases h4 : k = 4
  · subst h4
    refine (do_flush b m n A s g i da d.length dc W w L hn hs hf.ok).mono ?_
    rintro e w' ⟨A', rfl, hA', hs'⟩
    exact ⟨_, ⟨0, [], []⟩, _, _, A', [], rfl, .inr (.inr (.inr (.inl ⟨rfl, rfl, rfl⟩))), RepA.nil0 _, hA', hs'⟩
  by_cases h5 : k = 5
  · subst h5
    refine (do_live_any b n A s g i da d.length dc W w L hn hs hf.slen hsl).mono ?_
    rintro e w' ⟨A', ia, ic, ys, R, C, rfl, hr, ⟨zs, hp, hq, hy, hi⟩, hA', hs'⟩
    exact ⟨n, ⟨0, [], ys.map Prod.fst⟩, _, _, A', ([] ++ []) ++ (R ++ C), rfl, .inr (.inr (.inr (.inr (.inl ⟨rfl, rfl, _, ⟨zs, hp, hq, hy⟩, rfl⟩)))), ⟨none, 0, [], [], [], ia, ic, ys, R, C, rfl, RowA.nil _ _, rfl, (fun x hx => by cases hx), rfl, hr, rfl, hi, rfl⟩, hA', hs'.use (by intro x; simp only [cnt_append, cnt_cons, cnt_nil]; omega)⟩
  by_cases h6 : k = 6
  · subst h6
    refine (do_rel b n A s g i da d.length dc W w L hn hs hf.slen).mono ?_
    rintro e w' ⟨A', rfl, hA', hs'⟩
    exact ⟨_, ⟨0, [], []⟩, _, _, A', [], rfl, .inr (.inr (.inr (.inr (.inr (.inl ⟨rfl, rfl, rfl⟩))))), RepA.nil0 _, hA', hs'⟩
  · refine (do_none b n A k s g i da d.length dc W w L hn hs (by omega)).mono ?_
    rintro e w' ⟨A', rfl, hA', hs'⟩
    exact ⟨n, ⟨1, [], []⟩, _, _, A', [], rfl, .inr (.inr (.inr (.inr (.inr (.inr ⟨by show k < 1 ∨ 6 < k; omega, rfl, rfl⟩))))), RepA.nil0 _, hA', hs'⟩
end Go.Proofs.YtekbbpfnkbanjaaGreat.Ch
