/-
  intent.read.
-/
import Derived.Test.YtdkhgkkdnjejmaaNdA
namespace Go.Proofs.Ytdkhgkkdnjejmaa.Ch
set_option linter.unusedSimpArgs false
open Go Go.RowKit Go.Sl Go.BigFrame
set_option linter.unusedVariables false

/-- A slot of the ring. -/
structure Sl5 where
  live : Bool
  num : Int
  i : It
def sl0 : Sl5 := ⟨false, 0, ⟨0, 0, []⟩⟩
def slV (s : Sl5) (v : Value) : Value := .agg #[.bool s.live, .int .i64 s.num, .int .i64 s.i.stripe, .int .i64 s.i.gen, v]
def slCells (s : Sl5) (v : Value) : List Value := [.bool s.live, .int .i64 s.num, .int .i64 s.i.stripe, .int .i64 s.i.gen, v]
def itOf (b : List UInt8) : It := ⟨(b.getD 6 0).toNat, numB ((b.drop 7).take 6), b.drop 13⟩
noncomputable def readI (b : List UInt8) : Sl5 :=
  if (openB b).2.2 = 0 ∧ (openB b).1 = 2 ∧ (openB b).2.1.length = 141 then
    if 0 < numB ((openB b).2.1.take 6) ∧ rightI (itOf (openB b).2.1) then ⟨true, numB ((openB b).2.1.take 6), itOf (openB b).2.1⟩ else sl0
  else sl0

set_option maxRecDepth 100000 in
set_option maxHeartbeats 4000000 in
theorem iread_any (W w : World) (L : List Atom) (v : Value) (b : List UInt8) (hs : Sat W w L) (hin : ∀ y, Sat W y L → Reads y v b.length (bts b)) (hl : b.length < 1000000) (hcap : ∀ a n c, v = .slice a n c → n ≤ c) :
    Calls Try.prog 115 #[v] w fun r w' => ∃ bv R, r = .returned (slV (readI b) bv) ∧ RowA 5 1 bv (readI b).i.data.length (bts (readI b).i.data) R ∧ Sat W w' (R ++ L) := by
  obtain ⟨av, nv, cv, rfl⟩ : ∃ a n c, v = .slice a n c := by
    obtain ⟨a, c, h⟩ := reads_shape (hin w hs)
    exact ⟨_, _, _, h⟩
  have HIN := Lib.hid hin
  have HCAP := Lib.hid hcap
  clear hin hcap
  obtain ⟨p, hq⟩ : ∃ p, readI b = p := ⟨_, rfl⟩
  rw [hq]
  unfold readI at hq
  go_enter Try.func115, Try.ntmps115
  go_wp2_with fail
  refine (open_any W _ _ _ b (hs.newCells #[.bool false, .int .i64 0, .int .i64 0, .int .i64 0, .slice none 0 0] 157) (fun y hy => HIN.out y hy.tail) hl HCAP.out).mono ?_
  rintro r w2 ⟨bv, R, rfl, hbr, hs2⟩
  generalize openB b = ob at *
  obtain ⟨k, body, e⟩ := ob
  simp only at hq hbr ⊢
  have HQ := Lib.hid hq
  clear hs hq
  obtain ⟨ab, cb, rfl⟩ := Ch.RowA.slice hbr
  generalize w.heap.size = z at *
  have hs2' : Sat W w2 (cellsA z #[.bool false, .int .i64 0, .int .i64 0, .int .i64 0, .slice none 0 0] 157 :: (R ++ L)) := hs2.use (by intro x; simp only [cnt_append, cnt_cons, cnt_nil]; omega)
  have z0 : w2.cell? ⟨z, 0, none⟩ = some (.bool false) := hs2'.cell m0 0
  have z1 : w2.cell? ⟨z, 1, none⟩ = some (.int .i64 0) := hs2'.cell m0 1
  have z2 : w2.cell? ⟨z, 2, none⟩ = some (.int .i64 0) := hs2'.cell m0 2
  have z3 : w2.cell? ⟨z, 3, none⟩ = some (.int .i64 0) := hs2'.cell m0 3
  have z4 : w2.cell? ⟨z, 4, none⟩ = some (.slice none 0 0) := hs2'.cell m0 4
  have f0 : w2.frozen? ⟨z, 0, none⟩ = false := hs2'.free m0 0
  have f1 : w2.frozen? ⟨z, 1, none⟩ = false := hs2'.free m0 1
  have f2 : w2.frozen? ⟨z, 2, none⟩ = false := hs2'.free m0 2
  have f3 : w2.frozen? ⟨z, 3, none⟩ = false := hs2'.free m0 3
  have f4 : w2.frozen? ⟨z, 4, none⟩ = false := hs2'.free m0 4
  clear hs2
  by_cases he : e = 0
  case neg =>
    have hn : p = sl0 := by rw [← HQ.out, if_neg (fun h => he h.1)]
    have q0 : (e != 0) = true := by simpa using he
    have HN := Lib.hid hn
    clear hn he
    go_wp2_with fail
    have hz3 := Sat.setCell (Sat.setCell (Sat.setCell (Sat.setCell (Sat.setCell hs2' 0 (.bool false)) 1 (.int .i64 0)) 2 (.int .i64 0)) 3 (.int .i64 0)) 4 (.slice none 0 0)
    refine bodyPost_ret (v := slV sl0 (.slice none 0 0)) (by simp [results, Try.results115, go_sem, slV, sl0, *]) rfl ?_
    rw [HN.out]
    first
      | exact ⟨_, _, rfl, RowA.nil _ _, hz3.tail.right⟩
      | exact ⟨_, rfl, _, RowA.nil _ _, hz3.tail.right⟩
  case pos =>
  subst he
  by_cases hk : k = 2
  case neg =>
    have hn : p = sl0 := by rw [← HQ.out, if_neg (fun h => hk h.2.1)]
    have q0 : (k != 2) = true := by simpa using hk
    have HN := Lib.hid hn
    clear hn hk
    go_wp2_with fail
    have hz3 := Sat.setCell (Sat.setCell (Sat.setCell (Sat.setCell (Sat.setCell hs2' 0 (.bool false)) 1 (.int .i64 0)) 2 (.int .i64 0)) 3 (.int .i64 0)) 4 (.slice none 0 0)
    refine bodyPost_ret (v := slV sl0 (.slice none 0 0)) (by simp [results, Try.results115, go_sem, slV, sl0, *]) rfl ?_
    rw [HN.out]
    first
      | exact ⟨_, _, rfl, RowA.nil _ _, hz3.tail.right⟩
      | exact ⟨_, rfl, _, RowA.nil _ _, hz3.tail.right⟩
  case pos =>
  subst hk
  by_cases hlen : body.length = 141
  case neg =>
    have hn : p = sl0 := by rw [← HQ.out, if_neg (fun h => hlen h.2.2)]
    have q0 : ((body.length : Int) != 141) = true := by simp; omega
    have HN := Lib.hid hn
    clear hn hlen
    go_wp2_with fail
    have hz3 := Sat.setCell (Sat.setCell (Sat.setCell (Sat.setCell (Sat.setCell hs2' 0 (.bool false)) 1 (.int .i64 0)) 2 (.int .i64 0)) 3 (.int .i64 0)) 4 (.slice none 0 0)
    refine bodyPost_ret (v := slV sl0 (.slice none 0 0)) (by simp [results, Try.results115, go_sem, slV, sl0, *]) rfl ?_
    rw [HN.out]
    first
      | exact ⟨_, _, rfl, RowA.nil _ _, hz3.tail.right⟩
      | exact ⟨_, rfl, _, RowA.nil _ _, hz3.tail.right⟩
  case pos =>
  have hq2 : (if 0 < numB (body.take 6) ∧ rightI (itOf body) then (⟨true, numB (body.take 6), itOf body⟩ : Sl5) else sl0) = p := by
    have h := HQ.out
    rw [if_pos (⟨rfl, rfl, hlen⟩ : (0 : Int) = 0 ∧ (2 : Int) = 2 ∧ body.length = 141)] at h
    exact h
  clear HQ
  rcases hbr.2 with ⟨h1, h2, _⟩ | ⟨g, off, cap, h1, hc1, hc2, hR⟩
  · omega
  obtain ⟨rfl, rfl⟩ : ab = some ⟨g, off, none⟩ ∧ cap = cb := by
    cases h1
    exact ⟨rfl, rfl⟩
  obtain ⟨LL, hLL⟩ : ∃ LL, LL = cellsA z #[.bool false, .int .i64 0, .int .i64 0, .int .i64 0, .slice none 0 0] 157 :: (R ++ L) := ⟨_, rfl⟩
  have hcell : ∀ y, Sat W y LL → ∀ k u, body[k]? = some u → y.cell? ((⟨g, off, none⟩ : Addr).add k) = some (.int .u8 (u.toNat : Int)) := fun y hy k u hu => by
    rw [hLL] at hy
    rw [add_row, (hbr.cells hy.tail rfl k (by rw [bts_length]; exact (List.getElem?_eq_some_iff.1 hu).1)).1]
    exact bts_get hu
  rw [← hLL] at hs2'
  clear h1
  obtain ⟨u6, hu6⟩ : ∃ c, body[6]? = some c := ⟨_, List.getElem?_eq_getElem (by omega)⟩
  have e6 : ∀ y : Of W LL, y.v.cell? ⟨g, off + 6, none⟩ = some (.int .u8 (u6.toNat : Int)) := fun y => hcell y.v y.s 6 _ hu6
  have v6 := u8_lt u6
  have x6 : (0 : Int) ≤ u6.toNat := by omega
  have hcp : (141 : Int) ≤ cap := by omega
  have hcp2 : (13 : Int) ≤ cap := by omega
  have hcp3 : (6 : Int) ≤ cap := by omega
  have hpo : itOf body = ⟨u6.toNat, numB ((body.drop 7).take 6), (body.drop 13).take 128⟩ := by
    unfold itOf
    have e8 : (body.drop 13).take 128 = body.drop 13 := List.take_of_length_le (by simp; omega)
    rw [getD_of hu6, e8]
  have HLL := Lib.hid hLL
  have HLEN := Lib.hid hlen
  have hl1 : ((body.drop 7).take 6).length ≤ 6 := by simp; omega
  have hlN : (body.take 6).length ≤ 6 := by simp; omega
  have hl3 : ((body.drop 13).take 128).length = 128 := by simp; omega
  have hnum : ∀ y, Sat W y LL → ∀ c', Reads y (.slice (some ⟨g, off + 7, none⟩) 6 c') ((body.drop 7).take 6).length (bts ((body.drop 7).take 6)) := fun y hy c' => reads_sub (hcell y hy) 7 6 c' (by omega) (add_off g off 7 none (by omega))
  have hdat : ∀ y, Sat W y LL → ∀ c', Reads y (.slice (some ⟨g, off + 13, none⟩) 128 c') ((body.drop 13).take 128).length (bts ((body.drop 13).take 128)) := fun y hy c' => reads_sub (hcell y hy) 13 128 c' (by omega) (add_off g off 13 none (by omega))
  have hnn : ∀ y, Sat W y LL → ∀ c', Reads y (.slice (some ⟨g, off, none⟩) 6 c') (body.take 6).length (bts (body.take 6)) := fun y hy c' => by
    refine .inr ⟨_, _, by rw [List.length_take, hlen]; rfl, fun j u hu => ?_⟩
    rw [bts, List.getElem?_map, List.getElem?_take] at hu
    split at hu
    · obtain ⟨q, hq, rfl⟩ := Option.map_eq_some_iff.1 hu
      exact hcell y hy j q hq
    · simp at hu
  rw [hpo] at hq2
  generalize (body.drop 7).take 6 = M6 at *
  generalize body.take 6 = MN at *
  generalize (body.drop 13).take 128 = D at *
  have HQ2 := Lib.hid hq2
  have HNUM := Lib.hid hnum
  have HNN := Lib.hid hnn
  have HDAT := Lib.hid hdat
  have HL3 := Lib.hid hl3
  rw [hlen]
  clear hl3 hnum hdat hpo hcell hLL hu6 hbr hR hc1 hc2 hlen hq2 hnn
  go_wp2_with fail
  refine wp_region_plan [6, 9, 11, 12] [0, 1, 2, 3, 4, 5, 7, 8, 10] [0, 1, 3, 4, 5, 7, 8, 10] [6, 9, 11] [0, 1, 2, 3, 4, 5, 7, 8] (.two [6] (.two [9, 10, 11, 12] .nil [11, 9, 10, 12] .nil) [11, 6, 9, 10, 12] .nil) (Held W LL) (by kernel_rfl) (by kernel_rfl) ?_ ?_
  · exact Held.mk hs2'.drew
  have hne : Nonempty (Of W LL) := ⟨⟨_, hs2'⟩⟩
  have hsT : Sat W w2.drew LL := hs2'.drew
  repeat (first | (refine can_pu1 rfl rfl rfl rfl rfl rfl (fun K hK => ?_); go_big_quiet_op; refine hK _ ?_; clear hK K) | (refine can_st1 rfl rfl rfl rfl rfl rfl (fun K hK => ?_); go_big_quiet_op; refine hK _ ?_; clear hK K) | (refine can_early1 rfl rfl rfl rfl rfl (fun K hK => ?_); go_big_quiet_op; refine hK _ ?_; clear hK K) | (refine can_skip rfl rfl rfl ?_; simp only [Act.put, List.setIfInBounds_toArray, List.set_cons_zero, List.set_cons_succ]))
  clear e6 hne
  refine with_sat hsT ?_
  clear hsT hs2' z0 z1 z2 z3 z4 f0 f1 f2 f3 f4
  intro wt hsT
  refine can_two ?_ ?_
  · skip
    refine can_actS rfl rfl rfl rfl (fun K hK => ?_)
    go_wp2_with fail
    refine (inum_any _ M6 _ (HNUM.out _ hsT _) hl1).mono ?_; rintro r w4 ⟨rfl, rfl⟩
    apply hK
    refine ⟨Held.mk hsT, ?_⟩
    clear hK
    refine can_two ?_ ?_
    · skip
      refine can_actS rfl rfl rfl rfl (fun K hK => ?_)
      go_wp2_with fail
      refine (clone_any _ D W _ LL (HDAT.out _ hsT _) (by rw [HL3.out]; omega) hsT).mono ?_; rintro r w5 ⟨v5, R5, rfl, hr5, hs5⟩
      apply hK
      refine ⟨Held.mk hs5.right, ?_⟩
      clear hK
      obtain ⟨a5, c5, rfl⟩ := Ch.RowA.slice hr5
      repeat (first | (refine can_pu1 rfl rfl rfl rfl rfl rfl (fun K hK => ?_); go_big_quiet_op; refine hK _ ?_; clear hK K) | (refine can_st1 rfl rfl rfl rfl rfl rfl (fun K hK => ?_); go_big_quiet_op; refine hK _ ?_; clear hK K) | (refine can_early1 rfl rfl rfl rfl rfl (fun K hK => ?_); go_big_quiet_op; refine hK _ ?_; clear hK K) | (refine can_skip rfl rfl rfl ?_; simp only [Act.put, List.setIfInBounds_toArray, List.set_cons_zero, List.set_cons_succ]))
      refine can_actS rfl rfl rfl rfl (fun K hK => ?_)
      go_wp2_with fail
      refine ⟨Held.mk (Sat.alloc hs5.right _), ?_⟩
      have hs6 := Sat.newCells hs5 #[.int .i64 0, .int .i64 0, .slice none 0 0] 141
      generalize (w5).heap.size = z7 at *
      refine with_sat hs6 ?_
      clear hs6
      intro w6 hs6
      have hsF := hs6
      have g0 := hsF.cell m0 0
      have g1 := hsF.cell m0 1
      have g2 := hsF.cell m0 2
      have j0 := hsF.free m0 0
      have j1 := hsF.free m0 1
      have j2 := hsF.free m0 2
      refine can_actF rfl rfl rfl rfl (fun K hK => ?_)
      go_wp2_with fail
      have hz := Sat.setCell (Sat.setCell (Sat.setCell hsF 0 (.int .i64 u6.toNat)) 1 (.int .i64 (numB M6))) 2 (.slice a5 D.length c5)
      simp only [List.setIfInBounds_toArray, List.set_cons_zero, List.set_cons_succ] at hz
      refine can_end1 ?_; (try simp only [Exit.then])
      refine with_sat hz ?_
      clear hz hsF g0 g1 g2 j0 j1 j2
      intro w9 hs9
      have g0 := hs9.cell m0 0
      have g1 := hs9.cell m0 1
      have g2 := hs9.cell m0 2
      have hrt := iright_any ⟨u6.toNat, numB M6, D⟩ a5 c5 w9
      unfold itV at hrt
      simp only at hrt
      have HRT0 := Lib.hid hrt
      clear hrt
      go_wp2_with fail
      refine (inum_any _ MN w9 (HNN.out _ hs9.tail.right _) hlN).mono ?_; rintro r w10 ⟨rfl, rfl⟩
      have hrt := HRT0.out
      have hq3 := HQ2.out
      generalize numB MN = nn at *
      by_cases hpos : 0 < nn
      · by_cases hrp : rightI ⟨u6.toNat, numB M6, D⟩
        · rw [if_pos ⟨hpos, hrp⟩] at hq3
          rw [decide_eq_true hrp] at hrt
          have HRT := Lib.hid hrt
          have HN := Lib.hid hq3
          clear hrt hq3 hrp
          go_wp2_with fail
          refine HRT.out.mono ?_; rintro r w10 ⟨rfl, hx⟩
          have hs10 := hs9.below hx
          rw [HLL.out] at hs10
          have hs11 := Sat.use (M := cellsA z #[.bool false, .int .i64 0, .int .i64 0, .int .i64 0, .slice none 0 0] 157 :: (cellsA z7 #[.int .i64 u6.toNat, .int .i64 (numB M6), .slice a5 D.length c5] 141 :: (R5 ++ (R ++ L)))) hs10 (by intro x; simp only [cnt_append, cnt_cons, cnt_nil]; omega)
          clear hs10 hs9 hx g0 g1 g2
          have z0 := hs11.cell m0 0
          have f0 := hs11.free m0 0
          have f1 := hs11.free m0 1
          have f2 := hs11.free m0 2
          have f3 := hs11.free m0 3
          have f4 := hs11.free m0 4
          have z1 := hs11.cell m0 1
          have z2 := hs11.cell m0 2
          have z3 := hs11.cell m0 3
          have z4 := hs11.cell m0 4
          have g0 := hs11.cell m1 0
          have g1 := hs11.cell m1 1
          have g2 := hs11.cell m1 2
          have hz3 := Sat.setCell (Sat.setCell (Sat.setCell (Sat.setCell (Sat.setCell hs11 0 (.bool true)) 1 (.int .i64 nn)) 2 (.int .i64 u6.toNat)) 3 (.int .i64 (numB M6))) 4 (.slice a5 D.length c5)
          go_wp2_with fail
          refine bodyPost_ret (v := slV ⟨true, nn, ⟨u6.toNat, numB M6, D⟩⟩ (.slice a5 D.length c5)) (by simp [results, Try.results115, go_sem, slV, *]) rfl ?_
          rw [← HN.out]
          first
            | exact ⟨_, _, rfl, hr5, hz3.tail.tail.use (by intro x; simp only [cnt_append, cnt_cons, cnt_nil]; omega)⟩
            | exact ⟨_, rfl, _, hr5, hz3.tail.tail.use (by intro x; simp only [cnt_append, cnt_cons, cnt_nil]; omega)⟩
        · rw [if_neg (fun h => hrp h.2)] at hq3
          rw [decide_eq_false hrp] at hrt
          have HRT := Lib.hid hrt
          have HN := Lib.hid hq3
          clear hrt hq3 hrp
          go_wp2_with fail
          refine HRT.out.mono ?_; rintro r w10 ⟨rfl, hx⟩
          have hs10 := hs9.below hx
          rw [HLL.out] at hs10
          have hs11 := Sat.use (M := cellsA z #[.bool false, .int .i64 0, .int .i64 0, .int .i64 0, .slice none 0 0] 157 :: L) hs10 (by intro x; simp only [cnt_append, cnt_cons, cnt_nil]; omega)
          clear hs10
          have z0 := hs11.cell m0 0
          have f0 := hs11.free m0 0
          have f1 := hs11.free m0 1
          have f2 := hs11.free m0 2
          have f3 := hs11.free m0 3
          have f4 := hs11.free m0 4
          have z1 := hs11.cell m0 1
          have z2 := hs11.cell m0 2
          have z3 := hs11.cell m0 3
          have z4 := hs11.cell m0 4
          have hz3 := Sat.setCell (Sat.setCell (Sat.setCell (Sat.setCell (Sat.setCell hs11 0 (.bool false)) 1 (.int .i64 0)) 2 (.int .i64 0)) 3 (.int .i64 0)) 4 (.slice none 0 0)
          go_wp2_with fail
          refine bodyPost_ret (v := slV sl0 (.slice none 0 0)) (by simp [results, Try.results115, go_sem, slV, sl0, *]) rfl ?_
          rw [← HN.out]
          first
            | exact ⟨_, _, rfl, RowA.nil _ _, hz3.tail⟩
            | exact ⟨_, rfl, _, RowA.nil _ _, hz3.tail⟩
      · rw [if_neg (fun h => hpos h.1)] at hq3
        have HN := Lib.hid hq3
        have hs10 := hs9
        clear hrt hq3
        rw [HLL.out] at hs10
        have hs11 := Sat.use (M := cellsA z #[.bool false, .int .i64 0, .int .i64 0, .int .i64 0, .slice none 0 0] 157 :: L) hs10 (by intro x; simp only [cnt_append, cnt_cons, cnt_nil]; omega)
        clear hs10
        have z0 := hs11.cell m0 0
        have f0 := hs11.free m0 0
        have f1 := hs11.free m0 1
        have f2 := hs11.free m0 2
        have f3 := hs11.free m0 3
        have f4 := hs11.free m0 4
        have z1 := hs11.cell m0 1
        have z2 := hs11.cell m0 2
        have z3 := hs11.cell m0 3
        have z4 := hs11.cell m0 4
        have hz3 := Sat.setCell (Sat.setCell (Sat.setCell (Sat.setCell (Sat.setCell hs11 0 (.bool false)) 1 (.int .i64 0)) 2 (.int .i64 0)) 3 (.int .i64 0)) 4 (.slice none 0 0)
        go_wp2_with fail
        refine bodyPost_ret (v := slV sl0 (.slice none 0 0)) (by simp [results, Try.results115, go_sem, slV, sl0, *]) rfl ?_
        rw [← HN.out]
        first
          | exact ⟨_, _, rfl, RowA.nil _ _, hz3.tail⟩
          | exact ⟨_, rfl, _, RowA.nil _ _, hz3.tail⟩
    · skip
      refine can_actS rfl rfl rfl rfl (fun K hK => ?_)
      go_wp2_with fail
      refine ⟨Held.mk (Sat.alloc hsT _), ?_⟩
      have hs6 := Sat.newCells hsT #[.int .i64 0, .int .i64 0, .slice none 0 0] 141
      generalize (wt).heap.size = z7 at *
      refine with_sat hs6 ?_
      clear hs6
      intro w6 hs6
      refine can_actS rfl rfl rfl rfl (fun K hK => ?_)
      go_wp2_with fail
      refine (clone_any _ D W _ _ (HDAT.out _ hs6.tail _) (by rw [HL3.out]; omega) hs6).mono ?_; rintro r w5 ⟨v5, R5, rfl, hr5, hs5⟩
      apply hK
      refine ⟨Held.mk hs5.right.tail, ?_⟩
      clear hK
      obtain ⟨a5, c5, rfl⟩ := Ch.RowA.slice hr5
      repeat (first | (refine can_pu1 rfl rfl rfl rfl rfl rfl (fun K hK => ?_); go_big_quiet_op; refine hK _ ?_; clear hK K) | (refine can_st1 rfl rfl rfl rfl rfl rfl (fun K hK => ?_); go_big_quiet_op; refine hK _ ?_; clear hK K) | (refine can_early1 rfl rfl rfl rfl rfl (fun K hK => ?_); go_big_quiet_op; refine hK _ ?_; clear hK K) | (refine can_skip rfl rfl rfl ?_; simp only [Act.put, List.setIfInBounds_toArray, List.set_cons_zero, List.set_cons_succ]))
      have hsF := Sat.use (M := cellsA z7 #[.int .i64 0, .int .i64 0, .slice none 0 0] 141 :: (R5 ++ LL)) hs5 (by intro x; simp only [cnt_append, cnt_cons, cnt_nil]; omega)
      have g0 := hsF.cell m0 0
      have g1 := hsF.cell m0 1
      have g2 := hsF.cell m0 2
      have j0 := hsF.free m0 0
      have j1 := hsF.free m0 1
      have j2 := hsF.free m0 2
      refine can_actF rfl rfl rfl rfl (fun K hK => ?_)
      go_wp2_with fail
      have hz := Sat.setCell (Sat.setCell (Sat.setCell hsF 0 (.int .i64 u6.toNat)) 1 (.int .i64 (numB M6))) 2 (.slice a5 D.length c5)
      simp only [List.setIfInBounds_toArray, List.set_cons_zero, List.set_cons_succ] at hz
      refine can_end1 ?_; (try simp only [Exit.then])
      refine with_sat hz ?_
      clear hz hsF g0 g1 g2 j0 j1 j2
      intro w9 hs9
      have g0 := hs9.cell m0 0
      have g1 := hs9.cell m0 1
      have g2 := hs9.cell m0 2
      have hrt := iright_any ⟨u6.toNat, numB M6, D⟩ a5 c5 w9
      unfold itV at hrt
      simp only at hrt
      have HRT0 := Lib.hid hrt
      clear hrt
      go_wp2_with fail
      refine (inum_any _ MN w9 (HNN.out _ hs9.tail.right _) hlN).mono ?_; rintro r w10 ⟨rfl, rfl⟩
      have hrt := HRT0.out
      have hq3 := HQ2.out
      generalize numB MN = nn at *
      by_cases hpos : 0 < nn
      · by_cases hrp : rightI ⟨u6.toNat, numB M6, D⟩
        · rw [if_pos ⟨hpos, hrp⟩] at hq3
          rw [decide_eq_true hrp] at hrt
          have HRT := Lib.hid hrt
          have HN := Lib.hid hq3
          clear hrt hq3 hrp
          go_wp2_with fail
          refine HRT.out.mono ?_; rintro r w10 ⟨rfl, hx⟩
          have hs10 := hs9.below hx
          rw [HLL.out] at hs10
          have hs11 := Sat.use (M := cellsA z #[.bool false, .int .i64 0, .int .i64 0, .int .i64 0, .slice none 0 0] 157 :: (cellsA z7 #[.int .i64 u6.toNat, .int .i64 (numB M6), .slice a5 D.length c5] 141 :: (R5 ++ (R ++ L)))) hs10 (by intro x; simp only [cnt_append, cnt_cons, cnt_nil]; omega)
          clear hs10 hs9 hx g0 g1 g2
          have z0 := hs11.cell m0 0
          have f0 := hs11.free m0 0
          have f1 := hs11.free m0 1
          have f2 := hs11.free m0 2
          have f3 := hs11.free m0 3
          have f4 := hs11.free m0 4
          have z1 := hs11.cell m0 1
          have z2 := hs11.cell m0 2
          have z3 := hs11.cell m0 3
          have z4 := hs11.cell m0 4
          have g0 := hs11.cell m1 0
          have g1 := hs11.cell m1 1
          have g2 := hs11.cell m1 2
          have hz3 := Sat.setCell (Sat.setCell (Sat.setCell (Sat.setCell (Sat.setCell hs11 0 (.bool true)) 1 (.int .i64 nn)) 2 (.int .i64 u6.toNat)) 3 (.int .i64 (numB M6))) 4 (.slice a5 D.length c5)
          go_wp2_with fail
          refine bodyPost_ret (v := slV ⟨true, nn, ⟨u6.toNat, numB M6, D⟩⟩ (.slice a5 D.length c5)) (by simp [results, Try.results115, go_sem, slV, *]) rfl ?_
          rw [← HN.out]
          first
            | exact ⟨_, _, rfl, hr5, hz3.tail.tail.use (by intro x; simp only [cnt_append, cnt_cons, cnt_nil]; omega)⟩
            | exact ⟨_, rfl, _, hr5, hz3.tail.tail.use (by intro x; simp only [cnt_append, cnt_cons, cnt_nil]; omega)⟩
        · rw [if_neg (fun h => hrp h.2)] at hq3
          rw [decide_eq_false hrp] at hrt
          have HRT := Lib.hid hrt
          have HN := Lib.hid hq3
          clear hrt hq3 hrp
          go_wp2_with fail
          refine HRT.out.mono ?_; rintro r w10 ⟨rfl, hx⟩
          have hs10 := hs9.below hx
          rw [HLL.out] at hs10
          have hs11 := Sat.use (M := cellsA z #[.bool false, .int .i64 0, .int .i64 0, .int .i64 0, .slice none 0 0] 157 :: L) hs10 (by intro x; simp only [cnt_append, cnt_cons, cnt_nil]; omega)
          clear hs10
          have z0 := hs11.cell m0 0
          have f0 := hs11.free m0 0
          have f1 := hs11.free m0 1
          have f2 := hs11.free m0 2
          have f3 := hs11.free m0 3
          have f4 := hs11.free m0 4
          have z1 := hs11.cell m0 1
          have z2 := hs11.cell m0 2
          have z3 := hs11.cell m0 3
          have z4 := hs11.cell m0 4
          have hz3 := Sat.setCell (Sat.setCell (Sat.setCell (Sat.setCell (Sat.setCell hs11 0 (.bool false)) 1 (.int .i64 0)) 2 (.int .i64 0)) 3 (.int .i64 0)) 4 (.slice none 0 0)
          go_wp2_with fail
          refine bodyPost_ret (v := slV sl0 (.slice none 0 0)) (by simp [results, Try.results115, go_sem, slV, sl0, *]) rfl ?_
          rw [← HN.out]
          first
            | exact ⟨_, _, rfl, RowA.nil _ _, hz3.tail⟩
            | exact ⟨_, rfl, _, RowA.nil _ _, hz3.tail⟩
      · rw [if_neg (fun h => hpos h.1)] at hq3
        have HN := Lib.hid hq3
        have hs10 := hs9
        clear hrt hq3
        rw [HLL.out] at hs10
        have hs11 := Sat.use (M := cellsA z #[.bool false, .int .i64 0, .int .i64 0, .int .i64 0, .slice none 0 0] 157 :: L) hs10 (by intro x; simp only [cnt_append, cnt_cons, cnt_nil]; omega)
        clear hs10
        have z0 := hs11.cell m0 0
        have f0 := hs11.free m0 0
        have f1 := hs11.free m0 1
        have f2 := hs11.free m0 2
        have f3 := hs11.free m0 3
        have f4 := hs11.free m0 4
        have z1 := hs11.cell m0 1
        have z2 := hs11.cell m0 2
        have z3 := hs11.cell m0 3
        have z4 := hs11.cell m0 4
        have hz3 := Sat.setCell (Sat.setCell (Sat.setCell (Sat.setCell (Sat.setCell hs11 0 (.bool false)) 1 (.int .i64 0)) 2 (.int .i64 0)) 3 (.int .i64 0)) 4 (.slice none 0 0)
        go_wp2_with fail
        refine bodyPost_ret (v := slV sl0 (.slice none 0 0)) (by simp [results, Try.results115, go_sem, slV, sl0, *]) rfl ?_
        rw [← HN.out]
        first
          | exact ⟨_, _, rfl, RowA.nil _ _, hz3.tail⟩
          | exact ⟨_, rfl, _, RowA.nil _ _, hz3.tail⟩
  · skip
    refine can_actS rfl rfl rfl rfl (fun K hK => ?_)
    go_wp2_with fail
    refine ⟨Held.mk (Sat.alloc hsT _), ?_⟩
    have hs6 := Sat.newCells hsT #[.int .i64 0, .int .i64 0, .slice none 0 0] 141
    generalize (wt).heap.size = z7 at *
    refine with_sat hs6 ?_
    clear hs6
    intro w6 hs6
    refine can_actS rfl rfl rfl rfl (fun K hK => ?_)
    go_wp2_with fail
    refine (inum_any _ M6 _ (HNUM.out _ hs6.tail _) hl1).mono ?_; rintro r w4 ⟨rfl, rfl⟩
    apply hK
    refine ⟨Held.mk hs6.tail, ?_⟩
    clear hK
    refine can_actS rfl rfl rfl rfl (fun K hK => ?_)
    go_wp2_with fail
    refine (clone_any _ D W _ _ (HDAT.out _ hs6.tail _) (by rw [HL3.out]; omega) hs6).mono ?_; rintro r w5 ⟨v5, R5, rfl, hr5, hs5⟩
    apply hK
    refine ⟨Held.mk hs5.right.tail, ?_⟩
    clear hK
    obtain ⟨a5, c5, rfl⟩ := Ch.RowA.slice hr5
    repeat (first | (refine can_pu1 rfl rfl rfl rfl rfl rfl (fun K hK => ?_); go_big_quiet_op; refine hK _ ?_; clear hK K) | (refine can_st1 rfl rfl rfl rfl rfl rfl (fun K hK => ?_); go_big_quiet_op; refine hK _ ?_; clear hK K) | (refine can_early1 rfl rfl rfl rfl rfl (fun K hK => ?_); go_big_quiet_op; refine hK _ ?_; clear hK K) | (refine can_skip rfl rfl rfl ?_; simp only [Act.put, List.setIfInBounds_toArray, List.set_cons_zero, List.set_cons_succ]))
    have hsF := Sat.use (M := cellsA z7 #[.int .i64 0, .int .i64 0, .slice none 0 0] 141 :: (R5 ++ LL)) hs5 (by intro x; simp only [cnt_append, cnt_cons, cnt_nil]; omega)
    have g0 := hsF.cell m0 0
    have g1 := hsF.cell m0 1
    have g2 := hsF.cell m0 2
    have j0 := hsF.free m0 0
    have j1 := hsF.free m0 1
    have j2 := hsF.free m0 2
    refine can_actF rfl rfl rfl rfl (fun K hK => ?_)
    go_wp2_with fail
    have hz := Sat.setCell (Sat.setCell (Sat.setCell hsF 0 (.int .i64 u6.toNat)) 1 (.int .i64 (numB M6))) 2 (.slice a5 D.length c5)
    simp only [List.setIfInBounds_toArray, List.set_cons_zero, List.set_cons_succ] at hz
    refine can_end1 ?_; (try simp only [Exit.then])
    refine with_sat hz ?_
    clear hz hsF g0 g1 g2 j0 j1 j2
    intro w9 hs9
    have g0 := hs9.cell m0 0
    have g1 := hs9.cell m0 1
    have g2 := hs9.cell m0 2
    have hrt := iright_any ⟨u6.toNat, numB M6, D⟩ a5 c5 w9
    unfold itV at hrt
    simp only at hrt
    have HRT0 := Lib.hid hrt
    clear hrt
    go_wp2_with fail
    refine (inum_any _ MN w9 (HNN.out _ hs9.tail.right _) hlN).mono ?_; rintro r w10 ⟨rfl, rfl⟩
    have hrt := HRT0.out
    have hq3 := HQ2.out
    generalize numB MN = nn at *
    by_cases hpos : 0 < nn
    · by_cases hrp : rightI ⟨u6.toNat, numB M6, D⟩
      · rw [if_pos ⟨hpos, hrp⟩] at hq3
        rw [decide_eq_true hrp] at hrt
        have HRT := Lib.hid hrt
        have HN := Lib.hid hq3
        clear hrt hq3 hrp
        go_wp2_with fail
        refine HRT.out.mono ?_; rintro r w10 ⟨rfl, hx⟩
        have hs10 := hs9.below hx
        rw [HLL.out] at hs10
        have hs11 := Sat.use (M := cellsA z #[.bool false, .int .i64 0, .int .i64 0, .int .i64 0, .slice none 0 0] 157 :: (cellsA z7 #[.int .i64 u6.toNat, .int .i64 (numB M6), .slice a5 D.length c5] 141 :: (R5 ++ (R ++ L)))) hs10 (by intro x; simp only [cnt_append, cnt_cons, cnt_nil]; omega)
        clear hs10 hs9 hx g0 g1 g2
        have z0 := hs11.cell m0 0
        have f0 := hs11.free m0 0
        have f1 := hs11.free m0 1
        have f2 := hs11.free m0 2
        have f3 := hs11.free m0 3
        have f4 := hs11.free m0 4
        have z1 := hs11.cell m0 1
        have z2 := hs11.cell m0 2
        have z3 := hs11.cell m0 3
        have z4 := hs11.cell m0 4
        have g0 := hs11.cell m1 0
        have g1 := hs11.cell m1 1
        have g2 := hs11.cell m1 2
        have hz3 := Sat.setCell (Sat.setCell (Sat.setCell (Sat.setCell (Sat.setCell hs11 0 (.bool true)) 1 (.int .i64 nn)) 2 (.int .i64 u6.toNat)) 3 (.int .i64 (numB M6))) 4 (.slice a5 D.length c5)
        go_wp2_with fail
        refine bodyPost_ret (v := slV ⟨true, nn, ⟨u6.toNat, numB M6, D⟩⟩ (.slice a5 D.length c5)) (by simp [results, Try.results115, go_sem, slV, *]) rfl ?_
        rw [← HN.out]
        first
          | exact ⟨_, _, rfl, hr5, hz3.tail.tail.use (by intro x; simp only [cnt_append, cnt_cons, cnt_nil]; omega)⟩
          | exact ⟨_, rfl, _, hr5, hz3.tail.tail.use (by intro x; simp only [cnt_append, cnt_cons, cnt_nil]; omega)⟩
      · rw [if_neg (fun h => hrp h.2)] at hq3
        rw [decide_eq_false hrp] at hrt
        have HRT := Lib.hid hrt
        have HN := Lib.hid hq3
        clear hrt hq3 hrp
        go_wp2_with fail
        refine HRT.out.mono ?_; rintro r w10 ⟨rfl, hx⟩
        have hs10 := hs9.below hx
        rw [HLL.out] at hs10
        have hs11 := Sat.use (M := cellsA z #[.bool false, .int .i64 0, .int .i64 0, .int .i64 0, .slice none 0 0] 157 :: L) hs10 (by intro x; simp only [cnt_append, cnt_cons, cnt_nil]; omega)
        clear hs10
        have z0 := hs11.cell m0 0
        have f0 := hs11.free m0 0
        have f1 := hs11.free m0 1
        have f2 := hs11.free m0 2
        have f3 := hs11.free m0 3
        have f4 := hs11.free m0 4
        have z1 := hs11.cell m0 1
        have z2 := hs11.cell m0 2
        have z3 := hs11.cell m0 3
        have z4 := hs11.cell m0 4
        have hz3 := Sat.setCell (Sat.setCell (Sat.setCell (Sat.setCell (Sat.setCell hs11 0 (.bool false)) 1 (.int .i64 0)) 2 (.int .i64 0)) 3 (.int .i64 0)) 4 (.slice none 0 0)
        go_wp2_with fail
        refine bodyPost_ret (v := slV sl0 (.slice none 0 0)) (by simp [results, Try.results115, go_sem, slV, sl0, *]) rfl ?_
        rw [← HN.out]
        first
          | exact ⟨_, _, rfl, RowA.nil _ _, hz3.tail⟩
          | exact ⟨_, rfl, _, RowA.nil _ _, hz3.tail⟩
    · rw [if_neg (fun h => hpos h.1)] at hq3
      have HN := Lib.hid hq3
      have hs10 := hs9
      clear hrt hq3
      rw [HLL.out] at hs10
      have hs11 := Sat.use (M := cellsA z #[.bool false, .int .i64 0, .int .i64 0, .int .i64 0, .slice none 0 0] 157 :: L) hs10 (by intro x; simp only [cnt_append, cnt_cons, cnt_nil]; omega)
      clear hs10
      have z0 := hs11.cell m0 0
      have f0 := hs11.free m0 0
      have f1 := hs11.free m0 1
      have f2 := hs11.free m0 2
      have f3 := hs11.free m0 3
      have f4 := hs11.free m0 4
      have z1 := hs11.cell m0 1
      have z2 := hs11.cell m0 2
      have z3 := hs11.cell m0 3
      have z4 := hs11.cell m0 4
      have hz3 := Sat.setCell (Sat.setCell (Sat.setCell (Sat.setCell (Sat.setCell hs11 0 (.bool false)) 1 (.int .i64 0)) 2 (.int .i64 0)) 3 (.int .i64 0)) 4 (.slice none 0 0)
      go_wp2_with fail
      refine bodyPost_ret (v := slV sl0 (.slice none 0 0)) (by simp [results, Try.results115, go_sem, slV, sl0, *]) rfl ?_
      rw [← HN.out]
      first
        | exact ⟨_, _, rfl, RowA.nil _ _, hz3.tail⟩
        | exact ⟨_, rfl, _, RowA.nil _ _, hz3.tail⟩
end Go.Proofs.Ytdkhgkkdnjejmaa.Ch
