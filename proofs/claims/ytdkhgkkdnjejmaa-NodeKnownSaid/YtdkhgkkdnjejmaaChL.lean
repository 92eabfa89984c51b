/-
  chunk.Read.
-/
import Derived.Test.YtdkhgkkdnjejmaaChK
namespace Go.Proofs.Ytdkhgkkdnjejmaa.Ch
set_option linter.unusedSimpArgs false
open Go Go.RowKit Go.Sl Go.BigFrame
set_option linter.unusedVariables false

/-- chunk.Read: the piece of a block, if it is one. -/
def pieceOf (b : List UInt8) : Pc := ⟨(b.getD 0 0).toNat, numB ((b.drop 1).take 6), (b.getD 7 0).toNat, b.drop 8⟩
noncomputable def readB (b : List UInt8) : Option Pc :=
  if (openB b).2.2 = 0 ∧ (openB b).1 = 1 ∧ (openB b).2.1.length = 40 then
    if rightP (pieceOf (openB b).2.1) then some (pieceOf (openB b).2.1) else none
  else none
noncomputable def readP (b : List UInt8) : Pc := (readB b).getD pc0

theorem add_off (g o i : Nat) (sp : Option Nat) (hi : 0 < i) (j : Nat) : (⟨g, o + i, none⟩ : Addr).add j = (⟨g, o, sp⟩ : Addr).add (i + j) := by
  rw [add_row]
  unfold Addr.add
  rw [if_neg (by omega), Nat.add_assoc]
set_option maxRecDepth 100000 in
set_option maxHeartbeats 4000000 in
theorem read_any (W w : World) (L : List Atom) (v : Value) (b : List UInt8) (hs : Sat W w L) (hin : ∀ y, Sat W y L → Reads y v b.length (bts b)) (hl : b.length < 1000000) (hcap : ∀ a n c, v = .slice a n c → n ≤ c) :
    Calls Try.prog 29 #[v] w fun r w' => ∃ bv R, r = .returned (.tuple #[pcV (readP b) bv, .bool (readB b).isSome]) ∧ RowA 5 1 bv (readP b).data.length (bts (readP b).data) R ∧ Sat W w' (R ++ L) := by
  obtain ⟨av, nv, cv, rfl⟩ : ∃ a n c, v = .slice a n c := by
    obtain ⟨a, c, h⟩ := reads_shape (hin w hs)
    exact ⟨_, _, _, h⟩
  have HIN := Lib.hid hin
  have HCAP := Lib.hid hcap
  clear hin hcap
  obtain ⟨p, hp⟩ : ∃ p, p = readP b := ⟨_, rfl⟩
  obtain ⟨is, hi⟩ : ∃ is, is = (readB b).isSome := ⟨_, rfl⟩
  rw [← hp, ← hi]
  have hrb : ∃ q, readB b = q ∧ p = q.getD pc0 ∧ is = q.isSome := ⟨_, rfl, hp, hi⟩
  clear hp hi
  obtain ⟨q, hq, hp, hi⟩ := hrb
  unfold readB at hq
  go_enter Try.func29, Try.ntmps29
  go_wp2_with fail
  refine (open_any W _ _ _ b (hs.newCells #[.int .i64 0, .int .i64 0, .int .i64 0, .slice none 0 0] 45) (fun y hy => HIN.out y hy.tail) hl HCAP.out).mono ?_
  rintro r w2 ⟨bv, R, rfl, hbr, hs2⟩
  generalize openB b = ob at *
  obtain ⟨k, body, e⟩ := ob
  simp only at hq hbr ⊢
  have HQ := Lib.hid hq
  have HP := Lib.hid hp
  have HI := Lib.hid hi
  clear hs hq hp hi
  obtain ⟨ab, cb, rfl⟩ := Ch.RowA.slice hbr
  generalize w.heap.size = z at *
  have hs2' : Sat W w2 (cellsA z #[.int .i64 0, .int .i64 0, .int .i64 0, .slice none 0 0] 45 :: (R ++ L)) := hs2.use (by intro x; simp only [cnt_append, cnt_cons, cnt_nil]; omega)
  have z0 : w2.cell? ⟨z, 0, none⟩ = some (.int .i64 0) := hs2'.cell m0 0
  have z1 : w2.cell? ⟨z, 1, none⟩ = some (.int .i64 0) := hs2'.cell m0 1
  have z2 : w2.cell? ⟨z, 2, none⟩ = some (.int .i64 0) := hs2'.cell m0 2
  have z3 : w2.cell? ⟨z, 3, none⟩ = some (.slice none 0 0) := hs2'.cell m0 3
  have f0 : w2.frozen? ⟨z, 0, none⟩ = false := hs2'.free m0 0
  have f1 : w2.frozen? ⟨z, 1, none⟩ = false := hs2'.free m0 1
  have f2 : w2.frozen? ⟨z, 2, none⟩ = false := hs2'.free m0 2
  have f3 : w2.frozen? ⟨z, 3, none⟩ = false := hs2'.free m0 3
  clear hs2
  by_cases he : e = 0
  case neg =>
    have hn : q = none := by rw [← HQ.out, if_neg (fun h => he h.1)]
    have q0 : (e != 0) = true := by simpa using he
    have HN := Lib.hid hn
    clear hn he
    go_wp2_with fail
    have hz3 := Sat.setCell (Sat.setCell (Sat.setCell (Sat.setCell hs2' 0 (.int .i64 0)) 1 (.int .i64 0)) 2 (.int .i64 0)) 3 (.slice none 0 0)
    refine bodyPost_ret (v := .tuple #[pcV pc0 (.slice none 0 0), .bool false]) (by simp [results, Try.results29, go_sem, pcV, pc0, *]) rfl ?_
    rw [HP.out, HI.out, HN.out]
    first
      | exact ⟨_, _, rfl, RowA.nil _ _, hz3.tail.right⟩
      | exact ⟨_, rfl, _, RowA.nil _ _, hz3.tail.right⟩
  case pos =>
  subst he
  by_cases hk : k = 1
  case neg =>
    have hn : q = none := by rw [← HQ.out, if_neg (fun h => hk h.2.1)]
    have q0 : (k != 1) = true := by simpa using hk
    have HN := Lib.hid hn
    clear hn hk
    go_wp2_with fail
    have hz3 := Sat.setCell (Sat.setCell (Sat.setCell (Sat.setCell hs2' 0 (.int .i64 0)) 1 (.int .i64 0)) 2 (.int .i64 0)) 3 (.slice none 0 0)
    refine bodyPost_ret (v := .tuple #[pcV pc0 (.slice none 0 0), .bool false]) (by simp [results, Try.results29, go_sem, pcV, pc0, *]) rfl ?_
    rw [HP.out, HI.out, HN.out]
    first
      | exact ⟨_, _, rfl, RowA.nil _ _, hz3.tail.right⟩
      | exact ⟨_, rfl, _, RowA.nil _ _, hz3.tail.right⟩
  case pos =>
  subst hk
  by_cases hlen : body.length = 40
  case neg =>
    have hn : q = none := by rw [← HQ.out, if_neg (fun h => hlen h.2.2)]
    have q0 : ((body.length : Int) != 40) = true := by simp; omega
    have HN := Lib.hid hn
    clear hn hlen
    go_wp2_with fail
    have hz3 := Sat.setCell (Sat.setCell (Sat.setCell (Sat.setCell hs2' 0 (.int .i64 0)) 1 (.int .i64 0)) 2 (.int .i64 0)) 3 (.slice none 0 0)
    refine bodyPost_ret (v := .tuple #[pcV pc0 (.slice none 0 0), .bool false]) (by simp [results, Try.results29, go_sem, pcV, pc0, *]) rfl ?_
    rw [HP.out, HI.out, HN.out]
    first
      | exact ⟨_, _, rfl, RowA.nil _ _, hz3.tail.right⟩
      | exact ⟨_, rfl, _, RowA.nil _ _, hz3.tail.right⟩
  case pos =>
  have hq2 : q = if rightP (pieceOf body) then some (pieceOf body) else none := by rw [← HQ.out, if_pos ⟨rfl, rfl, hlen⟩]
  have HQ2 := Lib.hid hq2
  clear hq2 HQ
  rcases hbr.2 with ⟨h1, h2, _⟩ | ⟨g, off, cap, h1, hc1, hc2, hR⟩
  · omega
  obtain ⟨rfl, rfl⟩ : ab = some ⟨g, off, none⟩ ∧ cap = cb := by
    cases h1
    exact ⟨rfl, rfl⟩
  obtain ⟨LL, hLL⟩ : ∃ LL, LL = cellsA z #[.int .i64 0, .int .i64 0, .int .i64 0, .slice none 0 0] 45 :: (R ++ L) := ⟨_, rfl⟩
  have hcell : ∀ y, Sat W y LL → ∀ k u, body[k]? = some u → y.cell? ((⟨g, off, none⟩ : Addr).add k) = some (.int .u8 (u.toNat : Int)) := fun y hy k u hu => by
    rw [hLL] at hy
    rw [add_row, (hbr.cells hy.tail rfl k (by rw [bts_length]; exact (List.getElem?_eq_some_iff.1 hu).1)).1]
    exact bts_get hu
  rw [← hLL] at hs2'
  clear h1
  obtain ⟨u0, hu0⟩ : ∃ c, body[0]? = some c := ⟨_, List.getElem?_eq_getElem (by omega)⟩
  obtain ⟨u7, hu7⟩ : ∃ c, body[7]? = some c := ⟨_, List.getElem?_eq_getElem (by omega)⟩
  have e0 : ∀ y : Of W LL, y.v.cell? ⟨g, off, none⟩ = some (.int .u8 (u0.toNat : Int)) := fun y => hcell y.v y.s 0 _ hu0
  have e7 : ∀ y : Of W LL, y.v.cell? ⟨g, off + 7, none⟩ = some (.int .u8 (u7.toNat : Int)) := fun y => hcell y.v y.s 7 _ hu7
  have v0 := u8_lt u0
  have v7 := u8_lt u7
  have x0 : (0 : Int) ≤ u0.toNat := by omega
  have x7 : (0 : Int) ≤ u7.toNat := by omega
  have hcp : (40 : Int) ≤ cap := by omega
  have hcp2 : (7 : Int) ≤ cap := by omega
  have hpo : pieceOf body = ⟨u0.toNat, numB ((body.drop 1).take 6), u7.toNat, (body.drop 8).take 32⟩ := by
    unfold pieceOf
    have e8 : (body.drop 8).take 32 = body.drop 8 := List.take_of_length_le (by simp; omega)
    rw [getD_of hu0, getD_of hu7, e8]
  have HLL := Lib.hid hLL
  have HLEN := Lib.hid hlen
  have hl1 : ((body.drop 1).take 6).length ≤ 6 := by simp; omega
  have hl3 : ((body.drop 8).take 32).length = 32 := by simp; omega
  have hnum : ∀ y, Sat W y LL → ∀ c', Reads y (.slice (some ⟨g, off + 1, none⟩) 6 c') ((body.drop 1).take 6).length (bts ((body.drop 1).take 6)) := fun y hy c' => reads_sub (hcell y hy) 1 6 c' (by omega) (add_off g off 1 none (by omega))
  have hdat : ∀ y, Sat W y LL → ∀ c', Reads y (.slice (some ⟨g, off + 8, none⟩) 32 c') ((body.drop 8).take 32).length (bts ((body.drop 8).take 32)) := fun y hy c' => reads_sub (hcell y hy) 8 32 c' (by omega) (add_off g off 8 none (by omega))
  generalize (body.drop 1).take 6 = M6 at *
  generalize (body.drop 8).take 32 = D at *
  have HNUM := Lib.hid hnum
  have HDAT := Lib.hid hdat
  have HL3 := Lib.hid hl3
  have HPO := Lib.hid hpo
  rw [hlen]
  clear hl3 hnum hdat hpo hcell hLL hu0 hu7 hbr hR hc1 hc2 hlen
  go_wp2_with fail
  refine wp_region_plan [6, 13, 15, 16] [0, 1, 2, 3, 4, 5, 7, 8, 9, 10, 11, 12, 14] [0, 1, 3, 4, 5, 7, 8, 10, 11, 12, 14] [6, 13, 15] [0, 1, 2, 3, 4, 5, 7, 8, 9, 10, 11, 12] (.two [6] (.two [13, 14, 15, 16] .nil [15, 13, 14, 16] .nil) [15, 6, 13, 14, 16] .nil) (Held W LL) (by kernel_rfl) (by kernel_rfl) ?_ ?_
  · exact Held.mk hs2'.drew
  have hne : Nonempty (Of W LL) := ⟨⟨_, hs2'⟩⟩
  have hsT : Sat W w2.drew LL := hs2'.drew
  repeat (first | (refine can_pu1 rfl rfl rfl rfl rfl rfl (fun K hK => ?_); go_big_quiet_op; refine hK _ ?_; clear hK K) | (refine can_st1 rfl rfl rfl rfl rfl rfl (fun K hK => ?_); go_big_quiet_op; refine hK _ ?_; clear hK K) | (refine can_early1 rfl rfl rfl rfl rfl (fun K hK => ?_); go_big_quiet_op; refine hK _ ?_; clear hK K) | (refine can_skip rfl rfl rfl ?_; simp only [Act.put, List.setIfInBounds_toArray, List.set_cons_zero, List.set_cons_succ]))
  clear e0 e7 hne
  refine with_sat hsT ?_
  clear hsT hs2' z0 z1 z2 z3 f0 f1 f2 f3
  intro wt hsT
  refine can_two ?_ ?_
  · skip
    refine can_actS rfl rfl rfl rfl (fun K hK => ?_)
    go_wp2_with fail
    refine (number_any _ M6 _ (HNUM.out _ hsT _) hl1).mono ?_; rintro r w4 ⟨rfl, rfl⟩
    apply hK
    refine ⟨Held.mk hsT, ?_⟩
    clear hK
    refine can_two ?_ ?_
    · skip
      refine can_actS rfl rfl rfl rfl (fun K hK => ?_)
      go_wp2_with fail
      refine (clone_any _ D W _ LL (HDAT.out _ hsT _) (by rw [HL3.out]; omega) hsT).mono ?_; rintro r w5 ⟨v5, R5, rfl, hr5, hs5⟩
      apply hK
      refine ⟨Held.mk hs5.right, ?_⟩
      clear hK
      obtain ⟨a5, c5, rfl⟩ := Ch.RowA.slice hr5
      repeat (first | (refine can_pu1 rfl rfl rfl rfl rfl rfl (fun K hK => ?_); go_big_quiet_op; refine hK _ ?_; clear hK K) | (refine can_st1 rfl rfl rfl rfl rfl rfl (fun K hK => ?_); go_big_quiet_op; refine hK _ ?_; clear hK K) | (refine can_early1 rfl rfl rfl rfl rfl (fun K hK => ?_); go_big_quiet_op; refine hK _ ?_; clear hK K) | (refine can_skip rfl rfl rfl ?_; simp only [Act.put, List.setIfInBounds_toArray, List.set_cons_zero, List.set_cons_succ]))
      refine can_actS rfl rfl rfl rfl (fun K hK => ?_)
      go_wp2_with fail
      refine ⟨Held.mk (Sat.alloc hs5.right _), ?_⟩
      have hs6 := Sat.newCells hs5 #[.int .i64 0, .int .i64 0, .int .i64 0, .slice none 0 0] 45
      generalize (w5).heap.size = z7 at *
      refine with_sat hs6 ?_
      clear hs6
      intro w6 hs6
      have hsF := hs6
      have g0 := hsF.cell m0 0
      have g1 := hsF.cell m0 1
      have g2 := hsF.cell m0 2
      have g3 := hsF.cell m0 3
      have j0 := hsF.free m0 0
      have j1 := hsF.free m0 1
      have j2 := hsF.free m0 2
      have j3 := hsF.free m0 3
      refine can_actF rfl rfl rfl rfl (fun K hK => ?_)
      go_wp2_with fail
      have hz := Sat.setCell (Sat.setCell (Sat.setCell (Sat.setCell hsF 0 (.int .i64 u0.toNat)) 1 (.int .i64 (numB M6))) 2 (.int .i64 u7.toNat)) 3 (.slice a5 D.length c5)
      simp only [List.setIfInBounds_toArray, List.set_cons_zero, List.set_cons_succ] at hz
      refine can_end1 ?_; (try simp only [Exit.then])
      refine with_sat hz ?_
      clear hz hsF g0 g1 g2 g3 j0 j1 j2 j3
      intro w9 hs9
      have g0 := hs9.cell m0 0
      have g1 := hs9.cell m0 1
      have g2 := hs9.cell m0 2
      have g3 := hs9.cell m0 3
      have hrt := right_any ⟨u0.toNat, numB M6, u7.toNat, D⟩ a5 c5 w9
      unfold pcV at hrt
      simp only at hrt
      go_wp2_with fail
      refine hrt.mono ?_; rintro r w10 ⟨rfl, hx⟩
      have hs10 := hs9.below hx
      rw [HLL.out] at hs10
      have hs11 := Sat.use (M := cellsA z #[.int .i64 0, .int .i64 0, .int .i64 0, .slice none 0 0] 45 :: (cellsA z7 #[.int .i64 u0.toNat, .int .i64 (numB M6), .int .i64 u7.toNat, .slice a5 D.length c5] 45 :: (R5 ++ (R ++ L)))) hs10 (by intro x; simp only [cnt_append, cnt_cons, cnt_nil]; omega)
      clear hs10 hs9 hx hrt g0 g1 g2 g3
      have z0 := hs11.cell m0 0
      have z1 := hs11.cell m0 1
      have z2 := hs11.cell m0 2
      have z3 := hs11.cell m0 3
      have f0 := hs11.free m0 0
      have f1 := hs11.free m0 1
      have f2 := hs11.free m0 2
      have f3 := hs11.free m0 3
      have g0 := hs11.cell m1 0
      have g1 := hs11.cell m1 1
      have g2 := hs11.cell m1 2
      have g3 := hs11.cell m1 3
      have hq3 := HQ2.out
      rw [HPO.out] at hq3
      by_cases hrp : rightP ⟨u0.toNat, numB M6, u7.toNat, D⟩
      · rw [if_pos hrp] at hq3
        rw [decide_eq_true hrp]
        have HN := Lib.hid hq3
        have hz3 := Sat.setCell (Sat.setCell (Sat.setCell (Sat.setCell hs11 0 (.int .i64 u0.toNat)) 1 (.int .i64 (numB M6))) 2 (.int .i64 u7.toNat)) 3 (.slice a5 D.length c5)
        clear hq3 hrp
        go_wp2_with fail
        refine bodyPost_ret (v := .tuple #[pcV ⟨u0.toNat, numB M6, u7.toNat, D⟩ (.slice a5 D.length c5), .bool true]) (by simp [results, Try.results29, go_sem, pcV, pc0, *]) rfl ?_
        rw [HP.out, HI.out, HN.out]
        first
          | exact ⟨_, _, rfl, hr5, hz3.tail.tail.use (by intro x; simp only [cnt_append, cnt_cons, cnt_nil]; omega)⟩
          | exact ⟨_, rfl, _, hr5, hz3.tail.tail.use (by intro x; simp only [cnt_append, cnt_cons, cnt_nil]; omega)⟩
      · rw [if_neg hrp] at hq3
        rw [decide_eq_false hrp]
        have HN := Lib.hid hq3
        have hz3 := Sat.setCell (Sat.setCell (Sat.setCell (Sat.setCell hs11 0 (.int .i64 0)) 1 (.int .i64 0)) 2 (.int .i64 0)) 3 (.slice none 0 0)
        clear hq3 hrp
        go_wp2_with fail
        refine bodyPost_ret (v := .tuple #[pcV pc0 (.slice none 0 0), .bool false]) (by simp [results, Try.results29, go_sem, pcV, pc0, *]) rfl ?_
        rw [HP.out, HI.out, HN.out]
        first
          | exact ⟨_, _, rfl, RowA.nil _ _, hz3.tail.tail.right.right⟩
          | exact ⟨_, rfl, _, RowA.nil _ _, hz3.tail.tail.right.right⟩
    · skip
      refine can_actS rfl rfl rfl rfl (fun K hK => ?_)
      go_wp2_with fail
      refine ⟨Held.mk (Sat.alloc hsT _), ?_⟩
      have hs6 := Sat.newCells hsT #[.int .i64 0, .int .i64 0, .int .i64 0, .slice none 0 0] 45
      generalize (wt).heap.size = z7 at *
      refine with_sat hs6 ?_
      clear hs6
      intro w6 hs6
      refine can_actS rfl rfl rfl rfl (fun K hK => ?_)
      go_wp2_with fail
      refine (clone_any _ D W _ _ (HDAT.out _ hs6.tail _) (by rw [HL3.out]; omega) hs6).mono ?_; rintro r w5 ⟨v5, R5, rfl, hr5, hs5⟩
      apply hK
      refine ⟨Held.mk hs5.right.tail, ?_⟩
      clear hK
      obtain ⟨a5, c5, rfl⟩ := Ch.RowA.slice hr5
      repeat (first | (refine can_pu1 rfl rfl rfl rfl rfl rfl (fun K hK => ?_); go_big_quiet_op; refine hK _ ?_; clear hK K) | (refine can_st1 rfl rfl rfl rfl rfl rfl (fun K hK => ?_); go_big_quiet_op; refine hK _ ?_; clear hK K) | (refine can_early1 rfl rfl rfl rfl rfl (fun K hK => ?_); go_big_quiet_op; refine hK _ ?_; clear hK K) | (refine can_skip rfl rfl rfl ?_; simp only [Act.put, List.setIfInBounds_toArray, List.set_cons_zero, List.set_cons_succ]))
      have hsF := Sat.use (M := cellsA z7 #[.int .i64 0, .int .i64 0, .int .i64 0, .slice none 0 0] 45 :: (R5 ++ LL)) hs5 (by intro x; simp only [cnt_append, cnt_cons, cnt_nil]; omega)
      have g0 := hsF.cell m0 0
      have g1 := hsF.cell m0 1
      have g2 := hsF.cell m0 2
      have g3 := hsF.cell m0 3
      have j0 := hsF.free m0 0
      have j1 := hsF.free m0 1
      have j2 := hsF.free m0 2
      have j3 := hsF.free m0 3
      refine can_actF rfl rfl rfl rfl (fun K hK => ?_)
      go_wp2_with fail
      have hz := Sat.setCell (Sat.setCell (Sat.setCell (Sat.setCell hsF 0 (.int .i64 u0.toNat)) 1 (.int .i64 (numB M6))) 2 (.int .i64 u7.toNat)) 3 (.slice a5 D.length c5)
      simp only [List.setIfInBounds_toArray, List.set_cons_zero, List.set_cons_succ] at hz
      refine can_end1 ?_; (try simp only [Exit.then])
      refine with_sat hz ?_
      clear hz hsF g0 g1 g2 g3 j0 j1 j2 j3
      intro w9 hs9
      have g0 := hs9.cell m0 0
      have g1 := hs9.cell m0 1
      have g2 := hs9.cell m0 2
      have g3 := hs9.cell m0 3
      have hrt := right_any ⟨u0.toNat, numB M6, u7.toNat, D⟩ a5 c5 w9
      unfold pcV at hrt
      simp only at hrt
      go_wp2_with fail
      refine hrt.mono ?_; rintro r w10 ⟨rfl, hx⟩
      have hs10 := hs9.below hx
      rw [HLL.out] at hs10
      have hs11 := Sat.use (M := cellsA z #[.int .i64 0, .int .i64 0, .int .i64 0, .slice none 0 0] 45 :: (cellsA z7 #[.int .i64 u0.toNat, .int .i64 (numB M6), .int .i64 u7.toNat, .slice a5 D.length c5] 45 :: (R5 ++ (R ++ L)))) hs10 (by intro x; simp only [cnt_append, cnt_cons, cnt_nil]; omega)
      clear hs10 hs9 hx hrt g0 g1 g2 g3
      have z0 := hs11.cell m0 0
      have z1 := hs11.cell m0 1
      have z2 := hs11.cell m0 2
      have z3 := hs11.cell m0 3
      have f0 := hs11.free m0 0
      have f1 := hs11.free m0 1
      have f2 := hs11.free m0 2
      have f3 := hs11.free m0 3
      have g0 := hs11.cell m1 0
      have g1 := hs11.cell m1 1
      have g2 := hs11.cell m1 2
      have g3 := hs11.cell m1 3
      have hq3 := HQ2.out
      rw [HPO.out] at hq3
      by_cases hrp : rightP ⟨u0.toNat, numB M6, u7.toNat, D⟩
      · rw [if_pos hrp] at hq3
        rw [decide_eq_true hrp]
        have HN := Lib.hid hq3
        have hz3 := Sat.setCell (Sat.setCell (Sat.setCell (Sat.setCell hs11 0 (.int .i64 u0.toNat)) 1 (.int .i64 (numB M6))) 2 (.int .i64 u7.toNat)) 3 (.slice a5 D.length c5)
        clear hq3 hrp
        go_wp2_with fail
        refine bodyPost_ret (v := .tuple #[pcV ⟨u0.toNat, numB M6, u7.toNat, D⟩ (.slice a5 D.length c5), .bool true]) (by simp [results, Try.results29, go_sem, pcV, pc0, *]) rfl ?_
        rw [HP.out, HI.out, HN.out]
        first
          | exact ⟨_, _, rfl, hr5, hz3.tail.tail.use (by intro x; simp only [cnt_append, cnt_cons, cnt_nil]; omega)⟩
          | exact ⟨_, rfl, _, hr5, hz3.tail.tail.use (by intro x; simp only [cnt_append, cnt_cons, cnt_nil]; omega)⟩
      · rw [if_neg hrp] at hq3
        rw [decide_eq_false hrp]
        have HN := Lib.hid hq3
        have hz3 := Sat.setCell (Sat.setCell (Sat.setCell (Sat.setCell hs11 0 (.int .i64 0)) 1 (.int .i64 0)) 2 (.int .i64 0)) 3 (.slice none 0 0)
        clear hq3 hrp
        go_wp2_with fail
        refine bodyPost_ret (v := .tuple #[pcV pc0 (.slice none 0 0), .bool false]) (by simp [results, Try.results29, go_sem, pcV, pc0, *]) rfl ?_
        rw [HP.out, HI.out, HN.out]
        first
          | exact ⟨_, _, rfl, RowA.nil _ _, hz3.tail.tail.right.right⟩
          | exact ⟨_, rfl, _, RowA.nil _ _, hz3.tail.tail.right.right⟩
  · skip
    refine can_actS rfl rfl rfl rfl (fun K hK => ?_)
    go_wp2_with fail
    refine ⟨Held.mk (Sat.alloc hsT _), ?_⟩
    have hs6 := Sat.newCells hsT #[.int .i64 0, .int .i64 0, .int .i64 0, .slice none 0 0] 45
    generalize (wt).heap.size = z7 at *
    refine with_sat hs6 ?_
    clear hs6
    intro w6 hs6
    refine can_actS rfl rfl rfl rfl (fun K hK => ?_)
    go_wp2_with fail
    refine (number_any _ M6 _ (HNUM.out _ hs6.tail _) hl1).mono ?_; rintro r w4 ⟨rfl, rfl⟩
    apply hK
    refine ⟨Held.mk hs6.tail, ?_⟩
    clear hK
    refine can_actS rfl rfl rfl rfl (fun K hK => ?_)
    go_wp2_with fail
    refine (clone_any _ D W _ _ (HDAT.out _ hs6.tail _) (by rw [HL3.out]; omega) hs6).mono ?_; rintro r w5 ⟨v5, R5, rfl, hr5, hs5⟩
    apply hK
    refine ⟨Held.mk hs5.right.tail, ?_⟩
    clear hK
    obtain ⟨a5, c5, rfl⟩ := Ch.RowA.slice hr5
    repeat (first | (refine can_pu1 rfl rfl rfl rfl rfl rfl (fun K hK => ?_); go_big_quiet_op; refine hK _ ?_; clear hK K) | (refine can_st1 rfl rfl rfl rfl rfl rfl (fun K hK => ?_); go_big_quiet_op; refine hK _ ?_; clear hK K) | (refine can_early1 rfl rfl rfl rfl rfl (fun K hK => ?_); go_big_quiet_op; refine hK _ ?_; clear hK K) | (refine can_skip rfl rfl rfl ?_; simp only [Act.put, List.setIfInBounds_toArray, List.set_cons_zero, List.set_cons_succ]))
    have hsF := Sat.use (M := cellsA z7 #[.int .i64 0, .int .i64 0, .int .i64 0, .slice none 0 0] 45 :: (R5 ++ LL)) hs5 (by intro x; simp only [cnt_append, cnt_cons, cnt_nil]; omega)
    have g0 := hsF.cell m0 0
    have g1 := hsF.cell m0 1
    have g2 := hsF.cell m0 2
    have g3 := hsF.cell m0 3
    have j0 := hsF.free m0 0
    have j1 := hsF.free m0 1
    have j2 := hsF.free m0 2
    have j3 := hsF.free m0 3
    refine can_actF rfl rfl rfl rfl (fun K hK => ?_)
    go_wp2_with fail
    have hz := Sat.setCell (Sat.setCell (Sat.setCell (Sat.setCell hsF 0 (.int .i64 u0.toNat)) 1 (.int .i64 (numB M6))) 2 (.int .i64 u7.toNat)) 3 (.slice a5 D.length c5)
    simp only [List.setIfInBounds_toArray, List.set_cons_zero, List.set_cons_succ] at hz
    refine can_end1 ?_; (try simp only [Exit.then])
    refine with_sat hz ?_
    clear hz hsF g0 g1 g2 g3 j0 j1 j2 j3
    intro w9 hs9
    have g0 := hs9.cell m0 0
    have g1 := hs9.cell m0 1
    have g2 := hs9.cell m0 2
    have g3 := hs9.cell m0 3
    have hrt := right_any ⟨u0.toNat, numB M6, u7.toNat, D⟩ a5 c5 w9
    unfold pcV at hrt
    simp only at hrt
    go_wp2_with fail
    refine hrt.mono ?_; rintro r w10 ⟨rfl, hx⟩
    have hs10 := hs9.below hx
    rw [HLL.out] at hs10
    have hs11 := Sat.use (M := cellsA z #[.int .i64 0, .int .i64 0, .int .i64 0, .slice none 0 0] 45 :: (cellsA z7 #[.int .i64 u0.toNat, .int .i64 (numB M6), .int .i64 u7.toNat, .slice a5 D.length c5] 45 :: (R5 ++ (R ++ L)))) hs10 (by intro x; simp only [cnt_append, cnt_cons, cnt_nil]; omega)
    clear hs10 hs9 hx hrt g0 g1 g2 g3
    have z0 := hs11.cell m0 0
    have z1 := hs11.cell m0 1
    have z2 := hs11.cell m0 2
    have z3 := hs11.cell m0 3
    have f0 := hs11.free m0 0
    have f1 := hs11.free m0 1
    have f2 := hs11.free m0 2
    have f3 := hs11.free m0 3
    have g0 := hs11.cell m1 0
    have g1 := hs11.cell m1 1
    have g2 := hs11.cell m1 2
    have g3 := hs11.cell m1 3
    have hq3 := HQ2.out
    rw [HPO.out] at hq3
    by_cases hrp : rightP ⟨u0.toNat, numB M6, u7.toNat, D⟩
    · rw [if_pos hrp] at hq3
      rw [decide_eq_true hrp]
      have HN := Lib.hid hq3
      have hz3 := Sat.setCell (Sat.setCell (Sat.setCell (Sat.setCell hs11 0 (.int .i64 u0.toNat)) 1 (.int .i64 (numB M6))) 2 (.int .i64 u7.toNat)) 3 (.slice a5 D.length c5)
      clear hq3 hrp
      go_wp2_with fail
      refine bodyPost_ret (v := .tuple #[pcV ⟨u0.toNat, numB M6, u7.toNat, D⟩ (.slice a5 D.length c5), .bool true]) (by simp [results, Try.results29, go_sem, pcV, pc0, *]) rfl ?_
      rw [HP.out, HI.out, HN.out]
      first
        | exact ⟨_, _, rfl, hr5, hz3.tail.tail.use (by intro x; simp only [cnt_append, cnt_cons, cnt_nil]; omega)⟩
        | exact ⟨_, rfl, _, hr5, hz3.tail.tail.use (by intro x; simp only [cnt_append, cnt_cons, cnt_nil]; omega)⟩
    · rw [if_neg hrp] at hq3
      rw [decide_eq_false hrp]
      have HN := Lib.hid hq3
      have hz3 := Sat.setCell (Sat.setCell (Sat.setCell (Sat.setCell hs11 0 (.int .i64 0)) 1 (.int .i64 0)) 2 (.int .i64 0)) 3 (.slice none 0 0)
      clear hq3 hrp
      go_wp2_with fail
      refine bodyPost_ret (v := .tuple #[pcV pc0 (.slice none 0 0), .bool false]) (by simp [results, Try.results29, go_sem, pcV, pc0, *]) rfl ?_
      rw [HP.out, HI.out, HN.out]
      first
        | exact ⟨_, _, rfl, RowA.nil _ _, hz3.tail.tail.right.right⟩
        | exact ⟨_, rfl, _, RowA.nil _ _, hz3.tail.tail.right.right⟩
end Go.Proofs.Ytdkhgkkdnjejmaa.Ch
