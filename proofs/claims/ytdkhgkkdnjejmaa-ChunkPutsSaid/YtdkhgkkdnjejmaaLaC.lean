/-
  ChunkApart, walked.
-/
import Derived.Test.YtdkhgkkdnjejmaaLaB
import Derived.Deep.DeepCutAuto
import Derived.Deep.CutBlock
namespace Go.Proofs.Ytdkhgkkdnjejmaa.Ch
set_option linter.unusedSimpArgs false
open Go Go.RowKit Go.Sl Go.BigFrame
set_option linter.unusedVariables false

structure ActR where
  what : Int
  stripe : Int
  gen : Int
  index : Int
  seed : Int
  bend : Int
  keep : List Int
/-- A row of acts that came in. -/
def ActsIn (y : World) (a : Option Addr) (xs : List ActR) : Prop := ∀ (j : Nat) (x : ActR), xs[j]? = some x → ∃ b o, a = some ⟨b, o, none⟩ ∧
  y.cell? ⟨b, o + j * 8, none⟩ = some (.int .i64 x.what) ∧ y.cell? ⟨b, o + j * 8 + 1, none⟩ = some (.int .i64 x.stripe) ∧ y.cell? ⟨b, o + j * 8 + 2, none⟩ = some (.int .i64 x.gen) ∧
  y.cell? ⟨b, o + j * 8 + 3, none⟩ = some (.int .i64 x.index) ∧ y.cell? ⟨b, o + j * 8 + 4, none⟩ = some (.int .i64 x.seed) ∧ y.cell? ⟨b, o + j * 8 + 5, none⟩ = some (.int .i64 x.bend) ∧
  (-9223372036854775808 ≤ x.bend ∧ x.bend < 9223372036854775808) ∧ ∃ kv, y.cell? ⟨b, o + j * 8 + 6, none⟩ = some kv ∧ Reads y kv x.keep.length (intsC x.keep)

/-- What is known at a round's begin. -/
structure St (q : Pt) (ns : List (Pc × Value)) (B : List Atom) (i : Nat) : Prop where
  inv : Inv q ns B
  len : q.now.length = 96
  pend : q.pend.length ≤ i
  w0 : 0 ≤ q.writes
  w1 : q.writes ≤ i
  small : ∀ l ∈ q.now, l.length < 1000000
theorem St.fl {q : Pt} {ns : List (Pc × Value)} {B : List Atom} {i : Nat} (h : St q ns B i) : St q.fl ns B i := ⟨h.inv.flush, h.len, Nat.zero_le _, h.w0, h.w1, h.small⟩
theorem getN_le (q : Pt) (s : Int) (k : Nat) : (getN q s k).length ≤ k := by
  unfold getN
  refine Nat.le_trans (List.length_filterMap_le _ _) ?_
  simp
theorem hand_pick_id (x : Int) (h0 : 0 ≤ x) (h1 : x < 6) : handPick x 40 = x := by
  unfold handPick
  rw [Int.tmod_eq_emod_of_nonneg h0, if_neg (by omega)]
  omega
theorem apart_piece (x : ActR) : handPiece (handPick x.stripe 6) x.gen x.index x.seed 0 = ⟨handPick x.stripe 6, 1 + handPick x.gen 9, handPick x.index 6, bytesOf x.seed 32⟩ := by
  obtain ⟨h0, h1⟩ := handPick_bounds x.stripe 6 (by omega)
  have e : handPick 0 24 = 0 := by decide
  simp only [handPiece, e, hand_pick_id _ h0 h1]
  rfl
theorem apart_right (x : ActR) : rightP (handPiece (handPick x.stripe 6) x.gen x.index x.seed 0) := by
  rw [apart_piece]
  obtain ⟨h0, h1⟩ := handPick_bounds x.stripe 6 (by omega)
  obtain ⟨g0, g1⟩ := handPick_bounds x.gen 9 (by omega)
  obtain ⟨i0, i1⟩ := handPick_bounds x.index 6 (by omega)
  exact ⟨h0, (show handPick x.stripe 6 < 40 by omega), by show (1 : Int) ≤ 1 + _; omega, by show 1 + _ ≤ (1099511627776 : Int); omega, i0, i1, bytesOf_length _ _⟩

set_option maxRecDepth 100000 in
set_option maxHeartbeats 16000000 in
theorem apart_walk (a : Option Addr) (c : Nat) (xs : List ActR) (W : World) (ha : ∀ y, Below W.heap.size W y → ActsIn y a xs) :
    Calls Try.prog 7 #[.slice a xs.length c] W fun e w' => e = .returned (.bool true) ∧ Below W.heap.size W w' := by
  have hs0 := allOf_sat W
  have HN := Lib.hid (fun w L (hs : Sat W w L) => platter_new 96 W w L (by omega) (by omega) hs)
  have hB : ∀ w', Sat W w' (allOf W) → Below W.heap.size W w' := fun w' h => below_of h
  have HB := Lib.hid hB
  have HACT := Lib.hid (fun y (h : Sat W y (allOf W)) => ha y (hB y h))
  clear hB ha
  generalize allOf W = aW at *
  go_enter Try.func7, Try.ntmps7
  go_wp2_with fail
  refine (HN.out _ _ hs0).mono ?_; rintro r w1 ⟨bp, A, rfl, hA, hs1⟩
  clear hs0 HN
  go_wp2_with fail
  refine (known_any W _ _ hs1).mono ?_; rintro r w2 ⟨rfl, hs2⟩
  clear hs1
  have hs3 := hs2.newCells (pcsC (List.replicate 12 (pc0, .slice none 0 0))).toArray 66
  have hs4 := Sat.use (M := A ++ ([] ++ (cellsA w2.heap.size (pcsC (List.replicate 12 (pc0, .slice none 0 0))).toArray 66 :: aW))) hs3 (by intro x; simp only [cnt_append, cnt_cons, cnt_nil]; omega)
  go_wp2_with fail
  generalize w2.heap.size = zN at *
  clear hs2 hs3
  go_loopw [5] (fun iv wr => ∃ (i : Nat) (q : Pt) (A : List Atom) (ns : List (Pc × Value)) (B : List Atom), iv = .int .i64 i ∧ i ≤ 40 ∧ PtA bp q A ∧ St q ns B i ∧ Sat W wr (A ++ (B ++ (cellsA zN (pcsC ns).toArray 66 :: aW)))) (fun iv _ => (40 - (intOf iv).toNat))
  case atStart => exact ⟨0, q0, A, _, [], rfl, by omega, hA, ⟨Inv.start, by simp [q0], by simp [q0], by simp [q0], by simp [q0], q0_small⟩, hs4⟩
  case round =>
    clear hs4 hA
    obtain ⟨i, q, A, ns, B, rfl, hi, hA, hst, hs⟩ := hrel
    have HST := Lib.hid hst
    have HA := Lib.hid hA
    clear hst hA
    have i0 : (0 : Int) ≤ i := by omega
    by_cases hin : i < xs.length
    case neg =>
      have i1 : ¬ (i : Int) < xs.length := by omega
      go_wp2_with fail
      go_ret
      exact ⟨rfl, HB.out _ hs.right.right.tail⟩
    case pos =>
    have i1 : (i : Int) < xs.length := by omega
    by_cases hi40 : i < 40
    case neg =>
      have i2 : ¬ (i : Int) < 40 := by omega
      go_wp2_with fail
      go_ret
      exact ⟨rfl, HB.out _ hs.right.right.tail⟩
    case pos =>
    have i2 : (i : Int) < 40 := by omega
    obtain ⟨x, hx⟩ : ∃ x, xs[i]? = some x := ⟨_, List.getElem?_eq_getElem hin⟩
    obtain ⟨ba, oa, rfl, _⟩ := HACT.out wr hs.right.right.tail i x hx
    obtain ⟨LL, hLL⟩ : ∃ LL, LL = A ++ (B ++ (cellsA zN (pcsC ns).toArray 66 :: aW)) := ⟨_, rfl⟩
    have hact : ∀ y, Sat W y aW → y.cell? ⟨ba, oa + i * 8, none⟩ = some (.int .i64 x.what) ∧ y.cell? ⟨ba, oa + i * 8 + 1, none⟩ = some (.int .i64 x.stripe) ∧ y.cell? ⟨ba, oa + i * 8 + 2, none⟩ = some (.int .i64 x.gen) ∧ y.cell? ⟨ba, oa + i * 8 + 3, none⟩ = some (.int .i64 x.index) ∧ y.cell? ⟨ba, oa + i * 8 + 4, none⟩ = some (.int .i64 x.seed) := fun y hy => by
      obtain ⟨b2, o2, e, h0, h1, h2, h3, h4, _⟩ := HACT.out y hy i x hx
      cases e
      exact ⟨h0, h1, h2, h3, h4⟩
    have hLa : ∀ y, Sat W y LL → Sat W y aW := fun y hy => by rw [hLL] at hy; exact hy.right.right.tail
    rw [← hLL] at hs
    have c1 : ∀ y : Of W LL, y.v.cell? ⟨ba, oa + i * 8 + 1, none⟩ = some (.int .i64 x.stripe) := fun y => (hact y.v (hLa _ y.s)).2.1
    have c2 : ∀ y : Of W LL, y.v.cell? ⟨ba, oa + i * 8 + 2, none⟩ = some (.int .i64 x.gen) := fun y => (hact y.v (hLa _ y.s)).2.2.1
    have c3 : ∀ y : Of W LL, y.v.cell? ⟨ba, oa + i * 8 + 3, none⟩ = some (.int .i64 x.index) := fun y => (hact y.v (hLa _ y.s)).2.2.2.1
    have c4 : ∀ y : Of W LL, y.v.cell? ⟨ba, oa + i * 8 + 4, none⟩ = some (.int .i64 x.seed) := fun y => (hact y.v (hLa _ y.s)).2.2.2.2
    have HAC := Lib.hid hact
    have HLL := Lib.hid hLL
    have hpr := apart_right x
    have hpp := apart_piece x
    obtain ⟨h60, h61⟩ := handPick_bounds x.stripe 6 (by omega)
    obtain ⟨p, hp⟩ : ∃ p, p = handPiece (handPick x.stripe 6) x.gen x.index x.seed 0 := ⟨_, rfl⟩
    rw [← hp] at hpr hpp
    have HPR := Lib.hid hpr
    have HPP := Lib.hid hpp
    have HP := Lib.hid hp
    clear hx hact hLL hpr hpp hp hLa
    go_upto_region 8 with fail
    go_cut [6] (fun pv wx => ∃ (z6 : Nat) (R : List Atom) (v6 : Value), pv = .pointer (some ⟨z6, 0, none⟩) ∧ RowA 5 1 v6 p.data.length (bts p.data) R ∧ Sat W wx (cellsA z6 (pcCells p v6).toArray 45 :: (R ++ LL)))
    case first =>
      refine wp_region_plan [5, 21, 22, 23] [0, 1, 2, 3, 4, 6, 7, 8, 9, 10, 11, 12, 13, 14, 15, 16, 17, 18, 19, 20] [0, 1, 2, 3, 6, 7, 8, 9, 11, 12, 13, 14, 16, 17, 18, 19] [5, 22] [0, 1, 2, 3, 4, 6, 7, 8, 9, 10, 11, 12, 13, 14, 15, 16, 17, 18, 19, 20] (.two [5] (.two [21, 22, 23] .nil [22, 21, 23] .nil) [22, 5, 21, 23] .nil) (Held W LL) (by kernel_rfl) (by kernel_rfl) ?_ ?_
      · exact Held.mk hs.drew
      have hne : Nonempty (Of W LL) := ⟨⟨_, hs⟩⟩
      have hsT : Sat W wr.drew LL := hs.drew
      repeat (first | (refine can_pu1 rfl rfl rfl rfl rfl rfl (fun K hK => ?_); go_big_quiet_op; refine hK _ ?_; clear hK K) | (refine can_st1 rfl rfl rfl rfl rfl rfl (fun K hK => ?_); go_big_quiet_op; refine hK _ ?_; clear hK K) | (refine can_early1 rfl rfl rfl rfl rfl (fun K hK => ?_); go_big_quiet_op; refine hK _ ?_; clear hK K) | (refine can_skip rfl rfl rfl ?_; simp only [Act.put, List.setIfInBounds_toArray, List.set_cons_zero, List.set_cons_succ]))
      clear c1 c2 c3 c4 hne hs
      refine with_sat hsT ?_
      clear hsT
      intro wt hsT
      refine can_two ?_ ?_
      · skip
        refine can_actS rfl rfl rfl rfl (fun K hK => ?_)
        go_wp2_with fail
        refine (hand_pick x.stripe 6 _ (by omega) (by omega)).mono ?_; rintro r w4 ⟨rfl, rfl⟩
        apply hK
        refine ⟨Held.mk hsT, ?_⟩
        clear hK
        refine can_two ?_ ?_
        · skip
          refine can_actF rfl rfl rfl rfl (fun K hK => ?_)
          go_wp2_with fail
          refine (hand_piece (handPick x.stripe 6) x.gen x.index x.seed 0 W _ _ hsT (by decide) (by decide)).mono ?_; rintro r w5 ⟨v5, R5, rfl, hr5, hs5⟩
          rw [← HP.out] at hr5 ⊢
          apply hK
          clear hK
          obtain ⟨a5, c5, rfl⟩ := Ch.RowA.slice hr5
          unfold pcV
          refine can_actS rfl rfl rfl rfl (fun K hK => ?_)
          go_wp2_with fail
          refine ⟨Held.mk (Sat.alloc hs5.right _), ?_⟩
          have hs6 := Sat.newCells hs5 #[.int .i64 0, .int .i64 0, .int .i64 0, .slice none 0 0] 45
          generalize (w5).heap.size = z6 at *
          refine with_sat hs6 ?_
          clear hs6
          intro w6 hs6
          have hsF := hs6
          have g0 := hsF.cell m0 0
          have g1 := hsF.cell m0 1
          have g2 := hsF.cell m0 2
          have g3 := hsF.cell m0 3
          have j0 := hsF.free m0 0
          have j1 := hsF.free m0 1
          have j2 := hsF.free m0 2
          have j3 := hsF.free m0 3
          refine can_actF rfl rfl rfl rfl (fun K hK => ?_)
          go_wp2_with fail
          have hz := Sat.setCell (Sat.setCell (Sat.setCell (Sat.setCell hsF 0 (.int .i64 p.stripe)) 1 (.int .i64 p.gen)) 2 (.int .i64 p.index)) 3 (.slice a5 p.data.length c5)
          simp only [List.setIfInBounds_toArray, List.set_cons_zero, List.set_cons_succ] at hz
          refine can_end1 ?_; (try simp only [Exit.then])
          go_wp2_with fail
          go_meet
          exact ⟨z6, R5, .slice a5 p.data.length c5, rfl, hr5, hz⟩
        · skip
          refine can_actS rfl rfl rfl rfl (fun K hK => ?_)
          go_wp2_with fail
          refine ⟨Held.mk (Sat.alloc hsT _), ?_⟩
          have hs6 := Sat.newCells hsT #[.int .i64 0, .int .i64 0, .int .i64 0, .slice none 0 0] 45
          generalize (wt).heap.size = z6 at *
          refine with_sat hs6 ?_
          clear hs6
          intro w6 hs6
          refine can_actF rfl rfl rfl rfl (fun K hK => ?_)
          go_wp2_with fail
          refine (hand_piece (handPick x.stripe 6) x.gen x.index x.seed 0 W _ _ hs6 (by decide) (by decide)).mono ?_; rintro r w5 ⟨v5, R5, rfl, hr5, hs5⟩
          rw [← HP.out] at hr5 ⊢
          apply hK
          clear hK
          obtain ⟨a5, c5, rfl⟩ := Ch.RowA.slice hr5
          unfold pcV
          have hsF := Sat.use (M := cellsA z6 #[.int .i64 0, .int .i64 0, .int .i64 0, .slice none 0 0] 45 :: (R5 ++ LL)) hs5 (by intro x; simp only [cnt_append, cnt_cons, cnt_nil]; omega)
          have g0 := hsF.cell m0 0
          have g1 := hsF.cell m0 1
          have g2 := hsF.cell m0 2
          have g3 := hsF.cell m0 3
          have j0 := hsF.free m0 0
          have j1 := hsF.free m0 1
          have j2 := hsF.free m0 2
          have j3 := hsF.free m0 3
          refine can_actF rfl rfl rfl rfl (fun K hK => ?_)
          go_wp2_with fail
          have hz := Sat.setCell (Sat.setCell (Sat.setCell (Sat.setCell hsF 0 (.int .i64 p.stripe)) 1 (.int .i64 p.gen)) 2 (.int .i64 p.index)) 3 (.slice a5 p.data.length c5)
          simp only [List.setIfInBounds_toArray, List.set_cons_zero, List.set_cons_succ] at hz
          refine can_end1 ?_; (try simp only [Exit.then])
          go_wp2_with fail
          go_meet
          exact ⟨z6, R5, .slice a5 p.data.length c5, rfl, hr5, hz⟩
      · skip
        refine can_actS rfl rfl rfl rfl (fun K hK => ?_)
        go_wp2_with fail
        refine ⟨Held.mk (Sat.alloc hsT _), ?_⟩
        have hs6 := Sat.newCells hsT #[.int .i64 0, .int .i64 0, .int .i64 0, .slice none 0 0] 45
        generalize (wt).heap.size = z6 at *
        refine with_sat hs6 ?_
        clear hs6
        intro w6 hs6
        refine can_actS rfl rfl rfl rfl (fun K hK => ?_)
        go_wp2_with fail
        refine (hand_pick x.stripe 6 _ (by omega) (by omega)).mono ?_; rintro r w4 ⟨rfl, rfl⟩
        apply hK
        refine ⟨Held.mk hs6.tail, ?_⟩
        clear hK
        refine can_actF rfl rfl rfl rfl (fun K hK => ?_)
        go_wp2_with fail
        refine (hand_piece (handPick x.stripe 6) x.gen x.index x.seed 0 W _ _ hs6 (by decide) (by decide)).mono ?_; rintro r w5 ⟨v5, R5, rfl, hr5, hs5⟩
        rw [← HP.out] at hr5 ⊢
        apply hK
        clear hK
        obtain ⟨a5, c5, rfl⟩ := Ch.RowA.slice hr5
        unfold pcV
        have hsF := Sat.use (M := cellsA z6 #[.int .i64 0, .int .i64 0, .int .i64 0, .slice none 0 0] 45 :: (R5 ++ LL)) hs5 (by intro x; simp only [cnt_append, cnt_cons, cnt_nil]; omega)
        have g0 := hsF.cell m0 0
        have g1 := hsF.cell m0 1
        have g2 := hsF.cell m0 2
        have g3 := hsF.cell m0 3
        have j0 := hsF.free m0 0
        have j1 := hsF.free m0 1
        have j2 := hsF.free m0 2
        have j3 := hsF.free m0 3
        refine can_actF rfl rfl rfl rfl (fun K hK => ?_)
        go_wp2_with fail
        have hz := Sat.setCell (Sat.setCell (Sat.setCell (Sat.setCell hsF 0 (.int .i64 p.stripe)) 1 (.int .i64 p.gen)) 2 (.int .i64 p.index)) 3 (.slice a5 p.data.length c5)
        simp only [List.setIfInBounds_toArray, List.set_cons_zero, List.set_cons_succ] at hz
        refine can_end1 ?_; (try simp only [Exit.then])
        go_wp2_with fail
        go_meet
        exact ⟨z6, R5, .slice a5 p.data.length c5, rfl, hr5, hz⟩
    case rest =>
      clear hs c1 c2 c3 c4
      obtain ⟨z6, R, v6, rfl, hv, hs⟩ := hcut
      rw [HLL.out] at hs
      obtain ⟨a6, c6, rfl⟩ := Ch.RowA.slice hv
      have hpr := HPR.out
      have hps6 : p.stripe < 6 := by rw [HPP.out]; exact h61
      obtain ⟨sN, hsN⟩ : ∃ n : Nat, p.stripe = n := ⟨p.stripe.toNat, by have := hpr.1; omega⟩
      obtain ⟨jN, hjN⟩ : ∃ n : Nat, p.gen % 2 = n := ⟨(p.gen % 2).toNat, by omega⟩
      have hg1 := hpr.2.2.1
      have hrem : p.gen.tmod 2 = (jN : Int) := by rw [Int.tmod_eq_emod_of_nonneg (by omega)]; exact hjN
      have hs6' : sN < 6 := by omega
      have hj2 : jN < 2 := by omega
      have hK : placeN p.stripe p.gen = 2 * sN + jN := by unfold placeN placeI; omega
      have hst := HST.out
      have hs1 : Sat W wc (A ++ (R ++ (cellsA z6 (pcCells p (.slice a6 p.data.length c6)).toArray 45 :: (B ++ (cellsA zN (pcsC ns).toArray 66 :: aW))))) := hs.use (by intro x; simp only [cnt_append, cnt_cons, cnt_nil]; omega)
      have hpu := put_any bp q A p a6 c6 W wc _ HA.out hs1 (fun y hy => hv.reads (F := (cellsA z6 (pcCells p (.slice a6 p.data.length c6)).toArray 45 :: (B ++ (cellsA zN (pcsC ns).toArray 66 :: aW)))) hy.right) hpr (by rw [hst.len]; decide) (by have := hst.pend; omega) hst.w0 (by have := hst.w1; omega)
      rw [hK] at hpu
      have HPU := Lib.hid hpu
      have e0 := hs.cell m0 0
      have e1 := hs.cell m0 1
      have e2 := hs.cell m0 2
      have e3 := hs.cell m0 3
      simp only [pcCells, List.getElem?_toArray, List.getElem?_cons_zero, List.getElem?_cons_succ] at e0 e1 e2 e3
      have HSN := Lib.hid hsN
      have HJN := Lib.hid hjN
      have HREM := Lib.hid hrem
      clear hpu hs hs1 hsN hjN hrem hK hst
      go_wp2_with fail
      refine HPU.out.mono ?_; rintro r w9 ⟨A9, rfl, hA9, hs9⟩
      have hst := HST.out
      obtain ⟨po, vo, hno⟩ := hst.inv.some_at hs6' hj2
      have hs10 : Sat W w9 (cellsA zN (pcsC ns).toArray 66 :: (cellsA z6 (pcCells p (.slice a6 p.data.length c6)).toArray 45 :: (A9 ++ (R ++ (B ++ aW))))) := hs9.use (by intro x; simp only [cnt_append, cnt_cons, cnt_nil]; omega)
      have e0 := hs10.cell m1 0
      have e1 := hs10.cell m1 1
      have e2 := hs10.cell m1 2
      have e3 := hs10.cell m1 3
      simp only [pcCells, List.getElem?_toArray, List.getElem?_cons_zero, List.getElem?_cons_succ] at e0 e1 e2 e3
      rw [HSN.out] at e0
      have hix : sN * 8 + jN * 4 = (2 * sN + jN) * 4 := by omega
      have n0 : w9.cell? ⟨zN, sN * 8 + jN * 4, none⟩ = some (.int .i64 po.stripe) := by rw [hix, hs10.cell m0, List.getElem?_toArray]; exact pcsC_get hno 0 _ rfl
      have n1 : w9.cell? ⟨zN, sN * 8 + jN * 4 + 1, none⟩ = some (.int .i64 po.gen) := by rw [hix, hs10.cell m0, List.getElem?_toArray]; exact pcsC_get hno 1 _ rfl
      have n2 : w9.cell? ⟨zN, sN * 8 + jN * 4 + 2, none⟩ = some (.int .i64 po.index) := by rw [hix, hs10.cell m0, List.getElem?_toArray]; exact pcsC_get hno 2 _ rfl
      have n3 : w9.cell? ⟨zN, sN * 8 + jN * 4 + 3, none⟩ = some vo := by rw [hix, hs10.cell m0, List.getElem?_toArray]; exact pcsC_get hno 3 _ rfl
      have t0 := hs10.free m0 (sN * 8 + jN * 4)
      have t1 := hs10.free m0 (sN * 8 + jN * 4 + 1)
      have t2 := hs10.free m0 (sN * 8 + jN * 4 + 2)
      have t3 := hs10.free m0 (sN * 8 + jN * 4 + 3)
      have s0 : (0 : Int) ≤ sN := by omega
      have s5 : (sN : Int) < 6 := by omega
      have j0 : (0 : Int) ≤ jN := by omega
      have j1 : (jN : Int) < 2 := by omega
      have hrem := HREM.out
      have HIX := Lib.hid hix
      have HNO := Lib.hid hno
      clear hs9 hst hno hix
      go_wp2_with fail
      refine wp_region_one [8] [] [] [] [0, 1, 2, 3, 4, 5, 6, 7, 8] (by kernel_rfl) (by kernel_rfl) ?_
      repeat (first | (refine can_pu1 rfl rfl rfl rfl rfl rfl (fun K hK => ?_); go_big_quiet_op; refine hK _ ?_; clear hK K) | (refine can_st1 rfl rfl rfl rfl rfl rfl (fun K hK => ?_); go_big_quiet_op; refine hK _ ?_; clear hK K) | (refine can_early1 rfl rfl rfl rfl rfl (fun K hK => ?_); go_big_quiet_op; refine hK _ ?_; clear hK K) | (refine can_skip rfl rfl rfl ?_; simp only [Act.put, List.setIfInBounds_toArray, List.set_cons_zero, List.set_cons_succ]))
      refine can_act1 rfl rfl rfl (fun K hK => ?_)
      go_wp2_with fail
      have harr : ((((pcsC ns).toArray.setIfInBounds (sN * 8 + jN * 4) (.int .i64 sN)).setIfInBounds (sN * 8 + jN * 4 + 1) (.int .i64 p.gen)).setIfInBounds (sN * 8 + jN * 4 + 2) (.int .i64 p.index)).setIfInBounds (sN * 8 + jN * 4 + 3) (.slice a6 p.data.length c6) = (pcsC (ns.set (2 * sN + jN) (p, .slice a6 p.data.length c6))).toArray := by
        rw [List.setIfInBounds_toArray, List.setIfInBounds_toArray, List.setIfInBounds_toArray, List.setIfInBounds_toArray, HIX.out, ← HSN.out, pcsC_set _ _ (by rw [HST.out.inv.len]; omega)]
      have hz := (Sat.setCell (Sat.setCell (Sat.setCell (Sat.setCell hs10 (sN * 8 + jN * 4) (.int .i64 sN)) (sN * 8 + jN * 4 + 1) (.int .i64 p.gen)) (sN * 8 + jN * 4 + 2) (.int .i64 p.index)) (sN * 8 + jN * 4 + 3) (.slice a6 p.data.length c6)).drew
      rw [harr] at hz
      have hst1 : St (q.wr (2 * sN + jN) (layB p)) (ns.set (2 * sN + jN) (p, .slice a6 p.data.length c6)) (R ++ B) (i + 1) := by
        have hst := HST.out
        have h32 : p.data.length = 32 := HPR.out.2.2.2.2.2.2
        refine ⟨hst.inv.put hs6' hj2 HPR.out HSN.out HJN.out ((BlkIn.of_row hv (by omega)).mono fun y hy => List.mem_append_left _ hy) (fun y hy => List.mem_append_right _ hy) (by rw [hst.len]; decide), by rw [wr_length, hst.len], ?_, ?_, ?_, now_small hst.small (lay_small p HPR.out)⟩
        · have := hst.pend
          simp [Pt.wr]; omega
        · have := hst.w0
          simp only [Pt.wr]; omega
        · have := hst.w1
          simp only [Pt.wr]; omega
      refine can_end1 ?_; (try simp only [Exit.then])
      refine with_sat (Sat.use (M := A9 ++ ((R ++ B) ++ (cellsA zN (pcsC (ns.set (2 * sN + jN) (p, .slice a6 p.data.length c6))).toArray 66 :: aW))) hz (by intro x; simp only [cnt_append, cnt_cons, cnt_nil]; omega)) ?_
      have HST1 := Lib.hid hst1
      have HA9 := Lib.hid hA9
      generalize ns.set (2 * sN + jN) (p, .slice a6 p.data.length c6) = ns1 at *
      generalize q.wr (2 * sN + jN) (layB p) = q1 at *
      generalize R ++ B = B1 at *
      clear hst1 hA9 harr hz hs10 n0 n1 n2 n3 t0 t1 t2 t3 e0 e1 e2 e3 hrem HREM HIX HNO hv HST HA HPU HSN HJN hpr hg1
      intro w11 hs11
      have w0 := (HAC.out w11 hs11.right.right.tail).1
      go_upto_if 70 with fail
      go_cut [] (fun wx => ∃ (q2 : Pt) (A2 : List Atom), PtA bp q2 A2 ∧ St q2 ns1 B1 (i + 1) ∧ Sat W wx (A2 ++ (B1 ++ (cellsA zN (pcsC ns1).toArray 66 :: aW))))
      case first =>
        by_cases hw : x.what.tmod 5 = 0
        · rw [hw]
          have HFL := Lib.hid (flush_any bp q1 A9 W w11 _ HA9.out hs11 (by rw [HST1.out.len]; decide))
          clear hs11 w0 hw
          go_wp2_with fail
          refine HFL.out.mono ?_; rintro r w13 ⟨A13, rfl, hA13, hs13⟩
          go_wp2_with fail
          go_meet
          exact ⟨q1.fl, A13, hA13, HST1.out.fl, hs13⟩
        · have q0 : (x.what.tmod 5 == 0) = false := by simpa using hw
          rw [q0]
          clear w0 hw q0
          go_wp2_with fail
          go_meet
          exact ⟨q1, A9, HA9.out, HST1.out, hs11⟩
      case rest =>
        clear hs11 w0
        obtain ⟨q2, A2, hA2, hst2, hs12⟩ := hcut
        have HA2 := Lib.hid hA2
        have HST2 := Lib.hid hst2
        clear hA2 hst2 HST1 HA9 HPR HPP HP HAC
        go_wp2_with fail
        go_loopw [73] (fun sv wr => ∃ s : Nat, sv = .int .i64 s ∧ s ≤ 6 ∧ Sat W wr (A2 ++ (B1 ++ (cellsA zN (pcsC ns1).toArray 66 :: aW)))) (fun sv _ => (6 - (intOf sv).toNat))
        case atStart => exact ⟨0, rfl, by omega, hs12⟩
        case round =>
          clear hs12
          obtain ⟨s, rfl, hsle, hs⟩ := ‹_›
          have ss0 : (0 : Int) ≤ s := by omega
          by_cases hs6 : s < 6
          case neg =>
            have ss1 : ¬ (s : Int) < 6 := by omega
            go_wp2_with fail
            refine ⟨⟨i + 1, q2, A2, ns1, B1, by simp, by omega, HA2.out, HST2.out, hs⟩, ?_⟩
            simp [intOf]
            omega
          case pos =>
          have ss1 : (s : Int) < 6 := by omega
          have HGT := Lib.hid (get_any bp q2 A2 (s : Int) W _ _ HA2.out hs (by omega) (by omega) (by rw [HST2.out.len]; decide) HST2.out.small)
          clear hs
          go_wp2_with fail
          refine HGT.out.mono ?_; rintro r w14 ⟨v14, xs2, R2, B2, rfl, hr2, hxs2, hxb2, hs14⟩
          clear HGT
          obtain ⟨ax, cx, rfl⟩ := Ch.RowA.slice hr2
          have hlen2 : (getN q2 s 2).length = xs2.length := by
            have h := congrArg List.length hxs2
            rw [List.length_map] at h
            unfold getL at h
            rw [srt_length] at h
            exact h.symm
          have HLEN2 := Lib.hid hlen2
          have HXS2 := Lib.hid hxs2
          have HXB2 := Lib.hid hxb2
          have HR2 := Lib.hid hr2
          obtain ⟨m, hm⟩ : ∃ m, m = xs2.length := ⟨_, rfl⟩
          have HM := Lib.hid hm
          rw [← hm]
          clear hlen2 hxs2 hxb2 hr2 hm
          go_wp2_with fail
          go_loop [79, 9] (fun kv nv => ∃ (k nn : Nat), kv = .int .i64 k ∧ k ≤ 2 ∧ nv = .int .i64 nn ∧ nn = (getN q2 s k).length) (fun kv _ => (2 - (intOf kv).toNat))
          case atStart => exact ⟨0, 0, rfl, by omega, rfl, rfl⟩
          case round =>
            obtain ⟨k, nn, rfl, hk, rfl, hnn⟩ := ‹_›
            have hle := getN_le q2 s k
            have HNN := Lib.hid hnn
            have k0 : (0 : Int) ≤ k := by omega
            have nn0 : (0 : Int) ≤ nn := by omega
            have nn2 : (nn : Int) ≤ 2 := by omega
            by_cases hk2 : k < 2
            · have k1 : (k : Int) < 2 := by omega
              obtain ⟨p', v', hn⟩ := HST2.out.inv.some_at hs6 hk2
              have hcnt := HST2.out.inv.count hs6 hk2 hn
              have g0 : w14.cell? ⟨zN, s * 8 + k * 4 + 1, none⟩ = some (.int .i64 p'.gen) := by
                rw [show s * 8 + k * 4 + 1 = (2 * s + k) * 4 + 1 by omega, (hs14.cell (b := zN) (List.mem_append_right _ (List.mem_append_right _ (List.mem_append_right _ (List.mem_append_right _ m0))))), List.getElem?_toArray]
                exact pcsC_get hn 1 _ rfl
              by_cases hg : 0 < p'.gen
              · rw [if_pos hg] at hcnt
                have HC := Lib.hid hcnt
                clear hcnt hn hnn hle
                go_wp2_with fail
                refine ⟨⟨k + 1, nn + 1, by simp, by omega, by simp, by rw [HC.out, HNN.out]⟩, ?_⟩
                simp [intOf]
                omega
              · rw [if_neg hg] at hcnt
                have HC := Lib.hid hcnt
                clear hcnt hn hnn hle
                go_wp2_with fail
                refine ⟨⟨k + 1, nn, by simp, by omega, rfl, by rw [HC.out, HNN.out, Nat.add_zero]⟩, ?_⟩
                simp [intOf]
                omega
            · have e : k = 2 := by omega
              subst e
              have hnm : nn = m := by rw [hnn, HLEN2.out, HM.out]
              subst hnm
              clear hnn hle HNN HLEN2
              have hnn2 : nn ≤ 2 := by omega
              go_upto_region 25 with fail
              go_cut [110] (fun tv wx => tv = .bool false ∧ Sat W wx (R2 ++ (B2 ++ (A2 ++ (B1 ++ (cellsA zN (pcsC ns1).toArray 66 :: aW))))))
              case first =>
                by_cases h2 : nn = 2
                · have hm := HM.out
                  have hr2 := HR2.out
                  have hxs2 := HXS2.out
                  have hcc : ∃ (gm om : Nat) (ge ge2 : Int), ax = some ⟨gm, om, none⟩ ∧ (2 : Int) ≤ cx ∧ w14.cell? ⟨gm, om + 1, none⟩ = some (.int .i64 ge) ∧ w14.cell? ⟨gm, om + 5, none⟩ = some (.int .i64 ge2) ∧ ¬ ge < ge2 := by
                    rcases xs2 with _ | ⟨⟨x1, u1⟩, _ | ⟨⟨x2, u2⟩, _ | ⟨z, xs2⟩⟩⟩
                    · simp at hm; omega
                    · simp at hm; omega
                    · obtain ⟨gm, om, km, he, h1, h2', _⟩ := Ch.RowA.some_of hr2 (by simp)
                      obtain ⟨rfl, rfl⟩ : ax = some ⟨gm, om, none⟩ ∧ cx = km := by
                        cases he
                        exact ⟨rfl, rfl⟩
                      have hc := fun j u (hu : (pcsC [(x1, u1), (x2, u2)])[j]? = some u) => (hr2.cells hs14 rfl j (List.getElem?_eq_some_iff.1 hu).1).1.trans hu
                      refine ⟨gm, om, x1.gen, x2.gen, rfl, ?_, hc 1 _ rfl, hc 5 _ rfl, srt_two hxs2.symm⟩
                      simp only [List.length_cons, List.length_nil] at h1
                      omega
                    · simp at hm; omega
                  obtain ⟨gm, om, ge, ge2, rfl, hcx, d1, d5, hnlt⟩ := hcc
                  have hc1 : (1 : Int) ≤ cx := by omega
                  have q0 : ((nn : Int) == 2) = true := by rw [h2]; rfl
                  have b0 : (0 : Int) < nn := by omega
                  have b1 : (1 : Int) < nn := by omega
                  clear hm hr2 hxs2 HM HR2 h2
                  refine wp_region_one [] [] [] [] [0, 1, 2, 3, 4, 5, 6, 7, 8, 9, 10, 11, 12, 13, 14, 15, 16, 17, 18] (by kernel_rfl) (by kernel_rfl) ?_
                  repeat (first | (refine can_pu1 rfl rfl rfl rfl rfl rfl (fun K hK => ?_); go_big_quiet_op; refine hK _ ?_; clear hK K) | (refine can_st1 rfl rfl rfl rfl rfl rfl (fun K hK => ?_); go_big_quiet_op; refine hK _ ?_; clear hK K) | (refine can_early1 rfl rfl rfl rfl rfl (fun K hK => ?_); go_big_quiet_op; refine hK _ ?_; clear hK K) | (refine can_skip rfl rfl rfl ?_; simp only [Act.put, List.setIfInBounds_toArray, List.set_cons_zero, List.set_cons_succ]))
                  refine can_end1 ?_; (try simp only [Exit.then])
                  go_wp2_with fail
                  go_meet
                  exact ⟨rfl, hs14.drew⟩
                · have q0 : ((nn : Int) == 2) = false := by simp; omega
                  refine wp_region_one [] [] [] [] [0, 1, 2, 3, 4, 5, 6, 7, 8, 9, 10, 11, 12, 13, 14, 15, 16, 17, 18] (by kernel_rfl) (by kernel_rfl) ?_
                  repeat (first | (refine can_pu1 rfl rfl rfl rfl rfl rfl (fun K hK => ?_); go_big_quiet_op; refine hK _ ?_; clear hK K) | (refine can_st1 rfl rfl rfl rfl rfl rfl (fun K hK => ?_); go_big_quiet_op; refine hK _ ?_; clear hK K) | (refine can_early1 rfl rfl rfl rfl rfl (fun K hK => ?_); go_big_quiet_op; refine hK _ ?_; clear hK K) | (refine can_skip rfl rfl rfl ?_; simp only [Act.put, List.setIfInBounds_toArray, List.set_cons_zero, List.set_cons_succ]))
                  refine can_end1 ?_; (try simp only [Exit.then])
                  go_wp2_with fail
                  go_meet
                  exact ⟨rfl, hs14.drew⟩
              case rest =>
                clear hs14
                obtain ⟨rfl, hs15⟩ := hcut
                go_wp2_with fail
                go_loopw [113] (fun kv wr => ∃ k : Nat, kv = .int .i64 k ∧ k ≤ nn ∧ Sat W wr (R2 ++ (B2 ++ (A2 ++ (B1 ++ (cellsA zN (pcsC ns1).toArray 66 :: aW)))))) (fun kv _ => (nn - (intOf kv).toNat))
                case atStart => exact ⟨0, rfl, Nat.zero_le _, hs15⟩
                case round =>
                  clear hs15
                  obtain ⟨k, rfl, hk, hs⟩ := ‹_›
                  have k0 : (0 : Int) ≤ k := by omega
                  by_cases hkn : k < nn
                  case neg =>
                    have k1 : ¬ (k : Int) < nn := by omega
                    go_wp2_with fail
                    refine ⟨⟨s + 1, by simp, by omega, hs.right.right⟩, ?_⟩
                    simp [intOf]
                    omega
                  case pos =>
                  have k1 : (k : Int) < nn := by omega
                  have k2 : (k : Int) ≤ 2 := by omega
                  have hm := HM.out
                  have hr2 := HR2.out
                  obtain ⟨⟨px, vx⟩, hpx⟩ : ∃ y, xs2[k]? = some y := ⟨_, List.getElem?_eq_getElem (by omega)⟩
                  obtain ⟨gm, om, km, he, _, _, _⟩ := Ch.RowA.some_of hr2 (by omega)
                  obtain ⟨rfl, rfl⟩ : ax = some ⟨gm, om, none⟩ ∧ cx = km := by
                    cases he
                    exact ⟨rfl, rfl⟩
                  have hc := fun f u (hu : (pcCells px vx)[f]? = some u) => (hr2.cells hs rfl (k * 4 + f) (List.getElem?_eq_some_iff.1 (pcsC_get hpx f u hu)).1).1.trans (pcsC_get hpx f u hu)
                  have hmem : px ∈ getL q2 s := by
                    rw [← HXS2.out]
                    exact List.mem_map.2 ⟨_, List.mem_of_getElem? hpx, rfl⟩
                  obtain ⟨j, v', hj, hn, hri, hps, hgj, hbi⟩ := HST2.out.inv.get hs6 hmem
                  obtain ⟨hbx, _⟩ := HXB2.out _ (List.mem_of_getElem? hpx)
                  simp only at hbx
                  obtain ⟨ps, pg, pi, pd⟩ := px
                  simp only at hps hgj
                  subst hps
                  have hrem : pg.tmod 2 = (j : Int) := by
                    have := hri.2.2.1
                    simp only at this
                    rw [Int.tmod_eq_emod_of_nonneg (by omega)]; exact hgj
                  have hp32 : pd.length = 32 := hri.2.2.2.2.2.2
                  have hbx2 := hbx
                  have hbi2 := hbi
                  obtain ⟨gx, ox, kx, rfl, _, _⟩ := hbx
                  obtain ⟨gy, oy, ky, rfl, _, _⟩ := hbi
                  have h0 := hc 0 _ rfl
                  have h1 := hc 1 _ rfl
                  have h2 := hc 2 _ rfl
                  have h3 := hc 3 _ rfl
                  rw [Nat.add_zero] at h0
                  rw [← Nat.add_assoc] at h1 h2 h3
                  simp only at h0 h1 h2 h3
                  have hsn := hs.newCells #[.int .i64 s, .int .i64 pg, .int .i64 pi, .slice (some ⟨gx, ox, none⟩) pd.length kx] 45
                  have hmz : cellsA zN (pcsC ns1).toArray 66 ∈ cellsA wr.heap.size #[.int .i64 s, .int .i64 pg, .int .i64 pi, .slice (some ⟨gx, ox, none⟩) pd.length kx] 45 :: (R2 ++ (B2 ++ (A2 ++ (B1 ++ (cellsA zN (pcsC ns1).toArray 66 :: aW))))) := .tail _ (List.mem_append_right _ (List.mem_append_right _ (List.mem_append_right _ (List.mem_append_right _ m0))))
                  have n0 : (wr.alloc (.cells #[.int .i64 s, .int .i64 pg, .int .i64 pi, .slice (some ⟨gx, ox, none⟩) pd.length kx] 45)).cell? ⟨zN, s * 8 + j * 4, none⟩ = some (.int .i64 s) := by
                    rw [show s * 8 + j * 4 = (2 * s + j) * 4 + 0 by omega, hsn.cell hmz, List.getElem?_toArray]; exact pcsC_get hn 0 _ rfl
                  have n1 : (wr.alloc (.cells #[.int .i64 s, .int .i64 pg, .int .i64 pi, .slice (some ⟨gx, ox, none⟩) pd.length kx] 45)).cell? ⟨zN, s * 8 + j * 4 + 1, none⟩ = some (.int .i64 pg) := by
                    rw [show s * 8 + j * 4 + 1 = (2 * s + j) * 4 + 1 by omega, hsn.cell hmz, List.getElem?_toArray]; exact pcsC_get hn 1 _ rfl
                  have n2 : (wr.alloc (.cells #[.int .i64 s, .int .i64 pg, .int .i64 pi, .slice (some ⟨gx, ox, none⟩) pd.length kx] 45)).cell? ⟨zN, s * 8 + j * 4 + 2, none⟩ = some (.int .i64 pi) := by
                    rw [show s * 8 + j * 4 + 2 = (2 * s + j) * 4 + 2 by omega, hsn.cell hmz, List.getElem?_toArray]; exact pcsC_get hn 2 _ rfl
                  have n3 : (wr.alloc (.cells #[.int .i64 s, .int .i64 pg, .int .i64 pi, .slice (some ⟨gx, ox, none⟩) pd.length kx] 45)).cell? ⟨zN, s * 8 + j * 4 + 3, none⟩ = some (.slice (some ⟨gy, oy, none⟩) pd.length ky) := by
                    rw [show s * 8 + j * 4 + 3 = (2 * s + j) * 4 + 3 by omega, hsn.cell hmz, List.getElem?_toArray]; exact pcsC_get hn 3 _ rfl
                  have HSM := Lib.hid (same_any ⟨s, pg, pi, pd⟩ ⟨s, pg, pi, pd⟩ (.slice (some ⟨gx, ox, none⟩) pd.length kx) (.slice (some ⟨gy, oy, none⟩) pd.length ky) W _ _ hsn.drew (fun y hy => hbx2.reads hy (fun z hz => by simp [hz])) (fun y hy => hbi2.reads hy (fun z hz => by simp [hz])) (by show pd.length < 1000000; omega) (by show pd.length < 1000000; omega))
                  have j0 : (0 : Int) ≤ j := by omega
                  have j1 : (j : Int) < 2 := by omega
                  clear hc hm hr2 hpx hmem hn hri hgj hbx2 hbi2 hs hmz HM HR2 HXS2 HXB2 hp32
                  have z0 := hsn.cell m0 0
                  have z1 := hsn.cell m0 1
                  have z2 := hsn.cell m0 2
                  have z3 := hsn.cell m0 3
                  clear hsn
                  go_wp2_with fail
                  refine wp_region_one [13] [] [] [] [0, 1, 2, 3, 4, 5, 6, 7, 8, 9, 10, 11, 12, 13, 14, 15] (by kernel_rfl) (by kernel_rfl) ?_
                  repeat (first | (refine can_pu1 rfl rfl rfl rfl rfl rfl (fun K hK => ?_); go_big_quiet_op; refine hK _ ?_; clear hK K) | (refine can_st1 rfl rfl rfl rfl rfl rfl (fun K hK => ?_); go_big_quiet_op; refine hK _ ?_; clear hK K) | (refine can_early1 rfl rfl rfl rfl rfl (fun K hK => ?_); go_big_quiet_op; refine hK _ ?_; clear hK K) | (refine can_skip rfl rfl rfl ?_; simp only [Act.put, List.setIfInBounds_toArray, List.set_cons_zero, List.set_cons_succ]))
                  refine can_act1 rfl rfl rfl (fun K hK => ?_)
                  go_wp2_with fail
                  refine HSM.out.mono ?_
                  rintro r w20 ⟨rfl, hs20⟩
                  rw [decide_eq_true trivial]
                  apply hK
                  clear hK HSM n0 n1 n2 n3 z0 z1 z2 z3 h0 h1 h2 h3 hrem
                  repeat (first | (refine can_pu1 rfl rfl rfl rfl rfl rfl (fun K hK => ?_); go_big_quiet_op; refine hK _ ?_; clear hK K) | (refine can_st1 rfl rfl rfl rfl rfl rfl (fun K hK => ?_); go_big_quiet_op; refine hK _ ?_; clear hK K) | (refine can_early1 rfl rfl rfl rfl rfl (fun K hK => ?_); go_big_quiet_op; refine hK _ ?_; clear hK K) | (refine can_skip rfl rfl rfl ?_; simp only [Act.put, List.setIfInBounds_toArray, List.set_cons_zero, List.set_cons_succ]))
                  refine can_end1 ?_; (try simp only [Exit.then])
                  go_wp2_with fail
                  refine ⟨⟨k + 1, by simp, by omega, hs20.tail⟩, ?_⟩
                  simp [intOf]
                  omega
end Go.Proofs.Ytdkhgkkdnjejmaa.Ch
