/-
  CauseKnown: the walk.
-/
import Derived.Test.YtoknokbbggnmjaaDoorCaZa
import Derived.Test.YtoknokbbggnmjaaDoorCaHn
import Derived.Test.YtoknokbbggnmjaaDoorCaHx
namespace Go.Proofs.YtoknokbbggnmjaaDoor.Ca
set_option linter.unusedSimpArgs false
open Go Go.RowKit Go.Sl Go.Extern.Stop Go.Stop Go.Extern
set_option linter.unusedVariables false

set_option maxRecDepth 100000 in
set_option maxHeartbeats 8000000 in
theorem causeKnown_walk (W : World) (hG : ErrT W) :
    Calls Tryd.prog 6 #[] W fun e w' => e = .returned (.bool true) ∧ Below W.heap.size W w' := by
  have hGW : ∀ w L, Sat W w (L ++ allOf W) → ErrT w := fun w L h => by
    have hb := Sat.below_all h
    unfold ErrT at hG ⊢
    rw [hb.cell (World.block_lt_of_cell? _ _ hG), hG]
  go_enter Tryd.func6, Tryd.ntmps6
  go_wp2_with fail
  refine (known_true W W (allOf W) (allOf_sat W) (fun w h => hGW w [] h)).mono ?_; rintro r w1 ⟨rfl, hs1⟩
  go_wp2_with fail
  refine (at_node 3 (.code 8) W w1 _ hs1).mono ?_; rintro r w2 ⟨b1, rfl, hs2⟩
  simp only [val] at hs2 ⊢
  clear hs1
  go_wp2_with fail
  refine (errors_new _ W w2 _ hs2).mono ?_; rintro r w3 ⟨b2, rfl, hs3⟩
  clear hs2
  go_wp2_with fail
  refine (of_stripe 2 (.other b2 ⟨#[120]⟩) W w3 _ hs3).mono ?_; rintro r w4 ⟨b3, rfl, hs4⟩
  simp only [val] at hs4 ⊢
  clear hs3
  have hs5 := row_new hs4 #[.iface 46 (.pointer (some ⟨b1, 0, none⟩)), .iface 47 (.pointer (some ⟨b3, 0, none⟩))] 27
  go_wp2_with fail
  refine (join_any W _ _ _ [some (.on b1 3 (.code 8)), some (.of b3 2 (.other b2 ⟨#[120]⟩))] hs5 ⟨by simp, _, ⟨rfl, .inr ⟨w4.heap.size, 0, 2, rfl, Nat.le_refl _, by decide, rfl⟩⟩, fun x hx => by rw [List.mem_singleton.1 hx]; exact List.mem_cons_self ..⟩).mono ?_
  rintro r w5 ⟨b4, v4, R4, rfl, hr4, hs6⟩
  clear hs4 hs5
  obtain ⟨T, hT⟩ : ∃ T, T = cellsA b4 #[v4] 60 :: (R4 ++ (cellsA b3 #[.int .i64 2, .iface 89 (.pointer (some ⟨b2, 0, none⟩))] 54 :: cellsA b2 #[.string ⟨#[120]⟩] 91 :: [cellsA b1 #[.int .i64 3, .iface 29 (.int .i64 8)] 52])) := ⟨_, rfl⟩
  have iA : In T (.on b1 3 (.code 8)) := In.on' (by rw [hT]; exact List.mem_cons_of_mem _ (List.mem_append_right _ m2)) In.code'
  have iC : In T (.of b3 2 (.other b2 ⟨#[120]⟩)) := In.of' (by rw [hT]; exact List.mem_cons_of_mem _ (List.mem_append_right _ m0)) (by unfold In; rw [hT]; exact List.mem_cons_of_mem _ (List.mem_append_right _ m1))
  have iB : In T (.all b4 v4 [.on b1 3 (.code 8), .of b3 2 (.other b2 ⟨#[120]⟩)]) := In.all' (by rw [hT]; exact m0) ⟨by simp, R4, by simpa using hr4, fun x hx => by rw [hT]; exact List.mem_cons_of_mem _ (List.mem_append_left _ hx)⟩ (InL.of fun x hx => by
    rcases List.mem_cons.1 hx with rfl | hx
    · exact iA
    · rw [List.mem_singleton.1 hx]; exact iC)
  have hs7 : Sat W w5 (T ++ allOf W) := by rw [hT]; exact Sat.use hs6 (by intro x; simp only [cnt_append, cnt_cons, cnt_nil]; omega)
  have hb1 : ∀ w L, Sat W w (L ++ (T ++ allOf W)) → w.cell? ⟨b1, 0, none⟩ = some (.int .i64 3) := fun w L h => by
    rw [hT] at h
    exact h.cell (List.mem_append_right _ (List.mem_append_left _ (List.mem_cons_of_mem _ (List.mem_append_right _ m2)))) 0
  have hb4 : ∀ w L, Sat W w (L ++ (T ++ allOf W)) → w.cell? ⟨b4, 0, none⟩ = some v4 := fun w L h => by
    rw [hT] at h
    exact h.cell (List.mem_append_right _ (List.mem_append_left _ m0)) 0
  obtain ⟨a4, c4, rfl⟩ := Ca.RowA.slice hr4
  have HB1 := Lib.hid hb1
  have HB4 := Lib.hid hb4
  clear hT hs6 hr4 hb1 hb4
  go_wp2_with fail
  refine (stripe_any (.on b1 3 (.code 8)) W w5 T (allOf W) iA (hGW w5 T hs7) hs7).mono ?_; rintro r w6 ⟨rfl, hs8⟩
  rw [show of1 (.on b1 3 (.code 8)) = none by simp [of1]]
  simp only [stripeN, Option.isSome_none]
  rw [show val (.all b4 (.slice a4 2 c4) [.on b1 3 (.code 8), .of b3 2 (.other b2 ⟨#[120]⟩)]) = .iface 58 (.pointer (some ⟨b4, 0, none⟩)) from rfl]
  clear hs7
  obtain ⟨G, hG0⟩ : ∃ G, G = cellsA (w6.heap.size + 3) #[.slice (some ⟨w6.heap.size + 2, 0, none⟩) 2 2] 60 :: (w6.heap.size + 2, rowP 27 0 ((#[.nilIface, .iface 29 (.int .i64 1)] : Array Value).size * 1) (#[.nilIface, .iface 29 (.int .i64 1)] : Array Value).toList) :: allOf W := ⟨_, rfl⟩
  have hs9 : Sat W ((((w6.alloc (.cells #[.pointer none] 46)).alloc (.cells #[.pointer none] 58)).alloc (.cells #[.nilIface, .iface 29 (.int .i64 1)] 27)).alloc (.cells #[.slice (some ⟨w6.heap.size + 2, 0, none⟩) 2 2] 60)) (cellsA w6.heap.size #[.pointer none] 46 :: cellsA (w6.heap.size + 1) #[.pointer none] 58 :: (T ++ G)) := by
    have h := (row_new ((hs8.newCells #[.pointer none] 46).newCells #[.pointer none] 58) #[.nilIface, .iface 29 (.int .i64 1)] 27).newCells #[.slice (some ⟨w6.heap.size + 2, 0, none⟩) 2 2] 60
    rw [show (((w6.alloc (.cells #[.pointer none] 46)).alloc (.cells #[.pointer none] 58)).alloc (.cells #[.nilIface, .iface 29 (.int .i64 1)] 27)).heap.size = w6.heap.size + 3 by simp, show ((w6.alloc (.cells #[.pointer none] 46)).alloc (.cells #[.pointer none] 58)).heap.size = w6.heap.size + 2 by simp, show (w6.alloc (.cells #[.pointer none] 46)).heap.size = w6.heap.size + 1 by simp] at h
    rw [hG0]
    exact Sat.use h (by intro x; simp only [cnt_append, cnt_cons, cnt_nil]; omega)
  have hGE : ∀ w, Sat W w (T ++ G) → ErrT w := fun w h => hGW w [] (by rw [hG0] at h; exact Sat.use h (by intro x; simp only [cnt_append, cnt_cons, cnt_nil]; omega))
  have hBE : ∀ w, Sat W w (T ++ G) → Below W.heap.size W w := fun w h => Sat.below_all (L := []) (by rw [hG0] at h; exact Sat.use h (by intro x; simp only [cnt_append, cnt_cons, cnt_nil]; omega))
  have hOb : cellsA (w6.heap.size + 3) #[.slice (some ⟨w6.heap.size + 2, 0, none⟩) 2 2] 60 ∈ G := by rw [hG0]; exact m0
  have hOr : InRow G (.slice (some ⟨w6.heap.size + 2, 0, none⟩) 2 2) ([none, some (ET.code 1)].map oval) := ⟨by simp, _, ⟨rfl, .inr ⟨_, 0, 2, rfl, Nat.le_refl _, by decide, rfl⟩⟩, fun x hx => by rw [List.mem_singleton.1 hx, hG0]; exact m1⟩
  have HB1' : Hid (∀ w L, Sat W w (L ++ (T ++ G)) → w.cell? ⟨b1, 0, none⟩ = some (.int .i64 3)) := Lib.hid (fun w L h => HB1.out w L (by rw [hG0] at h; exact Sat.use h (by intro x; simp only [cnt_append, cnt_cons, cnt_nil]; omega)))
  have HB4' : Hid (∀ w L, Sat W w (L ++ (T ++ G)) → w.cell? ⟨b4, 0, none⟩ = some (.slice a4 2 c4)) := Lib.hid (fun w L h => HB4.out w L (by rw [hG0] at h; exact Sat.use h (by intro x; simp only [cnt_append, cnt_cons, cnt_nil]; omega)))
  clear hG0 hs8 HB1 HB4
  go_wp2_with fail
  refine (at_nil 1 _).mono ?_; rintro r w7 ⟨rfl, rfl⟩
  go_wp2_with fail
  refine (of_nil 1 _).mono ?_; rintro r w7 ⟨rfl, rfl⟩
  go_wp2_with fail
  refine (join_any W _ _ _ [] hs9 ⟨by simp, [], RowA.nil _ _, fun x hx => by cases hx⟩).mono ?_
  rintro r w7 ⟨rfl, hs10⟩
  clear hs9
  generalize w6.heap.size = z at *
  have iG : ∀ w L, Sat W w (L ++ (T ++ G)) → Sat W w (T ++ (L ++ G)) := fun w L h => Sat.use h (by intro x; simp only [cnt_append, cnt_cons, cnt_nil]; omega)
  go_wp2_with fail
  have hs11 := row_new hs10 #[.nilIface, .iface 46 (.pointer (some ⟨b1, 0, none⟩)), .nilIface] 27
  refine (join_any W _ _ _ [none, some (.on b1 3 (.code 8)), none] hs11 ⟨by simp, _, ⟨rfl, .inr ⟨w7.heap.size, 0, 3, rfl, Nat.le_refl _, by decide, rfl⟩⟩, fun x hx => by rw [List.mem_singleton.1 hx]; exact List.mem_cons_self ..⟩).mono ?_
  rintro r w8 ⟨rfl, hs12⟩
  rw [show val (ET.on b1 3 (.code 8)) = .iface 46 (.pointer (some ⟨b1, 0, none⟩)) from rfl]
  have hs13 : Sat W w8 ((cellsA z #[.pointer none] 46 :: [cellsA (z + 1) #[.pointer none] 58]) ++ (T ++ G)) := hs12.tail
  clear hs10 hs11 hs12
  have q1 := eq_val (.on b1 3 (.code 8)) (.on b1 3 (.code 8)) W w8 T _ iA iA (iG _ _ hs13)
  rw [eqv_self, show val (ET.on b1 3 (.code 8)) = .iface 46 (.pointer (some ⟨b1, 0, none⟩)) from rfl] at q1
  go_wp2_with fail
  refine (code_nil _).mono ?_; rintro r w9 ⟨rfl, rfl⟩
  go_wp2_with fail
  refine (errors_new _ W _ _ hs13).mono ?_; rintro r w9 ⟨b5, rfl, hs14⟩
  clear hs13 q1
  go_wp2_with fail
  have hs15 : Sat W w9 ([cellsA b5 #[.string ⟨#[121]⟩] 91] ++ (cellsA z #[.pointer none] 46 :: cellsA (z + 1) #[.pointer none] 58 :: (T ++ G))) := hs14
  refine (code_any (.other b5 ⟨#[121]⟩) W w9 _ _ (by unfold In; exact List.mem_singleton.2 rfl) (hGE _ (Sat.use hs15 (by intro x; simp only [cnt_append, cnt_cons, cnt_nil]; omega))) hs15).mono ?_; rintro r w10 ⟨rfl, hs16⟩
  rw [show codeOf (some (ET.other b5 ⟨#[121]⟩)) = 8 by simp [codeOf, code1]]
  have hs17 : Sat W w10 (T ++ ((cellsA z #[.pointer none] 46 :: [cellsA (z + 1) #[.pointer none] 58]) ++ G)) := Sat.use hs16 (by intro x; simp only [cnt_append, cnt_cons, cnt_nil]; omega)
  clear hs14 hs15 hs16
  go_wp2_with fail
  refine (is_nil 8 _).mono ?_; rintro r w11 ⟨rfl, rfl⟩
  obtain ⟨bE, hbE⟩ : ∃ bE, bE = ET.all b4 (.slice a4 2 c4) [.on b1 3 (.code 8), .of b3 2 (.other b2 ⟨#[120]⟩)] := ⟨_, rfl⟩
  have bv : val bE = .iface 58 (.pointer (some ⟨b4, 0, none⟩)) := by rw [hbE]; rfl
  have b8 : hasC 8 bE = true := by rw [hbE]; simp [hasC, hasE, hasEL, eqv]
  have bb1 : hasC 1 bE = false := by rw [hbE]; simp [hasC, hasE, hasEL, eqv]
  have iB' : In T bE := by rw [hbE]; exact iB
  have bt : textE bE = [110, 111, 100, 101, 32, 51, 58, 32, 101, 114, 114, 110, 111, 32, 56, 59, 32, 115, 116, 114, 105, 112, 101, 32, 50, 58, 32, 120] := by rw [hbE]; simp [textE, textL, tNode, tStripe, tColon, tErrno, tSemi, dg, Lib.join_cons, Lib.joinTail]
  have bd : Digs bE := by rw [hbE]; simp [Digs, DigsL]
  have bo : on1 bE = some (b1, 3) := by rw [hbE]; simp [on1, onL]
  have ba : al1 bE = some (b4, .slice a4 2 c4) := by rw [hbE]; simp [al1]
  have at_ : textE (ET.on b1 3 (.code 8)) = [110, 111, 100, 101, 32, 51, 58, 32, 101, 114, 114, 110, 111, 32, 56] := by simp [textE, tNode, tColon, tErrno, dg]
  have ad : Digs (ET.on b1 3 (.code 8)) := by simp [Digs]
  have be : errF bE = 23 := by rw [hbE]; rfl
  have br : recvE bE = .pointer (some ⟨b4, 0, none⟩) := by rw [hbE]; rfl
  have ot : ([none, some (ET.code 1)]).map textO = [[110, 111, 110, 101], [101, 114, 114, 110, 111, 32, 49]] := by simp [textO, textE, tErrno, dg]
  have oc : codeO [none, some (ET.code 1)] = some 1 := by simp [codeO, code1]
  have OT := Lib.hid ot
  have OC := Lib.hid oc
  have BV := Lib.hid bv
  have B8 := Lib.hid b8
  have BB1 := Lib.hid bb1
  have BT := Lib.hid bt
  have BO := Lib.hid bo
  have BA := Lib.hid ba
  have AT := Lib.hid at_
  have BE := Lib.hid be
  have BR := Lib.hid br
  clear bv b8 bb1 bt bo ba at_ be br ot oc hbE iB
  have fin : ∀ w, Sat W w (T ++ ((cellsA z #[.pointer none] 46 :: [cellsA (z + 1) #[.pointer none] 58]) ++ G)) → Calls Tryd.prog 17 #[.iface 58 (.pointer (some ⟨b4, 0, none⟩)), .int .i64 8] w fun r w' => r = .returned (.bool true) ∧ Sat W w' (T ++ ((cellsA z #[.pointer none] 46 :: [cellsA (z + 1) #[.pointer none] 58]) ++ G)) := fun w h => by
    rw [← BV.out, ← B8.out]; exact causeIs bE 8 W w T _ iB' h
  have FIN := Lib.hid fin
  clear fin
  have hsz : Sat W w10 (cellsA z #[.pointer none] 46 :: cellsA (z + 1) #[.pointer none] 58 :: (T ++ G)) := Sat.use hs17 (by intro x; simp only [cnt_append, cnt_cons, cnt_nil]; omega)
  clear hsz
  have fin2 : ∀ w, Sat W w (T ++ ((cellsA z #[.pointer none] 46 :: [cellsA (z + 1) #[.pointer none] 58]) ++ G)) → Calls Tryd.prog 17 #[.iface 58 (.pointer (some ⟨b4, 0, none⟩)), .int .i64 1] w fun r w' => r = .returned (.bool false) ∧ Sat W w' (T ++ ((cellsA z #[.pointer none] 46 :: [cellsA (z + 1) #[.pointer none] 58]) ++ G)) := fun w h => by
    rw [← BV.out, ← BB1.out]; exact causeIs bE 1 W w T _ iB' h
  have fin3 : ∀ w, Sat W w (T ++ ((cellsA z #[.pointer none] 46 :: [cellsA (z + 1) #[.pointer none] 58]) ++ G)) → Calls Tryd.prog 60 #[.pointer (some ⟨b1, 0, none⟩)] w fun r w' => r = .returned (.string ⟨#[110, 111, 100, 101, 32, 51, 58, 32, 101, 114, 114, 110, 111, 32, 56]⟩) ∧ Sat W w' (T ++ ((cellsA z #[.pointer none] 46 :: [cellsA (z + 1) #[.pointer none] 58]) ++ G)) := fun w h => by
    have h2 := error_any (.on b1 3 (.code 8)) ad (by rw [AT.out]; decide) W w T _ iA h
    rw [AT.out] at h2
    exact h2
  have fin4 : ∀ w, Sat W w (T ++ ((cellsA z #[.pointer none] 46 :: [cellsA (z + 1) #[.pointer none] 58]) ++ G)) → Calls Tryd.prog 23 #[.pointer (some ⟨b4, 0, none⟩)] w fun r w' => r = .returned (.string ⟨#[110, 111, 100, 101, 32, 51, 58, 32, 101, 114, 114, 110, 111, 32, 56, 59, 32, 115, 116, 114, 105, 112, 101, 32, 50, 58, 32, 120]⟩) ∧ Sat W w' (T ++ ((cellsA z #[.pointer none] 46 :: [cellsA (z + 1) #[.pointer none] 58]) ++ G)) := fun w h => by
    have h2 := error_any bE bd (by rw [BT.out]; decide) W w T _ iB' h
    rw [BT.out, BE.out, BR.out] at h2
    exact h2
  have fin5 : ∀ w, Sat W w (T ++ ((cellsA z #[.pointer none] 46 :: [cellsA (z + 1) #[.pointer none] 58]) ++ G)) → Calls Tryd.prog 23 #[.pointer (some ⟨z + 1 + 1 + 1, 0, none⟩)] w fun r w' => r = .returned (.string ⟨#[110, 111, 110, 101, 59, 32, 101, 114, 114, 110, 111, 32, 49]⟩) ∧ Sat W w' (T ++ ((cellsA z #[.pointer none] 46 :: [cellsA (z + 1) #[.pointer none] 58]) ++ G)) := fun w h => by
    have h2 := all_errorO (z + 3) (.slice (some ⟨z + 2, 0, none⟩) 2 2) [none, some (ET.code 1)] (fun e he => by simp at he; subst he; simp [Digs]) (by rw [OT.out]; decide) W w G ((cellsA z #[.pointer none] 46 :: [cellsA (z + 1) #[.pointer none] 58]) ++ T) hOb hOr (fun e he => by simp at he; subst he; exact In.code') (Sat.use h (by intro x; simp only [cnt_append, cnt_cons, cnt_nil]; omega))
    rw [OT.out] at h2
    refine h2.mono ?_
    rintro r w' ⟨rfl, h3⟩
    exact ⟨rfl, Sat.use h3 (by intro x; simp only [cnt_append, cnt_cons, cnt_nil]; omega)⟩
  have FIN2 := Lib.hid fin2
  have FIN3 := Lib.hid fin3
  have FIN4 := Lib.hid fin4
  have FIN5 := Lib.hid fin5
  clear fin2 fin3 fin4 fin5
  have m1 := call_on_error
  have m2 := call_all_error
  have m3 := method_on_error
  have m4 := method_all_error
  go_wp2_with fail
  refine (FIN.out _ hs17).mono ?_; rintro r w11 ⟨rfl, hs18⟩
  clear hs17
  go_wp2_with fail
  refine (FIN2.out _ hs18).mono ?_; rintro r w12 ⟨rfl, hs19⟩
  clear hs18
  go_wp2_with fail
  refine (FIN3.out _ hs19).mono ?_; rintro r w13 ⟨rfl, hs20⟩
  clear hs19
  go_wp2_with fail
  refine (FIN4.out _ hs20).mono ?_; rintro r w14 ⟨rfl, hs21⟩
  clear hs20
  go_wp2_with fail
  refine (FIN5.out _ hs21).mono ?_; rintro r w15 ⟨rfl, hs22⟩
  clear hs21 m1 m2 m3 m4
  go_wp2_with fail
  rw [← BV.out]
  refine (As_on bE W w15 T _ z (.pointer none) iB' (hGE _ (Sat.use hs22 (by intro x; simp only [cnt_append, cnt_cons, cnt_nil]; omega))) (Sat.use (M := cellsA z #[.pointer none] 46 :: (T ++ (cellsA (z + 1) #[.pointer none] 58 :: G))) hs22 (by intro x; simp only [cnt_append, cnt_cons, cnt_nil]; omega))).mono ?_; rintro r w16 ⟨rfl, hs23⟩
  rw [BO.out] at hs23 ⊢
  simp only [gotOn] at hs23
  rw [BV.out]
  clear hs22
  have g0 : w16.cell? ⟨z, 0, none⟩ = some (.pointer (some ⟨b1, 0, none⟩)) := hs23.cell m0 0
  have g1 := HB1'.out w16 (cellsA z #[.pointer (some ⟨b1, 0, none⟩)] 46 :: [cellsA (z + 1) #[.pointer none] 58]) (Sat.use hs23 (by intro x; simp only [cnt_append, cnt_cons, cnt_nil]; omega))
  go_wp2_with fail
  rw [← BV.out]
  refine (As_all bE W w16 T _ (z + 1) (.pointer none) iB' (hGE _ (Sat.use hs23 (by intro x; simp only [cnt_append, cnt_cons, cnt_nil]; omega))) (Sat.use (M := cellsA (z + 1) #[.pointer none] 58 :: (T ++ (cellsA z #[.pointer (some ⟨b1, 0, none⟩)] 46 :: G))) hs23 (by intro x; simp only [cnt_append, cnt_cons, cnt_nil]; omega))).mono ?_; rintro r w17 ⟨rfl, hs24⟩
  rw [BA.out] at hs24 ⊢
  simp only [gotAll] at hs24
  rw [BV.out]
  clear hs23 g0 g1
  have g0 : w17.cell? ⟨z + 1, 0, none⟩ = some (.pointer (some ⟨b4, 0, none⟩)) := hs24.cell m0 0
  have g1 := HB4'.out w17 (cellsA z #[.pointer (some ⟨b1, 0, none⟩)] 46 :: [cellsA (z + 1) #[.pointer (some ⟨b4, 0, none⟩)] 58]) (Sat.use hs24 (by intro x; simp only [cnt_append, cnt_cons, cnt_nil]; omega))
  go_wp2_with fail
  refine (nodes_nil _).mono ?_; rintro r w18 ⟨rfl, rfl⟩
  have hs25 : Sat W w17 (G ++ T) := Sat.use hs24 (by intro x; simp only [cnt_append, cnt_cons, cnt_nil]; omega)
  clear g0 g1 hs24
  go_wp2_with fail
  refine (code_anyO (z + 3) (.slice (some ⟨z + 2, 0, none⟩) 2 2) [none, some (ET.code 1)] W w17 G T hOb hOr (fun e he => by simp at he; subst he; exact In.code') (hGE _ (Sat.use hs25 (by intro x; simp only [cnt_append, cnt_cons, cnt_nil]; omega))) hs25).mono ?_; rintro r w19 ⟨rfl, hs26⟩
  rw [OC.out]
  go_wp2_with fail
  go_ret
  exact ⟨by simp, hBE _ (Sat.use hs26 (by intro x; simp only [cnt_append, cnt_cons, cnt_nil]; omega))⟩
end Go.Proofs.YtoknokbbggnmjaaDoor.Ca
