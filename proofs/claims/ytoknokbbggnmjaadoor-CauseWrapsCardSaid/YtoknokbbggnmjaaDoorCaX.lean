/-
  CauseWraps: the walk.
-/
import Derived.Test.YtoknokbbggnmjaaDoorCaV
import Derived.Test.YtoknokbbggnmjaaDoorCaW
import Derived.Test.YtoknokbbggnmjaaDoorCaHn
namespace Go.Proofs.YtoknokbbggnmjaaDoor.Ca
set_option linter.unusedSimpArgs false
open Go Go.RowKit Go.Sl Go.Extern.Stop Go.Stop Go.Extern
set_option linter.unusedVariables false

theorem unwrap_on (b : Nat) (v : Value) (w : World) (h : w.cell? ⟨b, 1, none⟩ = some v) : Calls Tryd.prog 21 #[.iface 46 (.pointer (some ⟨b, 0, none⟩))] w fun r w' => r = .returned v ∧ w = w' := by
  have u2 := assert_on_unwrap
  have u3 := method_on_unwrap
  go_enter Tryd.func21, Tryd.ntmps21
  go_wp2_with fail
  refine (on_unwrap b v _ h).mono ?_; rintro r w2 ⟨rfl, rfl⟩
  go_wp2_with fail
  go_ret
  exact ⟨rfl, rfl⟩
theorem unwrap_of (b : Nat) (v : Value) (w : World) (h : w.cell? ⟨b, 1, none⟩ = some v) : Calls Tryd.prog 21 #[.iface 47 (.pointer (some ⟨b, 0, none⟩))] w fun r w' => r = .returned v ∧ w = w' := by
  have u2 := assert_of_unwrap
  have u3 := method_of_unwrap
  go_enter Tryd.func21, Tryd.ntmps21
  go_wp2_with fail
  refine (of_unwrap b v _ h).mono ?_; rintro r w2 ⟨rfl, rfl⟩
  go_wp2_with fail
  go_ret
  exact ⟨rfl, rfl⟩
theorem neq_of {t : TypeId} {x y : Value} {r : Bool} {w : World} (hx : ∃ a b, x = .iface a b) (hy : ∃ a b, y = .iface a b) (h : (binOp .eql t x y).run Tryd.prog w = .ok (.bool r) w) : (binOp .neq t x y).run Tryd.prog w = .ok (.bool (!r)) w := by
  obtain ⟨a, b, rfl⟩ := hx
  obtain ⟨c, d, rfl⟩ := hy
  have e1 : binOp .eql t (.iface a b) (.iface c d) = (do pure (.bool (← Op.equal t (.iface a b) (.iface c d)))) := rfl
  have e2 : binOp .neq t (.iface a b) (.iface c d) = (do pure (.bool (!(← Op.equal t (.iface a b) (.iface c d))))) := rfl
  rw [e1] at h
  rw [e2]
  simp only [Sem.run_bind, Result.andThen] at h ⊢
  generalize (Op.equal t (.iface a b) (.iface c d)).run Tryd.prog w = q at *
  cases q with
  | ok v w' =>
    simp only [Sem.run_pure, Result.ok.injEq, Value.bool.injEq] at h ⊢
    exact ⟨by rw [h.1], h.2⟩
  | halt a b => cases h
theorem neqv_val (e t : ET) (W w : World) (T F : List Atom) (he : In T e) (ht : In T t) (hs : Sat W w (T ++ F)) : (binOp .neq 27 (val e) (val t)).run Tryd.prog w = .ok (.bool (!eqv e t)) w :=
  neq_of (val_iface e) (val_iface t) (eq_val e t W w T F he ht hs)
theorem guardnv_val (e t : ET) (x y : Operand) (w : World) : (eqGuard .neq 27 x y (val e) (val t)).run Tryd.prog w = .ok () w := by
  cases e <;> cases t <;> rfl
set_option maxRecDepth 100000 in
set_option maxHeartbeats 8000000 in
theorem causeWraps_walk (lv : Value) (ls : List (Int × Int)) (nd st : Int) (W : World) (hlv : RawsAt W lv ls) (hG : ErrT W) :
    Calls Tryd.prog 5 #[lv, .int .i64 nd, .int .i64 st] W fun e w' => e = .returned (.bool true) ∧ Below W.heap.size W w' := by
  have hGW : ∀ w, Below W.heap.size W w → ErrT w := fun w hb => by
    unfold ErrT at hG ⊢
    rw [hb.cell (World.block_lt_of_cell? _ _ hG), hG]
  have hgrow := fun w0 (h : Sat W w0 ([] ++ allOf W)) => grow_any lv ls W w0 hlv [] h
  obtain ⟨gl, cl, rfl, hll, hl⟩ := hlv
  clear hl
  have HGR := Lib.hid hgrow
  clear hgrow
  go_enter Tryd.func5, Tryd.ntmps5
  go_wp2_with fail
  refine (known_true W W (allOf W) (allOf_sat W) (fun w h => hGW w (Sat.below_all (L := []) h))).mono ?_; rintro r w1 ⟨rfl, hs1⟩
  go_wp2_with fail
  refine (HGR.out w1 hs1).mono ?_
  rintro r w2 (⟨rfl, hs2⟩ | ⟨p, T, rfl, ht, hl, hs2⟩)
  · have hs3 := hs2.newCells zeroSaid 43
    unfold zeroSaid at hs3 ⊢
    go_wp2_with fail
    refine (at_nil nd _).mono ?_; rintro r w3 ⟨rfl, rfl⟩
    go_wp2_with fail
    refine (of_nil st _).mono ?_; rintro r w3 ⟨rfl, rfl⟩
    have hs4 := row_new hs3 #[.nilIface, .nilIface] 27
    go_wp2_with fail
    refine (join_any W _ _ _ [none, none] hs4 ⟨by simp, _, ⟨rfl, .inr ⟨_, 0, 2, rfl, Nat.le_refl _, by decide, rfl⟩⟩, fun x hx => by rw [List.mem_singleton.1 hx]; simp [oval]⟩).mono ?_
    rintro r w5 ⟨rfl, hs5⟩
    go_wp2_with fail
    go_ret
    exact ⟨by simp, Sat.below_all (L := []) (Sat.use hs5 (by intro x; simp only [cnt_append, cnt_cons, cnt_nil]; omega))⟩
  · obtain ⟨av, nv, cv, hp2⟩ := ht.nodes.slice
    have hs3 := hs2.newCells #[.int .i64 (code0 p.1), .slice av nv cv, .int .i64 (stripeO (of1 p.1)), .bool (of1 p.1).isSome, str (textE p.1)] 43
    unfold cells5
    rw [hp2]
    clear hp2 hl
    obtain ⟨G, hG'⟩ : ∃ G, G = cellsA w2.heap.size #[.int .i64 (code0 p.1), .slice av nv cv, .int .i64 (stripeO (of1 p.1)), .bool (of1 p.1).isSome, str (textE p.1)] 43 :: allOf W := ⟨_, rfl⟩
    have hs4 : Sat W (w2.alloc (.cells #[.int .i64 (code0 p.1), .slice av nv cv, .int .i64 (stripeO (of1 p.1)), .bool (of1 p.1).isSome, str (textE p.1)] 43)) (T ++ G) := by rw [hG']; exact hs3.use (by intro x; simp only [cnt_append, cnt_cons, cnt_nil]; omega)
    have hGG : ∀ x, cnt x (allOf W) ≤ cnt x G := fun x => by rw [hG', cnt_cons]; omega
    clear hG' hs3 hs2
    have n1 := val_nil p.1
    have n2 := guard_nil p.1
    generalize code0 p.1 = cc at *
    generalize stripeO (of1 p.1) = sc at *
    generalize (of1 p.1).isSome = ic at *
    generalize textE p.1 = tc at *
    obtain ⟨e, he⟩ : ∃ e, e = p.1 := ⟨_, rfl⟩
    have hin0 : In T e := by rw [he]; exact ht.inT
    rw [← he] at n1 n2 ⊢
    clear he ht
    go_wp2_with fail
    refine (at_node nd e W _ _ hs4).mono ?_; rintro r w3 ⟨b1, rfl, hs5⟩
    clear hs4
    go_wp2_with fail
    refine (of_stripe st (.on b1 nd e) W _ _ hs5).mono ?_; rintro r w4 ⟨b2, rfl, hs6⟩
    clear hs5
    obtain ⟨T1, hT1⟩ : ∃ T1, T1 = cellsA b2 #[.int .i64 st, val (.on b1 nd e)] 54 :: cellsA b1 #[.int .i64 nd, val e] 52 :: T := ⟨_, rfl⟩
    have i0 : In T1 e := hin0.mono (fun x hx => by rw [hT1]; exact List.mem_cons_of_mem _ (List.mem_cons_of_mem _ hx))
    have i1 : In T1 (.on b1 nd e) := In.on' (by rw [hT1]; exact m1) i0
    have i2 : In T1 (.of b2 st (.on b1 nd e)) := In.of' (by rw [hT1]; exact m0) i1
    have hs7 : Sat W w4 (T1 ++ G) := by rw [hT1]; exact hs6.use (by intro x; simp only [cnt_append, cnt_cons, cnt_nil]; omega)
    have k1 : ∀ w, Sat W w (T1 ++ G) → w.cell? ⟨b1, 0, none⟩ = some (.int .i64 nd) := fun w h => by rw [hT1] at h; exact h.cell (List.mem_append_left _ m1) 0
    have k2 : ∀ w, Sat W w (T1 ++ G) → w.cell? ⟨b1, 1, none⟩ = some (val e) := fun w h => by rw [hT1] at h; exact h.cell (List.mem_append_left _ m1) 1
    have k3 : ∀ w, Sat W w (T1 ++ G) → w.cell? ⟨b2, 0, none⟩ = some (.int .i64 st) := fun w h => by rw [hT1] at h; exact h.cell (List.mem_append_left _ m0) 0
    have k4 : ∀ w, Sat W w (T1 ++ G) → w.cell? ⟨b2, 1, none⟩ = some (val (.on b1 nd e)) := fun w h => by rw [hT1] at h; exact h.cell (List.mem_append_left _ m0) 1
    have K1 := Lib.hid k1
    have K2 := Lib.hid k2
    have K3 := Lib.hid k3
    have K4 := Lib.hid k4
    have HGG := Lib.hid hGG
    clear hT1 hs6 hin0 k1 k2 k3 k4 hGG
    go_wp2_with fail
    have hs8 : Sat W ((w4.alloc (.cells #[.pointer none] 46)).alloc (.cells #[.pointer none] 47)) (cellsA w4.heap.size #[.pointer none] 46 :: (T1 ++ (cellsA (w4.heap.size + 1) #[.pointer none] 47 :: G))) := by
      have h := (hs7.newCells #[.pointer none] 46).newCells #[.pointer none] 47
      rw [show (w4.alloc (.cells #[.pointer none] 46)).heap.size = w4.heap.size + 1 by simp] at h
      exact h.use (by intro x; simp only [cnt_append, cnt_cons, cnt_nil]; omega)
    have hGE : ∀ w L, Sat W w (L ++ (T1 ++ G)) → ErrT w := fun w L h => hGW w (Sat.below_all (L := []) (Sat.use h (fun x => by have := HGG.out x; simp only [cnt_append, cnt_nil]; omega)))
    refine (As_on (.of b2 st (.on b1 nd e)) W _ T1 _ w4.heap.size (.pointer none) i2 (hGE _ (cellsA w4.heap.size #[.pointer none] 46 :: [cellsA (w4.heap.size + 1) #[.pointer none] 47]) (Sat.use hs8 (by intro x; simp only [cnt_append, cnt_cons, cnt_nil]; omega))) hs8).mono ?_; rintro r w5 ⟨rfl, hs9⟩
    rw [show on1 (.of b2 st (.on b1 nd e)) = some (b1, nd) by simp [on1]] at hs9 ⊢
    simp only [gotOn] at hs9
    clear hs7 hs8
    generalize w4.heap.size = z at *
    have g0 : w5.cell? ⟨z + 1, 0, none⟩ = some (.pointer none) := hs9.cell (List.mem_cons_of_mem _ (List.mem_append_right _ m0)) 0
    have hsA : Sat W w5 (cellsA (z + 1) #[.pointer none] 47 :: (T1 ++ (cellsA z #[.pointer (some ⟨b1, 0, none⟩)] 46 :: G))) := hs9.use (by intro x; simp only [cnt_append, cnt_cons, cnt_nil]; omega)
    go_wp2_with fail
    refine (As_of (.of b2 st (.on b1 nd e)) W _ T1 _ (z + 1) (.pointer none) i2 (hGE _ (cellsA z #[.pointer (some ⟨b1, 0, none⟩)] 46 :: [cellsA (z + 1) #[.pointer none] 47]) (Sat.use hsA (by intro x; simp only [cnt_append, cnt_cons, cnt_nil]; omega))) hsA).mono ?_; rintro r w6 ⟨rfl, hsB⟩
    rw [show of1 (.of b2 st (.on b1 nd e)) = some (b2, st) by simp [of1]] at hsB ⊢
    simp only [gotOf] at hsB
    clear hs9 hsA g0
    have g1 : w6.cell? ⟨z, 0, none⟩ = some (.pointer (some ⟨b1, 0, none⟩)) := hsB.cell (List.mem_cons_of_mem _ (List.mem_append_right _ m0)) 0
    have g2 : w6.cell? ⟨z + 1, 0, none⟩ = some (.pointer (some ⟨b2, 0, none⟩)) := hsB.cell m0 0
    have hsC : Sat W w6 (T1 ++ G) := hsB.use (by intro x; simp only [cnt_append, cnt_cons, cnt_nil]; omega)
    have g3 := K1.out _ hsC
    have g4 := K3.out _ hsC
    go_wp2_with fail
    obtain ⟨sE, hsE⟩ : ∃ sE, sE = ET.of b2 st (ET.on b1 nd e) := ⟨_, rfl⟩
    obtain ⟨nE, hnE⟩ : ∃ nE, nE = ET.on b1 nd e := ⟨_, rfl⟩
    have hh1 : hasE e sE = true := by rw [hsE]; unfold hasE; unfold hasE; rw [hasE_self]; simp
    have hcs : code1 sE = code1 e := by rw [hsE]; simp only [code1]
    have HUS : Hid (∀ w, Sat W w (T1 ++ G) → Calls Tryd.prog 21 #[val sE] w fun r w' => r = .returned (val nE) ∧ w = w') := Lib.hid (fun w h => by rw [hsE, hnE]; exact unwrap_of b2 _ w (K4.out w h))
    have HUN : Hid (∀ w, Sat W w (T1 ++ G) → Calls Tryd.prog 21 #[val nE] w fun r w' => r = .returned (val e) ∧ w = w') := Lib.hid (fun w h => by rw [hnE]; exact unwrap_on b1 _ w (K2.out w h))
    rw [← hsE, ← hnE]
    rw [← hsE] at i2
    rw [← hnE] at i1
    have HH1 := Lib.hid hh1
    have HCS := Lib.hid hcs
    clear hh1 hcs hsE hnE g1 g2 g3 g4 hsB K1 K2 K3 K4
    refine (Is_any sE e W w6 T1 G i0 i2 hsC).mono ?_; rintro r w7 ⟨rfl, hsD⟩
    rw [HH1.out]
    clear hsC
    go_wp2_with fail
    refine (HUS.out w7 hsD).mono ?_; rintro r w8 ⟨rfl, rfl⟩
    have q1 := neqv_val nE nE W w7 T1 G i1 i1 hsD
    rw [eqv_self] at q1
    simp only [Bool.not_true] at q1
    have q2 := guardnv_val nE nE
    have q3 := neqv_val e e W w7 T1 G i0 i0 hsD
    rw [eqv_self] at q3
    simp only [Bool.not_true] at q3
    have q4 := guardnv_val e e
    obtain ⟨tS, xS, hvs⟩ := val_iface sE
    obtain ⟨tE, xE, hve⟩ := val_iface e
    have HVS := Lib.hid hvs
    have HVE := Lib.hid hve
    clear hvs hve
    go_wp2_with fail
    refine (HUN.out w7 hsD).mono ?_; rintro r w8 ⟨rfl, rfl⟩
    rw [HVS.out, HVE.out]
    rw [HVE.out] at q3 q4
    go_wp2_with fail
    rw [← HVS.out, ← HVE.out]
    have hsR := row_new hsD #[val sE, .nilIface, val e] 27
    refine (join_any W _ _ _ [some sE, none, some e] hsR ⟨by simp, _, ⟨rfl, .inr ⟨w7.heap.size, 0, 3, rfl, Nat.le_refl _, by decide, rfl⟩⟩, fun x hx => by rw [List.mem_singleton.1 hx]; simp [oval]⟩).mono ?_
    rintro r w9 ⟨b, v', R, rfl, hrj, hsJ⟩
    clear q1 q2 q3 q4 hsD hsR
    obtain ⟨T2, hT2⟩ : ∃ T2, T2 = cellsA b #[v'] 60 :: (R ++ T1) := ⟨_, rfl⟩
    have hs2 : Sat W w9 (T2 ++ G) := by rw [hT2]; exact Sat.use hsJ (by intro x; simp only [cnt_append, cnt_cons, cnt_nil]; omega)
    have j0 : In T2 e := i0.mono (fun x hx => by rw [hT2]; exact List.mem_cons_of_mem _ (List.mem_append_right _ hx))
    have j2 : In T2 sE := i2.mono (fun x hx => by rw [hT2]; exact List.mem_cons_of_mem _ (List.mem_append_right _ hx))
    have jj : In T2 (.all b v' [sE, e]) := In.all' (by rw [hT2]; exact m0) ⟨by simp, R, by simpa using hrj, fun x hx => by rw [hT2]; exact List.mem_cons_of_mem _ (List.mem_append_left _ hx)⟩ (InL.of fun x hx => by
      rcases List.mem_cons.1 hx with rfl | hx
      · exact j2
      · rw [List.mem_singleton.1 hx]; exact j0)
    obtain ⟨jE, hjE⟩ : ∃ jE, jE = ET.all b v' [sE, e] := ⟨_, rfl⟩
    have hj1 : hasE sE jE = true := by rw [hjE]; unfold hasE; rw [hasEL_mem (List.mem_cons_self ..) (hasE_self sE), Bool.or_true]
    have hj2 : hasE e jE = true := by rw [hjE]; unfold hasE; rw [hasEL_mem (List.mem_cons_of_mem _ (List.mem_cons_self ..)) (hasE_self e), Bool.or_true]
    have hj3 : codeOf (some jE) = codeOf (some e) := by
      have h1 : code1 jE = code1 e := by
        rw [hjE]
        simp only [code1, codeL, HCS.out]
        cases code1 e <;> rfl
      simp only [codeOf, h1]
    have HJ1 := Lib.hid hj1
    have HJ2 := Lib.hid hj2
    have HJ3 := Lib.hid hj3
    have hjv : (ET.all b v' [sE, e]) = jE := hjE.symm
    simp only [List.filterMap_cons, List.filterMap_nil, id] at *
    rw [hjv] at jj ⊢
    clear hj1 hj2 hj3 hjE hjv hT2 hsJ hrj
    go_wp2_with fail
    refine (Is_any jE sE W w9 T2 G j2 jj hs2).mono ?_; rintro r w10 ⟨rfl, hs3⟩
    rw [HJ1.out]
    clear hs2
    go_wp2_with fail
    refine (Is_any jE e W w10 T2 G j0 jj hs3).mono ?_; rintro r w11 ⟨rfl, hs4⟩
    rw [HJ2.out]
    clear hs3
    have hGE2 : ∀ w, Sat W w (T2 ++ G) → ErrT w := fun w h => hGW w (Sat.below_all (L := []) (Sat.use h (fun x => by have := HGG.out x; simp only [cnt_append, cnt_nil]; omega)))
    go_wp2_with fail
    refine (code_any jE W w11 T2 G jj (hGE2 _ hs4) hs4).mono ?_; rintro r w12 ⟨rfl, hs5⟩
    rw [HJ3.out]
    clear hs4
    go_wp2_with fail
    refine (code_any e W w12 T2 G j0 (hGE2 _ hs5) hs5).mono ?_; rintro r w13 ⟨rfl, hs6⟩
    clear hs5
    generalize codeOf (some e) = ce at *
    rw [HVS.out]
    go_wp2_with fail
    rw [← HVS.out]
    have hsR := row_new hs6 #[.nilIface, val sE] 27
    refine (join_any W _ _ _ [none, some sE] hsR ⟨by simp, _, ⟨rfl, .inr ⟨w13.heap.size, 0, 2, rfl, Nat.le_refl _, by decide, rfl⟩⟩, fun x hx => by rw [List.mem_singleton.1 hx]; simp [oval]⟩).mono ?_
    rintro r w14 ⟨rfl, hs7⟩
    have hs8 : Sat W w14 (T2 ++ G) := hs7.tail
    have q1 := eq_val sE sE W w14 T2 G j2 j2 hs8
    rw [eqv_self] at q1
    have q2 := guard_val sE sE
    clear hs6 hsR hs7
    go_wp2_with fail
    go_ret
    exact ⟨by simp, Sat.below_all (L := []) (Sat.use hs8 (fun x => by have := HGG.out x; simp only [cnt_append, cnt_nil]; omega))⟩
end Go.Proofs.YtoknokbbggnmjaaDoor.Ca
