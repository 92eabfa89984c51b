/-
  The ring: Log.
-/
import Derived.Test.YtdkhgkkdnjejmaaNdH
import Derived.Test.YtdkhgkkdnjejmaaSlTree
import Derived.Deep.DeepCutAuto
import Derived.Deep.CutBlock
namespace Go.Proofs.Ytdkhgkkdnjejmaa.Ch
set_option linter.unusedSimpArgs false
open Go Go.RowKit Go.Sl Go.BigFrame
set_option linter.unusedVariables false

def intB (no : Int) (i : It) : List UInt8 := bytesB no 6 ++ ([byteAt i.stripe 0] ++ (bytesB i.gen 6 ++ i.data))
def layI (no : Int) (i : It) : List UInt8 := sealB 2 (intB no i)
theorem intB_length (no : Int) (i : It) : (intB no i).length = 13 + i.data.length := by
  simp only [intB, List.length_append, bytesB_length, List.length_cons, List.length_nil]
  omega
theorem layI_length (no : Int) (i : It) (h : i.data.length = 128) : (layI no i).length = 160 := sealB_length _ _ (by rw [intB_length]; omega)

set_option maxRecDepth 100000 in
theorem log_bad (b bp : Nat) (i : It) (da : Option Addr) (dc : Nat) (w : World) (hp : ¬ rightI i) :
    Calls Try.prog 99 #[.pointer (some ⟨b, 0, none⟩), itV i (.slice da i.data.length dc)] w fun e w' => e = .returned (.int .i64 1) ∧ Ext w w' := by
  have hr := iright_any i da dc
  rw [decide_eq_false hp] at hr
  obtain ⟨s, g, d⟩ := i
  unfold itV at *
  simp only at *
  have HR := Lib.hid hr
  clear hr
  go_enter Try.func99, Try.ntmps99
  go_wp2_with fail
  refine (HR.out _).mono ?_; rintro r w2 ⟨rfl, hx⟩
  go_wp2_with fail
  go_ret
  exact ⟨rfl, (Ext.alloc _ _).trans hx⟩

set_option maxRecDepth 100000 in
set_option maxHeartbeats 16000000 in
theorem log_ok (b bp k : Nat) (q : Pt) (Aq : List Atom) (xs : List (Sl5 × Value)) (nx : Int) (B : List Atom) (i : It) (da : Option Addr) (dc : Nat) (W w : World) (L : List Atom) (hq : PtA bp q Aq) (hri : RowsIn B xs) (hxl : xs.length = 16) (hsm : ∀ x ∈ xs, x.1.i.data.length < 1000000)
    (hs : Sat W w (cellsA b (ringC bp xs nx) 160 :: (B ++ (Aq ++ L)))) (hin : ∀ y, Sat W y L → Reads y (.slice da i.data.length dc) i.data.length (bts i.data)) (hp : rightI i) (hnl : ¬ liveIn xs i) (hk : freeI xs 0 = k) (hk16 : k < 16) (n0 : 0 ≤ nx) (n1 : nx < 281474976710656) (hlen : q.now.length = 96) (hpl : q.pend.length < 900000) (hw0 : 0 ≤ q.writes) (hw1 : q.writes < 1000000000) :
    Calls Try.prog 99 #[.pointer (some ⟨b, 0, none⟩), itV i (.slice da i.data.length dc)] w fun e w' => ∃ Aq' B' v', e = .returned (.int .i64 0) ∧ PtA bp (q.wr (80 + k) (layI nx i)) Aq' ∧ RowsIn B' (xs.set k (⟨true, nx, i⟩, v')) ∧ Sat W w' (cellsA b (ringC bp (xs.set k (⟨true, nx, i⟩, v')) (nx + 1)) 160 :: (B' ++ (Aq' ++ L))) := by
  have hr := iright_any i da dc
  rw [decide_eq_true hp] at hr
  obtain ⟨s, g, d⟩ := i
  obtain ⟨p1, p2, p3, p4, p5⟩ := hp
  unfold itV at *
  simp only at *
  have hs0 : ((byteAt s 0).toNat : Int) = s := by
    have := byteAt_val s 0
    omega
  have hs1 := hs.newCells #[.int .i64 s, .int .i64 g, .slice da d.length dc] 141
  have hs2 := Sat.use (M := cellsA b (ringC bp xs nx) 160 :: (cellsA w.heap.size #[.int .i64 s, .int .i64 g, .slice da d.length dc] 141 :: (B ++ (Aq ++ L)))) hs1 (by intro x; simp only [cnt_append, cnt_cons, cnt_nil]; omega)
  have HR := Lib.hid hr
  have HIN := Lib.hid (show ∀ y, Sat W y (cellsA b (ringC bp xs nx) 160 :: (cellsA w.heap.size #[.int .i64 s, .int .i64 g, .slice da d.length dc] 141 :: (B ++ (Aq ++ L)))) → Reads y (.slice da d.length dc) d.length (bts d) from fun y hy => hin y hy.tail.tail.right.right)
  have HCT := Lib.hid (fun w2 hs => contains_same b bp w.heap.size ⟨s, g, d⟩ (.slice da d.length dc) xs nx W w2 (cellsA w.heap.size #[.int .i64 s, .int .i64 g, .slice da d.length dc] 141 :: (B ++ (Aq ++ L))) hs hxl m0 (fun y hy => hin y hy.tail.right.right) (fun y hy x hx => (hri x hx).reads hy (fun z hz => .tail _ (List.mem_append_left _ hz))) (by show d.length < 1000000; omega) hsm)
  have HIN0 := Lib.hid hin
  have HIX := Lib.hid (fun w2 hs => index_free b bp xs nx W w2 (cellsA w.heap.size #[.int .i64 s, .int .i64 g, .slice da d.length dc] 141 :: (B ++ (Aq ++ L))) hs hxl (fun x hx => by obtain ⟨a, c, h⟩ := (hri x hx).shape; exact ⟨_, _, _, h⟩))
  rw [hk] at HIX
  have HRI := Lib.hid hri
  have HXL := Lib.hid hxl
  have HS0 := Lib.hid hs0
  have HQ := Lib.hid hq
  have HNL := Lib.hid hnl
  have HP5 := Lib.hid p5
  clear hr hs hs0 hs1 hin hri hsm hq hnl hk p5 hxl
  have k0 : (0 : Int) ≤ k := by omega
  have k1 : (k : Int) < 16 := by omega
  go_enter Try.func99, Try.ntmps99
  go_wp2_with fail
  refine (HR.out _).mono ?_; rintro r w2 ⟨rfl, hx⟩
  have hs3 := hs2.below hx
  clear hs2 hx HR
  go_wp2_with fail
  refine (HCT.out w2 hs3).mono ?_; rintro r w3 ⟨cb, hcb, rfl, hs4⟩
  obtain rfl : cb = false := by
    cases cb
    · rfl
    · exact absurd (hcb.1 rfl) HNL.out
  clear hs3 HCT hcb
  go_wp2_with fail
  refine (HIX.out w3 hs4).mono ?_; rintro r w4 ⟨rfl, hs5⟩
  clear hs4 HIX
  have e81 : w4.cell? ⟨b, 81, none⟩ = some (.int .i64 nx) := by rw [hs5.cell m0]; exact ring_next HXL.out
  generalize w.heap.size = z at *
  obtain ⟨LL, hLL⟩ : ∃ LL, LL = cellsA b (ringC bp xs nx) 160 :: (cellsA z #[.int .i64 s, .int .i64 g, .slice da d.length dc] 141 :: (B ++ (Aq ++ L))) := ⟨_, rfl⟩
  rw [← hLL] at hs5 HIN
  have hnb : ¬ 281474976710655 < nx := by omega
  have c81 : ∀ y : Of W LL, y.v.cell? ⟨b, 81, none⟩ = some (.int .i64 nx) := fun y => by
    have h := y.s
    have h2 := (congrArg (Sat W y.v) hLL).mp h
    rw [h2.cell m0]; exact ring_next HXL.out
  have hmz : cellsA z #[.int .i64 s, .int .i64 g, .slice da d.length dc] 141 ∈ LL := by rw [hLL]; exact m1
  have d0 : ∀ y : Of W LL, y.v.cell? ⟨z, 0, none⟩ = some (.int .i64 s) := fun y => y.s.cell hmz 0
  have d1 : ∀ y : Of W LL, y.v.cell? ⟨z, 1, none⟩ = some (.int .i64 g) := fun y => y.s.cell hmz 1
  have d2 : ∀ y : Of W LL, y.v.cell? ⟨z, 2, none⟩ = some (.slice da d.length dc) := fun y => y.s.cell hmz 2
  have g1 : s % 256 = s := by omega
  have HLL := Lib.hid hLL
  have HMZ := Lib.hid hmz
  clear hLL hmz
  go_upto_region 8 with fail
  go_cut [6, 7] (fun v6 v7 wx => ∃ (a5 : Option Addr) (c5 : Nat) (R5 : List Atom), v6 = .slice a5 (layI nx ⟨s, g, d⟩).length c5 ∧ RowA 5 1 (.slice a5 (layI nx ⟨s, g, d⟩).length c5) (layI nx ⟨s, g, d⟩).length (bts (layI nx ⟨s, g, d⟩)) R5 ∧ Sat W wx (R5 ++ LL))
  case first =>
    refine wp_region_plan [4, 8, 11, 14, 15, 16] [0, 1, 2, 3, 5, 6, 7, 9, 10, 12, 13] [0, 1, 2, 5, 7, 9, 12] [4, 8, 11] [0, 1, 2, 3, 5, 6, 7, 9, 10, 12, 13] (.two [4] (.two [8, 11, 14, 15, 16, 17, 18, 19, 20, 21] .nil [11, 8, 14, 15, 16, 17, 18, 19, 20, 21] .nil) [8, 4, 11, 14, 15, 16, 17, 18, 19, 20, 21] .nil) (Held W LL) (by kernel_rfl) (by kernel_rfl) ?_ ?_
    · exact Held.mk hs5.drew
    have hne : Nonempty (Of W LL) := ⟨⟨_, hs5⟩⟩
    have hsT := hs5.drew
    repeat (first | (refine can_pu1 rfl rfl rfl rfl rfl rfl (fun K hK => ?_); go_big_quiet_op; refine hK _ ?_; clear hK K) | (refine can_st1 rfl rfl rfl rfl rfl rfl (fun K hK => ?_); go_big_quiet_op; refine hK _ ?_; clear hK K) | (refine can_early1 rfl rfl rfl rfl rfl (fun K hK => ?_); go_big_quiet_op; refine hK _ ?_; clear hK K) | (refine can_skip rfl rfl rfl ?_; simp only [Act.put, List.setIfInBounds_toArray, List.set_cons_zero, List.set_cons_succ]))
    clear c81 d0 d1 d2 hne hs5 e81
    refine with_sat hsT ?_
    clear hsT
    intro wt hsT
    refine can_two ?_ ?_
    · skip
      refine can_actS rfl rfl rfl rfl (fun K hK => ?_)
      go_wp2_with fail
      refine (ibytes_any nx W _ _ n0 (by omega) hsT).mono ?_; rintro r wa ⟨v1, R1, rfl, hr1, hsA⟩
      apply hK
      refine ⟨Held.mk hsA.right, ?_⟩
      clear hK
      obtain ⟨a1, k1, rfl⟩ := Ch.RowA.slice hr1
      refine can_two ?_ ?_
      · skip
        refine can_actS rfl rfl rfl rfl (fun K hK => ?_)
        go_wp2_with fail
        have hsB := Sat.newCells hsA #[.int .u8 s] 5
        refine ⟨Held.mk hsB.tail.right, ?_⟩
        generalize (wa).heap.size = z8 at *
        refine with_sat hsB ?_
        clear hsB
        intro wb hsB
        refine can_actS rfl rfl rfl rfl (fun K hK => ?_)
        go_wp2_with fail
        refine (ibytes_any g W _ _ (by omega) (by omega) hsB).mono ?_; rintro r wc ⟨v2, R2, rfl, hr2, hsC⟩
        apply hK
        refine ⟨Held.mk hsC.right.tail.right, ?_⟩
        clear hK
        obtain ⟨a2, k2, rfl⟩ := Ch.RowA.slice hr2
        have hsD := Sat.use (M := cellsA z8 #[.int .u8 s] 5 :: (R2 ++ (R1 ++ LL))) hsC (by intro x; simp only [cnt_append, cnt_cons, cnt_nil]; omega)
        refine can_actF rfl rfl rfl rfl (fun K hK => ?_)
        go_wp2_with fail
        have hsE := hsD.newCells #[.slice a1 (bytesB nx 6).length k1, .slice (some ⟨z8, 0, none⟩) 1 1, .slice a2 (bytesB g 6).length k2, .slice da d.length dc] 32
        refine can_actF rfl rfl rfl rfl (fun K hK => ?_)
        go_wp2_with fail
        refine (concat_any W _ _ _ [.slice a1 (bytesB nx 6).length k1, .slice (some ⟨z8, 0, none⟩) 1 1, .slice a2 (bytesB g 6).length k2, .slice da d.length dc] [bytesB nx 6, [byteAt s 0], bytesB g 6, d] hsE (fun y hy => reads_cells hy m0 _ _ _ rfl) (fun y hy => ?_) (by have := HP5.out; simp [bytesB_length]; omega) (by simp)).mono ?_
        · have hy2 := hy.tail
          exact ⟨hr1.reads hy2.tail.right, reads_cells hy2 m0 1 1 (bts [byteAt s 0]) (by simp [bts]; exact HS0.out.symm), hr2.reads hy2.tail, HIN.out y hy2.tail.right.right, trivial⟩
        rintro r wd ⟨v4, R4, rfl, hr4, hsF⟩
        have hcat : [bytesB nx 6, [byteAt s 0], bytesB g 6, d].flatten = intB nx ⟨s, g, d⟩ := by simp [intB]
        rw [hcat] at hr4
        have hlen := intB_length nx ⟨s, g, d⟩
        simp only at hlen
        rw [HP5.out] at hlen
        generalize hib : intB nx ⟨s, g, d⟩ = M at *
        clear hsD hsE hcat
        go_wp2_with fail
        refine can_actF rfl rfl rfl rfl (fun K hK => ?_)
        go_wp2_with fail
        refine (seal_any 2 v4 M W _ _ (by omega) (by omega) (by omega) (hr4.reads hsF) hsF).mono ?_
        rintro r we ⟨v5, R5, rfl, hr5, hsG⟩
        have hlay : sealB 2 M = layI nx ⟨s, g, d⟩ := by rw [← hib]; rfl
        rw [hlay] at hr5
        obtain ⟨a5, c5, rfl⟩ := Ch.RowA.slice hr5
        clear hlen hib hlay hsF
        go_wp2_with fail
        repeat (first | (refine can_pu1 rfl rfl rfl rfl rfl rfl (fun K hK => ?_); go_big_quiet_op; refine hK _ ?_; clear hK K) | (refine can_st1 rfl rfl rfl rfl rfl rfl (fun K hK => ?_); go_big_quiet_op; refine hK _ ?_; clear hK K) | (refine can_early1 rfl rfl rfl rfl rfl (fun K hK => ?_); go_big_quiet_op; refine hK _ ?_; clear hK K) | (refine can_skip rfl rfl rfl ?_; simp only [Act.put, List.setIfInBounds_toArray, List.set_cons_zero, List.set_cons_succ]))
        refine can_end1 ?_; (try simp only [Exit.then])
        go_wp2_with fail
        go_meet
        exact ⟨a5, c5, R5, rfl, hr5, hsG.use (by intro x; simp only [cnt_append, cnt_cons, cnt_nil]; omega)⟩
      · skip
        refine can_actS rfl rfl rfl rfl (fun K hK => ?_)
        go_wp2_with fail
        refine (ibytes_any g W _ _ (by omega) (by omega) hsA).mono ?_; rintro r wc ⟨v2, R2, rfl, hr2, hsC⟩
        apply hK
        refine ⟨Held.mk hsC.right.right, ?_⟩
        clear hK
        obtain ⟨a2, k2, rfl⟩ := Ch.RowA.slice hr2
        refine can_actS rfl rfl rfl rfl (fun K hK => ?_)
        go_wp2_with fail
        have hsB := Sat.newCells hsC #[.int .u8 s] 5
        refine ⟨Held.mk hsB.tail.right.right, ?_⟩
        generalize (wc).heap.size = z8 at *
        refine with_sat hsB ?_
        clear hsB
        intro wb hsB
        have hsD := Sat.use (M := cellsA z8 #[.int .u8 s] 5 :: (R2 ++ (R1 ++ LL))) hsB (by intro x; simp only [cnt_append, cnt_cons, cnt_nil]; omega)
        refine can_actF rfl rfl rfl rfl (fun K hK => ?_)
        go_wp2_with fail
        have hsE := hsD.newCells #[.slice a1 (bytesB nx 6).length k1, .slice (some ⟨z8, 0, none⟩) 1 1, .slice a2 (bytesB g 6).length k2, .slice da d.length dc] 32
        refine can_actF rfl rfl rfl rfl (fun K hK => ?_)
        go_wp2_with fail
        refine (concat_any W _ _ _ [.slice a1 (bytesB nx 6).length k1, .slice (some ⟨z8, 0, none⟩) 1 1, .slice a2 (bytesB g 6).length k2, .slice da d.length dc] [bytesB nx 6, [byteAt s 0], bytesB g 6, d] hsE (fun y hy => reads_cells hy m0 _ _ _ rfl) (fun y hy => ?_) (by have := HP5.out; simp [bytesB_length]; omega) (by simp)).mono ?_
        · have hy2 := hy.tail
          exact ⟨hr1.reads hy2.tail.right, reads_cells hy2 m0 1 1 (bts [byteAt s 0]) (by simp [bts]; exact HS0.out.symm), hr2.reads hy2.tail, HIN.out y hy2.tail.right.right, trivial⟩
        rintro r wd ⟨v4, R4, rfl, hr4, hsF⟩
        have hcat : [bytesB nx 6, [byteAt s 0], bytesB g 6, d].flatten = intB nx ⟨s, g, d⟩ := by simp [intB]
        rw [hcat] at hr4
        have hlen := intB_length nx ⟨s, g, d⟩
        simp only at hlen
        rw [HP5.out] at hlen
        generalize hib : intB nx ⟨s, g, d⟩ = M at *
        clear hsD hsE hcat
        go_wp2_with fail
        refine can_actF rfl rfl rfl rfl (fun K hK => ?_)
        go_wp2_with fail
        refine (seal_any 2 v4 M W _ _ (by omega) (by omega) (by omega) (hr4.reads hsF) hsF).mono ?_
        rintro r we ⟨v5, R5, rfl, hr5, hsG⟩
        have hlay : sealB 2 M = layI nx ⟨s, g, d⟩ := by rw [← hib]; rfl
        rw [hlay] at hr5
        obtain ⟨a5, c5, rfl⟩ := Ch.RowA.slice hr5
        clear hlen hib hlay hsF
        go_wp2_with fail
        repeat (first | (refine can_pu1 rfl rfl rfl rfl rfl rfl (fun K hK => ?_); go_big_quiet_op; refine hK _ ?_; clear hK K) | (refine can_st1 rfl rfl rfl rfl rfl rfl (fun K hK => ?_); go_big_quiet_op; refine hK _ ?_; clear hK K) | (refine can_early1 rfl rfl rfl rfl rfl (fun K hK => ?_); go_big_quiet_op; refine hK _ ?_; clear hK K) | (refine can_skip rfl rfl rfl ?_; simp only [Act.put, List.setIfInBounds_toArray, List.set_cons_zero, List.set_cons_succ]))
        refine can_end1 ?_; (try simp only [Exit.then])
        go_wp2_with fail
        go_meet
        exact ⟨a5, c5, R5, rfl, hr5, hsG.use (by intro x; simp only [cnt_append, cnt_cons, cnt_nil]; omega)⟩
    · skip
      refine can_actS rfl rfl rfl rfl (fun K hK => ?_)
      go_wp2_with fail
      have hsB := Sat.newCells hsT #[.int .u8 s] 5
      refine ⟨Held.mk hsB.tail, ?_⟩
      generalize (wt).heap.size = z8 at *
      refine with_sat hsB ?_
      clear hsB
      intro wb hsB
      refine can_actS rfl rfl rfl rfl (fun K hK => ?_)
      go_wp2_with fail
      refine (ibytes_any nx W _ _ n0 (by omega) hsB).mono ?_; rintro r wa ⟨v1, R1, rfl, hr1, hsA⟩
      apply hK
      refine ⟨Held.mk hsA.right.tail, ?_⟩
      clear hK
      obtain ⟨a1, k1, rfl⟩ := Ch.RowA.slice hr1
      refine can_actS rfl rfl rfl rfl (fun K hK => ?_)
      go_wp2_with fail
      refine (ibytes_any g W _ _ (by omega) (by omega) hsA).mono ?_; rintro r wc ⟨v2, R2, rfl, hr2, hsC⟩
      apply hK
      refine ⟨Held.mk hsC.right.right.tail, ?_⟩
      clear hK
      obtain ⟨a2, k2, rfl⟩ := Ch.RowA.slice hr2
      have hsD := Sat.use (M := cellsA z8 #[.int .u8 s] 5 :: (R2 ++ (R1 ++ LL))) hsC (by intro x; simp only [cnt_append, cnt_cons, cnt_nil]; omega)
      refine can_actF rfl rfl rfl rfl (fun K hK => ?_)
      go_wp2_with fail
      have hsE := hsD.newCells #[.slice a1 (bytesB nx 6).length k1, .slice (some ⟨z8, 0, none⟩) 1 1, .slice a2 (bytesB g 6).length k2, .slice da d.length dc] 32
      refine can_actF rfl rfl rfl rfl (fun K hK => ?_)
      go_wp2_with fail
      refine (concat_any W _ _ _ [.slice a1 (bytesB nx 6).length k1, .slice (some ⟨z8, 0, none⟩) 1 1, .slice a2 (bytesB g 6).length k2, .slice da d.length dc] [bytesB nx 6, [byteAt s 0], bytesB g 6, d] hsE (fun y hy => reads_cells hy m0 _ _ _ rfl) (fun y hy => ?_) (by have := HP5.out; simp [bytesB_length]; omega) (by simp)).mono ?_
      · have hy2 := hy.tail
        exact ⟨hr1.reads hy2.tail.right, reads_cells hy2 m0 1 1 (bts [byteAt s 0]) (by simp [bts]; exact HS0.out.symm), hr2.reads hy2.tail, HIN.out y hy2.tail.right.right, trivial⟩
      rintro r wd ⟨v4, R4, rfl, hr4, hsF⟩
      have hcat : [bytesB nx 6, [byteAt s 0], bytesB g 6, d].flatten = intB nx ⟨s, g, d⟩ := by simp [intB]
      rw [hcat] at hr4
      have hlen := intB_length nx ⟨s, g, d⟩
      simp only at hlen
      rw [HP5.out] at hlen
      generalize hib : intB nx ⟨s, g, d⟩ = M at *
      clear hsD hsE hcat
      go_wp2_with fail
      refine can_actF rfl rfl rfl rfl (fun K hK => ?_)
      go_wp2_with fail
      refine (seal_any 2 v4 M W _ _ (by omega) (by omega) (by omega) (hr4.reads hsF) hsF).mono ?_
      rintro r we ⟨v5, R5, rfl, hr5, hsG⟩
      have hlay : sealB 2 M = layI nx ⟨s, g, d⟩ := by rw [← hib]; rfl
      rw [hlay] at hr5
      obtain ⟨a5, c5, rfl⟩ := Ch.RowA.slice hr5
      clear hlen hib hlay hsF
      go_wp2_with fail
      repeat (first | (refine can_pu1 rfl rfl rfl rfl rfl rfl (fun K hK => ?_); go_big_quiet_op; refine hK _ ?_; clear hK K) | (refine can_st1 rfl rfl rfl rfl rfl rfl (fun K hK => ?_); go_big_quiet_op; refine hK _ ?_; clear hK K) | (refine can_early1 rfl rfl rfl rfl rfl (fun K hK => ?_); go_big_quiet_op; refine hK _ ?_; clear hK K) | (refine can_skip rfl rfl rfl ?_; simp only [Act.put, List.setIfInBounds_toArray, List.set_cons_zero, List.set_cons_succ]))
      refine can_end1 ?_; (try simp only [Exit.then])
      go_wp2_with fail
      go_meet
      exact ⟨a5, c5, R5, rfl, hr5, hsG.use (by intro x; simp only [cnt_append, cnt_cons, cnt_nil]; omega)⟩
  case rest =>
    clear hs5 c81 d0 d1 d2 e81
    obtain ⟨a5, c5, R5, rfl, hr5, hs6⟩ := hcut
    have hl160 := layI_length nx ⟨s, g, d⟩ HP5.out
    rw [HLL.out] at hs6
    generalize hY : layI nx ⟨s, g, d⟩ = Y at *
    have HYE := Lib.hid hY
    clear hY
    have hbk := fun w => iblock_any (k : Int) w k0 (by omega)
    have hs7 := Sat.use (M := Aq ++ (R5 ++ (cellsA b (ringC bp xs nx) 160 :: (cellsA z #[.int .i64 s, .int .i64 g, .slice da d.length dc] 141 :: (B ++ L))))) hs6 (by intro x; simp only [cnt_append, cnt_cons, cnt_nil]; omega)
    obtain ⟨L9, hL9⟩ : ∃ L9, L9 = Aq ++ (R5 ++ (cellsA b (ringC bp xs nx) 160 :: (cellsA z #[.int .i64 s, .int .i64 g, .slice da d.length dc] 141 :: (B ++ L)))) := ⟨_, rfl⟩
    have hmr : cellsA b (ringC bp xs nx) 160 ∈ L9 := by rw [hL9]; exact List.mem_append_right _ (List.mem_append_right _ m0)
    have c0 : ∀ y : Of W L9, y.v.cell? ⟨b, 0, none⟩ = some (.pointer (some ⟨bp, 0, none⟩)) := fun y => y.s.cell hmr 0
    have hwr := fun w (h : Sat W w L9) => write_in bp q Aq (80 + k) (.slice a5 Y.length c5) Y W w (R5 ++ (cellsA b (ringC bp xs nx) 160 :: (cellsA z #[.int .i64 s, .int .i64 g, .slice da d.length dc] 141 :: (B ++ L)))) HQ.out (by rw [hL9] at h; exact h) (by omega) hl160 (hr5.reads (F := Aq ++ (cellsA b (ringC bp xs nx) 160 :: (cellsA z #[.int .i64 s, .int .i64 g, .slice da d.length dc] 141 :: (B ++ L)))) (by rw [hL9] at h; exact h.use (by intro x; simp only [cnt_append, cnt_cons, cnt_nil]; omega))) hpl hw0 hw1
    rw [show (((80 + k : Nat)) : Int) = 80 + (k : Int) by omega] at hwr
    rw [← hL9] at hs7
    have HWR := Lib.hid hwr
    have HBK := Lib.hid hbk
    have HL9 := Lib.hid hL9
    have HR5 := Lib.hid hr5
    clear hwr hbk hL9 hs6 hl160 hmr hr5
    go_wp2_with fail
    refine wp_region_held1 [5, 7] [0, 1, 2, 3, 6] [0, 1, 2, 6] [5] [0, 1, 2, 3, 4, 6, 5, 7] (Held W L9) (by kernel_rfl) (by kernel_rfl) ?_ ?_
    · exact Held.mk hs7.drew
    have hne : Nonempty (Of W L9) := ⟨⟨_, hs7⟩⟩
    have hsT := hs7.drew
    have e0 := c0 ⟨_, hs7⟩
    repeat (first | (refine can_pu1 rfl rfl rfl rfl rfl rfl (fun K hK => ?_); go_big_quiet_op; refine hK _ ?_; clear hK K) | (refine can_st1 rfl rfl rfl rfl rfl rfl (fun K hK => ?_); go_big_quiet_op; refine hK _ ?_; clear hK K) | (refine can_early1 rfl rfl rfl rfl rfl (fun K hK => ?_); go_big_quiet_op; refine hK _ ?_; clear hK K) | (refine can_skip rfl rfl rfl ?_; simp only [Act.put, List.setIfInBounds_toArray, List.set_cons_zero, List.set_cons_succ]))
    refine can_actS rfl rfl rfl rfl (fun K hK => ?_)
    go_wp2_with fail
    refine (HBK.out _).mono ?_; rintro r wa ⟨rfl, rfl⟩
    apply hK
    refine ⟨Held.mk hsT, ?_⟩
    clear hK e0 hne hs7
    repeat (first | (refine can_pu1 rfl rfl rfl rfl rfl rfl (fun K hK => ?_); go_big_quiet_op; refine hK _ ?_; clear hK K) | (refine can_st1 rfl rfl rfl rfl rfl rfl (fun K hK => ?_); go_big_quiet_op; refine hK _ ?_; clear hK K) | (refine can_early1 rfl rfl rfl rfl rfl (fun K hK => ?_); go_big_quiet_op; refine hK _ ?_; clear hK K) | (refine can_skip rfl rfl rfl ?_; simp only [Act.put, List.setIfInBounds_toArray, List.set_cons_zero, List.set_cons_succ]))
    refine can_actF rfl rfl rfl rfl (fun K hK => ?_)
    go_wp2_with fail
    refine (HWR.out _ hsT).mono ?_; rintro r wb ⟨Aq', rfl, hAq', hs8⟩
    apply hK
    clear hK hsT c0
    repeat (first | (refine can_pu1 rfl rfl rfl rfl rfl rfl (fun K hK => ?_); go_big_quiet_op; refine hK _ ?_; clear hK K) | (refine can_st1 rfl rfl rfl rfl rfl rfl (fun K hK => ?_); go_big_quiet_op; refine hK _ ?_; clear hK K) | (refine can_early1 rfl rfl rfl rfl rfl (fun K hK => ?_); go_big_quiet_op; refine hK _ ?_; clear hK K) | (refine can_skip rfl rfl rfl ?_; simp only [Act.put, List.setIfInBounds_toArray, List.set_cons_zero, List.set_cons_succ]))
    refine can_end1 ?_; (try simp only [Exit.then])
    have hs9 := Sat.use (M := cellsA z #[.int .i64 s, .int .i64 g, .slice da d.length dc] 141 :: (cellsA b (ringC bp xs nx) 160 :: (B ++ (Aq' ++ L)))) hs8 (by intro x; simp only [cnt_append, cnt_cons, cnt_nil]; omega)
    clear hs8
    have e2 : wb.cell? ⟨z, 2, none⟩ = some (.slice da d.length dc) := hs9.cell m0 2
    have hcl := clone_any (.slice da d.length dc) d W wb _ (HIN0.out wb hs9.tail.tail.right.right) (by rw [HP5.out]; decide) hs9
    have HCL := Lib.hid hcl
    clear hcl hs9
    go_wp2_with fail
    refine HCL.out.mono ?_; rintro r wc ⟨v6, R6, rfl, hr6, hs10⟩
    obtain ⟨a6, c6, rfl⟩ := Ch.RowA.slice hr6
    have hs11 := Sat.use (M := cellsA z #[.int .i64 s, .int .i64 g, .slice da d.length dc] 141 :: (cellsA b (ringC bp xs nx) 160 :: (R6 ++ (B ++ (Aq' ++ L))))) hs10 (by intro x; simp only [cnt_append, cnt_cons, cnt_nil]; omega)
    clear hs10 HCL e2
    have e2 := hs11.cell m0 2
    have f2 := hs11.free m0 2
    have hs12 := Sat.setCell hs11 2 (.slice a6 d.length c6)
    simp only [List.setIfInBounds_toArray, List.set_cons_zero, List.set_cons_succ] at hs12
    go_upto_region 11 with fail
    refine with_sat hs12 ?_
    clear hs12 hs11 e2 f2
    intro wd hs12
    have t0 : wd.cell? ⟨z, 0, none⟩ = some (.int .i64 s) := hs12.cell m0 0
    have t1 : wd.cell? ⟨z, 1, none⟩ = some (.int .i64 g) := hs12.cell m0 1
    have t2 : wd.cell? ⟨z, 2, none⟩ = some (.slice a6 d.length c6) := hs12.cell m0 2
    have hs13 := Sat.use (M := cellsA b (ringC bp xs nx) 160 :: ((R6 ++ B) ++ (Aq' ++ L))) hs12 (by intro x; simp only [cnt_append, cnt_cons, cnt_nil]; omega)
    obtain ⟨⟨⟨ol, on, ⟨os, og, od⟩⟩, ov⟩, hxk⟩ : ∃ y, xs[k]? = some y := ⟨_, List.getElem?_eq_getElem (by rw [HXL.out]; exact hk16)⟩
    obtain ⟨e0, e1, e2, e3, e4⟩ := ring_of hs13 hxk
    have f0 := hs13.free m0 (1 + k * 5)
    have f1 := hs13.free m0 (1 + k * 5 + 1)
    have f2 := hs13.free m0 (1 + k * 5 + 2)
    have f3 := hs13.free m0 (1 + k * 5 + 3)
    have f4 := hs13.free m0 (1 + k * 5 + 4)
    have e81 : wd.cell? ⟨b, 81, none⟩ = some (.int .i64 nx) := by rw [hs13.cell m0]; exact ring_next HXL.out
    have hz := Sat.setCell (Sat.setCell (Sat.setCell (Sat.setCell (Sat.setCell hs13 (1 + k * 5) (.bool true)) (1 + k * 5 + 1) (.int .i64 nx)) (1 + k * 5 + 2) (.int .i64 s)) (1 + k * 5 + 3) (.int .i64 g)) (1 + k * 5 + 4) (.slice a6 d.length c6)
    rw [ring_set (xs := xs) ⟨true, nx, ⟨s, g, d⟩⟩ (.slice a6 d.length c6) (by rw [HXL.out]; exact hk16)] at hz
    have HZ := Lib.hid hz
    have hsd := hs12.drew
    clear hz hs12 hs13 hxk
    refine wp_region_one [11] [] [] [] [0, 1, 2, 3, 4, 5, 6, 7, 8, 9, 10, 11] (by kernel_rfl) (by kernel_rfl) ?_
    repeat (first | (refine can_pu1 rfl rfl rfl rfl rfl rfl (fun K hK => ?_); go_big_quiet_op; refine hK _ ?_; clear hK K) | (refine can_st1 rfl rfl rfl rfl rfl rfl (fun K hK => ?_); go_big_quiet_op; refine hK _ ?_; clear hK K) | (refine can_early1 rfl rfl rfl rfl rfl (fun K hK => ?_); go_big_quiet_op; refine hK _ ?_; clear hK K) | (refine can_skip rfl rfl rfl ?_; simp only [Act.put, List.setIfInBounds_toArray, List.set_cons_zero, List.set_cons_succ]))
    refine can_act1 rfl rfl rfl (fun K hK => ?_)
    go_wp2_with fail
    refine can_end1 ?_; (try simp only [Exit.then])
    go_upto_region 12 with fail
    refine with_sat HZ.out.drew ?_
    clear HZ e0 e1 e2 e3 e4 f0 f1 f2 f3 f4 e81 t0 t1 t2 hsd
    intro we hs14
    have hxl2 : (xs.set k (⟨true, nx, ⟨s, g, d⟩⟩, .slice a6 d.length c6)).length = 16 := by rw [List.length_set, HXL.out]
    have e0 : we.cell? ⟨b, 81, none⟩ = some (.int .i64 nx) := by rw [hs14.cell m0]; exact ring_next hxl2
    have f0 := hs14.free m0 81
    have hs15 := Sat.setCell hs14 81 (.int .i64 (nx + 1))
    rw [ring_setn _ hxl2] at hs15
    clear hs14 hxl2
    go_wp2_with fail
    go_ret
    have hri2 := (HRI.out.mono (B' := R6 ++ B) (fun x hx => List.mem_append_right R6 hx)).set k (s := ⟨true, nx, ⟨s, g, d⟩⟩) (v := .slice a6 d.length c6) ⟨R6, hr6, fun x hx => List.mem_append_left _ hx⟩
    rw [← HYE.out] at hAq'
    exact ⟨Aq', R6 ++ B, .slice a6 d.length c6, rfl, hAq', hri2, hs15.use (by intro x; simp only [cnt_append, cnt_cons, cnt_nil]; omega)⟩
end Go.Proofs.Ytdkhgkkdnjejmaa.Ch
