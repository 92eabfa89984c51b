
/-
  The cache's functions over a cache in memory: Put.
-/
import Derived.Test.YtekbbpfnkbanjaaKcE
import Derived.WalkSpells
namespace Go.Proofs.Ytekbbpfnkbanjaa.Ch
open Go Go.RowKit Go.Sl Go.BigFrame
set_option linter.unusedVariables false
set_option linter.unusedSimpArgs false

theorem outK_put {α κ : Type} {key : α → κ} (a : α) (l : List α) : outK key (key a) (a :: outK key (key a) l) = outK key (key a) l := by
  classical
  unfold outK
  rw [List.filter_cons_of_neg (by simp), List.filter_filter]
  apply List.filter_congr
  intro x _
  simp

set_option maxHeartbeats 2000000 in
theorem cache_put (bc : Nat) (m : Mo) (A : List Atom) (s : ByteArray) (k : Int) (d : List UInt8) (v : Value) (W w : World) (L : List Atom) (hA : CaA bc m A) (hs : Sat W w (A ++ L)) (hk : 0 ≤ k) (hk2 : k < 1000000) (hd : d.length = 16)
    (hr : ∀ y, Sat W y L → Reads y v d.length (bts d)) :
    Calls Try.prog 7 #[.pointer (some ⟨bc, 0, none⟩), .string s, .int .i64 k, v] w fun e w' => ∃ A', e = .returned (.bool true) ∧ CaA bc (m.put s k d) A' ∧ Sat W w' (A' ++ L) := by
  classical
  obtain ⟨av, cv, rfl⟩ := reads_shape (hr w hs.right)
  have HRV := Lib.hid hr
  clear hr
  have hd1 : (d.length : Int) = 16 := by omega
  have HD := Lib.hid hd
  obtain ⟨dl, hdl⟩ : ∃ dl, dl = d.length := ⟨_, rfl⟩
  rw [← hdl] at hd1 ⊢
  have HDL := Lib.hid hdl
  clear hd hdl
  have hmm := @run_makeMap Try.prog
  have q35 : ∀ (w : World), (binOp .eql 35 (.map none) (.map none)).run Try.prog w = .ok (.bool true) w := fun w => run_eql_map_nil w _ _ _ none Try.underlying35
  have q36 : ∀ (w : World) (b : Nat), (binOp .eql 35 (.map (some b)) (.map none)).run Try.prog w = .ok (.bool false) w := fun w b => run_eql_map_nil w _ _ _ (some b) Try.underlying35
  obtain ⟨bm, X, rfl, hok, rfl⟩ := hA
  have c0 : w.cell? ⟨bc, 0, none⟩ = some (.map (some bm)) := hs.cell m0 0
  have hlk := lookup_sl (P := Try.prog) (t := 40) (key := .string s) (z := .map none) hs (b := bm) (d := .string) (f := nmF X) (n := X.length) m1 Try.underlying40 Try.underlying9 trivial (Try.zeroValue35 _) false
  simp only [Bool.false_eq_true, if_false] at hlk
  have HOK := Lib.hid hok
  clear hok
  have hk0 : ¬ k < 0 := by omega
  obtain ⟨g, hg⟩ : ∃ g, g = getK Nm.s s X := ⟨_, rfl⟩
  have HG := Lib.hid hg
  obtain ⟨mv, hmv⟩ : ∃ mv, mv = (nmF X (.string s)).getD (.map none) := ⟨_, rfl⟩
  have HMV := Lib.hid hmv
  rw [← hmv] at hlk
  clear hmv hg
  go_enter Try.func7, Try.ntmps7
  go_upto_region 3 with fail
  go_cut [22] (fun tv wx => tv = .bool g.isNone ∧ w = wx)
  case first =>
    cases g with
    | none =>
      have e : mv = .map none := by rw [HMV.out, nm_none HG.out.symm]; rfl
      subst e
      go_wp2_with fail
      go_meet
      exact ⟨rfl, rfl⟩
    | some a =>
      have e : mv = .map (some a.b) := by rw [HMV.out, nm_some HG.out.symm]; rfl
      subst e
      go_wp2_with fail
      go_meet
      exact ⟨rfl, rfl⟩
  case rest =>
  obtain ⟨rfl, rfl⟩ := hcut
  clear hlk HMV mv
  go_upto_if 22 with fail
  go_cut [] (fun wx => ∃ a X1, CaOk X1 ∧ getK Nm.s s X1 = some a ∧ outK Nm.s s X1 = outK Nm.s s X ∧ a.l = ((getK Nm.s s X).map (·.l)).getD [] ∧ Sat W wx (cellsA bc #[.map (some bm)] 42 :: mapA bm .string (nmF X1) X1.length :: (nmsAt X1 ++ L)))
  case first =>
    cases g with
    | none =>
      have hs1 := newMap_sl hs (.int .i64)
      have hs2 : Sat W (w.alloc (.map #[] 0)) (mapA bm .string (nmF X) X.length :: (cellsA bc #[.map (some bm)] 42 :: (mapA w.heap.size (.int .i64) (fun _ => none) 0 :: (nmsAt X ++ L)))) := hs1.use (by intro x; simp only [cnt_append, cnt_cons, cnt_nil]; omega)
      obtain ⟨w3, hr3, hs3⟩ := mapUpdate_sl (P := Try.prog) (t := 40) (key := .string s) hs2 Try.underlying40 Try.underlying9 trivial (.map (some w.heap.size))
      have c1 : (w.alloc (.map #[] 0)).cell? ⟨bc, 0, none⟩ = some (.map (some bm)) := hs1.cell m1 0
      clear hs1 hs2
      go_wp2_with fail
      go_meet
      have hgn : getK Nm.s s X = none := HG.out.symm
      have hX1 : CaOk ((⟨s, w.heap.size, []⟩ : Nm) :: outK Nm.s s X) := ⟨put_nodup (key := Nm.s) (a := ⟨s, w.heap.size, []⟩) HOK.out.apart, fun n hn => by
        rcases List.mem_cons.1 hn with rfl | hn
        · exact ⟨by simp, by simp⟩
        · exact HOK.out.nms n (mem_outK.1 hn).1⟩
      refine ⟨⟨s, w.heap.size, []⟩, _, hX1, ?_, outK_put (key := Nm.s) (⟨s, w.heap.size, []⟩ : Nm) X, by rw [hgn]; rfl, ?_⟩
      · rw [getK_put (key := Nm.s) (⟨s, w.heap.size, []⟩ : Nm) X s, if_pos rfl]
      · rw [nmF_put X ⟨s, w.heap.size, []⟩] at hs3
        have hl := len_put (key := Nm.s) (a := (⟨s, w.heap.size, []⟩ : Nm)) HOK.out.apart
        simp only [hgn, nm_none hgn, Option.isSome_none, Bool.false_eq_true, if_false] at hs3 hl
        rw [hl, nmsAt_cons, outK_none hgn]
        rw [outK_none hgn] at hs3
        have e9 : nmAt ⟨s, w.heap.size, []⟩ = [mapA w.heap.size (.int .i64) (fun _ => none) 0] := by
          simp only [nmAt, secF_nil, secAt_nil, List.length_nil]
        rw [e9]
        exact hs3.use (by intro x; simp only [cnt_append, cnt_cons, cnt_nil]; omega)
    | some a =>
      go_wp2_with fail
      go_meet
      have hgn : getK Nm.s s X = some a := HG.out.symm
      exact ⟨a, X, HOK.out, hgn, rfl, by rw [hgn]; rfl, hs⟩
  case rest =>
  obtain ⟨a, X1, hok1, hga, hout, hal, hs1⟩ := hcut
  obtain ⟨haX, rfl⟩ := getK_some hga
  clear hmm q35 q36 c0 hs HG g hk0
  have HGA := Lib.hid hga
  have HOUT := Lib.hid hout
  have HAL := Lib.hid hal
  have HK1 := Lib.hid hok1
  have hnm := hok1.nms a haX
  have HNM := Lib.hid hnm
  obtain ⟨LL, hLL⟩ : ∃ LL, LL = cellsA bc #[.map (some bm)] 42 :: mapA bm .string (nmF X1) X1.length :: (mapA a.b (.int .i64) (secF a.l) a.l.length :: (secAt a.l ++ (nmsAt (outK Nm.s a.s X1) ++ L))) := ⟨_, rfl⟩
  have hs2 : Sat W wc LL := by
    have h := hok1.split haX (L := cellsA bc #[.map (some bm)] 42 :: mapA bm .string (nmF X1) X1.length :: L) (hs1.use (by intro x; simp only [cnt_append, cnt_cons, cnt_nil]; omega))
    rw [hLL]
    exact h.use (by intro x; simp only [cnt_append, cnt_cons, cnt_nil]; omega)
  have HLL := Lib.hid hLL
  have hlk0 : ∀ y, Sat W y LL → (Instr.lookup 40 (.map (some bm)) (.string a.s) false).run Try.prog y = .ok (.map (some a.b)) y := fun y hy => by
    rw [HLL.out] at hy
    have h := lookup_sl (P := Try.prog) (t := 40) (key := .string a.s) (z := .map none) hy (b := bm) (d := .string) (f := nmF X1) (n := X1.length) m1 Try.underlying40 Try.underlying9 trivial (Try.zeroValue35 _) false
    rw [nm_some HGA.out] at h
    exact h
  have hlk : ∀ y : Of W LL, (Instr.lookup 40 (.map (some bm)) (.string a.s) false).run Try.prog y.v = .ok (.map (some a.b)) y.v := fun y => hlk0 y.v y.s
  have c00 : ∀ y, Sat W y LL → y.cell? ⟨bc, 0, none⟩ = some (.map (some bm)) := fun y hy => by
    rw [HLL.out] at hy
    exact hy.cell m0 0
  have c0 : ∀ y : Of W LL, y.v.cell? ⟨bc, 0, none⟩ = some (.map (some bm)) := fun y => c00 y.v y.s
  clear hlk0 c00
  have hsd := hs2.drew
  have hrd : Reads wc.drew (.slice av d.length cv) d.length (bts d) := HRV.out _ (by rw [HLL.out] at hsd; exact hsd.tail.tail.tail.right.right)
  rw [← HDL.out] at hrd
  have HCL := Lib.hid (clone_any (.slice av dl cv) d W wc.drew LL (by rw [← HDL.out]; exact hrd) (by rw [HD.out]; decide) hsd)
  clear hs1 hga hout hal hok1 hnm hLL hrd haX
  go_wp2_with fail
  refine wp_region_held1 [8, 9] [0, 1, 2, 3, 4, 5, 6] [0, 1, 2, 4, 6] [8] [0, 1, 2, 3, 4, 5, 6, 7, 8, 9] (Held W LL) (by kernel_rfl) (by kernel_rfl) ?_ ?_
  · exact Held.mk hsd
  have hne : Nonempty (Of W LL) := ⟨⟨_, hsd⟩⟩
  clear hs2 hsd
  repeat (first | (refine can_pu1 rfl rfl rfl rfl rfl rfl (fun K hK => ?_); go_big_quiet_op; refine hK _ ?_; clear hK K) | (refine can_st1 rfl rfl rfl rfl rfl rfl (fun K hK => ?_); go_big_quiet_op; refine hK _ ?_; clear hK K) | (refine can_early1 rfl rfl rfl rfl rfl (fun K hK => ?_); go_big_quiet_op; refine hK _ ?_; clear hK K) | (refine can_skip rfl rfl rfl ?_; simp only [Act.put, List.setIfInBounds_toArray, List.set_cons_zero, List.set_cons_succ]))
  refine can_actS rfl rfl rfl rfl (fun K hK => ?_)
  go_wp2_with fail
  refine HCL.out.mono ?_; rintro r w5 ⟨v', R, rfl, hr, hs5⟩
  apply hK
  refine ⟨Held.mk hs5.right, ?_⟩
  clear hK HCL
  repeat (first | (refine can_pu1 rfl rfl rfl rfl rfl rfl (fun K hK => ?_); go_big_quiet_op; refine hK _ ?_; clear hK K) | (refine can_st1 rfl rfl rfl rfl rfl rfl (fun K hK => ?_); go_big_quiet_op; refine hK _ ?_; clear hK K) | (refine can_early1 rfl rfl rfl rfl rfl (fun K hK => ?_); go_big_quiet_op; refine hK _ ?_; clear hK K) | (refine can_skip rfl rfl rfl ?_; simp only [Act.put, List.setIfInBounds_toArray, List.set_cons_zero, List.set_cons_succ]))
  rw [HLL.out] at hs5
  have hs6 : Sat W w5 (mapA a.b (.int .i64) (secF a.l) a.l.length :: (R ++ (cellsA bc #[.map (some bm)] 42 :: mapA bm .string (nmF X1) X1.length :: (secAt a.l ++ (nmsAt (outK Nm.s a.s X1) ++ L))))) := hs5.use (by intro x; simp only [cnt_append, cnt_cons, cnt_nil]; omega)
  obtain ⟨w6, hr6, hs7⟩ := mapUpdate_sl (P := Try.prog) (t := 35) (key := .int .i64 k) hs6 Try.underlying35 Try.underlying3 rfl v'
  have HS7 := Lib.hid hs7
  have HR := Lib.hid hr
  clear hs5 hs6 hs7 hlk c0 hne hr
  refine can_actF rfl rfl rfl rfl (fun K hK => ?_)
  go_wp2_with fail
  refine can_end1 ?_; (try simp only [Exit.then])
  go_wp2_with fail
  go_ret
  have hln : d.length = 16 := HD.out
  have e1 := secF_put a.l ⟨k, d, v', R⟩
  have e2 := len_put (key := Sec.k) (a := (⟨k, d, v', R⟩ : Sec)) HNM.out.apart
  have hs8 := HS7.out
  simp only at e1
  rw [e1] at hs8
  have e3 : (if (secF a.l (.int .i64 k)).isSome then a.l.length else a.l.length + 1) = ((⟨k, d, v', R⟩ : Sec) :: outK Sec.k k a.l).length := by
    rw [e2]
    simp [secF]
  rw [e3] at hs8
  obtain ⟨sx, hsx⟩ : ∃ sx, sx = (⟨k, d, v', R⟩ : Sec) := ⟨_, rfl⟩
  have hX2 : CaOk ((⟨a.s, a.b, sx :: outK Sec.k k a.l⟩ : Nm) :: outK Nm.s a.s X1) := by
    refine ⟨put_nodup (key := Nm.s) (a := ⟨a.s, a.b, sx :: outK Sec.k k a.l⟩) HK1.out.apart, fun n hn => ?_⟩
    rcases List.mem_cons.1 hn with rfl | hn
    · subst hsx
      refine ⟨put_nodup (key := Sec.k) (a := (⟨k, d, v', R⟩ : Sec)) HNM.out.apart, fun t ht => ?_⟩
      rcases List.mem_cons.1 ht with rfl | ht
      · exact ⟨HR.out, hln, hk, hk2⟩
      · exact HNM.out.secs t (mem_outK.1 ht).1
    · exact HK1.out.nms n (mem_outK.1 hn).1
  refine ⟨_, by simp, ⟨bm, _, rfl, hX2, ?_⟩, ?_⟩
  · have := put_abs X a.s a.b sx
    rw [← HAL.out, ← HOUT.out] at this
    subst hsx
    exact this.symm
  · have e5 := len_put (key := Nm.s) (a := (⟨a.s, a.b, sx :: outK Sec.k k a.l⟩ : Nm)) HK1.out.apart
    simp only [HGA.out, Option.isSome_some, if_true] at e5
    rw [nmF_same HGA.out, e5, nmsAt_cons]
    rw [← hsx] at hs8
    have e6 : nmAt ⟨a.s, a.b, sx :: outK Sec.k k a.l⟩ = mapA a.b (.int .i64) (secF (sx :: outK Sec.k k a.l)) (sx :: outK Sec.k k a.l).length :: (R ++ secAt (outK Sec.k k a.l)) := by
      subst hsx
      rfl
    rw [e6]
    refine hs8.use fun x => ?_
    have := secAt_out_le a.l k x
    simp only [cnt_append, cnt_cons, cnt_nil]
    omega
end Go.Proofs.Ytekbbpfnkbanjaa.Ch
