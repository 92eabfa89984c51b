/-
  The platter: Crash.
-/
import Derived.Test.YtdkhgkkdnjejmaaChQ
namespace Go.Proofs.Ytdkhgkkdnjejmaa.Ch
set_option linter.unusedSimpArgs false
open Go Go.RowKit Go.Sl Go.BigFrame
set_option linter.unusedVariables false

/-- What is flushed once the first k pending writes are kept, or not. -/
def crashTo (keep : List Int) (d : List (List UInt8)) (pend : List (Nat × List UInt8)) : Nat → List (List UInt8)
  | 0 => d
  | k + 1 => match pend[k]? with
    | some x => if (k : Int) ∈ keep then (crashTo keep d pend k).set x.1 x.2 else crashTo keep d pend k
    | none => crashTo keep d pend k
theorem crashTo_length (keep : List Int) (d : List (List UInt8)) (pend : List (Nat × List UInt8)) : ∀ k, (crashTo keep d pend k).length = d.length
  | 0 => rfl
  | k + 1 => by
    unfold crashTo
    split
    · split
      · rw [List.length_set, crashTo_length keep d pend k]
      · exact crashTo_length keep d pend k
    · exact crashTo_length keep d pend k
def Pt.crash (p : Pt) (keep : List Int) : Pt := ⟨crashTo keep p.done p.pend p.pend.length, crashTo keep p.done p.pend p.pend.length, [], p.writes⟩

set_option maxRecDepth 100000 in
set_option maxHeartbeats 4000000 in
theorem crash_any (b : Nat) (p : Pt) (A : List Atom) (kv : Value) (keep : List Int) (W w : World) (L : List Atom) (hp : PtA b p A) (hs : Sat W w (A ++ L)) (hin : ∀ y, Sat W y L → Reads y kv keep.length (intsC keep)) (hkl : keep.length < 9223372036854775808) (hd0 : 0 < p.done.length) (hdl : p.done.length < 1000000) (hok : ∀ x ∈ p.pend, x.1 < p.done.length) (hpl : p.pend.length < 1000000) :
    Calls Try.prog 46 #[.pointer (some ⟨b, 0, none⟩), kv] w fun e w' => ∃ A', e = .returned (.tuple #[]) ∧ PtA b (p.crash keep) A' ∧ Sat W w' (A' ++ L) := by
  obtain ⟨vd, vn, vp, Rd, Rn, Rp, B, cd, cn, cp, rfl, hr⟩ := hp
  obtain ⟨gd, od, kd, rfl, hd1, hd2, hRd⟩ := Ch.RowA.some_of hr.d hd0
  obtain ⟨an, cn', rfl⟩ := Ch.RowA.slice hr.n
  obtain ⟨ap, cp', rfl⟩ := Ch.RowA.slice hr.pr
  obtain ⟨ak, ck, rfl⟩ := reads_shape (hin w hs.right)
  have d2 : w.cell? ⟨b, 2, none⟩ = some (.slice ap p.pend.length cp') := hs.cell m0 2
  have hcd : cd.length = p.done.length := by have := hr.d.1; omega
  obtain ⟨C, hC⟩ : ∃ C, C = cellsA b #[.slice (some ⟨gd, od, none⟩) p.done.length kd, .slice an p.now.length cn', .slice ap p.pend.length cp', .int .i64 p.writes] 107 := ⟨_, rfl⟩
  have hs0 : Sat W w ((gd, rowP 32 od (kd * 1) cd) :: (C :: (Rp ++ (Rn ++ (B ++ L))))) := by
    rw [hC]; rw [hRd] at hs; exact hs.use (by intro x; simp only [cnt_append, cnt_cons, cnt_nil]; omega)
  have HIN := Lib.hid hin
  have HR := Lib.hid hr
  have HC := Lib.hid hC
  have HOK := Lib.hid hok
  obtain ⟨N, hN⟩ : ∃ N, N = p.pend.length := ⟨_, rfl⟩
  have HN := Lib.hid hN
  rw [← hN] at d2 hpl
  have hdb := hr.db
  clear hs hin hr hC hok hN
  go_enter Try.func46, Try.ntmps46
  go_wp2_with fail
  go_loopw [11] (fun iv wr => ∃ (k : Nat) (cs : List Value), iv = .int .i64 k ∧ k ≤ N ∧ Blks B cs (crashTo keep p.done p.pend k) ∧ Sat W wr ((gd, rowP 32 od (kd * 1) cs) :: (C :: (Rp ++ (Rn ++ (B ++ L)))))) (fun iv _ => (N - (intOf iv).toNat))
  case atStart => exact ⟨0, cd, rfl, Nat.zero_le _, hdb, hs0⟩
  case round =>
    clear hs0 d2
    obtain ⟨k, cs, rfl, hk, hbk, hs⟩ := hrel
    have k0 : (0 : Int) ≤ k := by omega
    have hcs : cs.length = p.done.length := by rw [hbk.len, crashTo_length]
    have HBK := Lib.hid hbk
    clear hbk
    by_cases hkn : k < N
    · have k1 : (k : Int) < N := by omega
      have k2 : (k : Int) < 1000000 := by omega
      have hr := HR.out
      obtain ⟨gp, op, kp, he, hp1, hp2, hRp⟩ := Ch.RowA.some_of hr.pr (by have := HN.out; omega)
      obtain ⟨rfl, rfl⟩ : ap = some ⟨gp, op, none⟩ ∧ cp' = kp := by
        cases he
        exact ⟨rfl, rfl⟩
      clear he
      obtain ⟨⟨i, l⟩, hx⟩ : ∃ x, p.pend[k]? = some x := ⟨_, List.getElem?_eq_getElem (by have := HN.out; omega)⟩
      obtain ⟨u, hu, hbi⟩ := hr.pb.get (k := k) (l := l) (by rw [List.getElem?_map, hx]; rfl)
      obtain ⟨g0, g1⟩ := pendC_get (p.pend.map Prod.fst) cp k i u (by rw [List.getElem?_map, hx]; rfl) hu
      have hil : i < p.done.length := HOK.out _ (List.mem_of_getElem? hx)
      have hsp : Sat W wr (Rp ++ ((gd, rowP 32 od (kd * 1) cs) :: (C :: (Rn ++ (B ++ L))))) := hs.use (by intro x; simp only [cnt_append, cnt_cons, cnt_nil]; omega)
      have e0 : wr.cell? ⟨gp, op + k * 2, none⟩ = some (.int .i64 i) := by
        rw [(hr.pr.cells hsp rfl (k * 2) (List.getElem?_eq_some_iff.1 g0).1).1, g0]
      have e1 : wr.cell? ⟨gp, op + k * 2 + 1, none⟩ = some u := by
        rw [Nat.add_assoc, (hr.pr.cells hsp rfl (k * 2 + 1) (List.getElem?_eq_some_iff.1 g1).1).1, g1]
      have hs2 := hs.newCells #[.int .i64 i, u] 114
      have hcnt := contains_ints _ keep k (wr.alloc (.cells #[.int .i64 i, u] 114)) (HIN.out _ (Sat.use (M := L) hs2 (by intro x; simp only [cnt_append, cnt_cons, cnt_nil]; omega))) hkl
      have hbu := hbi
      obtain ⟨gu, ou, ku, rfl, hu1, hu2⟩ := hbi
      have HX := Lib.hid hx
      have HBU := Lib.hid hbu
      have HCNT := Lib.hid hcnt
      clear hsp g0 g1 hu hx hRp hr hbu hcnt hu1 hu2
      go_wp2_with fail
      refine HCNT.out.mono ?_; rintro r w4 ⟨rfl, rfl⟩
      by_cases hin : (k : Int) ∈ keep
      · rw [decide_eq_true hin]
        have hct : crashTo keep p.done p.pend (k + 1) = (crashTo keep p.done p.pend k).set i l := by
          simp only [crashTo, HX.out, if_pos hin]
        have HCT := Lib.hid hct
        clear hin hct
        have hd : (i : Int) < p.done.length := by omega
        have hi0 : (0 : Int) ≤ i := by omega
        have hs3 : Sat W (wr.alloc (.cells #[.int .i64 i, .slice (some ⟨gu, ou, none⟩) l.length ku] 114)) ((gd, rowP 32 od (kd * 1) cs) :: (cellsA b #[.slice (some ⟨gd, od, none⟩) p.done.length kd, .slice an p.now.length cn', .slice (some ⟨gp, op, none⟩) p.pend.length cp', .int .i64 p.writes] 107 :: (cellsA wr.heap.size #[.int .i64 i, .slice (some ⟨gu, ou, none⟩) l.length ku] 114 :: (Rp ++ (Rn ++ (B ++ L)))))) := by
          rw [HC.out] at hs2
          exact hs2.use (by intro x; simp only [cnt_append, cnt_cons, cnt_nil]; omega)
        have q0 := hs3.cell m1 0
        have q1 := hs3.cell m2 0
        have q2 := hs3.cell m2 1
        obtain ⟨q3, q4⟩ := row_cell (G := (cellsA b #[.slice (some ⟨gd, od, none⟩) p.done.length kd, .slice an p.now.length cn', .slice (some ⟨gp, op, none⟩) p.pend.length cp', .int .i64 p.writes] 107 :: (cellsA wr.heap.size #[.int .i64 i, .slice (some ⟨gu, ou, none⟩) l.length ku] 114 :: (Rp ++ (Rn ++ (B ++ L)))))) hs3 i _ (List.getElem?_eq_getElem (by omega))
        have hs4 := row_store hs3 i (by omega) (.slice (some ⟨gu, ou, none⟩) l.length ku)
        clear hs hs2 hs3 e0 e1
        go_wp2_with fail
        refine wp_region_one [9] [] [] [] [0, 1, 2, 3, 4, 5, 6, 7, 8, 9] (by kernel_rfl) (by kernel_rfl) ?_
        repeat (first | (refine can_pu1 rfl rfl rfl rfl rfl rfl (fun K hK => ?_); go_big_quiet_op; refine hK _ ?_; clear hK K) | (refine can_st1 rfl rfl rfl rfl rfl rfl (fun K hK => ?_); go_big_quiet_op; refine hK _ ?_; clear hK K) | (refine can_early1 rfl rfl rfl rfl rfl (fun K hK => ?_); go_big_quiet_op; refine hK _ ?_; clear hK K) | (refine can_skip rfl rfl rfl ?_; simp only [Act.put, List.setIfInBounds_toArray, List.set_cons_zero, List.set_cons_succ]))
        refine can_act1 rfl rfl rfl (fun K hK => ?_)
        go_wp2_with fail
        refine can_end1 ?_; (try simp only [Exit.then])
        go_wp2_with fail
        refine ⟨⟨k + 1, cs.set i (.slice (some ⟨gu, ou, none⟩) l.length ku), by simp, by omega, ?_, ?_⟩, ?_⟩
        · rw [HCT.out]
          exact HBK.out.set i HBU.out
        · rw [HC.out]
          exact hs4.drew.use (by intro x; simp only [cnt_append, cnt_cons, cnt_nil]; omega)
        · simp [intOf]
          omega
      · rw [decide_eq_false hin]
        have hct : crashTo keep p.done p.pend (k + 1) = crashTo keep p.done p.pend k := by
          simp only [crashTo, HX.out, if_neg hin]
        have HCT := Lib.hid hct
        clear hin hct e0 e1
        go_wp2_with fail
        refine ⟨⟨k + 1, cs, by simp, by omega, ?_, ?_⟩, ?_⟩
        · rw [HCT.out]
          exact HBK.out
        · exact hs2.use (by intro x; simp only [cnt_append, cnt_cons, cnt_nil]; omega)
        · simp [intOf]
          omega
    · have e : N = k := by omega
      subst e
      have hr := HR.out
      rw [HC.out] at hs
      have hs1 := Sat.use (M := cellsA b #[.slice (some ⟨gd, od, none⟩) p.done.length kd, .slice an p.now.length cn', .slice ap p.pend.length cp', .int .i64 p.writes] 107 :: ((gd, rowP 32 od (kd * 1) cs) :: (B ++ L))) hs (by intro x; simp only [cnt_append, cnt_cons, cnt_nil]; omega)
      have q0 := hs1.cell m0 0
      have hrd : Reads wr (.slice (some ⟨gd, od, none⟩) p.done.length kd) cs.length cs := by
        refine .inr ⟨_, _, by rw [hcs], fun j u hu => ?_⟩
        have hj := (List.getElem?_eq_some_iff.1 hu).1
        obtain ⟨o, ho, hp⟩ := hs1.get m1
        rw [add_row, (hp.cell ho j hj).1, hu]
      have hcl := clone_bl _ cs W wr _ hrd HBK.out.one (by omega) hs1
      have HCL := Lib.hid hcl
      have HCS := Lib.hid hcs
      clear hs hs1 hcl hrd hcs
      go_wp2_with fail
      refine HCL.out.mono ?_; rintro r w2 ⟨v, R, rfl, hv, hs2⟩
      obtain ⟨a2, c2, rfl⟩ := Ch.RowA.slice hv
      have hs3 := Sat.use (M := cellsA b #[.slice (some ⟨gd, od, none⟩) p.done.length kd, .slice an p.now.length cn', .slice ap p.pend.length cp', .int .i64 p.writes] 107 :: ((gd, rowP 32 od (kd * 1) cs) :: (R ++ (B ++ L)))) hs2 (by intro x; simp only [cnt_append, cnt_cons, cnt_nil]; omega)
      have e0 := hs3.cell m0 1
      have e1 := hs3.free m0 1
      have hs4 := Sat.setCell hs3 1 (.slice a2 cs.length c2)
      have e2 := hs4.cell m0 2
      have e3 := hs4.free m0 2
      have hs5 := Sat.setCell hs4 2 (.slice none 0 0)
      clear hs2 hs3 hs4 q0
      go_wp2_with fail
      go_end0
      simp only [List.setIfInBounds_toArray, List.set_cons_zero, List.set_cons_succ] at hs5
      have hlen : cs.length = (p.crash keep).done.length := by
        rw [HBK.out.len, HN.out]; rfl
      have hbk : Blks B cs (p.crash keep).done := by
        have := HBK.out
        rw [HN.out] at this
        exact this
      have hpd : p.done.length = (p.crash keep).done.length := by rw [← hlen, HCS.out]
      rw [hpd] at hs5
      have hs6 : Sat W _ (cellsA b #[.slice (some ⟨gd, od, none⟩) (p.crash keep).done.length kd, .slice a2 cs.length c2, .slice none 0 0, .int .i64 (p.crash keep).writes] 107 :: ((gd, rowP 32 od (kd * 1) cs) :: (R ++ (B ++ L)))) := hs5
      refine ⟨_, rfl, ⟨.slice (some ⟨gd, od, none⟩) (p.crash keep).done.length kd, .slice a2 cs.length c2, .slice none 0 0, [(gd, rowP 32 od (kd * 1) cs)], R, [], B, cs, cs, [], rfl, ⟨⟨by omega, .inr ⟨gd, od, kd, rfl, by omega, hd2, rfl⟩⟩, hbk, ?_, hbk, RowA.nil _ _, Blks.nil _⟩⟩, hs6.use (by intro x; simp only [cnt_append, cnt_cons, cnt_nil]; omega)⟩
      show RowA 32 1 _ (p.crash keep).done.length cs R
      rw [← hlen]
      exact hv
end Go.Proofs.Ytdkhgkkdnjejmaa.Ch
