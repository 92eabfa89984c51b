
/-
  The cache's functions over a cache in memory: With.
-/
import Derived.Test.YtekbbpfnkbanjaaKcD
namespace Go.Proofs.Ytekbbpfnkbanjaa.Ch
open Go Go.RowKit Go.Sl Go.BigFrame
set_option linter.unusedVariables false
set_option linter.unusedSimpArgs false

theorem look_inF {P : Program} {W w : World} {L : List Atom} {b : Nat} {E : List Int} {n : Nat} {t k e : TypeId} (hs : Sat W w L) (hm : mapA b (.int .i64) (inF E) n ∈ L) (ht : P.underlying t = some (.map k e)) (hk : P.underlying k = some (.int .i64)) (hz : (zeroValue e).run P w = .ok (.bool false) w) (x : Int) [Decidable (x ∈ E)] :
    (Instr.lookup t (.map (some b)) (.int .i64 x) false).run P w = .ok (.bool (decide (x ∈ E))) w := by
  have h := lookup_sl (P := P) (key := .int .i64 x) hs hm ht hk rfl hz false
  by_cases hx : x ∈ E
  · simpa [inF, hx] using h
  · simpa [inF, hx] using h

set_option maxHeartbeats 2000000 in
theorem cache_with (bc : Nat) (m : Mo) (A : List Atom) (s : ByteArray) (off n : Int) (W w : World) (L : List Atom) (hA : CaA bc m A) (hs : Sat W w (A ++ L)) (hb : m.count < 900000) :
    Calls Try.prog 13 #[.pointer (some ⟨bc, 0, none⟩), .string s, .int .i64 off, .int .i64 n] w fun e w' => e = .returned (.int .i64 (m.withN s off n)) ∧ Sat W w' (A ++ L) := by
  classical
  have HA0 := Lib.hid hA
  have hmm := @run_makeMap Try.prog
  have hsp := spread_le m
  obtain ⟨bm, X, hAX, hok, hmX⟩ := hA
  have HAX := Lib.hid hAX
  rw [hAX] at hs
  have c0 : w.cell? ⟨bc, 0, none⟩ = some (.map (some bm)) := hs.cell m0 0
  have hlk := lookup_sl (P := Try.prog) (t := 40) (key := .string s) (z := .map none) hs (b := bm) (d := .string) (f := nmF X) (n := X.length) m1 Try.underlying40 Try.underlying9 trivial (Try.zeroValue35 _) false
  obtain ⟨o1, o2⟩ := clampB_bounds off
  obtain ⟨n1, n2⟩ := clampB_bounds n
  have HOK := Lib.hid hok
  obtain ⟨E, hE⟩ : ∃ E, E = extN (m.keys s) := ⟨_, rfl⟩
  obtain ⟨R, hR⟩ : ∃ R, R = m.withN s off n := ⟨_, rfl⟩
  rw [← hR]
  unfold Mo.withN at hR
  rw [← hE] at hR
  have HRR := Lib.hid hR
  obtain ⟨OF, hOF⟩ : ∃ OF, OF = clampB off := ⟨_, rfl⟩
  obtain ⟨NN, hNN⟩ : ∃ NN, NN = clampB n := ⟨_, rfl⟩
  have HOF := Lib.hid hOF
  have HNN := Lib.hid hNN
  rw [← hOF] at o1 o2
  rw [← hNN] at n1 n2
  -- the extents that are there
  have hx : Calls Try.prog 19 #[(nmF X (.string s)).getD (.map none)] w fun e w' => ∃ b2 k2, e = .returned (.map (some b2)) ∧ Sat W w' (mapA b2 (.int .i64) (inF E) k2 :: (A ++ L)) := by
    cases hg : getK Nm.s s X with
    | none =>
      rw [nm_none hg]
      refine (extents_nil W w _ hs).mono ?_; rintro e w' ⟨b, rfl, hs2⟩
      refine ⟨b, 0, rfl, ?_⟩
      have : E = [] := by rw [hE, Mo.keys, hmX, get_abs, hg]; rfl
      rw [this, hAX]
      exact hs2
    | some a =>
      rw [nm_some hg]
      obtain ⟨haX, rfl⟩ := getK_some hg
      have hnm := hok.nms a haX
      have hs5 := hok.split haX (hs.use (M := nmsAt X ++ (cellsA bc #[.map (some bm)] 42 :: mapA bm .string (nmF X) X.length :: L)) (by intro x; simp only [cnt_append, cnt_cons, cnt_nil]; omega))
      refine (extents_any a.l a.b W w _ hnm.apart (fun s hs => ⟨(hnm.secs s hs).lo, (hnm.secs s hs).hi⟩) hs5).mono ?_; rintro e w' ⟨b, rfl, hs2⟩
      refine ⟨b, (dd (extN (a.l.map Sec.k))).length, rfl, ?_⟩
      have he : E = extN (a.l.map Sec.k) := by
        rw [hE, Mo.keys, hmX, get_abs, hg]
        simp only [Option.map_some, Option.getD_some, abs_keys]
      rw [he, hAX]
      have hs2' : Sat W w' (mapA a.b (.int .i64) (secF a.l) a.l.length :: (secAt a.l ++ (nmsAt (outK Nm.s a.s X) ++ (mapA b (.int .i64) (inF (extN (a.l.map Sec.k))) (dd (extN (a.l.map Sec.k))).length :: (cellsA bc #[.map (some bm)] 42 :: mapA bm .string (nmF X) X.length :: L))))) := hs2.use (by intro x; simp only [cnt_append, cnt_cons, cnt_nil]; omega)
      have hs3 := hok.join haX hs2'
      exact hs3.use (by intro x; simp only [cnt_append, cnt_cons, cnt_nil]; omega)
  have HX := Lib.hid hx
  clear hx hs hok hE hR hOF hNN hAX hmX
  have HSP := Lib.hid (fun w (h : Sat W w (A ++ L)) => cache_spread bc m A W w L HA0.out h (by omega))
  obtain ⟨mv, hmv⟩ : ∃ mv, mv = (nmF X (.string s)).getD (.map none) := ⟨_, rfl⟩
  rw [← hmv] at hlk HX
  simp only [Bool.false_eq_true, if_false] at hlk
  clear hmv
  go_enter Try.func13, Try.ntmps13
  go_upto_region 1 with fail
  go_cut [2, 3] (fun v2 v3 wx => v2 = .int .i64 OF ∧ v3 = .int .i64 NN ∧ w = wx)
  case first =>
    clear hlk c0 hmm
    go_wp2_with fail
    all_goals
      go_meet
      rw [HOF.out, HNN.out]
      unfold clampB
      exact ⟨by congr 1; omega, by congr 1; omega, rfl⟩
  case rest =>
  obtain ⟨rfl, rfl, rfl⟩ := hcut
  go_wp2_with fail
  refine HX.out.mono ?_; rintro r w2 ⟨be, ke, rfl, hs1⟩
  clear c0 hlk HX
  have hs2 := newMap_sl hs1 (.int .i64)
  go_wp2_with fail
  clear hmm hs1
  generalize w2.heap.size = bq at *
  go_loopw [11, 12] (fun sv _ wr => ∃ (k q : Nat), sv = .int .i64 (OF + k) ∧ (k : Int) ≤ NN ∧ Sat W wr (mapA bq (.int .i64) (inF (addN E OF k)) q :: (mapA be (.int .i64) (inF E) ke :: (A ++ L)))) (fun sv _ _ => (OF + NN - intOf sv).toNat)
  case atStart =>
    refine ⟨0, 0, by simp, by omega, ?_⟩
    rw [show addN E OF 0 = [] from rfl, inF_nil]
    exact hs2
  case round =>
    clear hs2
    obtain ⟨k, q, rfl, hk, hs3⟩ := hrel
    have k0 : (0 : Int) ≤ OF + k := by omega
    have k9 : OF + (k : Int) ≤ 512 := by omega
    by_cases hlt : (k : Int) < NN
    · have hc : OF + (k : Int) < OF + NN := by omega
      have hlk := look_inF (P := Try.prog) (t := 27) hs3 m1 Try.underlying27 Try.underlying3 (Try.zeroValue4 _) ((OF + k) / 8)
      by_cases hin : (OF + (k : Int)) / 8 ∈ E
      · rw [decide_eq_true hin] at hlk
        have he : addN E OF (k + 1) = addN E OF k := by rw [addN_succ, if_pos hin, List.append_nil]
        have HE := Lib.hid he
        clear he hin
        go_wp2_with fail
        refine ⟨⟨k + 1, q, by simp [Int.add_assoc], by omega, by rw [HE.out]; exact hs3⟩, ?_⟩
        simp [intOf]
        omega
      · rw [decide_eq_false hin] at hlk
        obtain ⟨w6, hr6, hs6⟩ := mapUpdate_sl (P := Try.prog) (t := 27) (key := .int .i64 ((OF + k) / 8)) hs3 Try.underlying27 Try.underlying3 rfl (.bool true)
        rw [inF_put] at hs6
        have hmem : ∀ j, j ∈ ((OF + (k : Int)) / 8 :: addN E OF k) ↔ j ∈ addN E OF (k + 1) := fun j => by
          rw [addN_succ, if_neg hin, List.mem_append, List.mem_cons, List.mem_singleton]
          exact Or.comm
        rw [inF_congr hmem] at hs6
        obtain ⟨q', hs6⟩ : ∃ q', Sat W w6 (mapA bq (.int .i64) (inF (addN E OF (k + 1))) q' :: (mapA be (.int .i64) (inF E) ke :: (A ++ L))) := ⟨_, hs6⟩
        clear hmem hin hs3
        go_wp2_with fail
        refine ⟨⟨k + 1, q', by simp [Int.add_assoc], by omega, hs6⟩, ?_⟩
        simp [intOf]
        omega
    · have hc : ¬ OF + (k : Int) < OF + NN := by omega
      have hkn : k = NN.toNat := by omega
      have hq := sat_inF hs3
      have hq9 := addN_len_le E OF k
      have hd9 := dd_len_le (addN E OF k)
      have hq1 : (q : Int) ≤ 256 := by omega
      have hq0 : (0 : Int) ≤ q := by omega
      have hR : (m.spread : Int) + q = R := by rw [HRR.out, ← HOF.out, ← HNN.out, ← hkn, hq]; simp
      have HR2 := Lib.hid hR
      have HS3 := Lib.hid hs3
      have sp0 : (0 : Int) ≤ m.spread := by omega
      have sp1 : (m.spread : Int) < 900000 := by omega
      have hs4 : Sat W wr (A ++ (mapA bq (.int .i64) (inF (addN E OF k)) q :: (mapA be (.int .i64) (inF E) ke :: L))) := hs3.use (by intro x; simp only [cnt_append, cnt_cons, cnt_nil]; omega)
      have HSP2 := Lib.hid (cache_spread bc m A W wr _ HA0.out hs4 (by omega))
      clear hkn hq hq9 hd9 hR hs3 hs4
      go_wp2_with fail
      refine HSP2.out.mono ?_; rintro r w5 ⟨rfl, hs5⟩
      have hs6 : Sat W w5 (mapA bq (.int .i64) (inF (addN E OF k)) q :: (A ++ (mapA be (.int .i64) (inF E) ke :: L))) := hs5.use (by intro x; simp only [cnt_append, cnt_cons, cnt_nil]; omega)
      have hl := len_sl (P := Try.prog) (t := 27) hs6 m0 Try.underlying27 3
      go_wp2_with fail
      go_ret
      exact ⟨by rw [← HR2.out]; (try simp), hs6.use (by intro x; simp only [cnt_append, cnt_cons, cnt_nil]; omega)⟩
end Go.Proofs.Ytekbbpfnkbanjaa.Ch
