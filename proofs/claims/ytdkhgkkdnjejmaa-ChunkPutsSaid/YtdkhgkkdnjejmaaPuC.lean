/-
  The document's platter: Flush, in, Crash, Read.
-/
import Derived.Test.YtdkhgkkdnjejmaaPuB
namespace Go.Proofs.Ytdkhgkkdnjejmaa.Ch
set_option linter.unusedSimpArgs false
open Go Go.RowKit Go.Sl Go.BigFrame
set_option linter.unusedVariables false

theorem pend_one : ∀ (ks : List Nat) (ls : List (List UInt8)), ∀ u ∈ pendC ks (strs ls), u.oneCell' = true
  | k :: ks, l :: ls, u, h => by
    simp only [strs, List.map_cons, pendC, List.mem_cons] at h
    rcases h with rfl | rfl | h
    · rfl
    · rfl
    · exact pend_one ks ls u h
  | [], _, _, h => by simp [pendC] at h
  | _ :: _, [], _, h => by simp [pendC, strs] at h
/-- The k-th that pends, in memory. -/
theorem pend_cells {b : Nat} {r : Rt} {vd vp : Value} {Rd Rp L : List Atom} {W w : World} (hrp : RowA 129 2 vp r.pend.length (pendC (r.pend.map Prod.fst) (strs (r.pend.map Prod.snd))) Rp) (hs : Sat W w (Rp ++ L)) {k i : Nat} {l : List UInt8} (hx : r.pend[k]? = some (i, l)) :
    ∃ gp op cp, vp = .slice (some ⟨gp, op, none⟩) r.pend.length cp ∧ w.cell? ⟨gp, op + k * 2, none⟩ = some (.int .i64 i) ∧ w.cell? ⟨gp, op + k * 2 + 1, none⟩ = some (.string (bsOf l)) := by
  have hk := (List.getElem?_eq_some_iff.1 hx).1
  obtain ⟨gp, op, kp, rfl, hp1, hp2, hRp⟩ := Ch.RowA.some_of hrp (by omega)
  obtain ⟨g0, g1⟩ := pendC_get (r.pend.map Prod.fst) (strs (r.pend.map Prod.snd)) k i (.string (bsOf l)) (by rw [List.getElem?_map, hx]; rfl) (strs_get (by rw [List.getElem?_map, hx]; rfl))
  refine ⟨gp, op, kp, rfl, ?_, ?_⟩
  · rw [(hrp.cells hs rfl (k * 2) (List.getElem?_eq_some_iff.1 g0).1).1, g0]
  · rw [Nat.add_assoc, (hrp.cells hs rfl (k * 2 + 1) (List.getElem?_eq_some_iff.1 g1).1).1, g1]

set_option maxRecDepth 100000 in
theorem in_ints (v : Value) (l : List Int) (n : Int) (w : World) (hr : Reads w v l.length (intsC l)) (hl : l.length < 9223372036854775808) :
    Calls Try.prog 83 #[v, .int .i64 n] w fun e w' => e = .returned (.bool (decide (n ∈ l))) ∧ w = w' := by
  obtain ⟨av, cv, rfl⟩ := reads_shape hr
  go_enter Try.func83, Try.ntmps83
  go_wp2_with fail
  go_loop [5] (fun kv => ∃ k : Nat, kv = .int .i64 k ∧ k ≤ l.length ∧ n ∉ l.take k) (fun kv => (l.length - (intOf kv).toNat))
  case atStart => exact ⟨0, rfl, Nat.zero_le _, by simp⟩
  case round =>
    obtain ⟨k, rfl, hk, hnk⟩ := hrel
    have HNK := Lib.hid hnk
    clear hnk
    have k0 : (0 : Int) ≤ k := by omega
    by_cases hkl : k < l.length
    · have k1 : (k : Int) < l.length := by omega
      have k2 : (k : Int) < 9223372036854775807 := by omega
      obtain ⟨x, hx⟩ : ∃ x, l[k]? = some x := ⟨_, List.getElem?_eq_getElem hkl⟩
      rcases hr with ⟨_, hz, _⟩ | ⟨a, c', e1, hcell⟩
      · omega
      cases e1
      have d0 : w.cell? (a.add k) = some (.int .i64 x) := hcell k _ (intsC_get hx)
      have HX := Lib.hid hx
      clear hx hcell
      by_cases hnx : x = n
      · subst hnx
        have hin : decide (x ∈ l) = true := decide_eq_true (List.mem_of_getElem? HX.out)
        go_wp2_with fail
        go_ret
        exact ⟨rfl, rfl⟩
      · have q0 : (x == n) = false := by simpa using hnx
        go_wp2_with fail
        refine ⟨⟨k + 1, by simp, by omega, ?_⟩, ?_⟩
        · rw [take_snoc HX.out]
          simp only [List.mem_append, List.mem_singleton, not_or]
          exact ⟨HNK.out, fun h => hnx h.symm⟩
        · simp [intOf]
          omega
    · have e : k = l.length := by omega
      subst e
      have h := HNK.out
      rw [List.take_length] at h
      have hin : decide (n ∈ l) = false := decide_eq_false h
      clear h
      go_wp2_with fail
      go_ret
      exact ⟨rfl, rfl⟩

set_option maxRecDepth 100000 in
set_option maxHeartbeats 4000000 in
theorem ref_flush (b : Nat) (r : Rt) (A : List Atom) (W w : World) (L : List Atom) (hp : RtA b r A) (hs : Sat W w (A ++ L)) (hdl : r.done.length < 900000) (hpl : r.pend.length < 900000) (hok : ∀ x ∈ r.pend, x.1 < r.done.length) :
    Calls Try.prog 45 #[.pointer (some ⟨b, 0, none⟩)] w fun e w' => ∃ A', e = .returned (.tuple #[]) ∧ RtA b r.fl A' ∧ Sat W w' (A' ++ L) := by
  obtain ⟨d, pe, ws⟩ := r
  simp only at hdl hpl hok
  obtain ⟨n, hn⟩ : ∃ n, n = pe.length := ⟨_, rfl⟩
  have HN := Lib.hid hn
  have HOK := Lib.hid hok
  rw [← hn] at hpl
  clear hn hok
  go_enter Try.func45, Try.ntmps45
  go_wp2_with fail
  go_loopw [2] (fun iv wr => ∃ (k : Nat) (A' : List Atom), iv = .int .i64 k ∧ k ≤ n ∧ RtA b ⟨appTo d pe k, pe, ws⟩ A' ∧ Sat W wr (A' ++ L)) (fun iv _ => (n - (intOf iv).toNat))
  case atStart => exact ⟨0, A, rfl, Nat.zero_le _, hp, hs⟩
  case round =>
    clear hs hp
    obtain ⟨k, A', rfl, hk, hp, hs⟩ := hrel
    have k0 : (0 : Int) ≤ k := by omega
    have HP := Lib.hid hp
    obtain ⟨vd, vp, Rd, Rp, rfl, hrd, hrp⟩ := hp
    simp only at hrd hrp
    obtain ⟨ap, cp, rfl⟩ := Ch.RowA.slice hrp
    have d1 : wr.cell? ⟨b, 1, none⟩ = some (.slice ap pe.length cp) := hs.cell m0 1
    rw [← HN.out] at d1
    by_cases hkn : k < n
    · have k1 : (k : Int) < n := by omega
      have k2 : (k : Int) < 1000000 := by omega
      obtain ⟨⟨i, l⟩, hx⟩ : ∃ x, pe[k]? = some x := ⟨_, List.getElem?_eq_getElem (by have := HN.out; omega)⟩
      obtain ⟨gp, op, kp, he, c0, c1⟩ := pend_cells (b := b) (r := ⟨appTo d pe k, pe, ws⟩) (vd := vd) (Rd := Rd) (L := cellsA b #[vd, .slice ap pe.length cp, .int .i64 ws] 126 :: (Rd ++ L)) hrp (hs.use (by intro x; simp only [cnt_append, cnt_cons, cnt_nil]; omega)) hx
      obtain ⟨rfl, rfl⟩ : ap = some ⟨gp, op, none⟩ ∧ cp = kp := by cases he; exact ⟨rfl, rfl⟩
      clear he
      have hil : i < (appTo d pe k).length := by rw [appTo_length]; exact HOK.out _ (List.mem_of_getElem? hx)
      have hset := fun w hs => ref_set b ⟨appTo d pe k, pe, ws⟩ _ i l W w L HP.out hs hil (by show (appTo d pe k).length < 900000; rw [appTo_length]; omega)
      have HSET := Lib.hid hset
      have HX := Lib.hid hx
      clear hset hx hil hrd hrp
      go_wp2_with fail
      refine (HSET.out _ hs).mono ?_; rintro r2 w2 ⟨A2, rfl, hp2, hs2⟩
      go_wp2_with fail
      refine ⟨⟨k + 1, A2, by simp, by omega, ?_, hs2⟩, ?_⟩
      · rw [show appTo d pe (k + 1) = (appTo d pe k).set i l by simp only [appTo, HX.out]]
        exact hp2
      · simp [intOf]
        omega
    · have e : n = k := by omega
      subst e
      have hm : Sat W wr (cellsA b #[vd, .slice ap pe.length cp, .int .i64 ws] 126 :: (Rd ++ L)) := hs.use (by intro x; simp only [cnt_append, cnt_cons, cnt_nil]; omega)
      have e1 := hm.free m0 1
      have hs2 := Sat.setCell hm 1 (.slice none 0 0)
      have HRD := Lib.hid hrd
      clear hs hm hrd hrp
      go_wp2_with fail
      go_end0
      simp only [List.setIfInBounds_toArray, List.set_cons_zero, List.set_cons_succ] at hs2
      have hs3 : Sat W _ (cellsA b #[vd, .slice none 0 0, .int .i64 (Rt.fl ⟨d, pe, ws⟩).writes] 126 :: (Rd ++ L)) := hs2
      refine ⟨rfl, _, ⟨vd, .slice none 0 0, Rd, [], rfl, ?_, RowA.nil _ _⟩, hs3.use (by intro x; simp only [cnt_append, cnt_cons, cnt_nil]; omega)⟩
      have := HRD.out
      rw [HN.out] at this
      exact this

set_option maxRecDepth 100000 in
set_option maxHeartbeats 4000000 in
theorem ref_crash (b : Nat) (r : Rt) (A : List Atom) (kv : Value) (keep : List Int) (W w : World) (L : List Atom) (hp : RtA b r A) (hs : Sat W w (A ++ L)) (hin : ∀ y, Sat W y L → Reads y kv keep.length (intsC keep)) (hkl : keep.length < 9223372036854775808) (hdl : r.done.length < 900000) (hpl : r.pend.length < 900000) (hok : ∀ x ∈ r.pend, x.1 < r.done.length) :
    Calls Try.prog 47 #[.pointer (some ⟨b, 0, none⟩), kv] w fun e w' => ∃ A', e = .returned (.tuple #[]) ∧ RtA b (r.crash keep) A' ∧ Sat W w' (A' ++ L) := by
  obtain ⟨d, pe, ws⟩ := r
  simp only at hdl hpl hok
  obtain ⟨ak, ck, rfl⟩ := reads_shape (hin w hs.right)
  obtain ⟨n, hn⟩ : ∃ n, n = pe.length := ⟨_, rfl⟩
  have HN := Lib.hid hn
  have HOK := Lib.hid hok
  have HIN := Lib.hid hin
  rw [← hn] at hpl
  clear hn hok hin
  go_enter Try.func47, Try.ntmps47
  go_wp2_with fail
  go_loopw [4] (fun iv wr => ∃ (k : Nat) (A' : List Atom), iv = .int .i64 k ∧ k ≤ n ∧ RtA b ⟨crashTo keep d pe k, pe, ws⟩ A' ∧ Sat W wr (A' ++ L)) (fun iv _ => (n - (intOf iv).toNat))
  case atStart => exact ⟨0, A, rfl, Nat.zero_le _, hp, hs⟩
  case round =>
    clear hs hp
    obtain ⟨k, A', rfl, hk, hp, hs⟩ := hrel
    have k0 : (0 : Int) ≤ k := by omega
    have HP := Lib.hid hp
    obtain ⟨vd, vp, Rd, Rp, rfl, hrd, hrp⟩ := hp
    simp only at hrd hrp
    obtain ⟨ap, cp, rfl⟩ := Ch.RowA.slice hrp
    have d1 : wr.cell? ⟨b, 1, none⟩ = some (.slice ap pe.length cp) := hs.cell m0 1
    rw [← HN.out] at d1
    by_cases hkn : k < n
    · have k1 : (k : Int) < n := by omega
      have k2 : (k : Int) < 1000000 := by omega
      obtain ⟨⟨i, l⟩, hx⟩ : ∃ x, pe[k]? = some x := ⟨_, List.getElem?_eq_getElem (by have := HN.out; omega)⟩
      obtain ⟨gp, op, kp, he, c0, c1⟩ := pend_cells (b := b) (r := ⟨crashTo keep d pe k, pe, ws⟩) (vd := vd) (Rd := Rd) (L := cellsA b #[vd, .slice ap pe.length cp, .int .i64 ws] 126 :: (Rd ++ L)) hrp (hs.use (by intro x; simp only [cnt_append, cnt_cons, cnt_nil]; omega)) hx
      obtain ⟨rfl, rfl⟩ : ap = some ⟨gp, op, none⟩ ∧ cp = kp := by cases he; exact ⟨rfl, rfl⟩
      clear he
      have hil : i < (crashTo keep d pe k).length := by rw [crashTo_length]; exact HOK.out _ (List.mem_of_getElem? hx)
      have hset := fun w hs => ref_set b ⟨crashTo keep d pe k, pe, ws⟩ _ i l W w L HP.out hs hil (by show (crashTo keep d pe k).length < 900000; rw [crashTo_length]; omega)
      have hcnt := in_ints _ keep k wr (HIN.out _ hs.right) hkl
      have HCNT := Lib.hid hcnt
      have HSET := Lib.hid hset
      have HX := Lib.hid hx
      clear hset hx hil hrd hrp hcnt
      go_wp2_with fail
      refine HCNT.out.mono ?_; rintro r2 w2 ⟨rfl, rfl⟩
      by_cases hin : (k : Int) ∈ keep
      · rw [decide_eq_true hin]
        have HI := Lib.hid hin
        clear hin
        go_wp2_with fail
        refine (HSET.out _ hs).mono ?_; rintro r2 w2 ⟨A2, rfl, hp2, hs2⟩
        go_wp2_with fail
        refine ⟨⟨k + 1, A2, by simp, by omega, ?_, hs2⟩, ?_⟩
        · rw [show crashTo keep d pe (k + 1) = (crashTo keep d pe k).set i l by simp only [crashTo, HX.out, if_pos HI.out]]
          exact hp2
        · simp [intOf]
          omega
      · rw [decide_eq_false hin]
        have HI := Lib.hid hin
        clear hin
        go_wp2_with fail
        refine ⟨⟨k + 1, _, by simp, by omega, ?_, hs⟩, ?_⟩
        · rw [show crashTo keep d pe (k + 1) = crashTo keep d pe k by simp only [crashTo, HX.out, if_neg HI.out]]
          exact HP.out
        · simp [intOf]
          omega
    · have e : n = k := by omega
      subst e
      have hm : Sat W wr (cellsA b #[vd, .slice ap pe.length cp, .int .i64 ws] 126 :: (Rd ++ L)) := hs.use (by intro x; simp only [cnt_append, cnt_cons, cnt_nil]; omega)
      have e1 := hm.free m0 1
      have hs2 := Sat.setCell hm 1 (.slice none 0 0)
      have HRD := Lib.hid hrd
      clear hs hm hrd hrp
      go_wp2_with fail
      go_end0
      simp only [List.setIfInBounds_toArray, List.set_cons_zero, List.set_cons_succ] at hs2
      have hs3 : Sat W _ (cellsA b #[vd, .slice none 0 0, .int .i64 (Rt.crash ⟨d, pe, ws⟩ keep).writes] 126 :: (Rd ++ L)) := hs2
      refine ⟨rfl, _, ⟨vd, .slice none 0 0, Rd, [], rfl, ?_, RowA.nil _ _⟩, hs3.use (by intro x; simp only [cnt_append, cnt_cons, cnt_nil]; omega)⟩
      have := HRD.out
      rw [HN.out] at this
      exact this

set_option maxRecDepth 100000 in
set_option maxHeartbeats 4000000 in
theorem ref_read_k (b : Nat) (r : Rt) (A : List Atom) (k : Nat) (x : List UInt8) (W w : World) (L : List Atom) (hp : RtA b r A) (hs : Sat W w (A ++ L)) (hx : r.now[k]? = some x) (hpl : r.pend.length < 900000) :
    Calls Try.prog 84 #[.pointer (some ⟨b, 0, none⟩), .int .i64 k] w fun e w' => e = .returned (.string (bsOf x)) ∧ w = w' := by
  obtain ⟨d, pe, ws⟩ := r
  obtain ⟨vd, vp, Rd, Rp, rfl, hrd, hrp⟩ := hp
  simp only at hrd hrp hpl
  have hkd : k < d.length := by
    have := (List.getElem?_eq_some_iff.1 hx).1
    rw [Rt.now_length] at this
    exact this
  obtain ⟨n, hn⟩ : ∃ n, n = pe.length := ⟨_, rfl⟩
  have hx2 : (appTo d pe n)[k]? = some x := by rw [hn]; exact hx
  have HX := Lib.hid hx2
  clear hx hx2
  have HN := Lib.hid hn
  rw [← hn] at hpl
  clear hn
  obtain ⟨gd, od, kd, rfl, hd1, hd2, hRd⟩ := Ch.RowA.some_of hrd (by omega)
  obtain ⟨ap, cp, rfl⟩ := Ch.RowA.slice hrp
  obtain ⟨y, hy⟩ : ∃ y, d[k]? = some y := ⟨_, List.getElem?_eq_getElem hkd⟩
  have d0 : w.cell? ⟨b, 0, none⟩ = some (.slice (some ⟨gd, od, none⟩) d.length kd) := hs.cell m0 0
  have d1 : w.cell? ⟨b, 1, none⟩ = some (.slice ap pe.length cp) := hs.cell m0 1
  rw [← HN.out] at d1
  have d2 : w.cell? ⟨gd, od + k, none⟩ = some (.string (bsOf y)) := by
    have hsd : Sat W w (Rd ++ (cellsA b #[.slice (some ⟨gd, od, none⟩) d.length kd, .slice ap pe.length cp, .int .i64 ws] 126 :: (Rp ++ L))) := hs.use (by intro x; simp only [cnt_append, cnt_cons, cnt_nil]; omega)
    rw [(hrd.cells hsd rfl k (by rw [strs_length]; omega)).1, strs_get hy]
  have HY := Lib.hid hy
  have k0 : (0 : Int) ≤ k := by omega
  have k1 : (k : Int) < d.length := by omega
  have HSP := Lib.hid (Sat.use (M := Rp ++ (cellsA b #[.slice (some ⟨gd, od, none⟩) d.length kd, .slice ap pe.length cp, .int .i64 ws] 126 :: (Rd ++ L))) hs (by intro x; simp only [cnt_append, cnt_cons, cnt_nil]; omega))
  have HRP := Lib.hid hrp
  clear hs hrd hrp hy hRd hd1 hd2
  go_enter Try.func84, Try.ntmps84
  go_wp2_with fail
  go_loop [5, 6] (fun sv jv => ∃ (j : Nat) (z : List UInt8), jv = .int .i64 j ∧ sv = .string (bsOf z) ∧ j ≤ n ∧ (appTo d pe j)[k]? = some z) (fun sv jv => (n - (intOf jv).toNat))
  case atStart => exact ⟨0, y, rfl, rfl, Nat.zero_le _, HY.out⟩
  case round =>
    obtain ⟨j, z, rfl, rfl, hj, hz⟩ := hrel
    have HZ := Lib.hid hz
    clear hz
    have j0 : (0 : Int) ≤ j := by omega
    by_cases hjn : j < n
    · have j1 : (j : Int) < n := by omega
      have j2 : (j : Int) < 1000000 := by omega
      obtain ⟨⟨i, l⟩, hx⟩ : ∃ x, pe[j]? = some x := ⟨_, List.getElem?_eq_getElem (by have := HN.out; omega)⟩
      obtain ⟨gp, op, kp, he, c0, c1⟩ := pend_cells (b := b) (r := ⟨d, pe, ws⟩) (vd := .slice (some ⟨gd, od, none⟩) d.length kd) (Rd := Rd) HRP.out HSP.out hx
      obtain ⟨rfl, rfl⟩ : ap = some ⟨gp, op, none⟩ ∧ cp = kp := by cases he; exact ⟨rfl, rfl⟩
      clear he
      have HXJ := Lib.hid hx
      clear hx
      by_cases hik : i = k
      · subst hik
        go_wp2_with fail
        refine ⟨⟨j + 1, l, by simp, rfl, by omega, ?_⟩, ?_⟩
        · rw [show appTo d pe (j + 1) = (appTo d pe j).set i l by simp only [appTo, HXJ.out], List.getElem?_set_self (by rw [appTo_length]; omega)]
        · simp [intOf]
          omega
      · have q0 : ((i : Int) == (k : Int)) = false := by simp; omega
        have HIK := Lib.hid hik
        clear hik
        go_wp2_with fail
        refine ⟨⟨j + 1, z, by simp, rfl, by omega, ?_⟩, ?_⟩
        · rw [show appTo d pe (j + 1) = (appTo d pe j).set i l by simp only [appTo, HXJ.out], List.getElem?_set_ne HIK.out]
          exact HZ.out
        · simp [intOf]
          omega
    · have e : n = j := by omega
      subst e
      have hzx : z = x := Option.some.inj (HZ.out.symm.trans HX.out)
      go_wp2_with fail
      go_ret
      exact ⟨by rw [← hzx]; rfl, rfl⟩
end Go.Proofs.Ytdkhgkkdnjejmaa.Ch
