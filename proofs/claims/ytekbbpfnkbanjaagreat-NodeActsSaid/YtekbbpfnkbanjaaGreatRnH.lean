
/-
  The document's node: new, a fall, a loss.
-/
import Derived.Test.YtekbbpfnkbanjaaGreatRnG
import Derived.Test.YtekbbpfnkbanjaaGreatMG
namespace Go.Proofs.YtekbbpfnkbanjaaGreat.Ch
open Go Go.RowKit Go.Sl Go.BigFrame
set_option linter.unusedVariables false
set_option linter.unusedSimpArgs false

def Rt.wipe (r : Rt) : Rt := ⟨List.replicate r.done.length zero160, [], r.writes⟩
theorem Alike.wipe {q : Pt} {r : Rt} (h : Alike q r) (hl : q.done.length = q.now.length) : Alike q.wipe r.wipe := by
  have e : r.done.length = q.now.length := by rw [h.done, hl]
  refine ⟨?_, ?_, rfl, h.writes⟩
  · show List.replicate r.done.length zero160 = _
    rw [e]; rfl
  · show List.replicate r.done.length zero160 = _
    rw [e]; rfl
def wipeTo (d : List (List UInt8)) (k : Nat) : List (List UInt8) := List.replicate k zero160 ++ d.drop k
theorem wipeTo_length (d : List (List UInt8)) (k : Nat) (h : k ≤ d.length) : (wipeTo d k).length = d.length := by
  rw [wipeTo, List.length_append, List.length_replicate, List.length_drop]; omega
theorem wipeTo_set (d : List (List UInt8)) (k : Nat) (h : k < d.length) : (wipeTo d k).set k zero160 = wipeTo d (k + 1) := by
  rw [wipeTo, List.set_append_right _ _ (by rw [List.length_replicate]; exact Nat.le_refl _), List.length_replicate, Nat.sub_self, List.drop_eq_getElem_cons h, List.set_cons_zero, wipeTo, ← replicate_snoc, List.append_assoc]
  rfl
theorem wipeTo_all (d : List (List UInt8)) : wipeTo d d.length = List.replicate d.length zero160 := by
  rw [wipeTo, List.drop_length, List.append_nil]

set_option maxRecDepth 100000 in
set_option maxHeartbeats 8000000 in
theorem ref_wipe (b : Nat) (r : Rt) (A : List Atom) (W w : World) (L : List Atom) (hp : RtA b r A) (hs : Sat W w (A ++ L)) (hdl : r.done.length < 900000) :
    Calls Tryz.prog 29 #[.pointer (some ⟨b, 0, none⟩)] w fun e w' => ∃ A', e = .returned (.tuple #[]) ∧ RtA b r.wipe A' ∧ Sat W w' (A' ++ L) := by
  have hmk : ∀ w : World, (Instr.makeSlice 35 (.int .i64 160) (.int .i64 160)).run Tryz.prog w = .ok (.slice (some ⟨w.heap.size, 0, none⟩) 160 160) (w.alloc (.cells (madeCells #[.int .u8 0] 160) 5)) := run_make_row' (P := Tryz.prog) 35 5 (.int .u8 0) 1 (by kernel_rfl) (by kernel_rfl) rfl .i64 .i64 160 (by omega) (by omega)
  obtain ⟨Z, hZ⟩ : ∃ Z, Z = madeCells #[.int .u8 0] 160 := ⟨_, rfl⟩
  rw [← hZ] at hmk
  have hZl : Z.toList = bts zero160 := by rw [hZ, toList_madeCells_one]; simp [bts, zero160]
  have hz160 : zero160.length = 160 := by simp [zero160]
  have hcv : ∀ w : World, (convert 35 9 (.slice (some ⟨w.heap.size, 0, none⟩) 160 160)).run Tryz.prog (w.alloc (.cells Z 5)) = .ok (.string (bsOf zero160)) (w.alloc (.cells Z 5)) := fun w => by
    have h := str_of (.slice (some ⟨w.heap.size, 0, none⟩) 160 160) zero160 (w.alloc (.cells Z 5)) (by rw [hz160]; exact reads_new w Z _ _ _ _ hZl)
    exact h
  have HCV := Lib.hid hcv
  clear hZ hZl hz160 hcv
  obtain ⟨d, pe, ws⟩ := r
  simp only at hdl
  obtain ⟨n, hn⟩ : ∃ n, n = d.length := ⟨_, rfl⟩
  have HN := Lib.hid hn
  rw [← hn] at hdl
  have hset0 := fun k A w hp hs hk => ref_set b ⟨wipeTo d k, pe, ws⟩ A k zero160 W w L hp hs hk
  have HSET := Lib.hid hset0
  have HP0 := Lib.hid hp
  clear hn hset0 hp
  generalize hz : bsOf zero160 = zs at *
  have HZS := Lib.hid hz
  clear hz
  go_enter Tryz.func29, Tryz.ntmps29
  go_wp2_with fail
  go_loopw [2] (fun iv wr => ∃ (k : Nat) (A' : List Atom), iv = .int .i64 k ∧ k ≤ n ∧ RtA b ⟨wipeTo d k, pe, ws⟩ A' ∧ Sat W wr (A' ++ L)) (fun iv _ => (n - (intOf iv).toNat))
  case atStart => exact ⟨0, A, rfl, Nat.zero_le _, HP0.out, hs⟩
  case round =>
    clear hs
    obtain ⟨k, A', rfl, hk, hp, hs⟩ := hrel
    have k0 : (0 : Int) ≤ k := by omega
    have HP := Lib.hid hp
    have hwl : (wipeTo d k).length = n := by rw [wipeTo_length d k (by rw [← HN.out]; exact hk), HN.out]
    have HWL := Lib.hid hwl
    obtain ⟨vd, vp, Rd, Rp, rfl, hrd, hrp⟩ := hp
    simp only at hrd hrp
    rw [hwl] at hrd
    obtain ⟨ad, cd, rfl⟩ := Ch.RowA.slice hrd
    have d0 : wr.cell? ⟨b, 0, none⟩ = some (.slice ad n cd) := hs.cell m0 0
    clear hwl
    by_cases hkn : k < n
    · have k1 : (k : Int) < n := by omega
      have k2 : (k : Int) < 1000000 := by omega
      have hcv1 := HCV.out wr
      have hs1 := hs.alloc (.cells Z 5)
      have hset := HSET.out k _ _ HP.out hs1 (by show k < (wipeTo d k).length; rw [HWL.out]; exact hkn) (by show (wipeTo d k).length < 900000; rw [HWL.out]; exact hdl)
      have HS := Lib.hid hset
      clear hset hs1 hs hrd hrp
      go_wp2_with fail
      refine HS.out.mono ?_; rintro r2 w2 ⟨A2, rfl, hp2, hs2⟩
      have hp3 : RtA b ⟨wipeTo d (k + 1), pe, ws⟩ A2 := by
        rw [← wipeTo_set d k (by rw [← HN.out]; exact hkn)]
        exact hp2
      clear hp2
      go_wp2_with fail
      refine ⟨⟨k + 1, A2, by simp, by omega, hp3, hs2⟩, ?_⟩
      simp [intOf]
      omega
    · have e : k = n := by omega
      subst e
      have hm : Sat W wr (cellsA b #[.slice ad k cd, vp, .int .i64 ws] 56 :: (Rd ++ L)) := hs.use (by intro x; simp only [cnt_append, cnt_cons, cnt_nil]; omega)
      have e1 := hm.cell m0 1
      have f1 := hm.free m0 1
      have hs2 := Sat.setCell hm 1 (.slice none 0 0)
      have HRD := Lib.hid hrd
      clear hs hm hrd hrp
      go_wp2_with fail
      go_end0
      simp only [List.setIfInBounds_toArray, List.set_cons_zero, List.set_cons_succ] at hs2
      have hs3 : Sat W _ (cellsA b #[.slice ad k cd, .slice none 0 0, .int .i64 (Rt.wipe ⟨d, pe, ws⟩).writes] 56 :: (Rd ++ L)) := hs2
      refine ⟨rfl, _, ⟨.slice ad k cd, .slice none 0 0, Rd, [], rfl, ?_, RowA.nil _ _⟩, hs3.use (by intro x; simp only [cnt_append, cnt_cons, cnt_nil]; omega)⟩
      have h := HRD.out
      have e : wipeTo d k = List.replicate d.length zero160 := by rw [HN.out]; exact wipeTo_all d
      rw [e] at h
      show RowA _ 1 _ (List.replicate d.length zero160).length (strs (List.replicate d.length zero160)) Rd
      rw [List.length_replicate, ← HN.out]
      rw [← HN.out] at h
      exact h

/-- The document's node. -/
def DnA (b : Nat) (r : Rt) (g : Rg) (boot : Int) (A : List Atom) : Prop :=
  ∃ bp br Ap Ag, RtA bp r Ap ∧ RrA br bp g Ag ∧ A = cellsA b #[.pointer (some ⟨bp, 0, none⟩), .pointer (some ⟨br, 0, none⟩), .int .i64 boot] 50 :: (Ap ++ Ag)

set_option maxRecDepth 100000 in
theorem refnode_new (W w : World) (L : List Atom) (hs : Sat W w L) :
    Calls Tryz.prog 6 #[] w fun e w' => ∃ b A, e = .returned (.pointer (some ⟨b, 0, none⟩)) ∧ DnA b ⟨List.replicate 96 zero160, [], 0⟩ (openRg q0) 1 A ∧ Sat W w' (A ++ L) := by
  have HN := Lib.hid (ref_new W w L hs)
  clear hs
  go_enter Tryz.func6, Tryz.ntmps6
  go_wp2_with fail
  refine HN.out.mono ?_; rintro r w2 ⟨bp, A, rfl, hA, hs2⟩
  have hst := ref_open_ring bp q0 _ A W w2 L hA (Alike.start 96) hs2 (qk_facts 0).1 (qk_facts 0).2.2.2 (by decide)
  have HST := Lib.hid hst
  have HAA := Lib.hid hA
  clear hst hs2 HN hA
  go_wp2_with fail
  refine HST.out.mono ?_; rintro r w3 ⟨br, A', rfl, hA', hs4⟩
  have hs5 := hs4.newCells #[.pointer (some ⟨bp, 0, none⟩), .pointer (some ⟨br, 0, none⟩), .int .i64 1] 50
  clear hs4 HST
  go_wp2_with fail
  go_ret
  exact ⟨_, _, rfl, ⟨bp, br, A, A', HAA.out, hA', rfl⟩, hs5.use (by intro x; simp only [cnt_append, cnt_cons, cnt_nil]; omega)⟩

set_option maxRecDepth 100000 in
set_option maxHeartbeats 4000000 in
theorem refnode_crash (b i : Nat) (n : Nd) (r : Rt) (g : Rg) (A : List Atom) (kv : Value) (keep : List Int) (W w : World) (L : List Atom) (hn : DnA b r g n.boot A) (ha : Alike n.q r) (hs : Sat W w (A ++ L)) (hin : ∀ y, Sat W y L → Reads y kv keep.length (intsC keep)) (hkl : keep.length < 9223372036854775808) (hok : NdOk n i) (hi : i < 900000) :
    Calls Tryz.prog 9 #[.pointer (some ⟨b, 0, none⟩), kv] w fun e w' => ∃ A', e = .returned (.tuple #[]) ∧ DnA b (r.crash keep) (n.crash keep).g (n.boot + 1) A' ∧ Sat W w' (A' ++ L) := by
  obtain ⟨ak, ck, rfl⟩ := reads_shape (hin w hs.right)
  obtain ⟨bp, br, Aq, Ag, hq, hg, rfl⟩ := hn
  have e0 : w.cell? ⟨b, 0, none⟩ = some (.pointer (some ⟨bp, 0, none⟩)) := hs.cell m0 0
  have hcr := ref_crash bp r Aq (.slice ak keep.length ck) keep W w (cellsA b #[.pointer (some ⟨bp, 0, none⟩), .pointer (some ⟨br, 0, none⟩), .int .i64 n.boot] 50 :: L) hq (hs.use (by intro x; simp only [cnt_append, cnt_cons, cnt_nil]; omega)) (fun y hy => hin y hy.tail) hkl (by rw [ha.done, hok.dlen]; decide) (by rw [ha.pend]; have := hok.pend; omega) (by rw [ha.pend, ha.done, hok.dlen]; exact fun x hx => (hok.pok x hx).1)
  have HCR := Lib.hid hcr
  have HOK := Lib.hid hok
  have HAL := Lib.hid ha
  clear hcr hs hin hok ha
  go_enter Tryz.func9, Tryz.ntmps9
  go_wp2_with fail
  refine HCR.out.mono ?_; rintro r9 w2 ⟨A', rfl, hA', hs2⟩
  have hl : (n.q.crash keep).now.length = 96 := by show (crashTo _ _ _ _).length = 96; rw [crashTo_length, HOK.out.dlen]
  have hsm : ∀ l ∈ (n.q.crash keep).now, l.length < 1000000 := crash_small10 (keep := keep) HOK.out.dsmall (fun x hx => (HOK.out.pok x hx).2) n.q.pend.length
  clear HCR e0
  have hst := ref_open_ring bp (n.q.crash keep) (r.crash keep) A' W w2 _ hA' (HAL.out.crash keep) (hs2.use (M := A' ++ (cellsA b #[.pointer (some ⟨bp, 0, none⟩), .pointer (some ⟨br, 0, none⟩), .int .i64 n.boot] 50 :: L)) (by intro x; simp only [cnt_append, cnt_cons, cnt_nil]; omega)) hl hsm (by show ([] : List (Nat × List UInt8)).length < 900000; decide)
  have HST := Lib.hid hst
  have hs2b : Sat W w2 (cellsA b #[.pointer (some ⟨bp, 0, none⟩), .pointer (some ⟨br, 0, none⟩), .int .i64 n.boot] 50 :: (A' ++ L)) := hs2.use (by intro x; simp only [cnt_append, cnt_cons, cnt_nil]; omega)
  have e0 := hs2b.cell m0 0
  have hb0 := HOK.out.b0
  have hb1 := HOK.out.b1
  clear hst hs2 hs2b hl hsm
  go_wp2_with fail
  refine HST.out.mono ?_; rintro r w3 ⟨br2, Ag2, rfl, hg2, hs4⟩
  have hs5 := Sat.use (M := cellsA b #[.pointer (some ⟨bp, 0, none⟩), .pointer (some ⟨br, 0, none⟩), .int .i64 n.boot] 50 :: (A' ++ (Ag2 ++ L))) hs4 (by intro x; simp only [cnt_append, cnt_cons, cnt_nil]; omega)
  clear hs4 e0 HST
  have e1 := hs5.cell m0 1
  have f1 := hs5.free m0 1
  have hs6 := Sat.setCell hs5 1 (.pointer (some ⟨br2, 0, none⟩))
  have e2 := hs6.cell m0 2
  have f2 := hs6.free m0 2
  have hs7 := Sat.setCell hs6 2 (.int .i64 (n.boot + 1))
  go_wp2_with fail
  go_end0
  simp only [List.setIfInBounds_toArray, List.set_cons_zero, List.set_cons_succ] at hs7
  first | exact ⟨_, rfl, ⟨bp, br2, A', Ag2, hA', hg2, rfl⟩, hs7.use (by intro x; simp only [cnt_append, cnt_cons, cnt_nil]; omega)⟩ | exact ⟨rfl, _, ⟨bp, br2, A', Ag2, hA', hg2, rfl⟩, hs7.use (by intro x; simp only [cnt_append, cnt_cons, cnt_nil]; omega)⟩

set_option maxRecDepth 100000 in
set_option maxHeartbeats 4000000 in
theorem refnode_lose (b i : Nat) (n : Nd) (r : Rt) (g : Rg) (A : List Atom) (W w : World) (L : List Atom) (hn : DnA b r g n.boot A) (ha : Alike n.q r) (hs : Sat W w (A ++ L)) (hok : NdOk n i) (hi : i < 900000) :
    Calls Tryz.prog 11 #[.pointer (some ⟨b, 0, none⟩)] w fun e w' => ∃ A', e = .returned (.tuple #[]) ∧ DnA b r.wipe n.lose.g (n.boot + 1) A' ∧ Sat W w' (A' ++ L) := by
  obtain ⟨bp, br, Aq, Ag, hq, hg, rfl⟩ := hn
  have e0 : w.cell? ⟨b, 0, none⟩ = some (.pointer (some ⟨bp, 0, none⟩)) := hs.cell m0 0
  have hcr := ref_wipe bp r Aq W w (cellsA b #[.pointer (some ⟨bp, 0, none⟩), .pointer (some ⟨br, 0, none⟩), .int .i64 n.boot] 50 :: L) hq (hs.use (by intro x; simp only [cnt_append, cnt_cons, cnt_nil]; omega)) (by rw [ha.done, hok.dlen]; decide)
  have HCR := Lib.hid hcr
  have HOK := Lib.hid hok
  have HAL := Lib.hid ha
  clear hcr hs hok ha
  go_enter Tryz.func11, Tryz.ntmps11
  go_wp2_with fail
  refine HCR.out.mono ?_; rintro r9 w2 ⟨A', rfl, hA', hs2⟩
  have hl : n.q.wipe.now.length = 96 := by show (List.replicate _ _).length = 96; rw [List.length_replicate, HOK.out.len]
  have hsm : ∀ l ∈ n.q.wipe.now, l.length < 1000000 := fun l h => by rw [(List.mem_replicate.1 h).2]; simp [zero160]
  clear HCR e0
  have hst := ref_open_ring bp n.q.wipe r.wipe A' W w2 _ hA' (HAL.out.wipe (by rw [HOK.out.dlen, HOK.out.len])) (hs2.use (M := A' ++ (cellsA b #[.pointer (some ⟨bp, 0, none⟩), .pointer (some ⟨br, 0, none⟩), .int .i64 n.boot] 50 :: L)) (by intro x; simp only [cnt_append, cnt_cons, cnt_nil]; omega)) hl hsm (by show ([] : List (Nat × List UInt8)).length < 900000; decide)
  have HST := Lib.hid hst
  have hs2b : Sat W w2 (cellsA b #[.pointer (some ⟨bp, 0, none⟩), .pointer (some ⟨br, 0, none⟩), .int .i64 n.boot] 50 :: (A' ++ L)) := hs2.use (by intro x; simp only [cnt_append, cnt_cons, cnt_nil]; omega)
  have e0 := hs2b.cell m0 0
  have hb0 := HOK.out.b0
  have hb1 := HOK.out.b1
  clear hst hs2 hs2b hl hsm
  go_wp2_with fail
  refine HST.out.mono ?_; rintro r w3 ⟨br2, Ag2, rfl, hg2, hs4⟩
  have hs5 := Sat.use (M := cellsA b #[.pointer (some ⟨bp, 0, none⟩), .pointer (some ⟨br, 0, none⟩), .int .i64 n.boot] 50 :: (A' ++ (Ag2 ++ L))) hs4 (by intro x; simp only [cnt_append, cnt_cons, cnt_nil]; omega)
  clear hs4 e0 HST
  have e1 := hs5.cell m0 1
  have f1 := hs5.free m0 1
  have hs6 := Sat.setCell hs5 1 (.pointer (some ⟨br2, 0, none⟩))
  have e2 := hs6.cell m0 2
  have f2 := hs6.free m0 2
  have hs7 := Sat.setCell hs6 2 (.int .i64 (n.boot + 1))
  go_wp2_with fail
  go_end0
  simp only [List.setIfInBounds_toArray, List.set_cons_zero, List.set_cons_succ] at hs7
  first | exact ⟨_, rfl, ⟨bp, br2, A', Ag2, hA', hg2, rfl⟩, hs7.use (by intro x; simp only [cnt_append, cnt_cons, cnt_nil]; omega)⟩ | exact ⟨rfl, _, ⟨bp, br2, A', Ag2, hA', hg2, rfl⟩, hs7.use (by intro x; simp only [cnt_append, cnt_cons, cnt_nil]; omega)⟩
end Go.Proofs.YtekbbpfnkbanjaaGreat.Ch
