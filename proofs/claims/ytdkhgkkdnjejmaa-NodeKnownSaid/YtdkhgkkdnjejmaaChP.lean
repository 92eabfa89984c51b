/-
  The platter: Read, Write, Flush.
-/
import Derived.Test.YtdkhgkkdnjejmaaChO
namespace Go.Proofs.Ytdkhgkkdnjejmaa.Ch
set_option linter.unusedSimpArgs false
open Go Go.RowKit Go.Sl Go.BigFrame
set_option linter.unusedVariables false

theorem RowA.some_of {e : TypeId} {size n : Nat} {v : Value} {xs : List Value} {R : List Atom} (h : RowA e size v n xs R) (hn : 0 < n) : ∃ g off cap, v = .slice (some ⟨g, off, none⟩) n cap ∧ n ≤ cap ∧ cap ≤ maxLen ∧ R = [(g, rowP e off (cap * size) xs)] := by
  rcases h.2 with ⟨_, h2, _⟩ | h
  · omega
  · exact h

theorem read_out (b : Nat) (p : Pt) (A : List Atom) (k : Int) (W w : World) (L : List Atom) (hp : PtA b p A) (hs : Sat W w (A ++ L)) (hk : ¬ (0 ≤ k ∧ k < p.now.length)) :
    Calls Try.prog 73 #[.pointer (some ⟨b, 0, none⟩), .int .i64 k] w fun e w' => e = .returned (.tuple #[.slice none 0 0, .bool false]) ∧ w = w' := by
  have hh := has_any b p A k W w L hp hs
  rw [decide_eq_false hk] at hh
  go_enter Try.func73, Try.ntmps73
  go_wp2_with fail
  refine hh.mono ?_; rintro r w2 ⟨rfl, rfl⟩
  go_wp2_with fail
  go_ret2
  exact ⟨rfl, rfl⟩

set_option maxRecDepth 100000 in
theorem read_in (b : Nat) (p : Pt) (A : List Atom) (k : Nat) (l : List UInt8) (W w : World) (L : List Atom) (hp : PtA b p A) (hs : Sat W w (A ++ L)) (hk : p.now[k]? = some l) (hl : l.length < 1000000) :
    Calls Try.prog 73 #[.pointer (some ⟨b, 0, none⟩), .int .i64 k] w fun e w' => ∃ v R, e = .returned (.tuple #[v, .bool true]) ∧ RowA 5 1 v l.length (bts l) R ∧ Sat W w' (R ++ (A ++ L)) := by
  have hkl := (List.getElem?_eq_some_iff.1 hk).1
  have hh := has_any b p A k W w L hp hs
  rw [decide_eq_true ⟨by omega, by omega⟩] at hh
  have hs0 := hs
  obtain ⟨vd, vn, vp, Rd, Rn, Rp, B, cd, cn, cp, hA, hr⟩ := hp
  rw [hA] at hs
  obtain ⟨u, hu, hbi⟩ := hr.nb.get hk
  obtain ⟨g, off, cap, rfl, hc1, hc2, hR⟩ := Ch.RowA.some_of hr.n (by omega)
  have hsn : Sat W w (Rn ++ (cellsA b #[vd, .slice (some ⟨g, off, none⟩) p.now.length cap, vp, .int .i64 p.writes] 107 :: (Rd ++ (Rp ++ (B ++ L))))) := hs.use (by intro x; simp only [cnt_append, cnt_cons, cnt_nil]; omega)
  have hjl : k < cn.length := (List.getElem?_eq_some_iff.1 hu).1
  have d0 : w.cell? ⟨g, off + k, none⟩ = some u := by rw [(hr.n.cells hsn rfl k hjl).1, hu]
  have d1 : w.cell? ⟨b, 1, none⟩ = some (.slice (some ⟨g, off, none⟩) p.now.length cap) := hs.cell m0 1
  have hrd := hbi.reads hs (fun x hx => by simp [hx])
  obtain ⟨ua, uc, rfl⟩ := reads_shape hrd
  have k0 : (0 : Int) ≤ k := by omega
  have k1 : (k : Int) < p.now.length := by omega
  have hcl := clone_any _ l W w _ hrd hl hs0
  clear hs hsn hbi hu hk hkl hjl hR hc1 hc2 hrd hs0 hr hA
  go_enter Try.func73, Try.ntmps73
  go_wp2_with fail
  refine hh.mono ?_; rintro r w2 ⟨rfl, rfl⟩
  go_wp2_with fail
  refine hcl.mono ?_; rintro r w3 ⟨v, R, rfl, hv, hs3⟩
  go_wp2_with fail
  go_ret2
  exact ⟨v, R, rfl, hv, hs3⟩

theorem write_out (b : Nat) (p : Pt) (A : List Atom) (k : Int) (bv : Value) (n : Nat) (W w : World) (L : List Atom) (hp : PtA b p A) (hs : Sat W w (A ++ L)) (hb : ∃ a c, bv = .slice a n c) (hk : ¬ (0 ≤ k ∧ k < p.now.length) ∨ n ≠ 160) :
    Calls Try.prog 30 #[.pointer (some ⟨b, 0, none⟩), .int .i64 k, bv] w fun e w' => e = .returned (.bool false) ∧ w = w' := by
  obtain ⟨a, c, rfl⟩ := hb
  have hh := has_any b p A k W w L hp hs
  by_cases h1 : 0 ≤ k ∧ k < p.now.length
  · rw [decide_eq_true h1] at hh
    have h2 : ((n : Int) != 160) = true := by
      have := hk.resolve_left (fun h => h h1)
      simp; omega
    clear hk
    go_enter Try.func30, Try.ntmps30
    go_wp2_with fail
    refine hh.mono ?_; rintro r w2 ⟨rfl, rfl⟩
    go_wp2_with fail
    go_ret
    exact ⟨rfl, rfl⟩
  · rw [decide_eq_false h1] at hh
    clear hk
    go_enter Try.func30, Try.ntmps30
    go_wp2_with fail
    refine hh.mono ?_; rintro r w2 ⟨rfl, rfl⟩
    go_wp2_with fail
    go_ret
    exact ⟨rfl, rfl⟩

def Pt.wr (p : Pt) (k : Nat) (l : List UInt8) : Pt := ⟨p.done, p.now.set k l, p.pend ++ [(k, l)], p.writes + 1⟩
set_option maxRecDepth 100000 in
set_option maxHeartbeats 4000000 in
theorem write_in (b : Nat) (p : Pt) (A : List Atom) (k : Nat) (bv : Value) (l : List UInt8) (W w : World) (L : List Atom) (hp : PtA b p A) (hs : Sat W w (A ++ L)) (hk : k < p.now.length) (hl : l.length = 160) (hrd : Reads w bv l.length (bts l)) (hpl : p.pend.length < 900000) (hw0 : 0 ≤ p.writes) (hw1 : p.writes < 1000000000) :
    Calls Try.prog 30 #[.pointer (some ⟨b, 0, none⟩), .int .i64 k, bv] w fun e w' => ∃ A', e = .returned (.bool true) ∧ PtA b (p.wr k l) A' ∧ Sat W w' (A' ++ L) := by
  have hh := has_any b p A k W w L hp hs
  rw [decide_eq_true ⟨by omega, by omega⟩] at hh
  obtain ⟨vd, vn, vp, Rd, Rn, Rp, B, cd, cn, cp, rfl, hr⟩ := hp
  obtain ⟨g, off, cap, rfl, hc1, hc2, hR⟩ := Ch.RowA.some_of hr.n (by omega)
  obtain ⟨ad, cd', rfl⟩ := Ch.RowA.slice hr.d
  obtain ⟨ap, cp', rfl⟩ := Ch.RowA.slice hr.pr
  have hcl := clone_any bv l W w _ hrd (by omega) hs
  obtain ⟨ua, uc, rfl⟩ := reads_shape hrd
  have k0 : (0 : Int) ≤ k := by omega
  have k1 : (k : Int) < p.now.length := by omega
  have HCL := Lib.hid hcl
  have HL := Lib.hid hl
  have hl2 : ((l.length : Int) != 160) = false := by simp; omega
  clear hs hrd hcl hl
  go_enter Try.func30, Try.ntmps30
  go_wp2_with fail
  refine hh.mono ?_; rintro r w2 ⟨rfl, rfl⟩
  go_wp2_with fail
  refine HCL.out.mono ?_; rintro r w3 ⟨v, R, rfl, hv, hs3⟩
  have hbi := BlkIn.of_row hv (by rw [HL.out]; decide)
  obtain ⟨av, cv, rfl⟩ := Ch.RowA.slice hv
  rw [hR] at hs3
  have hs4 : Sat W w3 ((g, rowP 32 off (cap * 1) cn) :: (cellsA b #[.slice ad p.done.length cd', .slice (some ⟨g, off, none⟩) p.now.length cap, .slice ap p.pend.length cp', .int .i64 p.writes] 107 :: (Rd ++ (Rp ++ (R ++ (B ++ L)))))) := hs3.use (by intro x; simp only [cnt_append, cnt_cons, cnt_nil]; omega)
  have hcnl : cn.length = p.now.length := by have := hr.n.1; omega
  obtain ⟨e1, e2⟩ := row_cell (G := cellsA b #[.slice ad p.done.length cd', .slice (some ⟨g, off, none⟩) p.now.length cap, .slice ap p.pend.length cp', .int .i64 p.writes] 107 :: (Rd ++ (Rp ++ (R ++ (B ++ L))))) hs4 k _ (List.getElem?_eq_getElem (by omega))
  have hst := row_store hs4 k (by omega) (.slice av l.length cv)
  have d1 : w3.cell? ⟨b, 1, none⟩ = some (.slice (some ⟨g, off, none⟩) p.now.length cap) := hs4.cell m1 1
  have e3 := hst.cell m1 2
  have hs5 := hst.newCells #[.int .i64 k, .slice av l.length cv] 114
  have hs6 : Sat W _ (Rp ++ (cellsA (w3.setCell ⟨g, off + k, none⟩ (.slice av l.length cv)).heap.size #[.int .i64 k, .slice av l.length cv] 114 :: ((g, rowP 32 off (cap * 1) (cn.set k (.slice av l.length cv))) :: (cellsA b #[.slice ad p.done.length cd', .slice (some ⟨g, off, none⟩) p.now.length cap, .slice ap p.pend.length cp', .int .i64 p.writes] 107 :: (Rd ++ (R ++ (B ++ L))))))) := hs5.use (by intro x; simp only [cnt_append, cnt_cons, cnt_nil]; omega)
  have hsrc := reads_cells hs5 m0 1 1 [.int .i64 k, .slice av l.length cv] rfl
  have hsz : (w3.setCell ⟨g, off + k, none⟩ (.slice av l.length cv)).heap.size = w3.heap.size := by simp
  rw [hsz] at hs6 hsrc
  clear hs3 hs4 hs5 hst hsz
  have HR := Lib.hid hR
  have HB := Lib.hid hbi
  have HV := Lib.hid hv
  have HPR := Lib.hid hr
  have hpr := hr.pr
  clear hr hR hbi hv hh HCL
  go_wp2_with (at_builtin; go_loud (refine wpList_plain rfl (fun K hK => ?_); refine wp_append_g Try.underlying105 infoWr rfl (by decide) (by decide) rfl rfl rfl hpr hs6 hsrc (by simp) (by simp [Value.oneCell']) (by omega) (fun v2 w4 R2 hr2 hs7 => ?_); refine hK _ _ ?_; simp only [Act.put, List.setIfInBounds_toArray, List.set_cons_zero, List.set_cons_succ]; clear hK hs6 hsrc e1 e2 e3 d1; obtain ⟨a2, k2, rfl⟩ := Ch.RowA.slice hr2; have hs8 := Sat.use (M := cellsA b #[.slice ad p.done.length cd', .slice (some ⟨g, off, none⟩) p.now.length cap, .slice ap p.pend.length cp', .int .i64 p.writes] 107 :: (R2 ++ ((g, rowP 32 off (cap * 1) (cn.set k (.slice av l.length cv))) :: (Rd ++ (R ++ (B ++ L)))))) hs7 (by intro x; simp only [cnt_append, cnt_cons, cnt_nil]; omega); have f0 := hs8.cell m0 2; have f1 := hs8.free m0 2; have hs9 := Sat.setCell hs8 2 (.slice a2 (p.pend.length + 1) k2); have f3 := hs9.cell m0 3; have f4 := hs9.free m0 3))
  have hs10 := Sat.setCell hs9 3 (.int .i64 (p.writes + 1))
  go_ret
  simp only [List.setIfInBounds_toArray, List.set_cons_zero, List.set_cons_succ] at hs10
  have hs11 : Sat W _ (cellsA b #[.slice ad p.done.length cd', .slice (some ⟨g, off, none⟩) p.now.length cap, .slice a2 (p.pend.length + 1) k2, .int .i64 (p.wr k l).writes] 107 :: (R2 ++ ((g, rowP 32 off (cap * 1) (cn.set k (.slice av l.length cv))) :: (Rd ++ (R ++ (B ++ L)))))) := hs10
  refine ⟨_, rfl, ⟨.slice ad p.done.length cd', .slice (some ⟨g, off, none⟩) p.now.length cap, .slice a2 (p.pend.length + 1) k2, Rd, [(g, rowP 32 off (cap * 1) (cn.set k (.slice av l.length cv)))], R2, R ++ B, cd, cn.set k (.slice av l.length cv), cp ++ [.slice av l.length cv], rfl, ?_⟩, hs11.use (by intro x; simp only [cnt_append, cnt_cons, cnt_nil]; omega)⟩
  have hr := HPR.out
  have hbi := HB.out.mono (B' := R ++ B) (fun x hx => List.mem_append_left _ hx)
  have hnl : (p.wr k l).now.length = p.now.length := by simp [Pt.wr]
  have hplen : (p.wr k l).pend.length = p.pend.length + 1 := by simp [Pt.wr]
  have hpc : pendC ((p.wr k l).pend.map Prod.fst) (cp ++ [.slice av l.length cv]) = pendC (p.pend.map Prod.fst) cp ++ [.int .i64 k, .slice av l.length cv] := by
    rw [pendC_snoc _ _ _ _ (by have := hr.pb.len; simpa using this.symm)]
    simp [Pt.wr]
  refine ⟨hr.d, hr.db.mono fun x hx => List.mem_append_right _ hx, ?_, ?_, ?_, ?_⟩
  · rw [hnl]
    exact ⟨by have := hr.n.1; simpa using this, .inr ⟨g, off, cap, rfl, hc1, hc2, rfl⟩⟩
  · exact (hr.nb.mono fun x hx => List.mem_append_right _ hx).set k hbi
  · rw [hplen, hpc]
    exact hr2
  · have := (hr.pb.mono (B' := R ++ B) fun x hx => List.mem_append_right _ hx).snoc hbi
    simpa [Pt.wr] using this
end Go.Proofs.Ytdkhgkkdnjejmaa.Ch
