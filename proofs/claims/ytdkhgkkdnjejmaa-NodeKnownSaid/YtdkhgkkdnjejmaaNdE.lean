/-
  node.did at Put, Get, Flush; node.Do.
-/
import Derived.Test.YtdkhgkkdnjejmaaNdD
namespace Go.Proofs.Ytdkhgkkdnjejmaa.Ch
set_option linter.unusedSimpArgs false
open Go Go.RowKit Go.Sl Go.BigFrame
set_option linter.unusedVariables false

def repV (code boot : Int) (pv iv : Value) : Value := .agg #[.int .i64 code, .int .i64 boot, pv, iv]
def rep0 : Array Value := #[.int .i64 0, .int .i64 0, .slice none 0 0, .slice none 0 0]

set_option maxRecDepth 100000 in
set_option maxHeartbeats 4000000 in
theorem did_flush (b : Nat) (n : Nd) (A : List Atom) (s g i : Int) (da : Option Addr) (dn dc : Nat) (W w : World) (L : List Atom) (hn : NodA b n A) (hs : Sat W w (A ++ L)) (hl : n.q.now.length < 1000000) :
    Calls Try.prog 86 #[.pointer (some ⟨b, 0, none⟩), .agg #[.int .i64 4, .int .i64 s, .int .i64 g, .int .i64 i, .slice da dn dc]] w fun e w' => ∃ A', e = .returned (repV 0 0 (.slice none 0 0) (.slice none 0 0)) ∧ NodA b ⟨n.q.fl, n.g, n.boot⟩ A' ∧ Sat W w' (A' ++ L) := by
  obtain ⟨bp, br, Aq, Ag, hq, hg, rfl⟩ := hn
  have e0 : w.cell? ⟨b, 0, none⟩ = some (.pointer (some ⟨bp, 0, none⟩)) := hs.cell m0 0
  have hbw : b < w.heap.size := hs.lt m0
  have hsq := hs.newCells #[.int .i64 4, .int .i64 s, .int .i64 g, .int .i64 i, .slice da dn dc] 84
  have hsr := hsq.newCells #[.int .i64 0, .int .i64 0, .slice none 0 0, .slice none 0 0] 80
  have hsz : (w.alloc (.cells #[.int .i64 4, .int .i64 s, .int .i64 g, .int .i64 i, .slice da dn dc] 84)).heap.size = w.heap.size + 1 := by simp
  rw [hsz] at hsr
  clear hsz
  have hfl := flush_any bp n.q Aq W _ (cellsA (w.heap.size + 1) #[.int .i64 0, .int .i64 0, .slice none 0 0, .slice none 0 0] 80 :: (cellsA b #[.pointer (some ⟨bp, 0, none⟩), .pointer (some ⟨br, 0, none⟩), .int .i64 n.boot] 132 :: (Ag ++ L))) hq (hsr.use (by intro x; simp only [cnt_append, cnt_cons, cnt_nil]; omega)) hl
  have HFL := Lib.hid hfl
  clear hs hsq hsr hfl
  go_enter Try.func86, Try.ntmps86
  go_wp2_with fail
  refine HFL.out.mono ?_; rintro r w2 ⟨A', rfl, hA', hs2⟩
  have hs3 := Sat.use (M := cellsA (w.heap.size + 1) #[.int .i64 0, .int .i64 0, .slice none 0 0, .slice none 0 0] 80 :: (cellsA b #[.pointer (some ⟨bp, 0, none⟩), .pointer (some ⟨br, 0, none⟩), .int .i64 n.boot] 132 :: (A' ++ (Ag ++ L)))) hs2 (by intro x; simp only [cnt_append, cnt_cons, cnt_nil]; omega)
  clear hs2 e0
  have z0 : w2.cell? ⟨w.heap.size + 1, 0, none⟩ = some (.int .i64 0) := hs3.cell m0 0
  have z1 : w2.cell? ⟨w.heap.size + 1, 1, none⟩ = some (.int .i64 0) := hs3.cell m0 1
  have z2 : w2.cell? ⟨w.heap.size + 1, 2, none⟩ = some (.slice none 0 0) := hs3.cell m0 2
  have z3 : w2.cell? ⟨w.heap.size + 1, 3, none⟩ = some (.slice none 0 0) := hs3.cell m0 3
  have f0 := hs3.free m0 0
  have f1 := hs3.free m0 1
  have f2 := hs3.free m0 2
  have f3 := hs3.free m0 3
  have hz := Sat.setCell (Sat.setCell (Sat.setCell (Sat.setCell hs3 0 (.int .i64 0)) 1 (.int .i64 0)) 2 (.slice none 0 0)) 3 (.slice none 0 0)
  go_wp2_with fail
  refine bodyPost_ret (v := repV 0 0 (.slice none 0 0) (.slice none 0 0)) (by simp [results, Try.results86, go_sem, repV, *]) rfl ?_
  exact ⟨_, rfl, ⟨bp, br, A', Ag, hA', hg, rfl⟩, hz.tail.use (by intro x; simp only [cnt_append, cnt_cons, cnt_nil]; omega)⟩

set_option maxRecDepth 100000 in
set_option maxHeartbeats 4000000 in
theorem did_put (b : Nat) (n : Nd) (A : List Atom) (p : Pc) (da : Option Addr) (dc : Nat) (W w : World) (L : List Atom) (hn : NodA b n A) (hs : Sat W w (A ++ L)) (hin : ∀ y, Sat W y L → Reads y (.slice da p.data.length dc) p.data.length (bts p.data)) (hp : rightP p) (h80 : 80 ≤ n.q.now.length) (hpl : n.q.pend.length < 900000) (hw0 : 0 ≤ n.q.writes) (hw1 : n.q.writes < 1000000000) :
    Calls Try.prog 86 #[.pointer (some ⟨b, 0, none⟩), .agg #[.int .i64 2, .int .i64 p.stripe, .int .i64 p.gen, .int .i64 p.index, .slice da p.data.length dc]] w fun e w' => ∃ A', e = .returned (repV 0 0 (.slice none 0 0) (.slice none 0 0)) ∧ NodA b ⟨n.q.wr (placeN p.stripe p.gen) (layB p), n.g, n.boot⟩ A' ∧ Sat W w' (A' ++ L) := by
  obtain ⟨bp, br, Aq, Ag, hq, hg, rfl⟩ := hn
  obtain ⟨s, g, i, d⟩ := p
  simp only at hin ⊢
  obtain ⟨dn, hdn⟩ : ∃ dn, dn = d.length := ⟨_, rfl⟩
  have e0 : w.cell? ⟨b, 0, none⟩ = some (.pointer (some ⟨bp, 0, none⟩)) := hs.cell m0 0
  have hbw : b < w.heap.size := hs.lt m0
  rw [← hdn]
  have hsq := hs.newCells #[.int .i64 2, .int .i64 s, .int .i64 g, .int .i64 i, .slice da dn dc] 84
  have hsr := hsq.newCells #[.int .i64 0, .int .i64 0, .slice none 0 0, .slice none 0 0] 80
  have hsz : (w.alloc (.cells #[.int .i64 2, .int .i64 s, .int .i64 g, .int .i64 i, .slice da dn dc] 84)).heap.size = w.heap.size + 1 := by simp
  rw [hsz] at hsr
  clear hsz
  have hpu := put_any bp n.q Aq ⟨s, g, i, d⟩ da dc W _ (cellsA (w.heap.size + 1) #[.int .i64 0, .int .i64 0, .slice none 0 0, .slice none 0 0] 80 :: (cellsA b #[.pointer (some ⟨bp, 0, none⟩), .pointer (some ⟨br, 0, none⟩), .int .i64 n.boot] 132 :: (Ag ++ L))) hq (Sat.drew (hsr.use (by intro x; simp only [cnt_append, cnt_cons, cnt_nil]; omega))) (fun y hy => hin y hy.right.tail.tail.right) hp h80 hpl hw0 hw1
  unfold pcV at hpu
  simp only at hpu
  generalize hl : layB ⟨s, g, i, d⟩ = l at *
  rw [← hdn] at hpu
  have HPU := Lib.hid hpu
  clear hs hsq hsr hpu hin hdn hp
  go_enter Try.func86, Try.ntmps86
  go_wp2_with fail
  refine wp_region_one [13, 15] [] [] [] [0, 1, 2, 3, 4, 5, 6, 7, 8, 9, 10, 11, 12, 13, 14, 15] (by kernel_rfl) (by kernel_rfl) ?_
  repeat (first | (refine can_pu1 rfl rfl rfl rfl rfl rfl (fun K hK => ?_); go_big_quiet_op; refine hK _ ?_; clear hK K) | (refine can_st1 rfl rfl rfl rfl rfl rfl (fun K hK => ?_); go_big_quiet_op; refine hK _ ?_; clear hK K) | (refine can_early1 rfl rfl rfl rfl rfl (fun K hK => ?_); go_big_quiet_op; refine hK _ ?_; clear hK K) | (refine can_skip rfl rfl rfl ?_; simp only [Act.put, List.setIfInBounds_toArray, List.set_cons_zero, List.set_cons_succ]))
  refine can_act1 rfl rfl rfl (fun K hK => ?_)
  go_wp2_with fail
  refine HPU.out.mono ?_; rintro r w2 ⟨A', rfl, hA', hs2⟩
  apply hK
  clear hK HPU
  have hs3 := Sat.use (M := cellsA (w.heap.size + 1) #[.int .i64 0, .int .i64 0, .slice none 0 0, .slice none 0 0] 80 :: (cellsA b #[.pointer (some ⟨bp, 0, none⟩), .pointer (some ⟨br, 0, none⟩), .int .i64 n.boot] 132 :: (A' ++ (Ag ++ L)))) hs2 (by intro x; simp only [cnt_append, cnt_cons, cnt_nil]; omega)
  clear hs2 e0
  have z0 : w2.cell? ⟨w.heap.size + 1, 0, none⟩ = some (.int .i64 0) := hs3.cell m0 0
  have z1 : w2.cell? ⟨w.heap.size + 1, 1, none⟩ = some (.int .i64 0) := hs3.cell m0 1
  have z2 : w2.cell? ⟨w.heap.size + 1, 2, none⟩ = some (.slice none 0 0) := hs3.cell m0 2
  have z3 : w2.cell? ⟨w.heap.size + 1, 3, none⟩ = some (.slice none 0 0) := hs3.cell m0 3
  have f0 := hs3.free m0 0
  have f1 := hs3.free m0 1
  have f2 := hs3.free m0 2
  have f3 := hs3.free m0 3
  have hz := Sat.setCell (Sat.setCell (Sat.setCell (Sat.setCell hs3 0 (.int .i64 0)) 1 (.int .i64 0)) 2 (.slice none 0 0)) 3 (.slice none 0 0)
  repeat (first | (refine can_pu1 rfl rfl rfl rfl rfl rfl (fun K hK => ?_); go_big_quiet_op; refine hK _ ?_; clear hK K) | (refine can_st1 rfl rfl rfl rfl rfl rfl (fun K hK => ?_); go_big_quiet_op; refine hK _ ?_; clear hK K) | (refine can_early1 rfl rfl rfl rfl rfl (fun K hK => ?_); go_big_quiet_op; refine hK _ ?_; clear hK K) | (refine can_skip rfl rfl rfl ?_; simp only [Act.put, List.setIfInBounds_toArray, List.set_cons_zero, List.set_cons_succ]))
  refine can_act1 rfl rfl rfl (fun K hK => ?_)
  go_wp2_with fail
  refine can_end1 ?_; (try simp only [Exit.then])
  go_wp2_with fail
  refine bodyPost_ret (v := repV 0 0 (.slice none 0 0) (.slice none 0 0)) (by simp [results, Try.results86, go_sem, repV, *]) rfl ?_
  exact ⟨_, rfl, ⟨bp, br, A', Ag, hA', hg, rfl⟩, hz.tail.use (by intro x; simp only [cnt_append, cnt_cons, cnt_nil]; omega)⟩

set_option maxRecDepth 100000 in
set_option maxHeartbeats 4000000 in
theorem did_get (b : Nat) (n : Nd) (A : List Atom) (s g i : Int) (da : Option Addr) (dn dc : Nat) (W w : World) (L : List Atom) (hn : NodA b n A) (hs : Sat W w (A ++ L)) (h0 : 0 ≤ s) (h1 : s < 40) (h80 : 80 ≤ n.q.now.length) (hl : ∀ l ∈ n.q.now, l.length < 1000000) :
    Calls Try.prog 86 #[.pointer (some ⟨b, 0, none⟩), .agg #[.int .i64 1, .int .i64 s, .int .i64 g, .int .i64 i, .slice da dn dc]] w fun e w' => ∃ pa pc xs R B, e = .returned (repV 0 0 (.slice pa xs.length pc) (.slice none 0 0)) ∧ RowA 45 4 (.slice pa xs.length pc) xs.length (pcsC xs) R ∧ xs.map Prod.fst = getL n.q s ∧ PcBl B xs ∧ Sat W w' (R ++ (B ++ (A ++ L))) := by
  obtain ⟨bp, br, Aq, Ag, hq, hg, rfl⟩ := hn
  have e0 : w.cell? ⟨b, 0, none⟩ = some (.pointer (some ⟨bp, 0, none⟩)) := hs.cell m0 0
  have hbw : b < w.heap.size := hs.lt m0
  have hsq := hs.newCells #[.int .i64 1, .int .i64 s, .int .i64 g, .int .i64 i, .slice da dn dc] 84
  have hsr := hsq.newCells #[.int .i64 0, .int .i64 0, .slice none 0 0, .slice none 0 0] 80
  have hsz : (w.alloc (.cells #[.int .i64 1, .int .i64 s, .int .i64 g, .int .i64 i, .slice da dn dc] 84)).heap.size = w.heap.size + 1 := by simp
  rw [hsz] at hsr
  clear hsz
  have hgt := get_any bp n.q Aq s W _ (cellsA (w.heap.size + 1) #[.int .i64 0, .int .i64 0, .slice none 0 0, .slice none 0 0] 80 :: (cellsA b #[.pointer (some ⟨bp, 0, none⟩), .pointer (some ⟨br, 0, none⟩), .int .i64 n.boot] 132 :: (Ag ++ L))) hq (Sat.drew (hsr.use (by intro x; simp only [cnt_append, cnt_cons, cnt_nil]; omega))) h0 h1 h80 hl
  have HGT := Lib.hid hgt
  have n0 : ¬ s < 0 := by omega
  have n1 : ¬ 40 ≤ s := by omega
  clear hs hsq hsr hgt hl h80
  go_enter Try.func86, Try.ntmps86
  go_wp2_with fail
  refine wp_region_one [6, 8] [] [] [] [0, 1, 2, 3, 4, 5, 6, 7, 8] (by kernel_rfl) (by kernel_rfl) ?_
  repeat (first | (refine can_pu1 rfl rfl rfl rfl rfl rfl (fun K hK => ?_); go_big_quiet_op; refine hK _ ?_; clear hK K) | (refine can_st1 rfl rfl rfl rfl rfl rfl (fun K hK => ?_); go_big_quiet_op; refine hK _ ?_; clear hK K) | (refine can_early1 rfl rfl rfl rfl rfl (fun K hK => ?_); go_big_quiet_op; refine hK _ ?_; clear hK K) | (refine can_skip rfl rfl rfl ?_; simp only [Act.put, List.setIfInBounds_toArray, List.set_cons_zero, List.set_cons_succ]))
  refine can_act1 rfl rfl rfl (fun K hK => ?_)
  go_wp2_with fail
  refine HGT.out.mono ?_; rintro r w2 ⟨v, xs, R, B, rfl, hr, hx, hb, hs2⟩
  obtain ⟨pa, pc, rfl⟩ := Ch.RowA.slice hr
  apply hK
  clear hK HGT
  have hs3 := Sat.use (M := cellsA (w.heap.size + 1) #[.int .i64 0, .int .i64 0, .slice none 0 0, .slice none 0 0] 80 :: (R ++ (B ++ (cellsA b #[.pointer (some ⟨bp, 0, none⟩), .pointer (some ⟨br, 0, none⟩), .int .i64 n.boot] 132 :: (Aq ++ (Ag ++ L)))))) hs2 (by intro x; simp only [cnt_append, cnt_cons, cnt_nil]; omega)
  clear hs2 e0
  have z0 : w2.cell? ⟨w.heap.size + 1, 0, none⟩ = some (.int .i64 0) := hs3.cell m0 0
  have z1 : w2.cell? ⟨w.heap.size + 1, 1, none⟩ = some (.int .i64 0) := hs3.cell m0 1
  have z2 : w2.cell? ⟨w.heap.size + 1, 2, none⟩ = some (.slice none 0 0) := hs3.cell m0 2
  have z3 : w2.cell? ⟨w.heap.size + 1, 3, none⟩ = some (.slice none 0 0) := hs3.cell m0 3
  have f0 := hs3.free m0 0
  have f1 := hs3.free m0 1
  have f2 := hs3.free m0 2
  have f3 := hs3.free m0 3
  have hz := Sat.setCell (Sat.setCell (Sat.setCell (Sat.setCell hs3 0 (.int .i64 0)) 1 (.int .i64 0)) 2 (.slice pa xs.length pc)) 3 (.slice none 0 0)
  repeat (first | (refine can_pu1 rfl rfl rfl rfl rfl rfl (fun K hK => ?_); go_big_quiet_op; refine hK _ ?_; clear hK K) | (refine can_st1 rfl rfl rfl rfl rfl rfl (fun K hK => ?_); go_big_quiet_op; refine hK _ ?_; clear hK K) | (refine can_early1 rfl rfl rfl rfl rfl (fun K hK => ?_); go_big_quiet_op; refine hK _ ?_; clear hK K) | (refine can_skip rfl rfl rfl ?_; simp only [Act.put, List.setIfInBounds_toArray, List.set_cons_zero, List.set_cons_succ]))
  refine can_act1 rfl rfl rfl (fun K hK => ?_)
  go_wp2_with fail
  refine can_end1 ?_; (try simp only [Exit.then])
  go_wp2_with fail
  refine bodyPost_ret (v := repV 0 0 (.slice pa xs.length pc) (.slice none 0 0)) (by simp [results, Try.results86, go_sem, repV, *]) rfl ?_
  exact ⟨pa, pc, xs, R, B, rfl, hr, hx, hb, hz.tail.use (by intro x; simp only [cnt_append, cnt_cons, cnt_nil]; omega)⟩

set_option maxRecDepth 100000 in
set_option maxHeartbeats 4000000 in
theorem do_of {T : Int → Value → Value → Nd → List Atom → Prop} (b : Nat) (A : List Atom) (k s g i : Int) (da : Option Addr) (dn dc : Nat) (W w : World) (L : List Atom) (hs : Sat W w (A ++ L)) (hd : ∀ M w, (∀ y, Sat W y M → Sat W y L) → Sat W w (A ++ M) → Calls Try.prog 86 #[.pointer (some ⟨b, 0, none⟩), .agg #[.int .i64 k, .int .i64 s, .int .i64 g, .int .i64 i, .slice da dn dc]] w fun e w' => ∃ code pa pn pc ia im ic n A' R, e = .returned (repV code 0 (.slice pa pn pc) (.slice ia im ic)) ∧ T code (.slice pa pn pc) (.slice ia im ic) n R ∧ NodA b n A' ∧ Sat W w' (A' ++ (R ++ M))) :
    Calls Try.prog 53 #[.pointer (some ⟨b, 0, none⟩), .agg #[.int .i64 k, .int .i64 s, .int .i64 g, .int .i64 i, .slice da dn dc]] w fun e w' => ∃ code pa pn pc ia im ic n A' R, e = .returned (repV code n.boot (.slice pa pn pc) (.slice ia im ic)) ∧ T code (.slice pa pn pc) (.slice ia im ic) n R ∧ NodA b n A' ∧ Sat W w' (A' ++ (R ++ L)) := by
  have hsq := hs.newCells #[.int .i64 k, .int .i64 s, .int .i64 g, .int .i64 i, .slice da dn dc] 84
  have hsr := hsq.newCells #[.int .i64 0, .int .i64 0, .slice none 0 0, .slice none 0 0] 80
  have hsz : (w.alloc (.cells #[.int .i64 k, .int .i64 s, .int .i64 g, .int .i64 i, .slice da dn dc] 84)).heap.size = w.heap.size + 1 := by simp
  rw [hsz] at hsr
  clear hsz
  have hd1 := hd (cellsA (w.heap.size + 1) #[.int .i64 0, .int .i64 0, .slice none 0 0, .slice none 0 0] 80 :: L) _ (fun y hy => hy.tail) (hsr.use (by intro x; simp only [cnt_append, cnt_cons, cnt_nil]; omega))
  have HD := Lib.hid hd1
  clear hs hsq hsr hd hd1
  go_enter Try.func53, Try.ntmps53
  go_wp2_with fail
  refine HD.out.mono ?_; rintro r w2 ⟨code, pa, pn, pc, ia, im, ic, n, A', R, rfl, hT, ⟨bp, br, Aq, Ag, hq, hg, rfl⟩, hs2⟩
  unfold repV
  have HT := Lib.hid hT
  clear HD hT
  have hs3 := hs2.newCells #[.int .i64 code, .int .i64 n.boot, .slice pa pn pc, .slice ia im ic] 80
  have hbw : b < w2.heap.size := hs2.lt m0
  have e2 : w2.cell? ⟨b, 2, none⟩ = some (.int .i64 n.boot) := hs2.cell m0 2
  have hs5 := Sat.use (M := cellsA (w.heap.size + 1) #[.int .i64 0, .int .i64 0, .slice none 0 0, .slice none 0 0] 80 :: (cellsA b #[.pointer (some ⟨bp, 0, none⟩), .pointer (some ⟨br, 0, none⟩), .int .i64 n.boot] 132 :: (Aq ++ (Ag ++ (R ++ L))))) hs3 (by intro x; simp only [cnt_append, cnt_cons, cnt_nil]; omega)
  clear hs2 hs3
  have z0 : (w2.alloc (.cells #[.int .i64 code, .int .i64 n.boot, .slice pa pn pc, .slice ia im ic] 80)).cell? ⟨w.heap.size + 1, 0, none⟩ = some (.int .i64 0) := hs5.cell m0 0
  have f0 := hs5.free m0 0
  have z1 : (w2.alloc (.cells #[.int .i64 code, .int .i64 n.boot, .slice pa pn pc, .slice ia im ic] 80)).cell? ⟨w.heap.size + 1, 1, none⟩ = some (.int .i64 0) := hs5.cell m0 1
  have f1 := hs5.free m0 1
  have z2 : (w2.alloc (.cells #[.int .i64 code, .int .i64 n.boot, .slice pa pn pc, .slice ia im ic] 80)).cell? ⟨w.heap.size + 1, 2, none⟩ = some (.slice none 0 0) := hs5.cell m0 2
  have f2 := hs5.free m0 2
  have z3 : (w2.alloc (.cells #[.int .i64 code, .int .i64 n.boot, .slice pa pn pc, .slice ia im ic] 80)).cell? ⟨w.heap.size + 1, 3, none⟩ = some (.slice none 0 0) := hs5.cell m0 3
  have f3 := hs5.free m0 3
  have hz := Sat.setCell (Sat.setCell (Sat.setCell (Sat.setCell hs5 0 (.int .i64 code)) 1 (.int .i64 n.boot)) 2 (.slice pa pn pc)) 3 (.slice ia im ic)
  go_wp2_with fail
  refine bodyPost_ret (v := repV code n.boot (.slice pa pn pc) (.slice ia im ic)) (by simp [results, Try.results53, go_sem, repV, *]) rfl ?_
  exact ⟨code, pa, pn, pc, ia, im, ic, n, _, R, rfl, HT.out, ⟨bp, br, Aq, Ag, hq, hg, rfl⟩, hz.tail.use (by intro x; simp only [cnt_append, cnt_cons, cnt_nil]; omega)⟩
end Go.Proofs.Ytdkhgkkdnjejmaa.Ch
