
/-
  The document's platter: what it says, in plain lists; a row of strings in memory.
  The document's platter: NewPlatter, set.
  The document's platter: Flush, in, Crash, Read.
  The document's platter: Write.
  The document's platter: Pieces.
  The document's SamePieces, at the same pieces.
  ChunkPuts: what is known at a round's begin; the pieces of any stripe; the acts that came in.
-/
import Derived.Test.YtekbbpfnkbanjaaGreatLaC
import Derived.Test.YtekbbpfnkbanjaaGreatMR
import Derived.Test.YtekbbpfnkbanjaaGreatMS
import Derived.Lib.ConvBytes
import Derived.Test.YtekbbpfnkbanjaaGreatLrB
namespace Go.Proofs.YtekbbpfnkbanjaaGreat.Ch
set_option linter.unusedSimpArgs false
open Go Go.RowKit Go.Sl Go.BigFrame
set_option linter.unusedVariables false

theorem quiet_cv {C : World → Prop} {o : Oper} {act : Act} {K : Act → Prop} {t1 t2 : TypeId} {x : Operand} {v u : Value} (hop : o.op = .convert t1 t2 x) (hv : act.eval x = v) (hc : ∀ w, C w → (convert t1 t2 v).run Tryz.prog w = .ok u w) (hk : K (act.put o.dst u)) : o.quiet Tryz.prog act C K := by
  refine ⟨u, fun w hC => ?_, hk⟩
  unfold Oper.quietAt
  have h1 := hc w hC
  simp [execOp, hop, hv, h1, Oper.quietUpon]
/-- A string of bytes. -/
def bsOf (l : List UInt8) : ByteArray := ⟨l.toArray⟩
def strs (ls : List (List UInt8)) : List Value := ls.map fun l => .string (bsOf l)
theorem strs_length (ls : List (List UInt8)) : (strs ls).length = ls.length := by simp [strs]
theorem strs_get {ls : List (List UInt8)} {k : Nat} {l : List UInt8} (h : ls[k]? = some l) : (strs ls)[k]? = some (.string (bsOf l)) := by rw [strs, List.getElem?_map, h]; rfl
theorem strs_set (ls : List (List UInt8)) (k : Nat) (l : List UInt8) : (strs ls).set k (.string (bsOf l)) = strs (ls.set k l) := by simp [strs, List.map_set]
theorem strs_append (ls ms : List (List UInt8)) : strs (ls ++ ms) = strs ls ++ strs ms := by simp [strs]
theorem strs_one (ls : List (List UInt8)) : ∀ u ∈ strs ls, u.oneCell' = true := fun u hu => by
  obtain ⟨l, _, rfl⟩ := List.mem_map.1 hu
  rfl

/-- The document's platter: what is flushed, what pends, how many writes. -/
structure Rt where
  done : List (List UInt8)
  pend : List (Nat × List UInt8)
  writes : Int
/-- What is read once the first k pending writes are counted. -/
def appTo (d : List (List UInt8)) (pend : List (Nat × List UInt8)) : Nat → List (List UInt8)
  | 0 => d
  | k + 1 => match pend[k]? with
    | some x => (appTo d pend k).set x.1 x.2
    | none => appTo d pend k
theorem appTo_length (d : List (List UInt8)) (pend : List (Nat × List UInt8)) : ∀ k, (appTo d pend k).length = d.length
  | 0 => rfl
  | k + 1 => by
    unfold appTo
    split
    · rw [List.length_set, appTo_length d pend k]
    · exact appTo_length d pend k
theorem appTo_snoc (d : List (List UInt8)) (pend : List (Nat × List UInt8)) (x : Nat × List UInt8) : ∀ k, k ≤ pend.length → appTo d (pend ++ [x]) k = appTo d pend k
  | 0, _ => rfl
  | k + 1, h => by
    unfold appTo
    rw [List.getElem?_append_left (by omega), appTo_snoc d pend x k (by omega)]
def Rt.now (r : Rt) : List (List UInt8) := appTo r.done r.pend r.pend.length
def Rt.wr (r : Rt) (k : Nat) (l : List UInt8) : Rt := ⟨r.done, r.pend ++ [(k, l)], r.writes + 1⟩
def Rt.fl (r : Rt) : Rt := ⟨r.now, [], r.writes⟩
def Rt.crash (r : Rt) (keep : List Int) : Rt := ⟨crashTo keep r.done r.pend r.pend.length, [], r.writes⟩
theorem Rt.now_length (r : Rt) : r.now.length = r.done.length := appTo_length _ _ _
theorem Rt.wr_now (r : Rt) (k : Nat) (l : List UInt8) : (r.wr k l).now = r.now.set k l := by
  unfold Rt.now Rt.wr
  simp only [List.length_append, List.length_cons, List.length_nil, Nat.zero_add]
  show appTo r.done (r.pend ++ [(k, l)]) (r.pend.length + 1) = _
  rw [appTo]
  rw [List.getElem?_append_right (Nat.le_refl _), Nat.sub_self]
  simp only [List.getElem?_cons_zero]
  rw [appTo_snoc _ _ _ _ (Nat.le_refl _)]
/-- The program's platter and the document's one say the same. -/
structure Alike (q : Pt) (r : Rt) : Prop where
  done : r.done = q.done
  now : r.now = q.now
  pend : r.pend = q.pend
  writes : r.writes = q.writes
theorem Alike.wr {q : Pt} {r : Rt} (h : Alike q r) (k : Nat) (l : List UInt8) : Alike (q.wr k l) (r.wr k l) :=
  ⟨h.done, by rw [Rt.wr_now, h.now]; rfl, by show r.pend ++ _ = q.pend ++ _; rw [h.pend], by show r.writes + 1 = q.writes + 1; rw [h.writes]⟩
theorem Alike.fl {q : Pt} {r : Rt} (h : Alike q r) : Alike q.fl r.fl := ⟨h.now, h.now, rfl, h.writes⟩
theorem Alike.crash {q : Pt} {r : Rt} (h : Alike q r) (keep : List Int) : Alike (q.crash keep) (r.crash keep) := by
  have e : crashTo keep r.done r.pend r.pend.length = crashTo keep q.done q.pend q.pend.length := by rw [h.done, h.pend]
  exact ⟨e, e, rfl, h.writes⟩
theorem Alike.start (n : Nat) : Alike ⟨List.replicate n zero160, List.replicate n zero160, [], 0⟩ ⟨List.replicate n zero160, [], 0⟩ := ⟨rfl, rfl, rfl, rfl⟩

def RtA (b : Nat) (r : Rt) (A : List Atom) : Prop :=
  ∃ vd vp Rd Rp, A = cellsA b #[vd, vp, .int .i64 r.writes] 56 :: (Rd ++ Rp) ∧ RowA 9 1 vd r.done.length (strs r.done) Rd ∧ RowA 86 2 vp r.pend.length (pendC (r.pend.map Prod.fst) (strs (r.pend.map Prod.snd))) Rp
end Go.Proofs.YtekbbpfnkbanjaaGreat.Ch

namespace Go.Proofs.YtekbbpfnkbanjaaGreat.Ch
set_option linter.unusedSimpArgs false
open Go Go.RowKit Go.Sl Go.BigFrame
set_option linter.unusedVariables false

theorem infoSt : (Tryz.prog.info? 9).map (fun i => (i.zero, i.size, i.bytes)) = some (some (.string ⟨#[]⟩), 1, 16) := by kernel_rfl
theorem infoRw : (Tryz.prog.info? 86).map (fun i => (i.zero, i.size, i.bytes)) = some (some (.agg #[.int .i64 0, .string ⟨#[]⟩]), 2, 24) := by kernel_rfl

theorem replicate_snoc {α : Type} (k : Nat) (x : α) : List.replicate k x ++ [x] = List.replicate (k + 1) x := List.replicate_succ'.symm
set_option maxRecDepth 100000 in
set_option maxHeartbeats 4000000 in
theorem ref_new (W w : World) (L : List Atom) (hs : Sat W w L) :
    Calls Tryz.prog 24 #[.int .i64 96] w fun e w' => ∃ b A, e = .returned (.pointer (some ⟨b, 0, none⟩)) ∧ RtA b ⟨List.replicate 96 zero160, [], 0⟩ A ∧ Sat W w' (A ++ L) := by
  have hmk : ∀ w : World, (Instr.makeSlice 35 (.int .i64 160) (.int .i64 160)).run Tryz.prog w = .ok (.slice (some ⟨w.heap.size, 0, none⟩) 160 160) (w.alloc (.cells (madeCells #[.int .u8 0] 160) 5)) := run_make_row' (P := Tryz.prog) 35 5 (.int .u8 0) 1 (by kernel_rfl) (by kernel_rfl) rfl .i64 .i64 160 (by omega) (by omega)
  obtain ⟨Z, hZ⟩ : ∃ Z, Z = madeCells #[.int .u8 0] 160 := ⟨_, rfl⟩
  rw [← hZ] at hmk
  have hZl : Z.toList = bts zero160 := by rw [hZ, toList_madeCells_one]; simp [bts, zero160]
  have hz160 : zero160.length = 160 := by simp [zero160]
  have hcv : ∀ w : World, (convert 35 9 (.slice (some ⟨w.heap.size, 0, none⟩) 160 160)).run Tryz.prog (w.alloc (.cells Z 5)) = .ok (.string (bsOf zero160)) (w.alloc (.cells Z 5)) := fun w => by
    have h := str_of (.slice (some ⟨w.heap.size, 0, none⟩) 160 160) zero160 (w.alloc (.cells Z 5)) (by rw [hz160]; exact reads_new w Z _ _ _ _ hZl)
    exact h
  have HCV := Lib.hid hcv
  clear hZ hZl hz160 hcv
  generalize hz : bsOf zero160 = zs at *
  have HZS := Lib.hid hz
  clear hz
  go_enter Tryz.func24, Tryz.ntmps24
  go_wp2_with fail
  have hs1 := hs.newCells #[.slice none 0 0, .slice none 0 0, .int .i64 0] 56
  generalize w.heap.size = z at *
  generalize w.alloc _ = w0 at *
  clear hs
  go_loopw [4] (fun kv wr => ∃ (k : Nat) (vd : Value) (R : List Atom), kv = .int .i64 k ∧ k ≤ 96 ∧ RowA 9 1 vd k (strs (List.replicate k zero160)) R ∧ Sat W wr (cellsA z #[vd, .slice none 0 0, .int .i64 0] 56 :: (R ++ L))) (fun kv _ => (96 - (intOf kv).toNat))
  case atStart => exact ⟨0, _, [], rfl, Nat.zero_le _, RowA.nil _ _, hs1⟩
  case round =>
    clear hs1
    obtain ⟨k, vd, R, rfl, hk, hr, hs⟩ := hrel
    have k0 : (0 : Int) ≤ k := by omega
    obtain ⟨a3, c3, rfl⟩ := Ch.RowA.slice hr
    by_cases hkn : k < 96
    · have k1 : (k : Int) < 96 := by omega
      obtain ⟨LL, hLL⟩ : ∃ LL, LL = cellsA z #[.slice a3 k c3, .slice none 0 0, .int .i64 0] 56 :: (R ++ L) := ⟨_, rfl⟩
      rw [← hLL] at hs
      have hm : cellsA z #[.slice a3 k c3, .slice none 0 0, .int .i64 0] 56 ∈ LL := by rw [hLL]; exact m0
      have c0 : ∀ y : Of W LL, y.v.cell? ⟨z, 0, none⟩ = some (.slice a3 k c3) := fun y => y.s.cell hm 0
      have HLL := Lib.hid hLL
      clear hLL
      go_wp2_with fail
      refine wp_region_held1 [5, 7, 8, 11] [0, 1, 2, 3, 4] [0, 1, 2, 3] [5, 7] [0, 1, 2, 3, 4, 5, 6, 7, 8, 9, 10, 11] (Held W LL) (by kernel_rfl) (by kernel_rfl) ?_ ?_
      · exact Held.mk hs.drew
      have hne : Nonempty (Of W LL) := ⟨⟨_, hs⟩⟩
      have d0 := c0 ⟨_, hs⟩
      have hsT := hs.drew
      repeat (first | (refine can_pu1 rfl rfl rfl rfl rfl rfl (fun K hK => ?_); go_big_quiet_op; refine hK _ ?_; clear hK K) | (refine can_st1 rfl rfl rfl rfl rfl rfl (fun K hK => ?_); go_big_quiet_op; refine hK _ ?_; clear hK K) | (refine can_early1 rfl rfl rfl rfl rfl (fun K hK => ?_); go_big_quiet_op; refine hK _ ?_; clear hK K) | (refine can_skip rfl rfl rfl ?_; simp only [Act.put, List.setIfInBounds_toArray, List.set_cons_zero, List.set_cons_succ]))
      clear hne d0 hs
      generalize wr.drew = wt at *
      refine can_actS rfl rfl rfl rfl (fun K hK => ?_)
      go_wp2_with fail
      refine ⟨Held.mk (Sat.alloc hsT _), ?_⟩
      repeat (first | (refine can_pu1 rfl rfl rfl rfl rfl rfl (fun K hK => ?_); go_big_quiet_op; refine hK _ ?_; clear hK K) | (refine can_st1 rfl rfl rfl rfl rfl rfl (fun K hK => ?_); go_big_quiet_op; refine hK _ ?_; clear hK K) | (refine can_early1 rfl rfl rfl rfl rfl (fun K hK => ?_); go_big_quiet_op; refine hK _ ?_; clear hK K) | (refine can_skip rfl rfl rfl ?_; simp only [Act.put, List.setIfInBounds_toArray, List.set_cons_zero, List.set_cons_succ]))
      refine can_early1 rfl rfl rfl rfl rfl (fun K hK => ?_)
      refine quiet_cv rfl rfl (fun y hy => by subst hy; exact HCV.out wt) ?_
      refine hK _ ?_
      clear hK K
      simp only [Act.put, List.setIfInBounds_toArray, List.set_cons_zero, List.set_cons_succ]
      repeat (first | (refine can_pu1 rfl rfl rfl rfl rfl rfl (fun K hK => ?_); go_big_quiet_op; refine hK _ ?_; clear hK K) | (refine can_st1 rfl rfl rfl rfl rfl rfl (fun K hK => ?_); go_big_quiet_op; refine hK _ ?_; clear hK K) | (refine can_early1 rfl rfl rfl rfl rfl (fun K hK => ?_); go_big_quiet_op; refine hK _ ?_; clear hK K) | (refine can_skip rfl rfl rfl ?_; simp only [Act.put, List.setIfInBounds_toArray, List.set_cons_zero, List.set_cons_succ]))
      refine can_actS rfl rfl rfl rfl (fun K hK => ?_)
      go_wp2_with fail
      have hsU := hsT.alloc (.cells Z 5)
      have hsV := hsU.newCells #[.string zs] 9
      have hsz : (wt.alloc (.cells Z 5)).heap.size = wt.heap.size + 1 := by simp
      refine ⟨Held.mk hsV.tail, ?_⟩
      repeat (first | (refine can_pu1 rfl rfl rfl rfl rfl rfl (fun K hK => ?_); go_big_quiet_op; refine hK _ ?_; clear hK K) | (refine can_st1 rfl rfl rfl rfl rfl rfl (fun K hK => ?_); go_big_quiet_op; refine hK _ ?_; clear hK K) | (refine can_early1 rfl rfl rfl rfl rfl (fun K hK => ?_); go_big_quiet_op; refine hK _ ?_; clear hK K) | (refine can_skip rfl rfl rfl ?_; simp only [Act.put, List.setIfInBounds_toArray, List.set_cons_zero, List.set_cons_succ]))
      have hsrc := reads_new (wt.alloc (.cells Z 5)) #[.string zs] 9 1 1 [.string zs] rfl
      rw [hsz] at hsV hsrc
      rw [HLL.out] at hsV
      have hsW := Sat.use (M := R ++ (cellsA (wt.heap.size + 1) #[.string zs] 9 :: cellsA z #[.slice a3 k c3, .slice none 0 0, .int .i64 0] 56 :: L)) hsV (by intro x; simp only [cnt_append, cnt_cons, cnt_nil]; omega)
      clear hsV hsU hsT c0
      refine can_actF rfl rfl rfl rfl (fun K hK => ?_)
      refine wp_append_g Tryz.underlying53 infoSt rfl (by decide) (by decide) rfl rfl rfl hr hsW hsrc rfl (by intro u hu; simp at hu; subst hu; rfl) (by omega) (fun v2 w3 R2 hr2 hs4 => ?_)
      simp only [Act.put, List.setIfInBounds_toArray, List.set_cons_zero, List.set_cons_succ]
      refine hK _ _ ?_
      clear hK hsW hsrc
      obtain ⟨a2, c2, rfl⟩ := Ch.RowA.slice hr2
      have hs5 := Sat.use (M := cellsA z #[.slice a3 k c3, .slice none 0 0, .int .i64 0] 56 :: (R2 ++ L)) hs4 (by intro x; simp only [cnt_append, cnt_cons, cnt_nil]; omega)
      have e0 := hs5.cell m0 0
      have e1 := hs5.free m0 0
      have hs6 := Sat.setCell hs5 0 (.slice a2 (k + 1) c2)
      clear hs4 hs5
      repeat (first | (refine can_pu1 rfl rfl rfl rfl rfl rfl (fun K hK => ?_); go_big_quiet_op; refine hK _ ?_; clear hK K) | (refine can_st1 rfl rfl rfl rfl rfl rfl (fun K hK => ?_); go_big_quiet_op; refine hK _ ?_; clear hK K) | (refine can_early1 rfl rfl rfl rfl rfl (fun K hK => ?_); go_big_quiet_op; refine hK _ ?_; clear hK K) | (refine can_skip rfl rfl rfl ?_; simp only [Act.put, List.setIfInBounds_toArray, List.set_cons_zero, List.set_cons_succ]))
      refine can_actF rfl rfl rfl rfl (fun K hK => ?_)
      go_wp2_with fail
      refine can_end1 ?_; (try simp only [Exit.then])
      go_wp2_with fail
      simp only [List.setIfInBounds_toArray, List.set_cons_zero, List.set_cons_succ] at hs6
      refine ⟨⟨k + 1, _, R2, by simp, by omega, ?_, hs6⟩, ?_⟩
      · rw [show strs (List.replicate (k + 1) zero160) = strs (List.replicate k zero160) ++ [.string zs] by rw [← HZS.out, ← replicate_snoc, strs_append]; rfl]
        exact hr2
      · simp [intOf]
        omega
    · have e : k = 96 := by omega
      subst e
      clear hmk
      go_wp2_with fail
      go_ret
      exact ⟨z, _, rfl, ⟨_, _, R, [], rfl, by rw [List.length_replicate]; exact hr, RowA.nil _ _⟩, hs.use (by intro x; simp only [cnt_append, cnt_cons, cnt_nil]; omega)⟩

set_option maxRecDepth 100000 in
set_option maxHeartbeats 4000000 in
theorem ref_set (b : Nat) (r : Rt) (A : List Atom) (k : Nat) (l : List UInt8) (W w : World) (L : List Atom) (hp : RtA b r A) (hs : Sat W w (A ++ L)) (hk : k < r.done.length) (hdl : r.done.length < 900000) :
    Calls Tryz.prog 49 #[.pointer (some ⟨b, 0, none⟩), .agg #[.int .i64 k, .string (bsOf l)]] w fun e w' => ∃ A', e = .returned (.tuple #[]) ∧ RtA b ⟨r.done.set k l, r.pend, r.writes⟩ A' ∧ Sat W w' (A' ++ L) := by
  obtain ⟨vd, vp, Rd, Rp, rfl, hrd, hrp⟩ := hp
  obtain ⟨ad, cd, rfl⟩ := Ch.RowA.slice hrd
  obtain ⟨ap, cp, rfl⟩ := Ch.RowA.slice hrp
  generalize hz : bsOf l = sv at *
  have HSV := Lib.hid hz
  clear hz
  have hs1 := hs.newCells #[.int .i64 k, .string sv] 86
  have d0 : w.cell? ⟨b, 0, none⟩ = some (.slice ad r.done.length cd) := hs.cell m0 0
  have hbw : b < w.heap.size := hs.lt m0
  have hrc := (hrd.reads (F := Rp ++ (cellsA b #[.slice ad r.done.length cd, .slice ap r.pend.length cp, .int .i64 r.writes] 56 :: L)) (hs.use (by intro x; simp only [cnt_append, cnt_cons, cnt_nil]; omega))).grown (((Below.refl _ w).alloc (Nat.le_refl _) (.cells #[.int .i64 k, .string sv] 86)).alloc (by simp) (.cells #[] 9))
  have hsz : (w.alloc (.cells #[.int .i64 k, .string sv] 86)).heap.size = w.heap.size + 1 := by simp
  have hs2 := none_satT hs1 9 1
  rw [hsz] at hs2
  clear hs1 hsz
  have HRD := Lib.hid hrd
  have HRP := Lib.hid hrp
  clear hs hrd hrp
  go_enter Tryz.func49, Tryz.ntmps49
  have k0 : (0 : Int) ≤ k := by omega
  have k1 : (k : Int) < r.done.length := by omega
  go_wp2_with (at_builtin; go_loud (refine wpList_plain rfl (fun K hK => ?_); refine wp_append_g Tryz.underlying53 infoSt rfl (by decide) (by decide) rfl rfl rfl (none_rowT _ 1 _) hs2 hrc (by rw [strs_length]; omega) (strs_one _) (by omega) (fun v2 w3 R2 hr2 hs4 => ?_); rw [Nat.zero_add, List.nil_append] at hr2; obtain ⟨g, off, cap, rfl, hc1, hc2, rfl⟩ := Ch.RowA.some_of hr2 (by omega); have hs5 := Sat.use (M := (g, rowP 9 off (cap * 1) (strs r.done)) :: (cellsA w.heap.size #[.int .i64 k, .string sv] 86 :: (cellsA b #[.slice ad r.done.length cd, .slice ap r.pend.length cp, .int .i64 r.writes] 56 :: (Rp ++ L)))) hs4 (by intro x; simp only [cnt_append, cnt_cons, cnt_nil]; omega); have e0 := hs5.cell m1 0; have e1 := hs5.cell m1 1; obtain ⟨e2, e3⟩ := row_cell hs5 k _ (List.getElem?_eq_getElem (by rw [strs_length]; omega)); have hs6 := row_store hs5 k (by rw [strs_length]; omega) (.string sv); have e4 := hs6.cell m2 0; have e5 := hs6.free m2 0; have hs7 := Sat.setCell (Sat.use (M := cellsA b #[.slice ad r.done.length cd, .slice ap r.pend.length cp, .int .i64 r.writes] 56 :: ((g, rowP 9 off (cap * 1) ((strs r.done).set k (.string sv))) :: (Rp ++ L))) hs6 (by intro x; simp only [cnt_append, cnt_cons, cnt_nil]; omega)) 0 (.slice (some ⟨g, off, none⟩) r.done.length cap); clear hs4 hs5 hs6 hrc hs2; refine hK _ _ ?_; simp only [Act.put, List.setIfInBounds_toArray, List.set_cons_zero, List.set_cons_succ]; clear hK))
  go_end0
  simp only [List.setIfInBounds_toArray, List.set_cons_zero, List.set_cons_succ] at hs7
  have hss : (strs r.done).set k (.string sv) = strs (r.done.set k l) := by rw [← HSV.out, strs_set]
  rw [hss] at hs7
  have hs8 : Sat W _ (cellsA b #[.slice (some ⟨g, off, none⟩) r.done.length cap, .slice ap r.pend.length cp, .int .i64 (Rt.writes ⟨r.done.set k l, r.pend, r.writes⟩)] 56 :: ((g, rowP 9 off (cap * 1) (strs (r.done.set k l))) :: (Rp ++ L))) := hs7
  refine ⟨_, rfl, ⟨.slice (some ⟨g, off, none⟩) r.done.length cap, .slice ap r.pend.length cp, [(g, rowP 9 off (cap * 1) (strs (r.done.set k l)))], Rp, rfl, ⟨by rw [strs_length]; omega, .inr ⟨g, off, cap, by rw [List.length_set], by rw [List.length_set]; exact hc1, hc2, rfl⟩⟩, HRP.out⟩, hs8.use (by intro x; simp only [cnt_append, cnt_cons, cnt_nil]; omega)⟩
end Go.Proofs.YtekbbpfnkbanjaaGreat.Ch

namespace Go.Proofs.YtekbbpfnkbanjaaGreat.Ch
set_option linter.unusedSimpArgs false
open Go Go.RowKit Go.Sl Go.BigFrame
set_option linter.unusedVariables false

theorem pend_one : ∀ (ks : List Nat) (ls : List (List UInt8)), ∀ u ∈ pendC ks (strs ls), u.oneCell' = true
  | k :: ks, l :: ls, u, h => by
    simp only [strs, List.map_cons, pendC, List.mem_cons] at h
    rcases h with rfl | rfl | h
    · rfl
    · rfl
    · exact pend_one ks ls u h
  | [], _, _, h => by simp [pendC] at h
  | _ :: _, [], _, h => by simp [pendC, strs] at h
/-- The k-th that pends, in memory. -/
theorem pend_cells {b : Nat} {r : Rt} {vd vp : Value} {Rd Rp L : List Atom} {W w : World} (hrp : RowA 86 2 vp r.pend.length (pendC (r.pend.map Prod.fst) (strs (r.pend.map Prod.snd))) Rp) (hs : Sat W w (Rp ++ L)) {k i : Nat} {l : List UInt8} (hx : r.pend[k]? = some (i, l)) :
    ∃ gp op cp, vp = .slice (some ⟨gp, op, none⟩) r.pend.length cp ∧ w.cell? ⟨gp, op + k * 2, none⟩ = some (.int .i64 i) ∧ w.cell? ⟨gp, op + k * 2 + 1, none⟩ = some (.string (bsOf l)) := by
  have hk := (List.getElem?_eq_some_iff.1 hx).1
  obtain ⟨gp, op, kp, rfl, hp1, hp2, hRp⟩ := Ch.RowA.some_of hrp (by omega)
  obtain ⟨g0, g1⟩ := pendC_get (r.pend.map Prod.fst) (strs (r.pend.map Prod.snd)) k i (.string (bsOf l)) (by rw [List.getElem?_map, hx]; rfl) (strs_get (by rw [List.getElem?_map, hx]; rfl))
  refine ⟨gp, op, kp, rfl, ?_, ?_⟩
  · rw [(hrp.cells hs rfl (k * 2) (List.getElem?_eq_some_iff.1 g0).1).1, g0]
  · rw [Nat.add_assoc, (hrp.cells hs rfl (k * 2 + 1) (List.getElem?_eq_some_iff.1 g1).1).1, g1]

set_option maxRecDepth 100000 in
theorem in_ints (v : Value) (l : List Int) (n : Int) (w : World) (hr : Reads w v l.length (intsC l)) (hl : l.length < 9223372036854775808) :
    Calls Tryz.prog 48 #[v, .int .i64 n] w fun e w' => e = .returned (.bool (decide (n ∈ l))) ∧ w = w' := by
  obtain ⟨av, cv, rfl⟩ := reads_shape hr
  go_enter Tryz.func48, Tryz.ntmps48
  go_wp2_with fail
  go_loop [5] (fun kv => ∃ k : Nat, kv = .int .i64 k ∧ k ≤ l.length ∧ n ∉ l.take k) (fun kv => (l.length - (intOf kv).toNat))
  case atStart => exact ⟨0, rfl, Nat.zero_le _, by simp⟩
  case round =>
    obtain ⟨k, rfl, hk, hnk⟩ := hrel
    have HNK := Lib.hid hnk
    clear hnk
    have k0 : (0 : Int) ≤ k := by omega
    by_cases hkl : k < l.length
    · have k1 : (k : Int) < l.length := by omega
      have k2 : (k : Int) < 9223372036854775807 := by omega
      obtain ⟨x, hx⟩ : ∃ x, l[k]? = some x := ⟨_, List.getElem?_eq_getElem hkl⟩
      rcases hr with ⟨_, hz, _⟩ | ⟨a, c', e1, hcell⟩
      · omega
      cases e1
      have d0 : w.cell? (a.add k) = some (.int .i64 x) := hcell k _ (intsC_get hx)
      have HX := Lib.hid hx
      clear hx hcell
      by_cases hnx : x = n
      · subst hnx
        have hin : decide (x ∈ l) = true := decide_eq_true (List.mem_of_getElem? HX.out)
        go_wp2_with fail
        go_ret
        exact ⟨rfl, rfl⟩
      · have q0 : (x == n) = false := by simpa using hnx
        go_wp2_with fail
        refine ⟨⟨k + 1, by simp, by omega, ?_⟩, ?_⟩
        · rw [take_snoc HX.out]
          simp only [List.mem_append, List.mem_singleton, not_or]
          exact ⟨HNK.out, fun h => hnx h.symm⟩
        · simp [intOf]
          omega
    · have e : k = l.length := by omega
      subst e
      have h := HNK.out
      rw [List.take_length] at h
      have hin : decide (n ∈ l) = false := decide_eq_false h
      clear h
      go_wp2_with fail
      go_ret
      exact ⟨rfl, rfl⟩

set_option maxRecDepth 100000 in
set_option maxHeartbeats 4000000 in
theorem ref_flush (b : Nat) (r : Rt) (A : List Atom) (W w : World) (L : List Atom) (hp : RtA b r A) (hs : Sat W w (A ++ L)) (hdl : r.done.length < 900000) (hpl : r.pend.length < 900000) (hok : ∀ x ∈ r.pend, x.1 < r.done.length) :
    Calls Tryz.prog 38 #[.pointer (some ⟨b, 0, none⟩)] w fun e w' => ∃ A', e = .returned (.tuple #[]) ∧ RtA b r.fl A' ∧ Sat W w' (A' ++ L) := by
  obtain ⟨d, pe, ws⟩ := r
  simp only at hdl hpl hok
  obtain ⟨n, hn⟩ : ∃ n, n = pe.length := ⟨_, rfl⟩
  have HN := Lib.hid hn
  have HOK := Lib.hid hok
  rw [← hn] at hpl
  clear hn hok
  go_enter Tryz.func38, Tryz.ntmps38
  go_wp2_with fail
  go_loopw [2] (fun iv wr => ∃ (k : Nat) (A' : List Atom), iv = .int .i64 k ∧ k ≤ n ∧ RtA b ⟨appTo d pe k, pe, ws⟩ A' ∧ Sat W wr (A' ++ L)) (fun iv _ => (n - (intOf iv).toNat))
  case atStart => exact ⟨0, A, rfl, Nat.zero_le _, hp, hs⟩
  case round =>
    clear hs hp
    obtain ⟨k, A', rfl, hk, hp, hs⟩ := hrel
    have k0 : (0 : Int) ≤ k := by omega
    have HP := Lib.hid hp
    obtain ⟨vd, vp, Rd, Rp, rfl, hrd, hrp⟩ := hp
    simp only at hrd hrp
    obtain ⟨ap, cp, rfl⟩ := Ch.RowA.slice hrp
    have d1 : wr.cell? ⟨b, 1, none⟩ = some (.slice ap pe.length cp) := hs.cell m0 1
    rw [← HN.out] at d1
    by_cases hkn : k < n
    · have k1 : (k : Int) < n := by omega
      have k2 : (k : Int) < 1000000 := by omega
      obtain ⟨⟨i, l⟩, hx⟩ : ∃ x, pe[k]? = some x := ⟨_, List.getElem?_eq_getElem (by have := HN.out; omega)⟩
      obtain ⟨gp, op, kp, he, c0, c1⟩ := pend_cells (b := b) (r := ⟨appTo d pe k, pe, ws⟩) (vd := vd) (Rd := Rd) (L := cellsA b #[vd, .slice ap pe.length cp, .int .i64 ws] 56 :: (Rd ++ L)) hrp (hs.use (by intro x; simp only [cnt_append, cnt_cons, cnt_nil]; omega)) hx
      obtain ⟨rfl, rfl⟩ : ap = some ⟨gp, op, none⟩ ∧ cp = kp := by cases he; exact ⟨rfl, rfl⟩
      clear he
      have hil : i < (appTo d pe k).length := by rw [appTo_length]; exact HOK.out _ (List.mem_of_getElem? hx)
      have hset := fun w hs => ref_set b ⟨appTo d pe k, pe, ws⟩ _ i l W w L HP.out hs hil (by show (appTo d pe k).length < 900000; rw [appTo_length]; omega)
      have HSET := Lib.hid hset
      have HX := Lib.hid hx
      clear hset hx hil hrd hrp
      go_wp2_with fail
      refine (HSET.out _ hs).mono ?_; rintro r2 w2 ⟨A2, rfl, hp2, hs2⟩
      go_wp2_with fail
      refine ⟨⟨k + 1, A2, by simp, by omega, ?_, hs2⟩, ?_⟩
      · rw [show appTo d pe (k + 1) = (appTo d pe k).set i l by simp only [appTo, HX.out]]
        exact hp2
      · simp [intOf]
        omega
    · have e : n = k := by omega
      subst e
      have hm : Sat W wr (cellsA b #[vd, .slice ap pe.length cp, .int .i64 ws] 56 :: (Rd ++ L)) := hs.use (by intro x; simp only [cnt_append, cnt_cons, cnt_nil]; omega)
      have e1 := hm.free m0 1
      have hs2 := Sat.setCell hm 1 (.slice none 0 0)
      have HRD := Lib.hid hrd
      clear hs hm hrd hrp
      go_wp2_with fail
      go_end0
      simp only [List.setIfInBounds_toArray, List.set_cons_zero, List.set_cons_succ] at hs2
      have hs3 : Sat W _ (cellsA b #[vd, .slice none 0 0, .int .i64 (Rt.fl ⟨d, pe, ws⟩).writes] 56 :: (Rd ++ L)) := hs2
      refine ⟨rfl, _, ⟨vd, .slice none 0 0, Rd, [], rfl, ?_, RowA.nil _ _⟩, hs3.use (by intro x; simp only [cnt_append, cnt_cons, cnt_nil]; omega)⟩
      have := HRD.out
      rw [HN.out] at this
      exact this

set_option maxRecDepth 100000 in
set_option maxHeartbeats 4000000 in
theorem ref_crash (b : Nat) (r : Rt) (A : List Atom) (kv : Value) (keep : List Int) (W w : World) (L : List Atom) (hp : RtA b r A) (hs : Sat W w (A ++ L)) (hin : ∀ y, Sat W y L → Reads y kv keep.length (intsC keep)) (hkl : keep.length < 9223372036854775808) (hdl : r.done.length < 900000) (hpl : r.pend.length < 900000) (hok : ∀ x ∈ r.pend, x.1 < r.done.length) :
    Calls Tryz.prog 27 #[.pointer (some ⟨b, 0, none⟩), kv] w fun e w' => ∃ A', e = .returned (.tuple #[]) ∧ RtA b (r.crash keep) A' ∧ Sat W w' (A' ++ L) := by
  obtain ⟨d, pe, ws⟩ := r
  simp only at hdl hpl hok
  obtain ⟨ak, ck, rfl⟩ := reads_shape (hin w hs.right)
  obtain ⟨n, hn⟩ : ∃ n, n = pe.length := ⟨_, rfl⟩
  have HN := Lib.hid hn
  have HOK := Lib.hid hok
  have HIN := Lib.hid hin
  rw [← hn] at hpl
  clear hn hok hin
  go_enter Tryz.func27, Tryz.ntmps27
  go_wp2_with fail
  go_loopw [4] (fun iv wr => ∃ (k : Nat) (A' : List Atom), iv = .int .i64 k ∧ k ≤ n ∧ RtA b ⟨crashTo keep d pe k, pe, ws⟩ A' ∧ Sat W wr (A' ++ L)) (fun iv _ => (n - (intOf iv).toNat))
  case atStart => exact ⟨0, A, rfl, Nat.zero_le _, hp, hs⟩
  case round =>
    clear hs hp
    obtain ⟨k, A', rfl, hk, hp, hs⟩ := hrel
    have k0 : (0 : Int) ≤ k := by omega
    have HP := Lib.hid hp
    obtain ⟨vd, vp, Rd, Rp, rfl, hrd, hrp⟩ := hp
    simp only at hrd hrp
    obtain ⟨ap, cp, rfl⟩ := Ch.RowA.slice hrp
    have d1 : wr.cell? ⟨b, 1, none⟩ = some (.slice ap pe.length cp) := hs.cell m0 1
    rw [← HN.out] at d1
    by_cases hkn : k < n
    · have k1 : (k : Int) < n := by omega
      have k2 : (k : Int) < 1000000 := by omega
      obtain ⟨⟨i, l⟩, hx⟩ : ∃ x, pe[k]? = some x := ⟨_, List.getElem?_eq_getElem (by have := HN.out; omega)⟩
      obtain ⟨gp, op, kp, he, c0, c1⟩ := pend_cells (b := b) (r := ⟨crashTo keep d pe k, pe, ws⟩) (vd := vd) (Rd := Rd) (L := cellsA b #[vd, .slice ap pe.length cp, .int .i64 ws] 56 :: (Rd ++ L)) hrp (hs.use (by intro x; simp only [cnt_append, cnt_cons, cnt_nil]; omega)) hx
      obtain ⟨rfl, rfl⟩ : ap = some ⟨gp, op, none⟩ ∧ cp = kp := by cases he; exact ⟨rfl, rfl⟩
      clear he
      have hil : i < (crashTo keep d pe k).length := by rw [crashTo_length]; exact HOK.out _ (List.mem_of_getElem? hx)
      have hset := fun w hs => ref_set b ⟨crashTo keep d pe k, pe, ws⟩ _ i l W w L HP.out hs hil (by show (crashTo keep d pe k).length < 900000; rw [crashTo_length]; omega)
      have hcnt := in_ints _ keep k wr (HIN.out _ hs.right) hkl
      have HCNT := Lib.hid hcnt
      have HSET := Lib.hid hset
      have HX := Lib.hid hx
      clear hset hx hil hrd hrp hcnt
      go_wp2_with fail
      refine HCNT.out.mono ?_; rintro r2 w2 ⟨rfl, rfl⟩
      by_cases hin : (k : Int) ∈ keep
      · rw [decide_eq_true hin]
        have HI := Lib.hid hin
        clear hin
        go_wp2_with fail
        refine (HSET.out _ hs).mono ?_; rintro r2 w2 ⟨A2, rfl, hp2, hs2⟩
        go_wp2_with fail
        refine ⟨⟨k + 1, A2, by simp, by omega, ?_, hs2⟩, ?_⟩
        · rw [show crashTo keep d pe (k + 1) = (crashTo keep d pe k).set i l by simp only [crashTo, HX.out, if_pos HI.out]]
          exact hp2
        · simp [intOf]
          omega
      · rw [decide_eq_false hin]
        have HI := Lib.hid hin
        clear hin
        go_wp2_with fail
        refine ⟨⟨k + 1, _, by simp, by omega, ?_, hs⟩, ?_⟩
        · rw [show crashTo keep d pe (k + 1) = crashTo keep d pe k by simp only [crashTo, HX.out, if_neg HI.out]]
          exact HP.out
        · simp [intOf]
          omega
    · have e : n = k := by omega
      subst e
      have hm : Sat W wr (cellsA b #[vd, .slice ap pe.length cp, .int .i64 ws] 56 :: (Rd ++ L)) := hs.use (by intro x; simp only [cnt_append, cnt_cons, cnt_nil]; omega)
      have e1 := hm.free m0 1
      have hs2 := Sat.setCell hm 1 (.slice none 0 0)
      have HRD := Lib.hid hrd
      clear hs hm hrd hrp
      go_wp2_with fail
      go_end0
      simp only [List.setIfInBounds_toArray, List.set_cons_zero, List.set_cons_succ] at hs2
      have hs3 : Sat W _ (cellsA b #[vd, .slice none 0 0, .int .i64 (Rt.crash ⟨d, pe, ws⟩ keep).writes] 56 :: (Rd ++ L)) := hs2
      refine ⟨rfl, _, ⟨vd, .slice none 0 0, Rd, [], rfl, ?_, RowA.nil _ _⟩, hs3.use (by intro x; simp only [cnt_append, cnt_cons, cnt_nil]; omega)⟩
      have := HRD.out
      rw [HN.out] at this
      exact this

set_option maxRecDepth 100000 in
set_option maxHeartbeats 4000000 in
theorem ref_read_k (b : Nat) (r : Rt) (A : List Atom) (k : Nat) (x : List UInt8) (W w : World) (L : List Atom) (hp : RtA b r A) (hs : Sat W w (A ++ L)) (hx : r.now[k]? = some x) (hpl : r.pend.length < 900000) :
    Calls Tryz.prog 20 #[.pointer (some ⟨b, 0, none⟩), .int .i64 k] w fun e w' => e = .returned (.string (bsOf x)) ∧ w = w' := by
  obtain ⟨d, pe, ws⟩ := r
  obtain ⟨vd, vp, Rd, Rp, rfl, hrd, hrp⟩ := hp
  simp only at hrd hrp hpl
  have hkd : k < d.length := by
    have := (List.getElem?_eq_some_iff.1 hx).1
    rw [Rt.now_length] at this
    exact this
  obtain ⟨n, hn⟩ : ∃ n, n = pe.length := ⟨_, rfl⟩
  have hx2 : (appTo d pe n)[k]? = some x := by rw [hn]; exact hx
  have HX := Lib.hid hx2
  clear hx hx2
  have HN := Lib.hid hn
  rw [← hn] at hpl
  clear hn
  obtain ⟨gd, od, kd, rfl, hd1, hd2, hRd⟩ := Ch.RowA.some_of hrd (by omega)
  obtain ⟨ap, cp, rfl⟩ := Ch.RowA.slice hrp
  obtain ⟨y, hy⟩ : ∃ y, d[k]? = some y := ⟨_, List.getElem?_eq_getElem hkd⟩
  have d0 : w.cell? ⟨b, 0, none⟩ = some (.slice (some ⟨gd, od, none⟩) d.length kd) := hs.cell m0 0
  have d1 : w.cell? ⟨b, 1, none⟩ = some (.slice ap pe.length cp) := hs.cell m0 1
  rw [← HN.out] at d1
  have d2 : w.cell? ⟨gd, od + k, none⟩ = some (.string (bsOf y)) := by
    have hsd : Sat W w (Rd ++ (cellsA b #[.slice (some ⟨gd, od, none⟩) d.length kd, .slice ap pe.length cp, .int .i64 ws] 56 :: (Rp ++ L))) := hs.use (by intro x; simp only [cnt_append, cnt_cons, cnt_nil]; omega)
    rw [(hrd.cells hsd rfl k (by rw [strs_length]; omega)).1, strs_get hy]
  have HY := Lib.hid hy
  have k0 : (0 : Int) ≤ k := by omega
  have k1 : (k : Int) < d.length := by omega
  have HSP := Lib.hid (Sat.use (M := Rp ++ (cellsA b #[.slice (some ⟨gd, od, none⟩) d.length kd, .slice ap pe.length cp, .int .i64 ws] 56 :: (Rd ++ L))) hs (by intro x; simp only [cnt_append, cnt_cons, cnt_nil]; omega))
  have HRP := Lib.hid hrp
  clear hs hrd hrp hy hRd hd1 hd2
  go_enter Tryz.func20, Tryz.ntmps20
  go_wp2_with fail
  go_loop [5, 6] (fun sv jv => ∃ (j : Nat) (z : List UInt8), jv = .int .i64 j ∧ sv = .string (bsOf z) ∧ j ≤ n ∧ (appTo d pe j)[k]? = some z) (fun sv jv => (n - (intOf jv).toNat))
  case atStart => exact ⟨0, y, rfl, rfl, Nat.zero_le _, HY.out⟩
  case round =>
    obtain ⟨j, z, rfl, rfl, hj, hz⟩ := hrel
    have HZ := Lib.hid hz
    clear hz
    have j0 : (0 : Int) ≤ j := by omega
    by_cases hjn : j < n
    · have j1 : (j : Int) < n := by omega
      have j2 : (j : Int) < 1000000 := by omega
      obtain ⟨⟨i, l⟩, hx⟩ : ∃ x, pe[j]? = some x := ⟨_, List.getElem?_eq_getElem (by have := HN.out; omega)⟩
      obtain ⟨gp, op, kp, he, c0, c1⟩ := pend_cells (b := b) (r := ⟨d, pe, ws⟩) (vd := .slice (some ⟨gd, od, none⟩) d.length kd) (Rd := Rd) HRP.out HSP.out hx
      obtain ⟨rfl, rfl⟩ : ap = some ⟨gp, op, none⟩ ∧ cp = kp := by cases he; exact ⟨rfl, rfl⟩
      clear he
      have HXJ := Lib.hid hx
      clear hx
      by_cases hik : i = k
      · subst hik
        go_wp2_with fail
        refine ⟨⟨j + 1, l, by simp, rfl, by omega, ?_⟩, ?_⟩
        · rw [show appTo d pe (j + 1) = (appTo d pe j).set i l by simp only [appTo, HXJ.out], List.getElem?_set_self (by rw [appTo_length]; omega)]
        · simp [intOf]
          omega
      · have q0 : ((i : Int) == (k : Int)) = false := by simp; omega
        have HIK := Lib.hid hik
        clear hik
        go_wp2_with fail
        refine ⟨⟨j + 1, z, by simp, rfl, by omega, ?_⟩, ?_⟩
        · rw [show appTo d pe (j + 1) = (appTo d pe j).set i l by simp only [appTo, HXJ.out], List.getElem?_set_ne HIK.out]
          exact HZ.out
        · simp [intOf]
          omega
    · have e : n = j := by omega
      subst e
      have hzx : z = x := Option.some.inj (HZ.out.symm.trans HX.out)
      go_wp2_with fail
      go_ret
      exact ⟨by rw [← hzx]; rfl, rfl⟩
end Go.Proofs.YtekbbpfnkbanjaaGreat.Ch

namespace Go.Proofs.YtekbbpfnkbanjaaGreat.Ch
set_option linter.unusedSimpArgs false
open Go Go.RowKit Go.Sl Go.BigFrame
set_option linter.unusedVariables false

set_option maxRecDepth 100000 in
set_option maxHeartbeats 8000000 in
theorem ref_write (b : Nat) (r : Rt) (A : List Atom) (k : Nat) (bv : Value) (l : List UInt8) (W w : World) (L : List Atom) (hp : RtA b r A) (hs : Sat W w (A ++ L)) (hk : k < r.done.length) (hl : l.length = 160) (hin : ∀ y, Sat W y (A ++ L) → Reads y bv l.length (bts l)) (hpl : r.pend.length < 900000) (hw0 : 0 ≤ r.writes) (hw1 : r.writes < 1000000000) :
    Calls Tryz.prog 35 #[.pointer (some ⟨b, 0, none⟩), .int .i64 k, bv] w fun e w' => ∃ A', e = .returned (.bool true) ∧ RtA b (r.wr k l) A' ∧ Sat W w' (A' ++ L) := by
  obtain ⟨d, pe, ws⟩ := r
  obtain ⟨vd, vp, Rd, Rp, rfl, hrd, hrp⟩ := hp
  obtain ⟨ab, cb, rfl⟩ := reads_shape (hin w hs)
  simp only at hrd hrp hpl hk hw0 hw1
  obtain ⟨ad, cd, rfl⟩ := Ch.RowA.slice hrd
  obtain ⟨ap, cp, rfl⟩ := Ch.RowA.slice hrp
  obtain ⟨LL, hLL⟩ : ∃ LL, LL = cellsA b #[.slice ad d.length cd, .slice ap pe.length cp, .int .i64 ws] 56 :: (Rd ++ Rp) ++ L := ⟨_, rfl⟩
  have hm : cellsA b #[.slice ad d.length cd, .slice ap pe.length cp, .int .i64 ws] 56 ∈ LL := by rw [hLL]; exact m0
  have hfin : ∀ v (R3 : List Atom), RowA 86 2 v (pe.length + 1) (pendC (pe.map Prod.fst) (strs (pe.map Prod.snd)) ++ [.int .i64 k, .string (bsOf l)]) R3 → RtA b (Rt.wr ⟨d, pe, ws⟩ k l) (cellsA b #[.slice ad d.length cd, v, .int .i64 (Rt.wr ⟨d, pe, ws⟩ k l).writes] 56 :: (Rd ++ R3)) := fun v R3 h => by
    refine ⟨_, v, Rd, R3, rfl, hrd, ?_⟩
    rw [pendC_snoc _ _ _ _ (by simp [strs])] at h
    simp only [Rt.wr, List.length_append, List.length_cons, List.length_nil, List.map_append, List.map_cons, List.map_nil, strs_append, Nat.zero_add]
    exact h
  have hcv : ∀ y : Of W LL, (convert 35 9 (.slice ab 160 cb)).run Tryz.prog y.v = .ok (.string (bsOf l)) y.v := fun y => by
    have h := str_of _ l y.v (hin y.v ((congrArg (Sat W y.v) hLL).mp y.s))
    rw [hl] at h
    exact h
  have hrc : ∀ y, Sat W y LL → Reads y (.slice ap pe.length cp) pe.length (pendC (pe.map Prod.fst) (strs (pe.map Prod.snd))) := fun y hy => by
    rw [hLL] at hy
    exact hrp.reads (F := cellsA b #[.slice ad d.length cd, .slice ap pe.length cp, .int .i64 ws] 56 :: (Rd ++ L)) (hy.use (by intro x; simp only [cnt_append, cnt_cons, cnt_nil]; omega))
  have hpcl : (pendC (pe.map Prod.fst) (strs (pe.map Prod.snd))).length = pe.length * 2 := by rw [pendC_length _ _ (by simp [strs])]; simp
  have hp1 : ∀ u ∈ pendC (pe.map Prod.fst) (strs (pe.map Prod.snd)), u.oneCell' = true := pend_one _ _
  have c1 : ∀ y : Of W LL, y.v.cell? ⟨b, 1, none⟩ = some (.slice ap pe.length cp) := fun y => y.s.cell hm 1
  have d0 : w.cell? ⟨b, 0, none⟩ = some (.slice ad d.length cd) := hs.cell m0 0
  rw [← hLL] at hs
  have HLL := Lib.hid hLL
  have HFIN := Lib.hid hfin
  have HRD := Lib.hid hrc
  have HPL := Lib.hid hpcl
  have HP1 := Lib.hid hp1
  have HCV := Lib.hid hcv
  have hkn : ¬ (d.length : Int) ≤ k := by omega
  have k0 : ¬ (k : Int) < 0 := by omega
  have h160 : ((l.length : Int) != 160) = false := by simp; omega
  clear hLL hfin hrc hpcl hp1 hcv hm hin hrd hrp
  generalize bsOf l = sb at *
  generalize pendC (pe.map Prod.fst) (strs (pe.map Prod.snd)) = PC at *
  go_enter Tryz.func35, Tryz.ntmps35
  go_wp2_with fail
  refine wp_region_plan [1, 6, 11, 12, 15] [0, 2, 3, 4, 5, 7, 8, 9, 10] [0, 2, 3, 4, 7, 8, 10] [1, 6, 11] [0, 2, 3, 4, 5, 7, 8, 9, 10] (.two [1] (.two [6, 11, 12, 13, 14, 15] .nil [11, 6, 12, 13, 14, 15] .nil) [11, 1, 6, 12, 13, 14, 15] .nil) (Held W LL) (by kernel_rfl) (by kernel_rfl) ?_ ?_
  · exact Held.mk hs.drew
  have hne : Nonempty (Of W LL) := ⟨⟨_, hs⟩⟩
  have hsT := hs.drew
  generalize w.drew = wt at *
  repeat (first | (refine can_pu1 rfl rfl rfl rfl rfl rfl (fun K hK => ?_); go_big_quiet_op; refine hK _ ?_; clear hK K) | (refine can_st1 rfl rfl rfl rfl rfl rfl (fun K hK => ?_); go_big_quiet_op; refine hK _ ?_; clear hK K) | (refine can_early1 rfl rfl rfl rfl rfl (fun K hK => ?_); go_big_quiet_op; refine hK _ ?_; clear hK K) | (refine can_skip rfl rfl rfl ?_; simp only [Act.put, List.setIfInBounds_toArray, List.set_cons_zero, List.set_cons_succ]))
  refine can_st1 rfl rfl rfl rfl rfl rfl (fun K hK => ?_)
  refine quiet_cv rfl rfl (fun y hy => by obtain ⟨q, rfl⟩ := hy; exact HCV.out q) ?_
  refine hK _ ?_
  clear hK K
  simp only [Act.put, List.setIfInBounds_toArray, List.set_cons_zero, List.set_cons_succ]
  repeat (first | (refine can_pu1 rfl rfl rfl rfl rfl rfl (fun K hK => ?_); go_big_quiet_op; refine hK _ ?_; clear hK K) | (refine can_st1 rfl rfl rfl rfl rfl rfl (fun K hK => ?_); go_big_quiet_op; refine hK _ ?_; clear hK K) | (refine can_early1 rfl rfl rfl rfl rfl (fun K hK => ?_); go_big_quiet_op; refine hK _ ?_; clear hK K) | (refine can_skip rfl rfl rfl ?_; simp only [Act.put, List.setIfInBounds_toArray, List.set_cons_zero, List.set_cons_succ]))
  refine can_two ?_ ?_
  · skip
    refine can_actS rfl rfl rfl rfl (fun K hK => ?_)
    go_wp2_with fail
    have hsA := none_satT hsT 86 2
    refine ⟨Held.mk hsA.tail, ?_⟩
    generalize (wt).heap.size = z1 at *
    refine with_sat hsA ?_
    clear hsA
    intro w1 hsA
    repeat (first | (refine can_pu1 rfl rfl rfl rfl rfl rfl (fun K hK => ?_); go_big_quiet_op; refine hK _ ?_; clear hK K) | (refine can_st1 rfl rfl rfl rfl rfl rfl (fun K hK => ?_); go_big_quiet_op; refine hK _ ?_; clear hK K) | (refine can_early1 rfl rfl rfl rfl rfl (fun K hK => ?_); go_big_quiet_op; refine hK _ ?_; clear hK K) | (refine can_skip rfl rfl rfl ?_; simp only [Act.put, List.setIfInBounds_toArray, List.set_cons_zero, List.set_cons_succ]))
    refine can_two ?_ ?_
    · skip
      refine can_actS rfl rfl rfl rfl (fun K hK => ?_)
      refine wp_append_g Tryz.underlying54 infoRw rfl (by decide) (by decide) rfl rfl rfl (none_rowT _ 2 z1) hsA (HRD.out _ (Sat.use (M := LL) hsA (by intro x; simp only [cnt_append, cnt_cons, cnt_nil]; omega))) (by rw [HPL.out]) HP1.out (by omega) (fun v2 w6 R2 hr2 hsC => ?_)
      simp only [Act.put, List.setIfInBounds_toArray, List.set_cons_zero, List.set_cons_succ]
      apply hK
      refine ⟨Held.mk (Sat.use hsC (by intro x; simp only [cnt_append, cnt_cons, cnt_nil]; omega)), ?_⟩
      clear hK
      rw [Nat.zero_add, List.nil_append] at hr2
      repeat (first | (refine can_pu1 rfl rfl rfl rfl rfl rfl (fun K hK => ?_); go_big_quiet_op; refine hK _ ?_; clear hK K) | (refine can_st1 rfl rfl rfl rfl rfl rfl (fun K hK => ?_); go_big_quiet_op; refine hK _ ?_; clear hK K) | (refine can_early1 rfl rfl rfl rfl rfl (fun K hK => ?_); go_big_quiet_op; refine hK _ ?_; clear hK K) | (refine can_skip rfl rfl rfl ?_; simp only [Act.put, List.setIfInBounds_toArray, List.set_cons_zero, List.set_cons_succ]))
      refine can_actS rfl rfl rfl rfl (fun K hK => ?_)
      go_wp2_with fail
      have hsB := Sat.newCells hsC #[.int .i64 k, .string sb] 86
      refine ⟨Held.mk hsB.tail.right, ?_⟩
      generalize (w6).heap.size = z11 at *
      refine with_sat hsB ?_
      clear hsB
      intro w11 hsB
      repeat (first | (refine can_pu1 rfl rfl rfl rfl rfl rfl (fun K hK => ?_); go_big_quiet_op; refine hK _ ?_; clear hK K) | (refine can_st1 rfl rfl rfl rfl rfl rfl (fun K hK => ?_); go_big_quiet_op; refine hK _ ?_; clear hK K) | (refine can_early1 rfl rfl rfl rfl rfl (fun K hK => ?_); go_big_quiet_op; refine hK _ ?_; clear hK K) | (refine can_skip rfl rfl rfl ?_; simp only [Act.put, List.setIfInBounds_toArray, List.set_cons_zero, List.set_cons_succ]))
      have hsD := Sat.use (M := R2 ++ (cellsA z11 #[.int .i64 k, .string sb] 86 :: LL)) hsB (by intro x; simp only [cnt_append, cnt_cons, cnt_nil]; omega)
      have hsrc := reads_cells hsD (List.mem_append_right _ m0) 1 1 [.int .i64 k, .string sb] rfl
      refine can_actF rfl rfl rfl rfl (fun K hK => ?_)
      refine wp_append_g Tryz.underlying54 infoRw rfl (by decide) (by decide) rfl rfl rfl hr2 hsD hsrc rfl (by intro u hu; simp at hu; rcases hu with rfl | rfl <;> rfl) (by omega) (fun v3 w12 R3 hr3 hsE => ?_)
      simp only [Act.put, List.setIfInBounds_toArray, List.set_cons_zero, List.set_cons_succ]
      refine hK _ _ ?_
      clear hK
      obtain ⟨a3, c3, rfl⟩ := Ch.RowA.slice hr3
      rw [HLL.out] at hsE
      have hsF := Sat.use (M := cellsA b #[.slice ad d.length cd, .slice ap pe.length cp, .int .i64 ws] 56 :: (R3 ++ (Rd ++ L))) hsE (by intro x; simp only [cnt_append, cnt_cons, cnt_nil]; omega)
      clear hsD hsrc hsE
      have f0 := hsF.cell m0 1
      have f1 := hsF.free m0 1
      have f2 := hsF.cell m0 2
      have f3 := hsF.free m0 2
      have hsG := Sat.setCell hsF 1 (.slice a3 (pe.length + 1) c3)
      have f4 := hsG.cell m0 2
      have f5 := hsG.free m0 2
      have hsH := Sat.setCell hsG 2 (.int .i64 (ws + 1))
      repeat (first | (refine can_pu1 rfl rfl rfl rfl rfl rfl (fun K hK => ?_); go_big_quiet_op; refine hK _ ?_; clear hK K) | (refine can_st1 rfl rfl rfl rfl rfl rfl (fun K hK => ?_); go_big_quiet_op; refine hK _ ?_; clear hK K) | (refine can_early1 rfl rfl rfl rfl rfl (fun K hK => ?_); go_big_quiet_op; refine hK _ ?_; clear hK K) | (refine can_skip rfl rfl rfl ?_; simp only [Act.put, List.setIfInBounds_toArray, List.set_cons_zero, List.set_cons_succ]))
      refine can_actF rfl rfl rfl rfl (fun K hK => ?_)
      go_wp2_with fail
      refine can_end1 ?_; (try simp only [Exit.then])
      go_wp2_with fail
      go_ret
      simp only [List.setIfInBounds_toArray, List.set_cons_zero, List.set_cons_succ] at hsH
      have hsI : Sat W _ (cellsA b #[.slice ad d.length cd, .slice a3 (pe.length + 1) c3, .int .i64 (Rt.wr ⟨d, pe, ws⟩ k l).writes] 56 :: (R3 ++ (Rd ++ L))) := hsH
      first | exact ⟨rfl, _, HFIN.out _ _ hr3, hsI.use (by intro x; simp only [cnt_append, cnt_cons, cnt_nil]; omega)⟩ | exact ⟨_, rfl, HFIN.out _ _ hr3, hsI.use (by intro x; simp only [cnt_append, cnt_cons, cnt_nil]; omega)⟩
    · skip
      refine can_actS rfl rfl rfl rfl (fun K hK => ?_)
      go_wp2_with fail
      have hsB := Sat.newCells hsA #[.int .i64 k, .string sb] 86
      refine ⟨Held.mk hsB.tail.tail, ?_⟩
      generalize (w1).heap.size = z11 at *
      refine with_sat hsB ?_
      clear hsB
      intro w11 hsB
      repeat (first | (refine can_pu1 rfl rfl rfl rfl rfl rfl (fun K hK => ?_); go_big_quiet_op; refine hK _ ?_; clear hK K) | (refine can_st1 rfl rfl rfl rfl rfl rfl (fun K hK => ?_); go_big_quiet_op; refine hK _ ?_; clear hK K) | (refine can_early1 rfl rfl rfl rfl rfl (fun K hK => ?_); go_big_quiet_op; refine hK _ ?_; clear hK K) | (refine can_skip rfl rfl rfl ?_; simp only [Act.put, List.setIfInBounds_toArray, List.set_cons_zero, List.set_cons_succ]))
      have hsB2 := Sat.use (M := [(z1, rowP 86 0 (0 * 2) [])] ++ (cellsA z11 #[.int .i64 k, .string sb] 86 :: LL)) hsB (by intro x; simp only [cnt_append, cnt_cons, cnt_nil]; omega)
      refine can_actS rfl rfl rfl rfl (fun K hK => ?_)
      refine wp_append_g Tryz.underlying54 infoRw rfl (by decide) (by decide) rfl rfl rfl (none_rowT _ 2 z1) hsB2 (HRD.out _ (Sat.use (M := LL) hsB2 (by intro x; simp only [cnt_append, cnt_cons, cnt_nil]; omega))) (by rw [HPL.out]) HP1.out (by omega) (fun v2 w6 R2 hr2 hsC => ?_)
      simp only [Act.put, List.setIfInBounds_toArray, List.set_cons_zero, List.set_cons_succ]
      apply hK
      refine ⟨Held.mk (Sat.use hsC (by intro x; simp only [cnt_append, cnt_cons, cnt_nil]; omega)), ?_⟩
      clear hK
      rw [Nat.zero_add, List.nil_append] at hr2
      repeat (first | (refine can_pu1 rfl rfl rfl rfl rfl rfl (fun K hK => ?_); go_big_quiet_op; refine hK _ ?_; clear hK K) | (refine can_st1 rfl rfl rfl rfl rfl rfl (fun K hK => ?_); go_big_quiet_op; refine hK _ ?_; clear hK K) | (refine can_early1 rfl rfl rfl rfl rfl (fun K hK => ?_); go_big_quiet_op; refine hK _ ?_; clear hK K) | (refine can_skip rfl rfl rfl ?_; simp only [Act.put, List.setIfInBounds_toArray, List.set_cons_zero, List.set_cons_succ]))
      have hsD := Sat.use (M := R2 ++ (cellsA z11 #[.int .i64 k, .string sb] 86 :: LL)) hsC (by intro x; simp only [cnt_append, cnt_cons, cnt_nil]; omega)
      have hsrc := reads_cells hsD (List.mem_append_right _ m0) 1 1 [.int .i64 k, .string sb] rfl
      refine can_actF rfl rfl rfl rfl (fun K hK => ?_)
      refine wp_append_g Tryz.underlying54 infoRw rfl (by decide) (by decide) rfl rfl rfl hr2 hsD hsrc rfl (by intro u hu; simp at hu; rcases hu with rfl | rfl <;> rfl) (by omega) (fun v3 w12 R3 hr3 hsE => ?_)
      simp only [Act.put, List.setIfInBounds_toArray, List.set_cons_zero, List.set_cons_succ]
      refine hK _ _ ?_
      clear hK
      obtain ⟨a3, c3, rfl⟩ := Ch.RowA.slice hr3
      rw [HLL.out] at hsE
      have hsF := Sat.use (M := cellsA b #[.slice ad d.length cd, .slice ap pe.length cp, .int .i64 ws] 56 :: (R3 ++ (Rd ++ L))) hsE (by intro x; simp only [cnt_append, cnt_cons, cnt_nil]; omega)
      clear hsD hsrc hsE
      have f0 := hsF.cell m0 1
      have f1 := hsF.free m0 1
      have f2 := hsF.cell m0 2
      have f3 := hsF.free m0 2
      have hsG := Sat.setCell hsF 1 (.slice a3 (pe.length + 1) c3)
      have f4 := hsG.cell m0 2
      have f5 := hsG.free m0 2
      have hsH := Sat.setCell hsG 2 (.int .i64 (ws + 1))
      repeat (first | (refine can_pu1 rfl rfl rfl rfl rfl rfl (fun K hK => ?_); go_big_quiet_op; refine hK _ ?_; clear hK K) | (refine can_st1 rfl rfl rfl rfl rfl rfl (fun K hK => ?_); go_big_quiet_op; refine hK _ ?_; clear hK K) | (refine can_early1 rfl rfl rfl rfl rfl (fun K hK => ?_); go_big_quiet_op; refine hK _ ?_; clear hK K) | (refine can_skip rfl rfl rfl ?_; simp only [Act.put, List.setIfInBounds_toArray, List.set_cons_zero, List.set_cons_succ]))
      refine can_actF rfl rfl rfl rfl (fun K hK => ?_)
      go_wp2_with fail
      refine can_end1 ?_; (try simp only [Exit.then])
      go_wp2_with fail
      go_ret
      simp only [List.setIfInBounds_toArray, List.set_cons_zero, List.set_cons_succ] at hsH
      have hsI : Sat W _ (cellsA b #[.slice ad d.length cd, .slice a3 (pe.length + 1) c3, .int .i64 (Rt.wr ⟨d, pe, ws⟩ k l).writes] 56 :: (R3 ++ (Rd ++ L))) := hsH
      first | exact ⟨rfl, _, HFIN.out _ _ hr3, hsI.use (by intro x; simp only [cnt_append, cnt_cons, cnt_nil]; omega)⟩ | exact ⟨_, rfl, HFIN.out _ _ hr3, hsI.use (by intro x; simp only [cnt_append, cnt_cons, cnt_nil]; omega)⟩
  · skip
    refine can_actS rfl rfl rfl rfl (fun K hK => ?_)
    go_wp2_with fail
    have hsB := Sat.newCells hsT #[.int .i64 k, .string sb] 86
    refine ⟨Held.mk hsB.tail, ?_⟩
    generalize (wt).heap.size = z11 at *
    refine with_sat hsB ?_
    clear hsB
    intro w11 hsB
    repeat (first | (refine can_pu1 rfl rfl rfl rfl rfl rfl (fun K hK => ?_); go_big_quiet_op; refine hK _ ?_; clear hK K) | (refine can_st1 rfl rfl rfl rfl rfl rfl (fun K hK => ?_); go_big_quiet_op; refine hK _ ?_; clear hK K) | (refine can_early1 rfl rfl rfl rfl rfl (fun K hK => ?_); go_big_quiet_op; refine hK _ ?_; clear hK K) | (refine can_skip rfl rfl rfl ?_; simp only [Act.put, List.setIfInBounds_toArray, List.set_cons_zero, List.set_cons_succ]))
    refine can_actS rfl rfl rfl rfl (fun K hK => ?_)
    go_wp2_with fail
    have hsA := none_satT hsB 86 2
    refine ⟨Held.mk hsA.tail.tail, ?_⟩
    generalize (w11).heap.size = z1 at *
    refine with_sat hsA ?_
    clear hsA
    intro w1 hsA
    repeat (first | (refine can_pu1 rfl rfl rfl rfl rfl rfl (fun K hK => ?_); go_big_quiet_op; refine hK _ ?_; clear hK K) | (refine can_st1 rfl rfl rfl rfl rfl rfl (fun K hK => ?_); go_big_quiet_op; refine hK _ ?_; clear hK K) | (refine can_early1 rfl rfl rfl rfl rfl (fun K hK => ?_); go_big_quiet_op; refine hK _ ?_; clear hK K) | (refine can_skip rfl rfl rfl ?_; simp only [Act.put, List.setIfInBounds_toArray, List.set_cons_zero, List.set_cons_succ]))
    refine can_actS rfl rfl rfl rfl (fun K hK => ?_)
    refine wp_append_g Tryz.underlying54 infoRw rfl (by decide) (by decide) rfl rfl rfl (none_rowT _ 2 z1) hsA (HRD.out _ (Sat.use (M := LL) hsA (by intro x; simp only [cnt_append, cnt_cons, cnt_nil]; omega))) (by rw [HPL.out]) HP1.out (by omega) (fun v2 w6 R2 hr2 hsC => ?_)
    simp only [Act.put, List.setIfInBounds_toArray, List.set_cons_zero, List.set_cons_succ]
    apply hK
    refine ⟨Held.mk (Sat.use hsC (by intro x; simp only [cnt_append, cnt_cons, cnt_nil]; omega)), ?_⟩
    clear hK
    rw [Nat.zero_add, List.nil_append] at hr2
    repeat (first | (refine can_pu1 rfl rfl rfl rfl rfl rfl (fun K hK => ?_); go_big_quiet_op; refine hK _ ?_; clear hK K) | (refine can_st1 rfl rfl rfl rfl rfl rfl (fun K hK => ?_); go_big_quiet_op; refine hK _ ?_; clear hK K) | (refine can_early1 rfl rfl rfl rfl rfl (fun K hK => ?_); go_big_quiet_op; refine hK _ ?_; clear hK K) | (refine can_skip rfl rfl rfl ?_; simp only [Act.put, List.setIfInBounds_toArray, List.set_cons_zero, List.set_cons_succ]))
    have hsD := Sat.use (M := R2 ++ (cellsA z11 #[.int .i64 k, .string sb] 86 :: LL)) hsC (by intro x; simp only [cnt_append, cnt_cons, cnt_nil]; omega)
    have hsrc := reads_cells hsD (List.mem_append_right _ m0) 1 1 [.int .i64 k, .string sb] rfl
    refine can_actF rfl rfl rfl rfl (fun K hK => ?_)
    refine wp_append_g Tryz.underlying54 infoRw rfl (by decide) (by decide) rfl rfl rfl hr2 hsD hsrc rfl (by intro u hu; simp at hu; rcases hu with rfl | rfl <;> rfl) (by omega) (fun v3 w12 R3 hr3 hsE => ?_)
    simp only [Act.put, List.setIfInBounds_toArray, List.set_cons_zero, List.set_cons_succ]
    refine hK _ _ ?_
    clear hK
    obtain ⟨a3, c3, rfl⟩ := Ch.RowA.slice hr3
    rw [HLL.out] at hsE
    have hsF := Sat.use (M := cellsA b #[.slice ad d.length cd, .slice ap pe.length cp, .int .i64 ws] 56 :: (R3 ++ (Rd ++ L))) hsE (by intro x; simp only [cnt_append, cnt_cons, cnt_nil]; omega)
    clear hsD hsrc hsE
    have f0 := hsF.cell m0 1
    have f1 := hsF.free m0 1
    have f2 := hsF.cell m0 2
    have f3 := hsF.free m0 2
    have hsG := Sat.setCell hsF 1 (.slice a3 (pe.length + 1) c3)
    have f4 := hsG.cell m0 2
    have f5 := hsG.free m0 2
    have hsH := Sat.setCell hsG 2 (.int .i64 (ws + 1))
    repeat (first | (refine can_pu1 rfl rfl rfl rfl rfl rfl (fun K hK => ?_); go_big_quiet_op; refine hK _ ?_; clear hK K) | (refine can_st1 rfl rfl rfl rfl rfl rfl (fun K hK => ?_); go_big_quiet_op; refine hK _ ?_; clear hK K) | (refine can_early1 rfl rfl rfl rfl rfl (fun K hK => ?_); go_big_quiet_op; refine hK _ ?_; clear hK K) | (refine can_skip rfl rfl rfl ?_; simp only [Act.put, List.setIfInBounds_toArray, List.set_cons_zero, List.set_cons_succ]))
    refine can_actF rfl rfl rfl rfl (fun K hK => ?_)
    go_wp2_with fail
    refine can_end1 ?_; (try simp only [Exit.then])
    go_wp2_with fail
    go_ret
    simp only [List.setIfInBounds_toArray, List.set_cons_zero, List.set_cons_succ] at hsH
    have hsI : Sat W _ (cellsA b #[.slice ad d.length cd, .slice a3 (pe.length + 1) c3, .int .i64 (Rt.wr ⟨d, pe, ws⟩ k l).writes] 56 :: (R3 ++ (Rd ++ L))) := hsH
    first | exact ⟨rfl, _, HFIN.out _ _ hr3, hsI.use (by intro x; simp only [cnt_append, cnt_cons, cnt_nil]; omega)⟩ | exact ⟨_, rfl, HFIN.out _ _ hr3, hsI.use (by intro x; simp only [cnt_append, cnt_cons, cnt_nil]; omega)⟩
end Go.Proofs.YtekbbpfnkbanjaaGreat.Ch

namespace Go.Proofs.YtekbbpfnkbanjaaGreat.Ch
set_option linter.unusedSimpArgs false
open Go Go.RowKit Go.Sl Go.BigFrame
set_option linter.unusedVariables false

/-- A block whose first cells are the bytes l. -/
def bytP (l : List UInt8) (o : Obj) : Prop := ∃ (cs : Array Value) (fr : Nat × Nat), o = .cells cs 5 fr ∧ ∀ (j : Nat) (u : Value), (bts l)[j]? = some u → cs[j]? = some u
theorem bsOf_size (l : List UInt8) : (bsOf l).size = l.length := by
  simp [bsOf, ByteArray.size]
theorem bytes_sat {W w : World} {L : List Atom} (hs : Sat W w L) (l : List UInt8) : Sat W (Lib.bytesWorld w 5 (bsOf l)) ((w.heap.size, bytP l) :: L) := by
  refine hs.moved ⟨?_, ?_, ?_, ?_⟩ (Nat.le_refl _) (fun k hk _ => Lib.bytesWorld_at_old w _ _ k hk) ⟨_, Lib.bytesWorld_at_new w _ _, _, _, rfl, fun j u hu => ?_⟩
  · rfl
  · rfl
  · rfl
  · rw [Lib.bytesWorld_size]; omega
  · have hj := (List.getElem?_eq_some_iff.1 hu).1
    unfold Lib.bytesCells
    rw [Array.getElem?_append_left (by rw [bts_length] at hj; simpa [bsOf] using hj)]
    rw [bts, List.getElem?_map] at hu
    simp only [bsOf, Array.getElem?_map, List.getElem?_toArray]
    exact hu
theorem bytes_reads {W y : World} {L : List Atom} {z : Nat} {l : List UInt8} (hs : Sat W y ((z, bytP l) :: L)) (c : Nat) : Reads y (.slice (some ⟨z, 0, none⟩) l.length c) l.length (bts l) := by
  obtain ⟨o, ho, cs, fr, rfl, hc⟩ := hs.head
  refine .inr ⟨_, _, rfl, fun j u hu => ?_⟩
  rw [add_row, cell_at ho, Nat.zero_add]
  exact hc j u hu
theorem conv_str (l : List UInt8) (w : World) : (convert 9 35 (.string (bsOf l))).run Tryz.prog w = .ok (.slice (some ⟨w.heap.size, 0, none⟩) l.length (grownCap w l.length 0 5)) (Lib.bytesWorld w 5 (bsOf l)) := by
  have h := Lib.run_convert_string_bytes (P := Tryz.prog) w 9 35 5 (bsOf l) Tryz.underlying9 Tryz.underlying35 Tryz.underlying5
  rw [bsOf_size] at h
  exact h

theorem ref_pieces_none (b : Nat) (s : Int) (w : World) (h : s < 0 ∨ 40 ≤ s) :
    Calls Tryz.prog 33 #[.pointer (some ⟨b, 0, none⟩), .int .i64 s] w fun e w' => e = .returned (.slice none 0 0) ∧ w = w' := by
  rcases h with h | h
  · go_enter Tryz.func33, Tryz.ntmps33
    go_wp2_with fail
    go_ret
    exact ⟨rfl, rfl⟩
  · have h0 : ¬ s < 0 := by omega
    go_enter Tryz.func33, Tryz.ntmps33
    go_wp2_with fail
    go_ret
    exact ⟨rfl, rfl⟩

theorem srt_one (l : List Pc) (h : l.length ≤ 1) : srt l = l := by
  rcases l with _ | ⟨x, _ | ⟨y, l⟩⟩
  · rfl
  · rfl
  · simp at h
theorem getN_len (q : Pt) (s : Int) : ∀ k, (getN q s k).length ≤ k
  | 0 => by simp [getN]
  | k + 1 => by
    rw [getN_succ, List.length_append]
    have := getN_len q s k
    cases getAt q s (placeN s k) <;> simp <;> omega

theorem getAt_none {q : Pt} {s : Int} {k : Nat} {l : List UInt8} (h : q.now[k]? = some l) (hb : readB l = none) : getAt q s k = none := by
  unfold getAt
  rw [h]
  simp only
  rw [hb]
theorem getAt_some {q : Pt} {s : Int} {k : Nat} {l : List UInt8} {p : Pc} (h : q.now[k]? = some l) (hb : readB l = some p) : getAt q s k = if p.stripe = s ∧ placeI s p.gen = k then some p else none := by
  unfold getAt
  rw [h]
  simp only
  rw [hb]
set_option maxRecDepth 100000 in
set_option maxHeartbeats 8000000 in
theorem ref_pieces (b : Nat) (q : Pt) (r : Rt) (A : List Atom) (s : Int) (W w : World) (L : List Atom) (hq : RtA b r A) (ha : Alike q r) (hs : Sat W w (A ++ L)) (h0 : 0 ≤ s) (h1 : s < 40) (h80 : 80 ≤ q.now.length) (hl : ∀ l ∈ q.now, l.length < 1000000) (hpl : r.pend.length < 900000) :
    Calls Tryz.prog 33 #[.pointer (some ⟨b, 0, none⟩), .int .i64 s] w fun e w' => ∃ v xs R B, e = .returned v ∧ RowA 72 4 v xs.length (pcsC xs) R ∧ xs.map Prod.fst = getL q s ∧ PcBl B xs ∧ Sat W w' (R ++ (B ++ (A ++ L))) := by
  have n0 : ¬ s < 0 := by omega
  have n1 : ¬ 40 ≤ s := by omega
  have hdl : r.done.length = q.now.length := by rw [← ha.now, Rt.now_length]
  have d0 : ∃ vd, w.cell? ⟨b, 0, none⟩ = some vd ∧ ∃ a c, vd = .slice a r.done.length c := by
    obtain ⟨vd, vp, Rd, Rp, rfl, hrd, hrp⟩ := hq
    obtain ⟨ad, cd, rfl⟩ := Ch.RowA.slice hrd
    exact ⟨_, hs.cell m0 0, _, _, rfl⟩
  obtain ⟨_, d0, ad, cd, rfl⟩ := d0
  have hp : ∀ j : Nat, j < 2 → 2 * s + (j : Int) = (placeN s j : Nat) ∧ placeN s j < 80 := fun j hj => by
    have := placeI_bounds s j h0 h1
    unfold placeN
    unfold placeI at *
    omega
  have h80' : ¬ (r.done.length : Int) < 80 := by omega
  have HP := Lib.hid hp
  have HQ := Lib.hid hq
  have HLQ := Lib.hid hl
  have HA := Lib.hid ha
  clear hp hq hl ha hdl
  obtain ⟨Z, hZ⟩ : ∃ Z, Z = getL q s := ⟨_, rfl⟩
  rw [← hZ]
  have HZ := Lib.hid hZ
  clear hZ
  go_enter Tryz.func33, Tryz.ntmps33
  go_wp2_with fail
  go_loopw [6, 5] (fun kv ov wr => ∃ (k : Nat) (xs : List (Pc × Value)) (R B : List Atom), kv = .int .i64 k ∧ k ≤ 2 ∧ xs.length ≤ k ∧ RowA 72 4 ov xs.length (pcsC xs) R ∧ xs.map Prod.fst = srt (getN q s k) ∧ PcBl B xs ∧ Sat W wr (R ++ (B ++ (A ++ L)))) (fun kv _ _ => (2 - (intOf kv).toNat))
  case atStart => exact ⟨0, [], [], [], rfl, by omega, by simp, RowA.nil _ _, rfl, (fun x hx => by simp at hx), hs⟩
  case round =>
    clear hs d0
    obtain ⟨k, xs, R, B, rfl, hk, hxl, hr, hxs, hxb, hs⟩ := hrel
    have k0 : (0 : Int) ≤ k := by omega
    have HXS := Lib.hid hxs
    have HXB := Lib.hid hxb
    clear hxs hxb
    obtain ⟨ao, co, rfl⟩ := Ch.RowA.slice hr
    by_cases hkn : k < 2
    · have k1 : (k : Int) < 2 := by omega
      obtain ⟨K, hK⟩ : ∃ K, K = placeN s (k : Nat) := ⟨_, rfl⟩
      have hKp := HP.out k hkn
      rw [← hK] at hKp
      obtain ⟨l, hl⟩ : ∃ l, q.now[K]? = some l := ⟨_, List.getElem?_eq_getElem (by omega)⟩
      have hll := HLQ.out l (List.mem_of_getElem? hl)
      have hgn : getN q s (k + 1) = getN q s k ++ (getAt q s K).toList := by rw [getN_succ, hK]
      have hgl := getN_len q s k
      have hrd := ref_read_k b r A K l W wr (R ++ (B ++ L)) HQ.out (hs.use (by intro x; simp only [cnt_append, cnt_cons, cnt_nil]; omega)) (by rw [HA.out.now]; exact hl) hpl
      have hcv := conv_str l
      have hsb := bytes_sat hs l
      have hrb := ref_read_free W _ _ (.slice (some ⟨wr.heap.size, 0, none⟩) l.length (grownCap wr l.length 0 5)) l hsb (fun y hy => bytes_reads hy _) (fun a n c h => by cases h; exact grownCap_ge _ _ _ _)
      have HRD := Lib.hid hrd
      have HGN := Lib.hid hgn
      have HGL := Lib.hid hgl
      have HKP := Lib.hid hKp
      have HRB := Lib.hid hrb
      have HLK := Lib.hid hl
      clear hrd hgn hgl hl hK hKp hs hrb hsb
      go_wp2_with fail
      rw [HKP.out.1]
      refine HRD.out.mono ?_; rintro r2 w4 ⟨rfl, rfl⟩
      go_wp2_with fail
      refine HRB.out.mono ?_; rintro r2 w5 ⟨bv, R5, rfl, hr5, hs5'⟩
      have hs5 := Sat.use (M := R5 ++ (R ++ (B ++ (A ++ L)))) hs5' (by intro x; simp only [cnt_append, cnt_cons, cnt_nil]; omega)
      obtain ⟨a5, c5, rfl⟩ := Ch.RowA.slice hr5
      have hgn := HGN.out
      have hkp := HKP.out
      clear HRD HRB HGN HKP hcv hs5'
      have hs6 : Sat W w5 (R ++ (B ++ (A ++ L))) := hs5.use (by intro x; simp only [cnt_append, cnt_cons, cnt_nil]; omega)
      rcases hb : readB l with _ | p
      · have e1 : readP l = pc0 := by unfold readP; rw [hb]; rfl
        rw [getAt_none HLK.out hb] at hgn
        have HGN := Lib.hid hgn
        rw [e1]
        unfold pcV pc0
        simp only [Option.isSome_none]
        clear hb e1 hgn hr5 hs5
        have hs7 := hs6.alloc (.cells #[.int .i64 0, .int .i64 0, .int .i64 0, .slice a5 ([] : List UInt8).length c5] 72)
        go_wp2_with fail
        refine ⟨⟨k + 1, xs, R, B, by simp, by omega, by omega, hr, ?_, HXB.out, hs7⟩, ?_⟩
        · rw [HGN.out, Option.toList_none, List.append_nil]
          exact HXS.out
        · simp [intOf]
          omega
      · have e1 : readP l = p := by unfold readP; rw [hb]; rfl
        have hright := readB_right hb
        have hga := getAt_some (s := s) HLK.out hb
        rw [e1] at hr5 ⊢
        obtain ⟨ps, pg, pi, pd⟩ := p
        unfold pcV
        simp only [Option.isSome_some] at hr5 hga ⊢
        have hpg1 : 1 ≤ pg := hright.2.2.1
        have hpg2 : pg.tmod 2 = pg % 2 := Int.tmod_eq_emod_of_nonneg (by omega)
        have hpl2 : placeI s pg = K ↔ pg % 2 = k := by
          have := hkp.1
          unfold placeI
          omega
        have HR := Lib.hid hright
        have hs7 := hs5.newCells #[.int .i64 ps, .int .i64 pg, .int .i64 pi, .slice a5 pd.length c5] 72
        clear hb e1 hright
        by_cases hps : ps = s
        case neg =>
          rw [if_neg (fun h => hps h.1)] at hga
          rw [hga] at hgn
          have HGN := Lib.hid hgn
          have q0 : (ps == s) = false := by simpa using hps
          have hs8 := hs7.tail.right
          clear hga hgn hr5 hs5 hps hpg2 hpl2 hkp hs6 hs7
          go_wp2_with fail
          refine ⟨⟨k + 1, xs, R, B, by simp, by omega, by omega, hr, ?_, HXB.out, hs8⟩, ?_⟩
          · rw [HGN.out, Option.toList_none, List.append_nil]
            exact HXS.out
          · simp [intOf]
            omega
        case pos =>
        subst hps
        by_cases hpl : pg % 2 = k
        case neg =>
          rw [if_neg (fun h => hpl (hpl2.1 h.2))] at hga
          rw [hga] at hgn
          have HGN := Lib.hid hgn
          obtain ⟨m, hm⟩ : ∃ m, pg.tmod 2 = m := ⟨_, rfl⟩
          have q0 : (m == (k : Int)) = false := by simp; omega
          have hs8 := hs7.tail.right
          clear hga hgn hr5 hs5 hpl hpg2 hpl2 hkp hs6 hs7
          go_wp2_with fail
          refine ⟨⟨k + 1, xs, R, B, by simp, by omega, by omega, hr, ?_, HXB.out, hs8⟩, ?_⟩
          · rw [HGN.out, Option.toList_none, List.append_nil]
            exact HXS.out
          · simp [intOf]
            omega
        case pos =>
        rw [if_pos ⟨rfl, hpl2.2 hpl⟩] at hga
        rw [hga] at hgn
        have HGN := Lib.hid hgn
        have hm : pg.tmod 2 = (k : Int) := by omega
        clear hga hgn hs5 hpl hpg2 hpl2 hkp hs6
        have hp32 : 0 < pd.length := by
          have := HR.out.2.2.2.2.2.2
          simp only at this
          omega
        have hbi := (BlkIn.of_row hr5 hp32).mono (B' := R5 ++ B) (fun x hx => List.mem_append_left _ hx)
        have HBI := Lib.hid hbi
        have HR5 := Lib.hid hr5
        clear hbi hp32 hr5
        have e0 := hs7.cell m0 0
        have e1 := hs7.cell m0 1
        have e2 := hs7.cell m0 2
        have e3 := hs7.cell m0 3
        have hx1 : xs.map Prod.fst = getN q ps k := by rw [HXS.out, srt_one _ (by have := HGL.out; omega)]
        have HX1 := Lib.hid hx1
        clear hx1
        rcases xs with _ | ⟨⟨⟨xs0, xg0, xi0, xd0⟩, xv0⟩, _ | ⟨y, xs⟩⟩
        · clear hxl
          simp only [List.length_nil] at hr ⊢
          go_wp2_with fail
          refine wp_region_one [] [] [] [] [0, 1, 2, 3, 4, 5, 6, 7, 8, 9, 10, 11] (by kernel_rfl) (by kernel_rfl) ?_
          repeat (first | (refine can_pu1 rfl rfl rfl rfl rfl rfl (fun K hK => ?_); go_big_quiet_op; refine hK _ ?_; clear hK K) | (refine can_st1 rfl rfl rfl rfl rfl rfl (fun K hK => ?_); go_big_quiet_op; refine hK _ ?_; clear hK K) | (refine can_early1 rfl rfl rfl rfl rfl (fun K hK => ?_); go_big_quiet_op; refine hK _ ?_; clear hK K) | (refine can_skip rfl rfl rfl ?_; simp only [Act.put, List.setIfInBounds_toArray, List.set_cons_zero, List.set_cons_succ]))
          refine can_end1 ?_; (try simp only [Exit.then])
          have hs8 := (hs7.drew).newCells #[.int .i64 ps, .int .i64 pg, .int .i64 pi, .slice a5 pd.length c5] 72
          have hsz : ((w5.alloc (.cells #[.int .i64 ps, .int .i64 pg, .int .i64 pi, .slice a5 pd.length c5] 72)).drew).heap.size = w5.heap.size + 1 := by simp
          have hsrc := reads_cells hs8 m0 1 1 (pcCells ⟨ps, pg, pi, pd⟩ (.slice a5 pd.length c5)) rfl
          rw [hsz] at hs8 hsrc
          have hs9 := Sat.use (M := R ++ (R5 ++ (B ++ (A ++ L)))) hs8 (by intro x; simp only [cnt_append, cnt_cons, cnt_nil]; omega)
          clear hsz hs8
          go_wp2_with (at_builtin; go_loud (refine wpList_plain rfl (fun K hK => ?_); refine wp_append_g Tryz.underlying41 infoPc rfl (by decide) (by decide) rfl rfl rfl hr hs9 hsrc rfl (by intro u hu; simp only [pcCells, List.mem_cons, List.not_mem_nil, or_false] at hu; rcases hu with rfl | rfl | rfl | rfl <;> rfl) (by omega) (fun v2 w7 R2 hr2 hs10 => ?_); refine hK _ _ ?_; simp only [Act.put, List.setIfInBounds_toArray, List.set_cons_zero, List.set_cons_succ]; clear hK))
          refine ⟨⟨_, ([] : List (Pc × Value)) ++ [(⟨ps, pg, pi, pd⟩, .slice a5 pd.length c5)], R2, R5 ++ B, rfl, by simp; try omega, by simp; try omega, ?_, ?_, ?_, hs10.use (by intro x; simp only [cnt_append, cnt_cons, cnt_nil]; omega)⟩, ?_⟩
          · rw [pcsC_append]
            exact hr2
          · rw [show ∀ k' : Nat, k' = k + 1 → getN q ps k' = getN q ps k ++ [⟨ps, pg, pi, pd⟩] from fun k' hk' => by rw [hk']; exact HGN.out] <;> try (simp; done)
            rw [← HX1.out]
            rfl
          · intro x hx
            rcases List.mem_append.1 hx with h | h
            · obtain ⟨h1, h2⟩ := HXB.out x h
              exact ⟨h1.mono (fun y hy => List.mem_append_right _ hy), h2⟩
            · rw [List.mem_singleton] at h
              rw [h]
              exact ⟨HBI.out, HR.out⟩
          · simp [intOf]
            try omega
        · have hk1 : k = 1 := by simp at hxl; omega
          subst hk1
          clear hxl
          obtain ⟨hb0, hr0⟩ := HXB.out _ (List.mem_singleton.2 rfl)
          try simp only at hb0 hr0
          obtain ⟨bg, bo, bc, hv0, hb01, hb02⟩ := hb0
          try simp only at hv0
          subst hv0
          have HB0 := Lib.hid (show BlkIn B (.slice (some ⟨bg, bo, none⟩) xd0.length bc) xd0 from ⟨_, _, _, rfl, hb01, hb02⟩)
          have HR0 := Lib.hid hr0
          clear hr0 hb01 hb02
          simp only [List.length_cons, List.length_nil, Nat.zero_add] at hr ⊢
          obtain ⟨g0, o0, k0', he, hk01, hk02, hR0⟩ := Ch.RowA.some_of hr (by omega)
          obtain ⟨rfl, rfl⟩ : ao = some ⟨g0, o0, none⟩ ∧ co = k0' := by cases he; exact ⟨rfl, rfl⟩
          have hsq := Sat.use (M := R ++ (cellsA w5.heap.size #[.int .i64 ps, .int .i64 pg, .int .i64 pi, .slice a5 pd.length c5] 72 :: (R5 ++ (B ++ (A ++ L))))) hs7 (by intro x; simp only [cnt_append, cnt_cons, cnt_nil]; omega)
          have f0 : (w5.alloc (.cells #[.int .i64 ps, .int .i64 pg, .int .i64 pi, .slice a5 pd.length c5] 72)).cell? ⟨g0, o0, none⟩ = some (.int .i64 xs0) := (hr.cells hsq rfl 0 (by simp [pcsC, pcCells])).1
          have f1 : (w5.alloc (.cells #[.int .i64 ps, .int .i64 pg, .int .i64 pi, .slice a5 pd.length c5] 72)).cell? ⟨g0, o0 + 1, none⟩ = some (.int .i64 xg0) := (hr.cells hsq rfl 1 (by simp [pcsC, pcCells])).1
          have f2 : (w5.alloc (.cells #[.int .i64 ps, .int .i64 pg, .int .i64 pi, .slice a5 pd.length c5] 72)).cell? ⟨g0, o0 + 2, none⟩ = some (.int .i64 xi0) := (hr.cells hsq rfl 2 (by simp [pcsC, pcCells])).1
          have f3 : (w5.alloc (.cells #[.int .i64 ps, .int .i64 pg, .int .i64 pi, .slice a5 pd.length c5] 72)).cell? ⟨g0, o0 + 3, none⟩ = some (.slice (some ⟨bg, bo, none⟩) xd0.length bc) := (hr.cells hsq rfl 3 (by simp [pcsC, pcCells])).1
          clear hsq hk01 hk02 hR0 he
          by_cases hgt : xg0 < pg
          · go_wp2_with fail
            refine wp_region_one [] [] [] [] [0, 1, 2, 3, 4, 5, 6, 7, 8, 9, 10, 11] (by kernel_rfl) (by kernel_rfl) ?_
            repeat (first | (refine can_pu1 rfl rfl rfl rfl rfl rfl (fun K hK => ?_); go_big_quiet_op; refine hK _ ?_; clear hK K) | (refine can_st1 rfl rfl rfl rfl rfl rfl (fun K hK => ?_); go_big_quiet_op; refine hK _ ?_; clear hK K) | (refine can_early1 rfl rfl rfl rfl rfl (fun K hK => ?_); go_big_quiet_op; refine hK _ ?_; clear hK K) | (refine can_skip rfl rfl rfl ?_; simp only [Act.put, List.setIfInBounds_toArray, List.set_cons_zero, List.set_cons_succ]))
            refine can_end1 ?_; (try simp only [Exit.then])
            go_wp2_with fail
            refine wp_region_one [4] [] [] [] [0, 1, 2, 3, 4, 5] (by kernel_rfl) (by kernel_rfl) ?_
            repeat (first | (refine can_pu1 rfl rfl rfl rfl rfl rfl (fun K hK => ?_); go_big_quiet_op; refine hK _ ?_; clear hK K) | (refine can_st1 rfl rfl rfl rfl rfl rfl (fun K hK => ?_); go_big_quiet_op; refine hK _ ?_; clear hK K) | (refine can_early1 rfl rfl rfl rfl rfl (fun K hK => ?_); go_big_quiet_op; refine hK _ ?_; clear hK K) | (refine can_skip rfl rfl rfl ?_; simp only [Act.put, List.setIfInBounds_toArray, List.set_cons_zero, List.set_cons_succ]))
            refine can_act1 rfl rfl rfl (fun K hK => ?_)
            go_wp2_with fail
            repeat (first | (refine can_pu1 rfl rfl rfl rfl rfl rfl (fun K hK => ?_); go_big_quiet_op; refine hK _ ?_; clear hK K) | (refine can_st1 rfl rfl rfl rfl rfl rfl (fun K hK => ?_); go_big_quiet_op; refine hK _ ?_; clear hK K) | (refine can_early1 rfl rfl rfl rfl rfl (fun K hK => ?_); go_big_quiet_op; refine hK _ ?_; clear hK K) | (refine can_skip rfl rfl rfl ?_; simp only [Act.put, List.setIfInBounds_toArray, List.set_cons_zero, List.set_cons_succ]))
            refine can_end1 ?_; (try simp only [Exit.then])
            go_wp2_with fail
            have hsn : Sat W ((w5.alloc (.cells #[.int .i64 ps, .int .i64 pg, .int .i64 pi, .slice a5 pd.length c5] 72)).alloc (.cells #[.int .i64 ps, .int .i64 pg, .int .i64 pi, .slice a5 pd.length c5, .int .i64 xs0, .int .i64 xg0, .int .i64 xi0, .slice (some ⟨bg, bo, none⟩) xd0.length bc] 72)) ((w5.heap.size + 1, rowP 72 0 (2 * 4) (pcsC [((⟨ps, pg, pi, pd⟩ : Pc), (Value.slice a5 pd.length c5)), ((⟨xs0, xg0, xi0, xd0⟩ : Pc), (Value.slice (some ⟨bg, bo, none⟩) xd0.length bc))])) :: (R5 ++ (B ++ (A ++ L)))) := by
              have h := hs7.new (.cells #[.int .i64 ps, .int .i64 pg, .int .i64 pi, .slice a5 pd.length c5, .int .i64 xs0, .int .i64 xg0, .int .i64 xi0, .slice (some ⟨bg, bo, none⟩) xd0.length bc] 72) (p := rowP 72 0 (2 * 4) (pcsC [((⟨ps, pg, pi, pd⟩ : Pc), (Value.slice a5 pd.length c5)), ((⟨xs0, xg0, xi0, xd0⟩ : Pc), (Value.slice (some ⟨bg, bo, none⟩) xd0.length bc))])) ⟨_, rfl, by simp, by simp [pcsC, pcCells], rfl⟩
              rw [show (w5.alloc (.cells #[.int .i64 ps, .int .i64 pg, .int .i64 pi, .slice a5 pd.length c5] 72)).heap.size = w5.heap.size + 1 by simp] at h
              exact h.use (by intro x; simp only [cnt_append, cnt_cons, cnt_nil]; omega)
            refine ⟨⟨2, [((⟨ps, pg, pi, pd⟩ : Pc), (Value.slice a5 pd.length c5)), ((⟨xs0, xg0, xi0, xd0⟩ : Pc), (Value.slice (some ⟨bg, bo, none⟩) xd0.length bc))], [(w5.heap.size + 1, rowP 72 0 (2 * 4) (pcsC [((⟨ps, pg, pi, pd⟩ : Pc), (Value.slice a5 pd.length c5)), ((⟨xs0, xg0, xi0, xd0⟩ : Pc), (Value.slice (some ⟨bg, bo, none⟩) xd0.length bc))]))], R5 ++ B, rfl, Nat.le_refl _, Nat.le_refl _, ⟨rfl, .inr ⟨_, _, _, rfl, Nat.le_refl _, by unfold maxLen; omega, rfl⟩⟩, ?_, ?_, ?_⟩, by decide⟩
            · rw [show getN q ps 2 = getN q ps 1 ++ [⟨ps, pg, pi, pd⟩] from HGN.out, ← HX1.out]
              exact (if_pos (show xg0 < pg from hgt)).symm
            · intro x hx
              rcases List.mem_cons.1 hx with h | h
              · rw [h]
                exact ⟨HBI.out, HR.out⟩
              · rw [List.mem_singleton] at h
                rw [h]
                exact ⟨HB0.out.mono (fun y hy => List.mem_append_right _ hy), HR0.out⟩
            · have h2 := hsn.drew.drew
              exact h2.use (by intro x; simp only [cnt_append, cnt_cons, cnt_nil]; omega)
          · skip
            go_wp2_with fail
            refine wp_region_one [] [] [] [] [0, 1, 2, 3, 4, 5, 6, 7, 8, 9, 10, 11] (by kernel_rfl) (by kernel_rfl) ?_
            repeat (first | (refine can_pu1 rfl rfl rfl rfl rfl rfl (fun K hK => ?_); go_big_quiet_op; refine hK _ ?_; clear hK K) | (refine can_st1 rfl rfl rfl rfl rfl rfl (fun K hK => ?_); go_big_quiet_op; refine hK _ ?_; clear hK K) | (refine can_early1 rfl rfl rfl rfl rfl (fun K hK => ?_); go_big_quiet_op; refine hK _ ?_; clear hK K) | (refine can_skip rfl rfl rfl ?_; simp only [Act.put, List.setIfInBounds_toArray, List.set_cons_zero, List.set_cons_succ]))
            refine can_end1 ?_; (try simp only [Exit.then])
            have hs8 := (hs7.drew).newCells #[.int .i64 ps, .int .i64 pg, .int .i64 pi, .slice a5 pd.length c5] 72
            have hsz : ((w5.alloc (.cells #[.int .i64 ps, .int .i64 pg, .int .i64 pi, .slice a5 pd.length c5] 72)).drew).heap.size = w5.heap.size + 1 := by simp
            have hsrc := reads_cells hs8 m0 1 1 (pcCells ⟨ps, pg, pi, pd⟩ (.slice a5 pd.length c5)) rfl
            rw [hsz] at hs8 hsrc
            have hs9 := Sat.use (M := R ++ (R5 ++ (B ++ (A ++ L)))) hs8 (by intro x; simp only [cnt_append, cnt_cons, cnt_nil]; omega)
            clear hsz hs8
            go_wp2_with (at_builtin; go_loud (refine wpList_plain rfl (fun K hK => ?_); refine wp_append_g Tryz.underlying41 infoPc rfl (by decide) (by decide) rfl rfl rfl hr hs9 hsrc rfl (by intro u hu; simp only [pcCells, List.mem_cons, List.not_mem_nil, or_false] at hu; rcases hu with rfl | rfl | rfl | rfl <;> rfl) (by omega) (fun v2 w7 R2 hr2 hs10 => ?_); refine hK _ _ ?_; simp only [Act.put, List.setIfInBounds_toArray, List.set_cons_zero, List.set_cons_succ]; clear hK))
            refine ⟨⟨_, [((⟨xs0, xg0, xi0, xd0⟩ : Pc), (Value.slice (some ⟨bg, bo, none⟩) xd0.length bc))] ++ [(⟨ps, pg, pi, pd⟩, .slice a5 pd.length c5)], R2, R5 ++ B, rfl, by simp; try omega, by simp; try omega, ?_, ?_, ?_, hs10.use (by intro x; simp only [cnt_append, cnt_cons, cnt_nil]; omega)⟩, ?_⟩
            · rw [pcsC_append]
              exact hr2
            · rw [show ∀ k' : Nat, k' = 1 + 1 → getN q ps k' = getN q ps 1 ++ [⟨ps, pg, pi, pd⟩] from fun k' hk' => by rw [hk']; exact HGN.out] <;> try (simp; done)
              rw [← HX1.out]
              exact (if_neg (show ¬ xg0 < pg by omega)).symm
            · intro x hx
              rcases List.mem_append.1 hx with h | h
              · obtain ⟨h1, h2⟩ := HXB.out x h
                exact ⟨h1.mono (fun y hy => List.mem_append_right _ hy), h2⟩
              · rw [List.mem_singleton] at h
                rw [h]
                exact ⟨HBI.out, HR.out⟩
            · simp [intOf]
              try omega
        · simp at hxl
          omega
    · have e : k = 2 := by omega
      subst e
      go_wp2_with fail
      go_ret
      refine ⟨_, xs, R, B, rfl, hr, ?_, HXB.out, hs⟩
      rw [HZ.out, HXS.out]
      rfl
end Go.Proofs.YtekbbpfnkbanjaaGreat.Ch

namespace Go.Proofs.YtekbbpfnkbanjaaGreat.Ch
set_option linter.unusedSimpArgs false
open Go Go.RowKit Go.Sl Go.BigFrame
set_option linter.unusedVariables false

set_option maxRecDepth 100000 in
set_option maxHeartbeats 4000000 in
theorem same_pieces (xs ys : List (Pc × Value)) (va vb : Value) (Ra Rb M B C : List Atom) (W w : World)
    (hra : RowA 72 4 va xs.length (pcsC xs) Ra) (hrb : RowA 72 4 vb ys.length (pcsC ys) Rb) (hs : Sat W w (Ra ++ (Rb ++ M)))
    (hxy : xs.map Prod.fst = ys.map Prod.fst) (hbx : PcBl B xs) (hby : PcBl C ys) (hB : ∀ x ∈ B, x ∈ M) (hC : ∀ x ∈ C, x ∈ M) (hn : xs.length ≤ 2) :
    Calls Tryz.prog 30 #[va, vb] w fun e w' => e = .returned (.bool true) ∧ Sat W w' (Ra ++ (Rb ++ M)) := by
  obtain ⟨aa, ca, rfl⟩ := Ch.RowA.slice hra
  obtain ⟨ab, cb, rfl⟩ := Ch.RowA.slice hrb
  have hlen : xs.length = ys.length := by have := congrArg List.length hxy; simpa using this
  obtain ⟨n, hnn⟩ : ∃ n, n = xs.length := ⟨_, rfl⟩
  have HN := Lib.hid hnn
  have HN2 := Lib.hid (hnn.trans hlen)
  have HRA := Lib.hid hra
  have HRB := Lib.hid hrb
  have HXY := Lib.hid hxy
  have HBX := Lib.hid hbx
  have HBY := Lib.hid hby
  rw [← hlen, ← hnn]
  rw [← hnn] at hn
  clear hra hrb hxy hbx hby hlen hnn
  go_enter Tryz.func30, Tryz.ntmps30
  go_wp2_with fail
  go_loopw [5] (fun iv wr => ∃ i : Nat, iv = .int .i64 i ∧ i ≤ n ∧ Sat W wr (Ra ++ (Rb ++ M))) (fun iv _ => (n - (intOf iv).toNat))
  case atStart => exact ⟨0, rfl, Nat.zero_le _, hs⟩
  case round =>
    clear hs
    obtain ⟨i, rfl, hi, hs⟩ := hrel
    have i0 : (0 : Int) ≤ i := by omega
    by_cases hin : i < n
    · have i1 : (i : Int) < n := by omega
      have i2 : (i : Int) < 1000000 := by omega
      obtain ⟨⟨⟨p0, p1, p2, p3⟩, pv⟩, hp⟩ : ∃ x, xs[i]? = some x := ⟨_, List.getElem?_eq_getElem (by have := HN.out; omega)⟩
      obtain ⟨⟨q, qv⟩, hq⟩ : ∃ x, ys[i]? = some x := ⟨_, List.getElem?_eq_getElem (by have := HN2.out; omega)⟩
      obtain rfl : (⟨p0, p1, p2, p3⟩ : Pc) = q := by
        have h1 : (xs.map Prod.fst)[i]? = some ⟨p0, p1, p2, p3⟩ := by rw [List.getElem?_map, hp]; rfl
        have h2 : (ys.map Prod.fst)[i]? = some q := by rw [List.getElem?_map, hq]; rfl
        rw [HXY.out, h2] at h1
        exact (Option.some.inj h1).symm
      obtain ⟨hbp, hrp⟩ := HBX.out _ (List.mem_of_getElem? hp)
      obtain ⟨hbq, _⟩ := HBY.out _ (List.mem_of_getElem? hq)
      have hra := HRA.out
      have hrb := HRB.out
      rw [← HN.out] at hra
      rw [← HN2.out] at hrb
      obtain ⟨ga, oa, ka, he, _, _, _⟩ := Ch.RowA.some_of hra (by omega)
      obtain ⟨rfl, rfl⟩ : aa = some ⟨ga, oa, none⟩ ∧ ca = ka := by cases he; exact ⟨rfl, rfl⟩
      clear he
      obtain ⟨gb, ob, kb, he, _, _, _⟩ := Ch.RowA.some_of hrb (by omega)
      obtain ⟨rfl, rfl⟩ : ab = some ⟨gb, ob, none⟩ ∧ cb = kb := by cases he; exact ⟨rfl, rfl⟩
      clear he
      have hsb : Sat W wr (Rb ++ (Ra ++ M)) := hs.use (by intro x; simp only [cnt_append, cnt_cons, cnt_nil]; omega)
      have hc := fun f u (hu : (pcCells ⟨p0, p1, p2, p3⟩ pv)[f]? = some u) => (hra.cells hs rfl (i * 4 + f) (List.getElem?_eq_some_iff.1 (pcsC_get hp f u hu)).1).1.trans (pcsC_get hp f u hu)
      have hd := fun f u (hu : (pcCells ⟨p0, p1, p2, p3⟩ qv)[f]? = some u) => (hrb.cells hsb rfl (i * 4 + f) (List.getElem?_eq_some_iff.1 (pcsC_get hq f u hu)).1).1.trans (pcsC_get hq f u hu)
      have c0 : wr.cell? ⟨ga, oa + i * 4, none⟩ = some (.int .i64 p0) := hc 0 _ rfl
      have c1 : wr.cell? ⟨ga, oa + i * 4 + 1, none⟩ = some (.int .i64 p1) := by rw [Nat.add_assoc]; exact hc 1 _ rfl
      have c2 : wr.cell? ⟨ga, oa + i * 4 + 2, none⟩ = some (.int .i64 p2) := by rw [Nat.add_assoc]; exact hc 2 _ rfl
      have c3 : wr.cell? ⟨ga, oa + i * 4 + 3, none⟩ = some pv := by rw [Nat.add_assoc]; exact hc 3 _ rfl
      have d0 : wr.cell? ⟨gb, ob + i * 4, none⟩ = some (.int .i64 p0) := hd 0 _ rfl
      have d1 : wr.cell? ⟨gb, ob + i * 4 + 1, none⟩ = some (.int .i64 p1) := by rw [Nat.add_assoc]; exact hd 1 _ rfl
      have d2 : wr.cell? ⟨gb, ob + i * 4 + 2, none⟩ = some (.int .i64 p2) := by rw [Nat.add_assoc]; exact hd 2 _ rfl
      have d3 : wr.cell? ⟨gb, ob + i * 4 + 3, none⟩ = some qv := by rw [Nat.add_assoc]; exact hd 3 _ rfl
      have hl32 : p3.length < 1000000 := by have := hrp.2.2.2.2.2.2; simp only at this; omega
      have hsm := fun w (hs : Sat W w (Ra ++ (Rb ++ M))) => ref_same ⟨p0, p1, p2, p3⟩ ⟨p0, p1, p2, p3⟩ pv qv W w _ hs (fun y hy => hbp.reads hy (fun x hx => List.mem_append_right _ (List.mem_append_right _ (hB x hx)))) (fun y hy => hbq.reads hy (fun x hx => List.mem_append_right _ (List.mem_append_right _ (hC x hx)))) hl32 hl32
      try simp only at hbp hbq
      obtain ⟨pg, po, pc, hv1, _, _⟩ := hbp
      try simp only at hv1
      subst hv1
      obtain ⟨qg, qo, qc, hv2, _, _⟩ := hbq
      try simp only at hv2
      subst hv2
      rw [decide_eq_true (rfl : (⟨p0, p1, p2, p3⟩ : Pc) = ⟨p0, p1, p2, p3⟩)] at hsm
      unfold pcV at hsm
      simp only at hsm
      have HSM := Lib.hid hsm
      clear hsm hc hd hsb hp hq hrp hra hrb
      go_wp2_with fail
      refine wp_region_one [8] [] [] [] [0, 1, 2, 3, 4, 5, 6, 7, 8, 9] (by kernel_rfl) (by kernel_rfl) ?_
      repeat (first | (refine can_pu1 rfl rfl rfl rfl rfl rfl (fun K hK => ?_); go_big_quiet_op; refine hK _ ?_; clear hK K) | (refine can_st1 rfl rfl rfl rfl rfl rfl (fun K hK => ?_); go_big_quiet_op; refine hK _ ?_; clear hK K) | (refine can_early1 rfl rfl rfl rfl rfl (fun K hK => ?_); go_big_quiet_op; refine hK _ ?_; clear hK K) | (refine can_skip rfl rfl rfl ?_; simp only [Act.put, List.setIfInBounds_toArray, List.set_cons_zero, List.set_cons_succ]))
      refine can_act1 rfl rfl rfl (fun K hK => ?_)
      go_wp2_with fail
      refine (HSM.out _ hs.drew).mono ?_; rintro r2 w2 ⟨rfl, hs2⟩
      apply hK
      clear hK c0 c1 c2 c3 d0 d1 d2 d3 hs
      repeat (first | (refine can_pu1 rfl rfl rfl rfl rfl rfl (fun K hK => ?_); go_big_quiet_op; refine hK _ ?_; clear hK K) | (refine can_st1 rfl rfl rfl rfl rfl rfl (fun K hK => ?_); go_big_quiet_op; refine hK _ ?_; clear hK K) | (refine can_early1 rfl rfl rfl rfl rfl (fun K hK => ?_); go_big_quiet_op; refine hK _ ?_; clear hK K) | (refine can_skip rfl rfl rfl ?_; simp only [Act.put, List.setIfInBounds_toArray, List.set_cons_zero, List.set_cons_succ]))
      refine can_end1 ?_; (try simp only [Exit.then])
      go_wp2_with fail
      refine ⟨⟨i + 1, by simp, by omega, hs2⟩, ?_⟩
      simp [intOf]
      omega
    · have e : n = i := by omega
      subst e
      go_wp2_with fail
      go_ret
      exact ⟨rfl, hs⟩
end Go.Proofs.YtekbbpfnkbanjaaGreat.Ch

namespace Go.Proofs.YtekbbpfnkbanjaaGreat.Ch
set_option linter.unusedSimpArgs false
open Go Go.RowKit Go.Sl Go.BigFrame
set_option linter.unusedVariables false

structure Ps (q : Pt) (r : Rt) (i : Nat) : Prop where
  alike : Alike q r
  len : q.now.length = 96
  dlen : q.done.length = 96
  pend : q.pend.length ≤ i
  w0 : 0 ≤ q.writes
  w1 : q.writes ≤ i
  small : ∀ l ∈ q.now, l.length < 1000000
  dsmall : ∀ l ∈ q.done, l.length < 1000000
  pok : ∀ x ∈ q.pend, x.1 < 96 ∧ x.2.length < 1000000
theorem Ps.next {q : Pt} {r : Rt} {i : Nat} (h : Ps q r i) : Ps q r (i + 1) := ⟨h.alike, h.len, h.dlen, by have := h.pend; omega, h.w0, by have := h.w1; omega, h.small, h.dsmall, h.pok⟩
theorem Ps.fl {q : Pt} {r : Rt} {i : Nat} (h : Ps q r i) : Ps q.fl r.fl i := ⟨h.alike.fl, h.len, h.len, Nat.zero_le _, h.w0, h.w1, h.small, h.small, fun x hx => by simp [Pt.fl] at hx⟩
theorem crashTo_small {keep : List Int} {d : List (List UInt8)} {pend : List (Nat × List UInt8)} (hd : ∀ l ∈ d, l.length < 1000000) (hp : ∀ x ∈ pend, x.2.length < 1000000) : ∀ k, ∀ l ∈ crashTo keep d pend k, l.length < 1000000
  | 0, l, h => hd l h
  | k + 1, l, h => by
    unfold crashTo at h
    split at h
    · rename_i x hx
      split at h
      · rcases List.mem_or_eq_of_mem_set h with h | h
        · exact crashTo_small hd hp k l h
        · rw [h]; exact hp x (List.mem_of_getElem? hx)
      · exact crashTo_small hd hp k l h
    · exact crashTo_small hd hp k l h
theorem Ps.crash {q : Pt} {r : Rt} {i : Nat} (h : Ps q r i) (keep : List Int) : Ps (q.crash keep) (r.crash keep) i := by
  have hs := crashTo_small (keep := keep) h.dsmall (fun x hx => (h.pok x hx).2) q.pend.length
  have hl : (crashTo keep q.done q.pend q.pend.length).length = 96 := by rw [crashTo_length, h.dlen]
  exact ⟨h.alike.crash keep, hl, hl, Nat.zero_le _, h.w0, h.w1, hs, hs, fun x hx => by simp [Pt.crash] at hx⟩
theorem Ps.wr {q : Pt} {r : Rt} {i : Nat} (h : Ps q r i) (k : Nat) (l : List UInt8) (hk : k < 96) (hl : l.length < 1000000) : Ps (q.wr k l) (r.wr k l) (i + 1) := by
  refine ⟨h.alike.wr k l, ?_, h.dlen, ?_, ?_, ?_, now_small h.small hl, h.dsmall, fun x hx => ?_⟩
  · show (q.now.set k l).length = 96
    rw [List.length_set, h.len]
  · show (q.pend ++ [(k, l)]).length ≤ i + 1
    have := h.pend
    simp
    omega
  · show 0 ≤ q.writes + 1
    have := h.w0
    omega
  · show q.writes + 1 ≤ ((i + 1 : Nat) : Int)
    have := h.w1
    omega
  · have hx : x ∈ q.pend ++ [(k, l)] := hx
    rcases List.mem_append.1 hx with hx | hx
    · exact h.pok x hx
    · rw [List.mem_singleton] at hx
      rw [hx]
      exact ⟨hk, hl⟩
theorem Ps.start : Ps ⟨List.replicate 96 zero160, List.replicate 96 zero160, [], 0⟩ ⟨List.replicate 96 zero160, [], 0⟩ 0 := by
  have hz : ∀ l ∈ List.replicate 96 zero160, l.length < 1000000 := fun l hl => by
    rw [(List.mem_replicate.1 hl).2]
    simp [zero160]
  exact ⟨Alike.start 96, List.length_replicate, List.length_replicate, Nat.le_refl _, by decide, by decide, hz, hz, fun x hx => by simp at hx⟩

theorem piece0_right (s g i seed : Int) : rightP (handPiece s g i seed 0) := by
  have e : handPick 0 24 = 0 := by decide
  have e2 : handPiece s g i seed 0 = ⟨handPick s 40, 1 + handPick g 9, handPick i 6, bytesOf seed 32⟩ := by
    simp only [handPiece, e]
    rfl
  rw [e2]
  obtain ⟨h0, h1⟩ := handPick_bounds s 40 (by omega)
  obtain ⟨g0, g1⟩ := handPick_bounds g 9 (by omega)
  obtain ⟨i0, i1⟩ := handPick_bounds i 6 (by omega)
  exact ⟨h0, h1, by show (1 : Int) ≤ 1 + _; omega, by show 1 + _ ≤ (1099511627776 : Int); omega, i0, i1, bytesOf_length _ _⟩

noncomputable def getZ (q : Pt) (s : Int) : List Pc := if s < 0 then [] else getL q s
theorem get_all (b : Nat) (q : Pt) (A : List Atom) (s : Int) (W w : World) (L : List Atom) (hq : PtA b q A) (hs : Sat W w (A ++ L)) (h1 : s < 40) (h80 : 80 ≤ q.now.length) (hl : ∀ l ∈ q.now, l.length < 1000000) :
    Calls Tryz.prog 52 #[.pointer (some ⟨b, 0, none⟩), .int .i64 s] w fun e w' => ∃ v xs R B, e = .returned v ∧ RowA 72 4 v xs.length (pcsC xs) R ∧ xs.map Prod.fst = getZ q s ∧ PcBl B xs ∧ Sat W w' (R ++ (B ++ (A ++ L))) := by
  by_cases h0 : s < 0
  · refine (get_none _ s w (.inr ⟨⟨b, rfl⟩, .inl h0⟩)).mono ?_
    rintro r w2 ⟨rfl, rfl⟩
    exact ⟨_, [], [], [], rfl, RowA.nil _ _, by unfold getZ; rw [if_pos h0]; rfl, (fun x hx => by simp at hx), hs⟩
  · unfold getZ
    rw [if_neg h0]
    exact get_any b q A s W w L hq hs (by omega) h1 h80 hl
theorem pieces_all (b : Nat) (q : Pt) (r : Rt) (A : List Atom) (s : Int) (W w : World) (L : List Atom) (hq : RtA b r A) (ha : Alike q r) (hs : Sat W w (A ++ L)) (h1 : s < 40) (h80 : 80 ≤ q.now.length) (hl : ∀ l ∈ q.now, l.length < 1000000) (hpl : r.pend.length < 900000) :
    Calls Tryz.prog 33 #[.pointer (some ⟨b, 0, none⟩), .int .i64 s] w fun e w' => ∃ v xs R B, e = .returned v ∧ RowA 72 4 v xs.length (pcsC xs) R ∧ xs.map Prod.fst = getZ q s ∧ PcBl B xs ∧ Sat W w' (R ++ (B ++ (A ++ L))) := by
  by_cases h0 : s < 0
  · refine (ref_pieces_none b s w (.inl h0)).mono ?_
    rintro r w2 ⟨rfl, rfl⟩
    exact ⟨_, [], [], [], rfl, RowA.nil _ _, by unfold getZ; rw [if_pos h0]; rfl, (fun x hx => by simp at hx), hs⟩
  · unfold getZ
    rw [if_neg h0]
    exact ref_pieces b q r A s W w L hq ha hs (by omega) h1 h80 hl hpl
theorem getZ_len (q : Pt) (s : Int) : (getZ q s).length ≤ 2 := by
  unfold getZ
  split
  · exact Nat.zero_le _
  · unfold getL
    rw [srt_length]
    exact getN_len q s 2

/-- The acts that came in, whole. -/
def Acts8 (y : World) (a : Option Addr) (xs : List ActR) : Prop := ∀ (j : Nat) (x : ActR), xs[j]? = some x → ∃ b o ka kn kc ra rn rc, a = some ⟨b, o, none⟩ ∧
  y.cell? ⟨b, o + j * 8, none⟩ = some (.int .i64 x.what) ∧ y.cell? ⟨b, o + j * 8 + 1, none⟩ = some (.int .i64 x.stripe) ∧ y.cell? ⟨b, o + j * 8 + 2, none⟩ = some (.int .i64 x.gen) ∧
  y.cell? ⟨b, o + j * 8 + 3, none⟩ = some (.int .i64 x.index) ∧ y.cell? ⟨b, o + j * 8 + 4, none⟩ = some (.int .i64 x.seed) ∧ y.cell? ⟨b, o + j * 8 + 5, none⟩ = some (.int .i64 x.bend) ∧
  (-9223372036854775808 ≤ x.bend ∧ x.bend < 9223372036854775808) ∧ y.cell? ⟨b, o + j * 8 + 6, none⟩ = some (.slice ka kn kc) ∧ y.cell? ⟨b, o + j * 8 + 7, none⟩ = some (.slice ra rn rc) ∧
  Reads y (.slice ka kn kc) x.keep.length (intsC x.keep) ∧ x.keep.length ≤ maxLen
theorem Acts8.below {W y : World} {a : Option Addr} {xs : List ActR} (h : Acts8 W a xs) (hy : Below W.heap.size W y) : Acts8 y a xs := fun j x hj => by
  have key : ∀ {p : Addr} {v : Value}, W.cell? p = some v → y.cell? p = some v := fun {p v} hc => by
    rw [hy.cell (World.block_lt_of_cell? _ _ hc), hc]
  obtain ⟨b, o, ka, kn, kc, ra, rn, rc, ha, h0, h1, h2, h3, h4, h5, hb, h6, h7, h8, h9⟩ := h j x hj
  exact ⟨b, o, ka, kn, kc, ra, rn, rc, ha, key h0, key h1, key h2, key h3, key h4, key h5, hb, key h6, key h7, reads_below h8 hy, h9⟩
end Go.Proofs.YtekbbpfnkbanjaaGreat.Ch
