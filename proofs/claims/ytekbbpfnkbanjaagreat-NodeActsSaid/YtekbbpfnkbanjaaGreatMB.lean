
/-
  chunk.Right, Place.
  chunk.Lay.
  chunk.Read.
  chunk.Same.
  Rows of blocks; appends at any type; slices.Clone of blocks; platter.blank.
  The platter: New, Blocks, Read, Write, Flush.
  The platter: Read, Write, Flush.
  The platter: Flush; slices.Contains at ints.
  The platter: Crash.
-/
import Derived.Test.YtekbbpfnkbanjaaGreatMA
import Derived.Test.YtekbbpfnkbanjaaGreatMS
namespace Go.Proofs.YtekbbpfnkbanjaaGreat.Ch
set_option linter.unusedSimpArgs false
open Go Go.RowKit Go.Sl Go.BigFrame
set_option linter.unusedVariables false

/-- A piece. -/
structure Pc where
  stripe : Int
  gen : Int
  index : Int
  data : List UInt8
def pcV (p : Pc) (v : Value) : Value := .agg #[.int .i64 p.stripe, .int .i64 p.gen, .int .i64 p.index, v]
def pcCells (p : Pc) (v : Value) : List Value := [.int .i64 p.stripe, .int .i64 p.gen, .int .i64 p.index, v]
def pc0 : Pc := ⟨0, 0, 0, []⟩

/-- chunk.Right. -/
def rightP (p : Pc) : Prop := 0 ≤ p.stripe ∧ p.stripe < 40 ∧ 1 ≤ p.gen ∧ p.gen ≤ 1099511627776 ∧ 0 ≤ p.index ∧ p.index < 6 ∧ p.data.length = 32
noncomputable instance : DecidablePred rightP := fun p => Classical.propDecidable _

set_option maxRecDepth 100000 in
theorem right_any (p : Pc) (a : Option Addr) (c : Nat) (w : World) :
    Calls Tryz.prog 93 #[pcV p (.slice a p.data.length c)] w fun e w' => e = .returned (.bool (decide (rightP p))) ∧ Ext w w' := by
  obtain ⟨s, g, i, d⟩ := p
  unfold pcV
  simp only []
  by_cases hr : rightP ⟨s, g, i, d⟩
  · rw [decide_eq_true hr]
    obtain ⟨h1, h2, h3, h4, h5, h6, h7⟩ := hr
    simp only at h1 h2 h3 h4 h5 h6 h7
    rw [h7]
    go_enter Tryz.func93, Tryz.ntmps93
    go_wp2_with fail
    go_ret
    refine ⟨?_, ?_⟩
    · rfl
    · exact Ext.alloc _ _
  · rw [decide_eq_false hr]
    have HR := Lib.hid hr
    clear hr
    by_cases h1 : 0 ≤ s
    case neg =>
      go_enter Tryz.func93, Tryz.ntmps93
      go_wp2_with fail
      go_ret
      refine ⟨?_, ?_⟩
      · rfl
      · exact Ext.alloc _ _
    by_cases h2 : s < 40
    case neg =>
      go_enter Tryz.func93, Tryz.ntmps93
      go_wp2_with fail
      go_ret
      refine ⟨?_, ?_⟩
      · rfl
      · exact Ext.alloc _ _
    by_cases h3 : 1 ≤ g
    case neg =>
      go_enter Tryz.func93, Tryz.ntmps93
      go_wp2_with fail
      go_ret
      refine ⟨?_, ?_⟩
      · rfl
      · exact Ext.alloc _ _
    by_cases h4 : g ≤ 1099511627776
    case neg =>
      go_enter Tryz.func93, Tryz.ntmps93
      go_wp2_with fail
      go_ret
      refine ⟨?_, ?_⟩
      · rfl
      · exact Ext.alloc _ _
    by_cases h5 : 0 ≤ i
    case neg =>
      go_enter Tryz.func93, Tryz.ntmps93
      go_wp2_with fail
      go_ret
      refine ⟨?_, ?_⟩
      · rfl
      · exact Ext.alloc _ _
    by_cases h6 : i < 6
    case neg =>
      go_enter Tryz.func93, Tryz.ntmps93
      go_wp2_with fail
      go_ret
      refine ⟨?_, ?_⟩
      · rfl
      · exact Ext.alloc _ _
    have h7 : ¬ (d.length : Int) = 32 := fun h => HR.out ⟨h1, h2, h3, h4, h5, h6, by simpa using (by omega : d.length = 32)⟩
    have h8 : ((d.length : Int) == 32) = false := by simpa using h7
    go_enter Tryz.func93, Tryz.ntmps93
    go_wp2_with fail
    go_ret
    refine ⟨?_, ?_⟩
    · rfl
    · exact Ext.alloc _ _

/-- chunk.Place. -/
def placeI (s g : Int) : Int := 2 * s + g % 2
theorem and_one (g : Int) : bits .and .i64 g 1 = g % 2 := by
  show IntKind.i64.wrap ((BitVec.ofInt 64 g &&& BitVec.ofInt 64 1).toNat : Int) = _
  have h1 : (BitVec.ofInt 64 1).toNat = 1 := by decide
  have h2 : ((BitVec.ofInt 64 g).toNat : Int) = g % 18446744073709551616 := by
    rw [BitVec.toNat_ofInt]
    have := Int.emod_nonneg g (show (18446744073709551616 : Int) ≠ 0 by decide)
    rw [show ((2 ^ 64 : Nat) : Int) = 18446744073709551616 from rfl]
    omega
  rw [BitVec.toNat_and, h1, Nat.and_one_is_mod]
  have h3 : (((BitVec.ofInt 64 g).toNat % 2 : Nat) : Int) = g % 2 := by omega
  rw [h3]
  have b1 : 0 ≤ g % 2 := Int.emod_nonneg _ (by decide)
  have b2 : g % 2 < 2 := Int.emod_lt_of_pos _ (by decide)
  exact IntWalk.i64_in _ (by omega)
theorem place_any (s g : Int) (w : World) (h0 : 0 ≤ s) (h1 : s < 1000) :
    Calls Tryz.prog 70 #[.int .i64 s, .int .i64 g] w fun e w' => e = .returned (.int .i64 (placeI s g)) ∧ w = w' := by
  have b1 : 0 ≤ g % 2 := Int.emod_nonneg _ (by decide)
  have b2 : g % 2 < 2 := Int.emod_lt_of_pos _ (by decide)
  have ha := and_one g
  unfold placeI
  generalize g % 2 = y at *
  go_enter Tryz.func70, Tryz.ntmps70
  go_wp2_with fail
  go_ret
  exact ⟨rfl, rfl⟩
end Go.Proofs.YtekbbpfnkbanjaaGreat.Ch

namespace Go.Proofs.YtekbbpfnkbanjaaGreat.Ch
set_option linter.unusedSimpArgs false
open Go Go.RowKit Go.Sl Go.BigFrame
set_option linter.unusedVariables false

/-- A piece's bytes; its block. -/
def pieceB (p : Pc) : List UInt8 := [bytesB p.stripe 1, bytesB p.gen 6, bytesB p.index 1, p.data].flatten
def layB (p : Pc) : List UInt8 := sealB 1 (pieceB p)
theorem pieceB_length (p : Pc) : (pieceB p).length = 8 + p.data.length := by
  simp [pieceB, bytesB_length]; omega
theorem layB_length (p : Pc) (h : p.data.length = 32) : (layB p).length = 160 := sealB_length _ _ (by rw [pieceB_length]; omega)
theorem reads_cells {W w : World} {L : List Atom} {b : Nat} {cs : Array Value} {T : TypeId} (hs : Sat W w L) (hm : cellsA b cs T ∈ L) (n c : Nat) (xs : List Value) (h : cs.toList = xs) : Reads w (.slice (some ⟨b, 0, none⟩) n c) n xs := by
  refine .inr ⟨_, _, rfl, fun j u hu => ?_⟩
  rw [add_row, hs.cell hm, ← h] at *
  simpa using hu

theorem lay_bad (p : Pc) (a : Option Addr) (c : Nat) (W w : World) (L : List Atom) (hs : Sat W w L) (hp : ¬ rightP p) :
    Calls Tryz.prog 74 #[pcV p (.slice a p.data.length c)] w fun e w' => e = .returned (.tuple #[.slice none 0 0, .int .i64 1]) ∧ Sat W w' L := by
  obtain ⟨s, g, i, d⟩ := p
  unfold pcV
  simp only []
  have hr := right_any ⟨s, g, i, d⟩ a c
  rw [decide_eq_false hp] at hr
  unfold pcV at hr
  simp only at hr
  have HR := Lib.hid hr
  clear hr
  go_enter Tryz.func74, Tryz.ntmps74
  go_wp2_with fail
  refine (HR.out _).mono ?_; rintro r w2 ⟨rfl, hx⟩
  have hs2 : Sat W w2 L := (hs.alloc _).below hx
  go_wp2_with fail
  go_ret2
  exact ⟨rfl, hs2⟩

set_option maxRecDepth 100000 in
set_option maxHeartbeats 4000000 in
theorem lay_any (p : Pc) (a : Option Addr) (c : Nat) (W w : World) (L : List Atom) (hs : Sat W w L) (hin : ∀ y, Sat W y L → Reads y (.slice a p.data.length c) p.data.length (bts p.data)) (hp : rightP p) :
    Calls Tryz.prog 74 #[pcV p (.slice a p.data.length c)] w fun e w' => ∃ bv R, e = .returned (.tuple #[bv, .int .i64 0]) ∧ RowA 5 1 bv (layB p).length (bts (layB p)) R ∧ Sat W w' (R ++ L) := by
  obtain ⟨s, g, i, d⟩ := p
  have hr := right_any ⟨s, g, i, d⟩ a c
  rw [decide_eq_true hp] at hr
  have hpl := pieceB_length ⟨s, g, i, d⟩
  obtain ⟨h1, h2, h3, h4, h5, h6, h7⟩ := hp
  obtain ⟨B, hB⟩ : ∃ B, B = layB ⟨s, g, i, d⟩ := ⟨_, rfl⟩
  have HB := Lib.hid hB
  rw [← hB]
  clear hB
  have HPL := Lib.hid hpl
  have H7 := Lib.hid h7
  clear hpl h7
  unfold pcV at *
  simp only at *
  have HR := Lib.hid hr
  have HIN := Lib.hid hin
  clear hr hin
  go_enter Tryz.func74, Tryz.ntmps74
  go_wp2_with fail
  refine (HR.out _).mono ?_; rintro r w2 ⟨rfl, hx⟩
  have hs2 : Sat W w2 (cellsA w.heap.size #[.int .i64 s, .int .i64 g, .int .i64 i, .slice a d.length c] 72 :: L) := (hs.newCells _ _).below hx
  obtain ⟨L1, hL1⟩ : ∃ L1, L1 = cellsA w.heap.size #[.int .i64 s, .int .i64 g, .int .i64 i, .slice a d.length c] 72 :: L := ⟨_, rfl⟩
  have HL1 := Lib.hid hL1
  have hm1 : cellsA w.heap.size #[.int .i64 s, .int .i64 g, .int .i64 i, .slice a d.length c] 72 ∈ L1 := by rw [hL1]; exact m0
  rw [← hL1] at hs2
  clear hL1 hs hx
  have c0 : ∀ y : Of W L1, y.v.cell? ⟨w.heap.size, 0, none⟩ = some (.int .i64 s) := fun y => y.s.cell hm1 0
  have c1 : ∀ y : Of W L1, y.v.cell? ⟨w.heap.size, 1, none⟩ = some (.int .i64 g) := fun y => y.s.cell hm1 1
  have c2 : ∀ y : Of W L1, y.v.cell? ⟨w.heap.size, 2, none⟩ = some (.int .i64 i) := fun y => y.s.cell hm1 2
  have c3 : ∀ y : Of W L1, y.v.cell? ⟨w.heap.size, 3, none⟩ = some (.slice a d.length c) := fun y => y.s.cell hm1 3
  have d0 : w2.cell? ⟨w.heap.size, 0, none⟩ = some (.int .i64 s) := c0 ⟨_, hs2⟩
  generalize w.heap.size = z at *
  go_wp2_with fail
  refine wp_region_held1 [2, 5, 8, 11, 12, 13] [3, 4, 6, 7, 9, 10] [3, 6, 9] [2, 5, 8] [0, 1, 3, 4, 6, 7, 9, 10, 2, 5, 8, 11, 12, 13, 14, 15, 16, 17] (Held W L1) (by kernel_rfl) (by kernel_rfl) ?_ ?_
  · exact Held.mk hs2.drew
  have hne : Nonempty (Of W L1) := ⟨⟨_, hs2⟩⟩
  have hs3 : Sat W w2.drew L1 := hs2.drew
  clear hs2
  repeat (first | (refine can_pu1 rfl rfl rfl rfl rfl rfl (fun K hK => ?_); go_big_quiet_op; refine hK _ ?_; clear hK K) | (refine can_st1 rfl rfl rfl rfl rfl rfl (fun K hK => ?_); go_big_quiet_op; refine hK _ ?_; clear hK K) | (refine can_early1 rfl rfl rfl rfl rfl (fun K hK => ?_); go_big_quiet_op; refine hK _ ?_; clear hK K) | (refine can_skip rfl rfl rfl ?_; simp only [Act.put, List.setIfInBounds_toArray, List.set_cons_zero, List.set_cons_succ]))
  clear c0 c1 c2 c3 d0 hne
  refine can_actS rfl rfl rfl rfl (fun K hK => ?_)
  go_wp2_with fail
  refine (bytes_any s 1 W _ _ (by omega) (by omega) (by omega) hs3).mono ?_; rintro r w4 ⟨v1, R1, rfl, hr1, hs4⟩
  apply hK
  refine ⟨Held.mk hs4.right, ?_⟩
  clear hK hs3
  obtain ⟨a1, k1, rfl⟩ := Ch.RowA.slice hr1
  refine can_actS rfl rfl rfl rfl (fun K hK => ?_)
  go_wp2_with fail
  refine (bytes_any g 6 W _ _ (by omega) (by omega) (by omega) hs4).mono ?_; rintro r w5 ⟨v2, R2, rfl, hr2, hs5⟩
  apply hK
  refine ⟨Held.mk hs5.right.right, ?_⟩
  clear hK hs4
  obtain ⟨a2, k2, rfl⟩ := Ch.RowA.slice hr2
  refine can_actS rfl rfl rfl rfl (fun K hK => ?_)
  go_wp2_with fail
  refine (bytes_any i 1 W _ _ (by omega) (by omega) (by omega) hs5).mono ?_; rintro r w6 ⟨v3, R3, rfl, hr3, hs6⟩
  apply hK
  refine ⟨Held.mk hs6.right.right.right, ?_⟩
  clear hK hs5
  obtain ⟨a3, k3, rfl⟩ := Ch.RowA.slice hr3
  refine can_actF rfl rfl rfl rfl (fun K hK => ?_)
  go_wp2_with fail
  refine can_actF rfl rfl rfl rfl (fun K hK => ?_)
  go_wp2_with fail
  have hs7 := hs6.newCells #[.slice a1 (bytesB s 1).length k1, .slice a2 (bytesB g 6).length k2, .slice a3 (bytesB i 1).length k3, .slice a d.length c] 35
  refine (concat_any W _ _ _ [.slice a1 (bytesB s 1).length k1, .slice a2 (bytesB g 6).length k2, .slice a3 (bytesB i 1).length k3, .slice a d.length c] [bytesB s 1, bytesB g 6, bytesB i 1, d] hs7 (fun y hy => reads_cells hy m0 _ _ _ rfl) (fun y hy => ?_) ?_ (by simp)).mono ?_
  · have hy2 := hy.tail
    exact ⟨hr1.reads hy2.right.right, hr2.reads hy2.right, hr3.reads hy2, HIN.out y (by have := hy2.right.right.right; rw [HL1.out] at this; exact this.tail), trivial⟩
  · have := HPL.out
    have e : pieceB ⟨s, g, i, d⟩ = [bytesB s 1, bytesB g 6, bytesB i 1, d].flatten := rfl
    rw [← e, this]
    have := H7.out
    omega
  rintro r w7 ⟨v4, R4, rfl, hr4, hs8⟩
  have hE : B = sealB 1 ([bytesB s 1, bytesB g 6, bytesB i 1, d].flatten) := HB.out
  have HE := Lib.hid hE
  clear hE
  have hlen : ([bytesB s 1, bytesB g 6, bytesB i 1, d].flatten).length ≤ 153 := by
    have := HPL.out
    have e : pieceB ⟨s, g, i, d⟩ = [bytesB s 1, bytesB g 6, bytesB i 1, d].flatten := rfl
    rw [← e, this]
    have := H7.out
    omega
  generalize [bytesB s 1, bytesB g 6, bytesB i 1, d].flatten = M at *
  clear hs7 hs6
  go_wp2_with fail
  refine can_actF rfl rfl rfl rfl (fun K hK => ?_)
  go_wp2_with fail
  refine (seal_any 1 v4 M W _ _ (by omega) (by omega) hlen (hr4.reads hs8) hs8).mono ?_
  rintro r w8 ⟨v5, R5, rfl, hr5, hs9⟩
  rw [← HE.out] at hr5
  clear hlen
  go_wp2_with fail
  repeat (first | (refine can_pu1 rfl rfl rfl rfl rfl rfl (fun K hK => ?_); go_big_quiet_op; refine hK _ ?_; clear hK K) | (refine can_st1 rfl rfl rfl rfl rfl rfl (fun K hK => ?_); go_big_quiet_op; refine hK _ ?_; clear hK K) | (refine can_early1 rfl rfl rfl rfl rfl (fun K hK => ?_); go_big_quiet_op; refine hK _ ?_; clear hK K) | (refine can_skip rfl rfl rfl ?_; simp only [Act.put, List.setIfInBounds_toArray, List.set_cons_zero, List.set_cons_succ]))
  refine can_end1 ?_; (try simp only [Exit.then])
  go_wp2_with fail
  go_ret2
  refine ⟨v5, R5, rfl, hr5, ?_⟩
  rw [HL1.out] at hs9
  exact hs9.use (by intro x; simp only [cnt_append, cnt_cons, cnt_nil]; omega)
end Go.Proofs.YtekbbpfnkbanjaaGreat.Ch

namespace Go.Proofs.YtekbbpfnkbanjaaGreat.Ch
set_option linter.unusedSimpArgs false
open Go Go.RowKit Go.Sl Go.BigFrame
set_option linter.unusedVariables false

/-- chunk.Read: the piece of a block, if it is one. -/
def pieceOf (b : List UInt8) : Pc := ⟨(b.getD 0 0).toNat, numB ((b.drop 1).take 6), (b.getD 7 0).toNat, b.drop 8⟩
noncomputable def readB (b : List UInt8) : Option Pc :=
  if (openB b).2.2 = 0 ∧ (openB b).1 = 1 ∧ (openB b).2.1.length = 40 then
    if rightP (pieceOf (openB b).2.1) then some (pieceOf (openB b).2.1) else none
  else none
noncomputable def readP (b : List UInt8) : Pc := (readB b).getD pc0

theorem add_off (g o i : Nat) (sp : Option Nat) (hi : 0 < i) (j : Nat) : (⟨g, o + i, none⟩ : Addr).add j = (⟨g, o, sp⟩ : Addr).add (i + j) := by
  rw [add_row]
  unfold Addr.add
  rw [if_neg (by omega), Nat.add_assoc]
set_option maxRecDepth 100000 in
set_option maxHeartbeats 4000000 in
theorem read_any (W w : World) (L : List Atom) (v : Value) (b : List UInt8) (hs : Sat W w L) (hin : ∀ y, Sat W y L → Reads y v b.length (bts b)) (hl : b.length < 1000000) (hcap : ∀ a n c, v = .slice a n c → n ≤ c) :
    Calls Tryz.prog 71 #[v] w fun r w' => ∃ bv R, r = .returned (.tuple #[pcV (readP b) bv, .bool (readB b).isSome]) ∧ RowA 5 1 bv (readP b).data.length (bts (readP b).data) R ∧ Sat W w' (R ++ L) := by
  obtain ⟨av, nv, cv, rfl⟩ : ∃ a n c, v = .slice a n c := by
    obtain ⟨a, c, h⟩ := reads_shape (hin w hs)
    exact ⟨_, _, _, h⟩
  have HIN := Lib.hid hin
  have HCAP := Lib.hid hcap
  clear hin hcap
  obtain ⟨p, hp⟩ : ∃ p, p = readP b := ⟨_, rfl⟩
  obtain ⟨is, hi⟩ : ∃ is, is = (readB b).isSome := ⟨_, rfl⟩
  rw [← hp, ← hi]
  have hrb : ∃ q, readB b = q ∧ p = q.getD pc0 ∧ is = q.isSome := ⟨_, rfl, hp, hi⟩
  clear hp hi
  obtain ⟨q, hq, hp, hi⟩ := hrb
  unfold readB at hq
  go_enter Tryz.func71, Tryz.ntmps71
  go_wp2_with fail
  refine (open_any W _ _ _ b (hs.newCells #[.int .i64 0, .int .i64 0, .int .i64 0, .slice none 0 0] 72) (fun y hy => HIN.out y hy.tail) hl HCAP.out).mono ?_
  rintro r w2 ⟨bv, R, rfl, hbr, hs2⟩
  generalize openB b = ob at *
  obtain ⟨k, body, e⟩ := ob
  simp only at hq hbr ⊢
  have HQ := Lib.hid hq
  have HP := Lib.hid hp
  have HI := Lib.hid hi
  clear hs hq hp hi
  obtain ⟨ab, cb, rfl⟩ := Ch.RowA.slice hbr
  generalize w.heap.size = z at *
  have hs2' : Sat W w2 (cellsA z #[.int .i64 0, .int .i64 0, .int .i64 0, .slice none 0 0] 72 :: (R ++ L)) := hs2.use (by intro x; simp only [cnt_append, cnt_cons, cnt_nil]; omega)
  have z0 : w2.cell? ⟨z, 0, none⟩ = some (.int .i64 0) := hs2'.cell m0 0
  have z1 : w2.cell? ⟨z, 1, none⟩ = some (.int .i64 0) := hs2'.cell m0 1
  have z2 : w2.cell? ⟨z, 2, none⟩ = some (.int .i64 0) := hs2'.cell m0 2
  have z3 : w2.cell? ⟨z, 3, none⟩ = some (.slice none 0 0) := hs2'.cell m0 3
  have f0 : w2.frozen? ⟨z, 0, none⟩ = false := hs2'.free m0 0
  have f1 : w2.frozen? ⟨z, 1, none⟩ = false := hs2'.free m0 1
  have f2 : w2.frozen? ⟨z, 2, none⟩ = false := hs2'.free m0 2
  have f3 : w2.frozen? ⟨z, 3, none⟩ = false := hs2'.free m0 3
  clear hs2
  by_cases he : e = 0
  case neg =>
    have hn : q = none := by rw [← HQ.out, if_neg (fun h => he h.1)]
    have q0 : (e != 0) = true := by simpa using he
    have HN := Lib.hid hn
    clear hn he
    go_wp2_with fail
    have hz3 := Sat.setCell (Sat.setCell (Sat.setCell (Sat.setCell hs2' 0 (.int .i64 0)) 1 (.int .i64 0)) 2 (.int .i64 0)) 3 (.slice none 0 0)
    refine bodyPost_ret (v := .tuple #[pcV pc0 (.slice none 0 0), .bool false]) (by simp [results, Tryz.results71, go_sem, pcV, pc0, *]) rfl ?_
    rw [HP.out, HI.out, HN.out]
    first
      | exact ⟨_, _, rfl, RowA.nil _ _, hz3.tail.right⟩
      | exact ⟨_, rfl, _, RowA.nil _ _, hz3.tail.right⟩
  case pos =>
  subst he
  by_cases hk : k = 1
  case neg =>
    have hn : q = none := by rw [← HQ.out, if_neg (fun h => hk h.2.1)]
    have q0 : (k != 1) = true := by simpa using hk
    have HN := Lib.hid hn
    clear hn hk
    go_wp2_with fail
    have hz3 := Sat.setCell (Sat.setCell (Sat.setCell (Sat.setCell hs2' 0 (.int .i64 0)) 1 (.int .i64 0)) 2 (.int .i64 0)) 3 (.slice none 0 0)
    refine bodyPost_ret (v := .tuple #[pcV pc0 (.slice none 0 0), .bool false]) (by simp [results, Tryz.results71, go_sem, pcV, pc0, *]) rfl ?_
    rw [HP.out, HI.out, HN.out]
    first
      | exact ⟨_, _, rfl, RowA.nil _ _, hz3.tail.right⟩
      | exact ⟨_, rfl, _, RowA.nil _ _, hz3.tail.right⟩
  case pos =>
  subst hk
  by_cases hlen : body.length = 40
  case neg =>
    have hn : q = none := by rw [← HQ.out, if_neg (fun h => hlen h.2.2)]
    have q0 : ((body.length : Int) != 40) = true := by simp; omega
    have HN := Lib.hid hn
    clear hn hlen
    go_wp2_with fail
    have hz3 := Sat.setCell (Sat.setCell (Sat.setCell (Sat.setCell hs2' 0 (.int .i64 0)) 1 (.int .i64 0)) 2 (.int .i64 0)) 3 (.slice none 0 0)
    refine bodyPost_ret (v := .tuple #[pcV pc0 (.slice none 0 0), .bool false]) (by simp [results, Tryz.results71, go_sem, pcV, pc0, *]) rfl ?_
    rw [HP.out, HI.out, HN.out]
    first
      | exact ⟨_, _, rfl, RowA.nil _ _, hz3.tail.right⟩
      | exact ⟨_, rfl, _, RowA.nil _ _, hz3.tail.right⟩
  case pos =>
  have hq2 : q = if rightP (pieceOf body) then some (pieceOf body) else none := by rw [← HQ.out, if_pos ⟨rfl, rfl, hlen⟩]
  have HQ2 := Lib.hid hq2
  clear hq2 HQ
  rcases hbr.2 with ⟨h1, h2, _⟩ | ⟨g, off, cap, h1, hc1, hc2, hR⟩
  · omega
  obtain ⟨rfl, rfl⟩ : ab = some ⟨g, off, none⟩ ∧ cap = cb := by
    cases h1
    exact ⟨rfl, rfl⟩
  obtain ⟨LL, hLL⟩ : ∃ LL, LL = cellsA z #[.int .i64 0, .int .i64 0, .int .i64 0, .slice none 0 0] 72 :: (R ++ L) := ⟨_, rfl⟩
  have hcell : ∀ y, Sat W y LL → ∀ k u, body[k]? = some u → y.cell? ((⟨g, off, none⟩ : Addr).add k) = some (.int .u8 (u.toNat : Int)) := fun y hy k u hu => by
    rw [hLL] at hy
    rw [add_row, (hbr.cells hy.tail rfl k (by rw [bts_length]; exact (List.getElem?_eq_some_iff.1 hu).1)).1]
    exact bts_get hu
  rw [← hLL] at hs2'
  clear h1
  obtain ⟨u0, hu0⟩ : ∃ c, body[0]? = some c := ⟨_, List.getElem?_eq_getElem (by omega)⟩
  obtain ⟨u7, hu7⟩ : ∃ c, body[7]? = some c := ⟨_, List.getElem?_eq_getElem (by omega)⟩
  have e0 : ∀ y : Of W LL, y.v.cell? ⟨g, off, none⟩ = some (.int .u8 (u0.toNat : Int)) := fun y => hcell y.v y.s 0 _ hu0
  have e7 : ∀ y : Of W LL, y.v.cell? ⟨g, off + 7, none⟩ = some (.int .u8 (u7.toNat : Int)) := fun y => hcell y.v y.s 7 _ hu7
  have v0 := u8_lt u0
  have v7 := u8_lt u7
  have x0 : (0 : Int) ≤ u0.toNat := by omega
  have x7 : (0 : Int) ≤ u7.toNat := by omega
  have hcp : (40 : Int) ≤ cap := by omega
  have hcp2 : (7 : Int) ≤ cap := by omega
  have hpo : pieceOf body = ⟨u0.toNat, numB ((body.drop 1).take 6), u7.toNat, (body.drop 8).take 32⟩ := by
    unfold pieceOf
    have e8 : (body.drop 8).take 32 = body.drop 8 := List.take_of_length_le (by simp; omega)
    rw [getD_of hu0, getD_of hu7, e8]
  have HLL := Lib.hid hLL
  have HLEN := Lib.hid hlen
  have hl1 : ((body.drop 1).take 6).length ≤ 6 := by simp; omega
  have hl3 : ((body.drop 8).take 32).length = 32 := by simp; omega
  have hnum : ∀ y, Sat W y LL → ∀ c', Reads y (.slice (some ⟨g, off + 1, none⟩) 6 c') ((body.drop 1).take 6).length (bts ((body.drop 1).take 6)) := fun y hy c' => reads_sub (hcell y hy) 1 6 c' (by omega) (add_off g off 1 none (by omega))
  have hdat : ∀ y, Sat W y LL → ∀ c', Reads y (.slice (some ⟨g, off + 8, none⟩) 32 c') ((body.drop 8).take 32).length (bts ((body.drop 8).take 32)) := fun y hy c' => reads_sub (hcell y hy) 8 32 c' (by omega) (add_off g off 8 none (by omega))
  generalize (body.drop 1).take 6 = M6 at *
  generalize (body.drop 8).take 32 = D at *
  have HNUM := Lib.hid hnum
  have HDAT := Lib.hid hdat
  have HL3 := Lib.hid hl3
  have HPO := Lib.hid hpo
  rw [hlen]
  clear hl3 hnum hdat hpo hcell hLL hu0 hu7 hbr hR hc1 hc2 hlen
  go_wp2_with fail
  refine wp_region_plan [6, 13, 15, 16] [0, 1, 2, 3, 4, 5, 7, 8, 9, 10, 11, 12, 14] [0, 1, 3, 4, 5, 7, 8, 10, 11, 12, 14] [6, 13, 15] [0, 1, 2, 3, 4, 5, 7, 8, 9, 10, 11, 12] (.two [6] (.two [13, 14, 15, 16] .nil [15, 13, 14, 16] .nil) [15, 6, 13, 14, 16] .nil) (Held W LL) (by kernel_rfl) (by kernel_rfl) ?_ ?_
  · exact Held.mk hs2'.drew
  have hne : Nonempty (Of W LL) := ⟨⟨_, hs2'⟩⟩
  have hsT : Sat W w2.drew LL := hs2'.drew
  repeat (first | (refine can_pu1 rfl rfl rfl rfl rfl rfl (fun K hK => ?_); go_big_quiet_op; refine hK _ ?_; clear hK K) | (refine can_st1 rfl rfl rfl rfl rfl rfl (fun K hK => ?_); go_big_quiet_op; refine hK _ ?_; clear hK K) | (refine can_early1 rfl rfl rfl rfl rfl (fun K hK => ?_); go_big_quiet_op; refine hK _ ?_; clear hK K) | (refine can_skip rfl rfl rfl ?_; simp only [Act.put, List.setIfInBounds_toArray, List.set_cons_zero, List.set_cons_succ]))
  clear e0 e7 hne
  refine with_sat hsT ?_
  clear hsT hs2' z0 z1 z2 z3 f0 f1 f2 f3
  intro wt hsT
  refine can_two ?_ ?_
  · skip
    refine can_actS rfl rfl rfl rfl (fun K hK => ?_)
    go_wp2_with fail
    refine (number_any _ M6 _ (HNUM.out _ hsT _) hl1).mono ?_; rintro r w4 ⟨rfl, rfl⟩
    apply hK
    refine ⟨Held.mk hsT, ?_⟩
    clear hK
    refine can_two ?_ ?_
    · skip
      refine can_actS rfl rfl rfl rfl (fun K hK => ?_)
      go_wp2_with fail
      refine (clone_any _ D W _ LL (HDAT.out _ hsT _) (by rw [HL3.out]; omega) hsT).mono ?_; rintro r w5 ⟨v5, R5, rfl, hr5, hs5⟩
      apply hK
      refine ⟨Held.mk hs5.right, ?_⟩
      clear hK
      obtain ⟨a5, c5, rfl⟩ := Ch.RowA.slice hr5
      repeat (first | (refine can_pu1 rfl rfl rfl rfl rfl rfl (fun K hK => ?_); go_big_quiet_op; refine hK _ ?_; clear hK K) | (refine can_st1 rfl rfl rfl rfl rfl rfl (fun K hK => ?_); go_big_quiet_op; refine hK _ ?_; clear hK K) | (refine can_early1 rfl rfl rfl rfl rfl (fun K hK => ?_); go_big_quiet_op; refine hK _ ?_; clear hK K) | (refine can_skip rfl rfl rfl ?_; simp only [Act.put, List.setIfInBounds_toArray, List.set_cons_zero, List.set_cons_succ]))
      refine can_actS rfl rfl rfl rfl (fun K hK => ?_)
      go_wp2_with fail
      refine ⟨Held.mk (Sat.alloc hs5.right _), ?_⟩
      have hs6 := Sat.newCells hs5 #[.int .i64 0, .int .i64 0, .int .i64 0, .slice none 0 0] 72
      generalize (w5).heap.size = z7 at *
      refine with_sat hs6 ?_
      clear hs6
      intro w6 hs6
      have hsF := hs6
      have g0 := hsF.cell m0 0
      have g1 := hsF.cell m0 1
      have g2 := hsF.cell m0 2
      have g3 := hsF.cell m0 3
      have j0 := hsF.free m0 0
      have j1 := hsF.free m0 1
      have j2 := hsF.free m0 2
      have j3 := hsF.free m0 3
      refine can_actF rfl rfl rfl rfl (fun K hK => ?_)
      go_wp2_with fail
      have hz := Sat.setCell (Sat.setCell (Sat.setCell (Sat.setCell hsF 0 (.int .i64 u0.toNat)) 1 (.int .i64 (numB M6))) 2 (.int .i64 u7.toNat)) 3 (.slice a5 D.length c5)
      simp only [List.setIfInBounds_toArray, List.set_cons_zero, List.set_cons_succ] at hz
      refine can_end1 ?_; (try simp only [Exit.then])
      refine with_sat hz ?_
      clear hz hsF g0 g1 g2 g3 j0 j1 j2 j3
      intro w9 hs9
      have g0 := hs9.cell m0 0
      have g1 := hs9.cell m0 1
      have g2 := hs9.cell m0 2
      have g3 := hs9.cell m0 3
      have hrt := right_any ⟨u0.toNat, numB M6, u7.toNat, D⟩ a5 c5 w9
      unfold pcV at hrt
      simp only at hrt
      go_wp2_with fail
      refine hrt.mono ?_; rintro r w10 ⟨rfl, hx⟩
      have hs10 := hs9.below hx
      rw [HLL.out] at hs10
      have hs11 := Sat.use (M := cellsA z #[.int .i64 0, .int .i64 0, .int .i64 0, .slice none 0 0] 72 :: (cellsA z7 #[.int .i64 u0.toNat, .int .i64 (numB M6), .int .i64 u7.toNat, .slice a5 D.length c5] 72 :: (R5 ++ (R ++ L)))) hs10 (by intro x; simp only [cnt_append, cnt_cons, cnt_nil]; omega)
      clear hs10 hs9 hx hrt g0 g1 g2 g3
      have z0 := hs11.cell m0 0
      have z1 := hs11.cell m0 1
      have z2 := hs11.cell m0 2
      have z3 := hs11.cell m0 3
      have f0 := hs11.free m0 0
      have f1 := hs11.free m0 1
      have f2 := hs11.free m0 2
      have f3 := hs11.free m0 3
      have g0 := hs11.cell m1 0
      have g1 := hs11.cell m1 1
      have g2 := hs11.cell m1 2
      have g3 := hs11.cell m1 3
      have hq3 := HQ2.out
      rw [HPO.out] at hq3
      by_cases hrp : rightP ⟨u0.toNat, numB M6, u7.toNat, D⟩
      · rw [if_pos hrp] at hq3
        rw [decide_eq_true hrp]
        have HN := Lib.hid hq3
        have hz3 := Sat.setCell (Sat.setCell (Sat.setCell (Sat.setCell hs11 0 (.int .i64 u0.toNat)) 1 (.int .i64 (numB M6))) 2 (.int .i64 u7.toNat)) 3 (.slice a5 D.length c5)
        clear hq3 hrp
        go_wp2_with fail
        refine bodyPost_ret (v := .tuple #[pcV ⟨u0.toNat, numB M6, u7.toNat, D⟩ (.slice a5 D.length c5), .bool true]) (by simp [results, Tryz.results71, go_sem, pcV, pc0, *]) rfl ?_
        rw [HP.out, HI.out, HN.out]
        first
          | exact ⟨_, _, rfl, hr5, hz3.tail.tail.use (by intro x; simp only [cnt_append, cnt_cons, cnt_nil]; omega)⟩
          | exact ⟨_, rfl, _, hr5, hz3.tail.tail.use (by intro x; simp only [cnt_append, cnt_cons, cnt_nil]; omega)⟩
      · rw [if_neg hrp] at hq3
        rw [decide_eq_false hrp]
        have HN := Lib.hid hq3
        have hz3 := Sat.setCell (Sat.setCell (Sat.setCell (Sat.setCell hs11 0 (.int .i64 0)) 1 (.int .i64 0)) 2 (.int .i64 0)) 3 (.slice none 0 0)
        clear hq3 hrp
        go_wp2_with fail
        refine bodyPost_ret (v := .tuple #[pcV pc0 (.slice none 0 0), .bool false]) (by simp [results, Tryz.results71, go_sem, pcV, pc0, *]) rfl ?_
        rw [HP.out, HI.out, HN.out]
        first
          | exact ⟨_, _, rfl, RowA.nil _ _, hz3.tail.tail.right.right⟩
          | exact ⟨_, rfl, _, RowA.nil _ _, hz3.tail.tail.right.right⟩
    · skip
      refine can_actS rfl rfl rfl rfl (fun K hK => ?_)
      go_wp2_with fail
      refine ⟨Held.mk (Sat.alloc hsT _), ?_⟩
      have hs6 := Sat.newCells hsT #[.int .i64 0, .int .i64 0, .int .i64 0, .slice none 0 0] 72
      generalize (wt).heap.size = z7 at *
      refine with_sat hs6 ?_
      clear hs6
      intro w6 hs6
      refine can_actS rfl rfl rfl rfl (fun K hK => ?_)
      go_wp2_with fail
      refine (clone_any _ D W _ _ (HDAT.out _ hs6.tail _) (by rw [HL3.out]; omega) hs6).mono ?_; rintro r w5 ⟨v5, R5, rfl, hr5, hs5⟩
      apply hK
      refine ⟨Held.mk hs5.right.tail, ?_⟩
      clear hK
      obtain ⟨a5, c5, rfl⟩ := Ch.RowA.slice hr5
      repeat (first | (refine can_pu1 rfl rfl rfl rfl rfl rfl (fun K hK => ?_); go_big_quiet_op; refine hK _ ?_; clear hK K) | (refine can_st1 rfl rfl rfl rfl rfl rfl (fun K hK => ?_); go_big_quiet_op; refine hK _ ?_; clear hK K) | (refine can_early1 rfl rfl rfl rfl rfl (fun K hK => ?_); go_big_quiet_op; refine hK _ ?_; clear hK K) | (refine can_skip rfl rfl rfl ?_; simp only [Act.put, List.setIfInBounds_toArray, List.set_cons_zero, List.set_cons_succ]))
      have hsF := Sat.use (M := cellsA z7 #[.int .i64 0, .int .i64 0, .int .i64 0, .slice none 0 0] 72 :: (R5 ++ LL)) hs5 (by intro x; simp only [cnt_append, cnt_cons, cnt_nil]; omega)
      have g0 := hsF.cell m0 0
      have g1 := hsF.cell m0 1
      have g2 := hsF.cell m0 2
      have g3 := hsF.cell m0 3
      have j0 := hsF.free m0 0
      have j1 := hsF.free m0 1
      have j2 := hsF.free m0 2
      have j3 := hsF.free m0 3
      refine can_actF rfl rfl rfl rfl (fun K hK => ?_)
      go_wp2_with fail
      have hz := Sat.setCell (Sat.setCell (Sat.setCell (Sat.setCell hsF 0 (.int .i64 u0.toNat)) 1 (.int .i64 (numB M6))) 2 (.int .i64 u7.toNat)) 3 (.slice a5 D.length c5)
      simp only [List.setIfInBounds_toArray, List.set_cons_zero, List.set_cons_succ] at hz
      refine can_end1 ?_; (try simp only [Exit.then])
      refine with_sat hz ?_
      clear hz hsF g0 g1 g2 g3 j0 j1 j2 j3
      intro w9 hs9
      have g0 := hs9.cell m0 0
      have g1 := hs9.cell m0 1
      have g2 := hs9.cell m0 2
      have g3 := hs9.cell m0 3
      have hrt := right_any ⟨u0.toNat, numB M6, u7.toNat, D⟩ a5 c5 w9
      unfold pcV at hrt
      simp only at hrt
      go_wp2_with fail
      refine hrt.mono ?_; rintro r w10 ⟨rfl, hx⟩
      have hs10 := hs9.below hx
      rw [HLL.out] at hs10
      have hs11 := Sat.use (M := cellsA z #[.int .i64 0, .int .i64 0, .int .i64 0, .slice none 0 0] 72 :: (cellsA z7 #[.int .i64 u0.toNat, .int .i64 (numB M6), .int .i64 u7.toNat, .slice a5 D.length c5] 72 :: (R5 ++ (R ++ L)))) hs10 (by intro x; simp only [cnt_append, cnt_cons, cnt_nil]; omega)
      clear hs10 hs9 hx hrt g0 g1 g2 g3
      have z0 := hs11.cell m0 0
      have z1 := hs11.cell m0 1
      have z2 := hs11.cell m0 2
      have z3 := hs11.cell m0 3
      have f0 := hs11.free m0 0
      have f1 := hs11.free m0 1
      have f2 := hs11.free m0 2
      have f3 := hs11.free m0 3
      have g0 := hs11.cell m1 0
      have g1 := hs11.cell m1 1
      have g2 := hs11.cell m1 2
      have g3 := hs11.cell m1 3
      have hq3 := HQ2.out
      rw [HPO.out] at hq3
      by_cases hrp : rightP ⟨u0.toNat, numB M6, u7.toNat, D⟩
      · rw [if_pos hrp] at hq3
        rw [decide_eq_true hrp]
        have HN := Lib.hid hq3
        have hz3 := Sat.setCell (Sat.setCell (Sat.setCell (Sat.setCell hs11 0 (.int .i64 u0.toNat)) 1 (.int .i64 (numB M6))) 2 (.int .i64 u7.toNat)) 3 (.slice a5 D.length c5)
        clear hq3 hrp
        go_wp2_with fail
        refine bodyPost_ret (v := .tuple #[pcV ⟨u0.toNat, numB M6, u7.toNat, D⟩ (.slice a5 D.length c5), .bool true]) (by simp [results, Tryz.results71, go_sem, pcV, pc0, *]) rfl ?_
        rw [HP.out, HI.out, HN.out]
        first
          | exact ⟨_, _, rfl, hr5, hz3.tail.tail.use (by intro x; simp only [cnt_append, cnt_cons, cnt_nil]; omega)⟩
          | exact ⟨_, rfl, _, hr5, hz3.tail.tail.use (by intro x; simp only [cnt_append, cnt_cons, cnt_nil]; omega)⟩
      · rw [if_neg hrp] at hq3
        rw [decide_eq_false hrp]
        have HN := Lib.hid hq3
        have hz3 := Sat.setCell (Sat.setCell (Sat.setCell (Sat.setCell hs11 0 (.int .i64 0)) 1 (.int .i64 0)) 2 (.int .i64 0)) 3 (.slice none 0 0)
        clear hq3 hrp
        go_wp2_with fail
        refine bodyPost_ret (v := .tuple #[pcV pc0 (.slice none 0 0), .bool false]) (by simp [results, Tryz.results71, go_sem, pcV, pc0, *]) rfl ?_
        rw [HP.out, HI.out, HN.out]
        first
          | exact ⟨_, _, rfl, RowA.nil _ _, hz3.tail.tail.right.right⟩
          | exact ⟨_, rfl, _, RowA.nil _ _, hz3.tail.tail.right.right⟩
  · skip
    refine can_actS rfl rfl rfl rfl (fun K hK => ?_)
    go_wp2_with fail
    refine ⟨Held.mk (Sat.alloc hsT _), ?_⟩
    have hs6 := Sat.newCells hsT #[.int .i64 0, .int .i64 0, .int .i64 0, .slice none 0 0] 72
    generalize (wt).heap.size = z7 at *
    refine with_sat hs6 ?_
    clear hs6
    intro w6 hs6
    refine can_actS rfl rfl rfl rfl (fun K hK => ?_)
    go_wp2_with fail
    refine (number_any _ M6 _ (HNUM.out _ hs6.tail _) hl1).mono ?_; rintro r w4 ⟨rfl, rfl⟩
    apply hK
    refine ⟨Held.mk hs6.tail, ?_⟩
    clear hK
    refine can_actS rfl rfl rfl rfl (fun K hK => ?_)
    go_wp2_with fail
    refine (clone_any _ D W _ _ (HDAT.out _ hs6.tail _) (by rw [HL3.out]; omega) hs6).mono ?_; rintro r w5 ⟨v5, R5, rfl, hr5, hs5⟩
    apply hK
    refine ⟨Held.mk hs5.right.tail, ?_⟩
    clear hK
    obtain ⟨a5, c5, rfl⟩ := Ch.RowA.slice hr5
    repeat (first | (refine can_pu1 rfl rfl rfl rfl rfl rfl (fun K hK => ?_); go_big_quiet_op; refine hK _ ?_; clear hK K) | (refine can_st1 rfl rfl rfl rfl rfl rfl (fun K hK => ?_); go_big_quiet_op; refine hK _ ?_; clear hK K) | (refine can_early1 rfl rfl rfl rfl rfl (fun K hK => ?_); go_big_quiet_op; refine hK _ ?_; clear hK K) | (refine can_skip rfl rfl rfl ?_; simp only [Act.put, List.setIfInBounds_toArray, List.set_cons_zero, List.set_cons_succ]))
    have hsF := Sat.use (M := cellsA z7 #[.int .i64 0, .int .i64 0, .int .i64 0, .slice none 0 0] 72 :: (R5 ++ LL)) hs5 (by intro x; simp only [cnt_append, cnt_cons, cnt_nil]; omega)
    have g0 := hsF.cell m0 0
    have g1 := hsF.cell m0 1
    have g2 := hsF.cell m0 2
    have g3 := hsF.cell m0 3
    have j0 := hsF.free m0 0
    have j1 := hsF.free m0 1
    have j2 := hsF.free m0 2
    have j3 := hsF.free m0 3
    refine can_actF rfl rfl rfl rfl (fun K hK => ?_)
    go_wp2_with fail
    have hz := Sat.setCell (Sat.setCell (Sat.setCell (Sat.setCell hsF 0 (.int .i64 u0.toNat)) 1 (.int .i64 (numB M6))) 2 (.int .i64 u7.toNat)) 3 (.slice a5 D.length c5)
    simp only [List.setIfInBounds_toArray, List.set_cons_zero, List.set_cons_succ] at hz
    refine can_end1 ?_; (try simp only [Exit.then])
    refine with_sat hz ?_
    clear hz hsF g0 g1 g2 g3 j0 j1 j2 j3
    intro w9 hs9
    have g0 := hs9.cell m0 0
    have g1 := hs9.cell m0 1
    have g2 := hs9.cell m0 2
    have g3 := hs9.cell m0 3
    have hrt := right_any ⟨u0.toNat, numB M6, u7.toNat, D⟩ a5 c5 w9
    unfold pcV at hrt
    simp only at hrt
    go_wp2_with fail
    refine hrt.mono ?_; rintro r w10 ⟨rfl, hx⟩
    have hs10 := hs9.below hx
    rw [HLL.out] at hs10
    have hs11 := Sat.use (M := cellsA z #[.int .i64 0, .int .i64 0, .int .i64 0, .slice none 0 0] 72 :: (cellsA z7 #[.int .i64 u0.toNat, .int .i64 (numB M6), .int .i64 u7.toNat, .slice a5 D.length c5] 72 :: (R5 ++ (R ++ L)))) hs10 (by intro x; simp only [cnt_append, cnt_cons, cnt_nil]; omega)
    clear hs10 hs9 hx hrt g0 g1 g2 g3
    have z0 := hs11.cell m0 0
    have z1 := hs11.cell m0 1
    have z2 := hs11.cell m0 2
    have z3 := hs11.cell m0 3
    have f0 := hs11.free m0 0
    have f1 := hs11.free m0 1
    have f2 := hs11.free m0 2
    have f3 := hs11.free m0 3
    have g0 := hs11.cell m1 0
    have g1 := hs11.cell m1 1
    have g2 := hs11.cell m1 2
    have g3 := hs11.cell m1 3
    have hq3 := HQ2.out
    rw [HPO.out] at hq3
    by_cases hrp : rightP ⟨u0.toNat, numB M6, u7.toNat, D⟩
    · rw [if_pos hrp] at hq3
      rw [decide_eq_true hrp]
      have HN := Lib.hid hq3
      have hz3 := Sat.setCell (Sat.setCell (Sat.setCell (Sat.setCell hs11 0 (.int .i64 u0.toNat)) 1 (.int .i64 (numB M6))) 2 (.int .i64 u7.toNat)) 3 (.slice a5 D.length c5)
      clear hq3 hrp
      go_wp2_with fail
      refine bodyPost_ret (v := .tuple #[pcV ⟨u0.toNat, numB M6, u7.toNat, D⟩ (.slice a5 D.length c5), .bool true]) (by simp [results, Tryz.results71, go_sem, pcV, pc0, *]) rfl ?_
      rw [HP.out, HI.out, HN.out]
      first
        | exact ⟨_, _, rfl, hr5, hz3.tail.tail.use (by intro x; simp only [cnt_append, cnt_cons, cnt_nil]; omega)⟩
        | exact ⟨_, rfl, _, hr5, hz3.tail.tail.use (by intro x; simp only [cnt_append, cnt_cons, cnt_nil]; omega)⟩
    · rw [if_neg hrp] at hq3
      rw [decide_eq_false hrp]
      have HN := Lib.hid hq3
      have hz3 := Sat.setCell (Sat.setCell (Sat.setCell (Sat.setCell hs11 0 (.int .i64 0)) 1 (.int .i64 0)) 2 (.int .i64 0)) 3 (.slice none 0 0)
      clear hq3 hrp
      go_wp2_with fail
      refine bodyPost_ret (v := .tuple #[pcV pc0 (.slice none 0 0), .bool false]) (by simp [results, Tryz.results71, go_sem, pcV, pc0, *]) rfl ?_
      rw [HP.out, HI.out, HN.out]
      first
        | exact ⟨_, _, rfl, RowA.nil _ _, hz3.tail.tail.right.right⟩
        | exact ⟨_, rfl, _, RowA.nil _ _, hz3.tail.tail.right.right⟩
end Go.Proofs.YtekbbpfnkbanjaaGreat.Ch

namespace Go.Proofs.YtekbbpfnkbanjaaGreat.Ch
set_option linter.unusedSimpArgs false
open Go Go.RowKit Go.Sl Go.BigFrame
set_option linter.unusedVariables false

noncomputable instance : DecidableEq Pc := fun _ _ => Classical.propDecidable _
end Go.Proofs.YtekbbpfnkbanjaaGreat.Ch

namespace Go.Proofs.YtekbbpfnkbanjaaGreat.Ch
set_option linter.unusedSimpArgs false
open Go Go.RowKit Go.Sl Go.BigFrame
set_option linter.unusedVariables false

/-- append at any type of elements. -/
theorem wp_append_g {W w : World} {F A : List Atom} {v sv : Value} {o : Oper} {a : Act} {K : Act → World → Prop} {Q : Exit → Act → World → Prop} {t e : TypeId} {size bytes : Nat} {z : Value} (hu : Tryz.prog.underlying t = some (.slice e)) (hinf : (Tryz.prog.info? e).map (fun i => (i.zero, i.size, i.bytes)) = some (some z, size, bytes)) (hzs : z.cells.size = size) (hsz : 0 < size) (hby : bytes ≤ 1000)
    {x y : Operand} (ho : o.op = .call { callee := .builtin .append, args := #[x, y], argTypes := #[t, t] }) {n m : Nat} {xs ys : List Value} (hv : a.eval x = v) (hsv : a.eval y = sv)
    (hr : RowA e size v n xs A) (hs : Sat W w (A ++ F)) (hsrc : Reads w sv m ys) (hl : ys.length = m * size) (h1 : ∀ u ∈ ys, u.oneCell' = true) (hb : n + m < 1000000)
    (h : ∀ v' w' A', RowA e size v' (n + m) (xs ++ ys) A' → Sat W w' (A' ++ F) → K (a.put o.dst v') w') : o.wp Tryz.prog a w K Q := by
  obtain ⟨i0, hi, hz0, hz1, hz2⟩ := info_parts hinf
  obtain ⟨v2, w2, R2, hra, hrow, hs2⟩ := append_sl (P := Tryz.prog) o.type hu hi hz0 hz1 hz2 hzs hsz hr hs hsrc hl h1 (by unfold maxLen; omega) (by
    have : (n + m) * bytes ≤ 1000000 * 1000 := Nat.mul_le_mul (by omega) hby
    omega)
  exact wp_append ho (by rw [hv, hsv]; exact hra) (h _ _ _ hrow hs2)
theorem infoBl : (Tryz.prog.info? 35).map (fun i => (i.zero, i.size, i.bytes)) = some (some (.slice none 0 0), 1, 24) := by kernel_rfl
theorem infoWr : (Tryz.prog.info? 100).map (fun i => (i.zero, i.size, i.bytes)) = some (some (.agg #[.int .i64 0, .slice none 0 0]), 2, 32) := by kernel_rfl

/-- The value is a block among B, with bytes l. -/
def BlkIn (B : List Atom) (v : Value) (l : List UInt8) : Prop :=
  ∃ g off cap, v = .slice (some ⟨g, off, none⟩) l.length cap ∧ l.length ≤ cap ∧ (g, rowP 5 off (cap * 1) (bts l)) ∈ B
theorem BlkIn.mono {B B' : List Atom} {v : Value} {l : List UInt8} (h : BlkIn B v l) (hs : ∀ x ∈ B, x ∈ B') : BlkIn B' v l := by
  obtain ⟨g, off, cap, h1, h2, h3⟩ := h
  exact ⟨g, off, cap, h1, h2, hs _ h3⟩
theorem BlkIn.reads {W y : World} {B L : List Atom} {v : Value} {l : List UInt8} (h : BlkIn B v l) (hs : Sat W y L) (hb : ∀ x ∈ B, x ∈ L) : Reads y v l.length (bts l) := by
  obtain ⟨g, off, cap, h1, h2, h3⟩ := h
  obtain ⟨o, ho, hp⟩ := hs.get (hb _ h3)
  refine .inr ⟨_, _, h1, fun j u hu => ?_⟩
  have hj := (List.getElem?_eq_some_iff.1 hu).1
  rw [add_row, (hp.cell ho j hj).1, hu]
theorem BlkIn.one {B : List Atom} {v : Value} {l : List UInt8} (h : BlkIn B v l) : v.oneCell' = true := by
  obtain ⟨g, off, cap, h1, h2, h3⟩ := h
  rw [h1]; rfl
theorem BlkIn.of_row {v : Value} {l : List UInt8} {R : List Atom} (h : RowA 5 1 v l.length (bts l) R) (hl : 0 < l.length) : BlkIn R v l := by
  rcases h.2 with ⟨_, h2, _⟩ | ⟨g, off, cap, h1, h2, h3, rfl⟩
  · omega
  · exact ⟨g, off, cap, h1, h2, List.mem_singleton.2 rfl⟩
/-- Values that are blocks. -/
structure Blks (B : List Atom) (vs : List Value) (ls : List (List UInt8)) : Prop where
  len : vs.length = ls.length
  at_ : ∀ (k : Nat) (v : Value) (l : List UInt8), vs[k]? = some v → ls[k]? = some l → BlkIn B v l
theorem Blks.mono {B B' : List Atom} {vs : List Value} {ls : List (List UInt8)} (h : Blks B vs ls) (hs : ∀ x ∈ B, x ∈ B') : Blks B' vs ls := ⟨h.len, fun k v l h1 h2 => (h.at_ k v l h1 h2).mono hs⟩
theorem Blks.nil (B : List Atom) : Blks B [] [] := ⟨rfl, fun k v l h => by simp at h⟩
theorem Blks.one {B : List Atom} {vs : List Value} {ls : List (List UInt8)} (h : Blks B vs ls) : ∀ u ∈ vs, u.oneCell' = true := fun u hu => by
  obtain ⟨k, hk, rfl⟩ := List.getElem_of_mem hu
  exact (h.at_ k _ _ (List.getElem?_eq_getElem hk) (List.getElem?_eq_getElem (by rw [← h.len]; exact hk))).one
theorem Blks.get {B : List Atom} {vs : List Value} {ls : List (List UInt8)} (h : Blks B vs ls) {k : Nat} {l : List UInt8} (hk : ls[k]? = some l) : ∃ v, vs[k]? = some v ∧ BlkIn B v l := by
  have hlt := (List.getElem?_eq_some_iff.1 hk).1
  exact ⟨_, List.getElem?_eq_getElem (by rw [h.len]; exact hlt), h.at_ k _ _ (List.getElem?_eq_getElem (by rw [h.len]; exact hlt)) hk⟩
theorem Blks.snoc {B : List Atom} {vs : List Value} {ls : List (List UInt8)} {v : Value} {l : List UInt8} (h : Blks B vs ls) (hv : BlkIn B v l) : Blks B (vs ++ [v]) (ls ++ [l]) := by
  refine ⟨by simp [h.len], fun k u m h1 h2 => ?_⟩
  by_cases hk : k < vs.length
  · rw [List.getElem?_append_left hk] at h1
    rw [List.getElem?_append_left (by rw [← h.len]; exact hk)] at h2
    exact h.at_ k u m h1 h2
  · rw [List.getElem?_append_right (by omega)] at h1
    rw [List.getElem?_append_right (by rw [← h.len]; omega), ← h.len] at h2
    generalize k - vs.length = j at *
    cases j with
    | zero => simp at h1 h2; subst h1; subst h2; exact hv
    | succ j => simp at h1
theorem Blks.set {B : List Atom} {vs : List Value} {ls : List (List UInt8)} {v : Value} {l : List UInt8} (h : Blks B vs ls) (k : Nat) (hv : BlkIn B v l) : Blks B (vs.set k v) (ls.set k l) := by
  refine ⟨by simp [h.len], fun j u m h1 h2 => ?_⟩
  by_cases e : k = j
  · subst e
    rw [List.getElem?_set] at h1 h2
    simp only [if_true] at h1 h2
    split at h1 <;> split at h2 <;> simp at h1 h2
    subst h1; subst h2; exact hv
  · rw [List.getElem?_set_ne e] at h1 h2
    exact h.at_ j u m h1 h2

theorem none_rowT (T : TypeId) (size n : Nat) : RowA T size (.slice (some ⟨n, 0, none⟩) 0 0) 0 [] [(n, rowP T 0 (0 * size) [])] :=
  ⟨by simp, .inr ⟨_, _, _, rfl, Nat.le_refl _, Nat.zero_le _, rfl⟩⟩
theorem none_satT {W w : World} {L : List Atom} (hs : Sat W w L) (T : TypeId) (size : Nat) : Sat W (w.alloc (.cells #[] T)) ([(w.heap.size, rowP T 0 (0 * size) [])] ++ L) :=
  hs.new (.cells #[] T) ⟨#[], rfl, by simp, by simp, by simp⟩

set_option maxRecDepth 100000 in
set_option maxHeartbeats 2000000 in
theorem clone_bl (v : Value) (xs : List Value) (W w : World) (L : List Atom) (hr : Reads w v xs.length xs) (h1 : ∀ u ∈ xs, u.oneCell' = true) (hl : xs.length < 1000000) (hs : Sat W w L) :
    Calls Tryz.prog 47 #[v] w fun e w' => ∃ v' R, e = .returned v' ∧ RowA 35 1 v' xs.length xs R ∧ Sat W w' (R ++ L) := by
  have q32 : ∀ (w : World) (a : Option Addr) (n c n' c' : Nat), (binOp .eql 79 (.slice a n c) (.slice none n' c')).run Tryz.prog w = .ok (.bool a.isNone) w := fun w a n c n' c' => Go.Lib.run_eql_slice_nil w _ _ a n c n' c' Tryz.underlying79
  rcases hr with ⟨rfl, h2, h3⟩ | ⟨a, c, rfl, hc⟩
  · have : xs = [] := List.length_eq_zero_iff.1 h2
    subst this
    go_enter Tryz.func47, Tryz.ntmps47
    go_wp2_with fail
    go_ret
    first
      | exact ⟨_, _, rfl, RowA.nil _ _, hs⟩
      | exact ⟨_, rfl, _, RowA.nil _ _, hs⟩
  · have hr : Reads w (.slice (some a) xs.length c) xs.length xs := .inr ⟨_, _, rfl, hc⟩
    have hr0 := hr.grown ((Below.refl _ w).alloc (Nat.le_refl _) (.cells #[] 35))
    clear hc hr
    go_enter Tryz.func47, Tryz.ntmps47
    go_wp2_with (at_builtin; refine wpList_plain rfl (fun K hK => ?_); refine wp_append_g Tryz.underlying79 infoBl rfl (by decide) (by decide) rfl rfl rfl (none_rowT _ 1 _) (none_satT hs _ 1) hr0 (by simp) h1 (by omega) (fun v2 w3 R2 hr2 hs3 => ?_); refine hK _ _ ?_; simp only [Act.put, List.setIfInBounds_toArray, List.set_cons_zero, List.set_cons_succ]; clear hK)
    go_ret
    refine ⟨v2, R2, rfl, ?_, hs3⟩
    simpa using hr2

def zero160 : List UInt8 := List.replicate 160 0
set_option maxRecDepth 100000 in
set_option maxHeartbeats 2000000 in
theorem blank_any (n : Nat) (W w : World) (L : List Atom) (hn : n ≤ 1000) (hs : Sat W w L) :
    Calls Tryz.prog 43 #[.int .i64 n] w fun e w' => ∃ v vs R B, e = .returned v ∧ RowA 35 1 v n vs R ∧ Blks B vs (List.replicate n zero160) ∧ Sat W w' (R ++ (B ++ L)) := by
  have n0 : (0 : Int) ≤ n := by omega
  have hmk : ∀ w : World, (Instr.makeSlice 35 (.int .i64 160) (.int .i64 160)).run Tryz.prog w = .ok (.slice (some ⟨w.heap.size, 0, none⟩) 160 160) (w.alloc (.cells (madeCells #[.int .u8 0] 160) 5)) := run_make_row' (P := Tryz.prog) 35 5 (.int .u8 0) 1 (by kernel_rfl) (by kernel_rfl) rfl .i64 .i64 160 (by omega) (by omega)
  obtain ⟨Z, hZ⟩ : ∃ Z, Z = madeCells #[.int .u8 0] 160 := ⟨_, rfl⟩
  rw [← hZ] at hmk
  have hZl : Z.toList = bts zero160 := by rw [hZ, toList_madeCells_one]; simp [bts, zero160]
  have HZ := Lib.hid hZl
  have hz160 : zero160.length = 160 := by simp [zero160]
  have HZ160 := Lib.hid hz160
  clear hZ hZl hz160
  go_enter Tryz.func43, Tryz.ntmps43
  go_wp2_with fail
  go_loopw [5, 3] (fun kv ov wr => ∃ (k : Nat) (vs : List Value) (R B : List Atom), kv = .int .i64 k ∧ k ≤ n ∧ RowA 35 1 ov k vs R ∧ Blks B vs (List.replicate k zero160) ∧ Sat W wr (R ++ (B ++ L))) (fun kv _ _ => (n - (intOf kv).toNat))
  case atStart => exact ⟨0, [], [], [], rfl, Nat.zero_le _, RowA.nil _ _, Blks.nil _, hs⟩
  case round =>
    clear hs
    obtain ⟨k, vs, R, B, rfl, hk, hr, hb, hs⟩ := hrel
    have k0 : (0 : Int) ≤ k := by omega
    obtain ⟨a3, c3, rfl⟩ := Ch.RowA.slice hr
    by_cases hkn : k < n
    · have k1 : (k : Int) < n := by omega
      have k2 : (k : Int) < 1000 := by omega
      have hs1 : Sat W (wr.alloc (.cells Z 5)) ((wr.heap.size, rowP 5 0 (160 * 1) (bts zero160)) :: (R ++ (B ++ L))) := by
        refine hs.new _ ⟨Z, rfl, ?_, ?_, ?_⟩
        · rw [← Array.length_toList, HZ.out, bts_length, HZ160.out]; decide
        · rw [bts_length, HZ160.out]; decide
        · rw [List.drop_zero, HZ.out]; exact List.take_of_length_le (by simp)
      have hs2 := hs1.newCells #[.slice (some ⟨wr.heap.size, 0, none⟩) 160 160] 35
      have hs3 : Sat W _ (R ++ (cellsA (wr.alloc (.cells Z 5)).heap.size #[.slice (some ⟨wr.heap.size, 0, none⟩) 160 160] 35 :: ((wr.heap.size, rowP 5 0 (160 * 1) (bts zero160)) :: (B ++ L)))) := hs2.use (by intro x; simp only [cnt_append, cnt_cons, cnt_nil]; omega)
      have hsrc := reads_cells hs2 m0 1 1 [.slice (some ⟨wr.heap.size, 0, none⟩) 160 160] rfl
      have hsz : (wr.alloc (.cells Z 5)).heap.size = wr.heap.size + 1 := by simp
      rw [hsz] at hs3 hsrc
      clear hsz
      have hbi : BlkIn ([(wr.heap.size, rowP 5 0 (160 * 1) (bts zero160))] ++ B) (.slice (some ⟨wr.heap.size, 0, none⟩) 160 160) zero160 := ⟨_, _, _, by rw [HZ160.out], by rw [HZ160.out]; exact Nat.le_refl _, List.mem_append_left _ (List.mem_singleton.2 rfl)⟩
      have hb2 := (hb.mono (B' := [(wr.heap.size, rowP 5 0 (160 * 1) (bts zero160))] ++ B) (fun x hx => List.mem_append_right _ hx)).snoc hbi
      rw [← List.replicate_succ'] at hb2
      clear hs hs1 hs2 hbi hb
      go_wp2_with (at_builtin; refine wpList_plain rfl (fun K hK => ?_); refine wp_append_g Tryz.underlying79 infoBl rfl (by decide) (by decide) rfl rfl rfl hr hs3 hsrc (by simp) (by simp [Value.oneCell']) (by omega) (fun v2 w3 R2 hr2 hs4 => ?_); refine hK _ _ ?_; simp only [Act.put, List.setIfInBounds_toArray, List.set_cons_zero, List.set_cons_succ]; clear hK)
      refine ⟨⟨k + 1, _, R2, _, by simp, by omega, hr2, hb2, hs4.use (by intro x; simp only [cnt_append, cnt_cons, cnt_nil]; omega)⟩, ?_⟩
      simp [intOf]
      omega
    · have e : n = k := by omega
      subst e
      go_wp2_with fail
      go_ret
      exact ⟨_, vs, R, B, rfl, hr, hb, hs⟩
end Go.Proofs.YtekbbpfnkbanjaaGreat.Ch

namespace Go.Proofs.YtekbbpfnkbanjaaGreat.Ch
set_option linter.unusedSimpArgs false
open Go Go.RowKit Go.Sl Go.BigFrame
set_option linter.unusedVariables false

/-- A platter: what is flushed, what is read, what pends, how many writes. -/
structure Pt where
  done : List (List UInt8)
  now : List (List UInt8)
  pend : List (Nat × List UInt8)
  writes : Int
def pendC : List Nat → List Value → List Value
  | k :: ks, v :: vs => .int .i64 k :: v :: pendC ks vs
  | _, _ => []
theorem pendC_length : ∀ (ks : List Nat) (vs : List Value), ks.length = vs.length → (pendC ks vs).length = ks.length * 2
  | [], [], _ => rfl
  | k :: ks, v :: vs, h => by
    simp only [pendC, List.length_cons] at *
    rw [pendC_length ks vs (by omega)]
    omega
  | [], _ :: _, h => by simp at h
  | _ :: _, [], h => by simp at h
theorem pendC_snoc : ∀ (ks : List Nat) (vs : List Value) (k : Nat) (v : Value), ks.length = vs.length → pendC ks vs ++ [.int .i64 k, v] = pendC (ks ++ [k]) (vs ++ [v])
  | [], [], _, _, _ => rfl
  | k :: ks, v :: vs, k', v', h => by
    simp only [pendC, List.cons_append]
    rw [pendC_snoc ks vs k' v' (by simpa using h)]
  | [], _ :: _, _, _, h => by simp at h
  | _ :: _, [], _, _, h => by simp at h
theorem pendC_get : ∀ (ks : List Nat) (vs : List Value) (j k : Nat) (v : Value), ks[j]? = some k → vs[j]? = some v → (pendC ks vs)[j * 2]? = some (.int .i64 k) ∧ (pendC ks vs)[j * 2 + 1]? = some v
  | k :: ks, v :: vs, 0, _, _, h1, h2 => by
    simp at h1 h2
    subst h1; subst h2
    exact ⟨rfl, rfl⟩
  | k :: ks, v :: vs, j + 1, k', v', h1, h2 => by
    have := pendC_get ks vs j k' v' (by simpa using h1) (by simpa using h2)
    rw [Nat.add_mul]
    exact this
  | [], _, _, _, _, h1, _ => by simp at h1
  | _ :: _, [], _, _, _, _, h2 => by simp at h2

structure PtR (p : Pt) (vd vn vp : Value) (Rd Rn Rp B : List Atom) (cd cn cp : List Value) : Prop where
  d : RowA 35 1 vd p.done.length cd Rd
  db : Blks B cd p.done
  n : RowA 35 1 vn p.now.length cn Rn
  nb : Blks B cn p.now
  pr : RowA 100 2 vp p.pend.length (pendC (p.pend.map Prod.fst) cp) Rp
  pb : Blks B cp (p.pend.map Prod.snd)
def PtA (b : Nat) (p : Pt) (A : List Atom) : Prop :=
  ∃ vd vn vp Rd Rn Rp B cd cn cp, A = cellsA b #[vd, vn, vp, .int .i64 p.writes] 82 :: (Rd ++ (Rn ++ (Rp ++ B))) ∧ PtR p vd vn vp Rd Rn Rp B cd cn cp

set_option maxRecDepth 100000 in
theorem platter_new (n : Nat) (W w : World) (L : List Atom) (h1 : 1 ≤ n) (h2 : n ≤ 1000) (hs : Sat W w L) :
    Calls Tryz.prog 21 #[.int .i64 n] w fun e w' => ∃ b A, e = .returned (.pointer (some ⟨b, 0, none⟩)) ∧ PtA b ⟨List.replicate n zero160, List.replicate n zero160, [], 0⟩ A ∧ Sat W w' (A ++ L) := by
  obtain ⟨x, hx⟩ : ∃ x : Int, x = n := ⟨_, rfl⟩
  have x1 : 1 ≤ x := by omega
  have x2 : x ≤ 1000 := by omega
  have hb := fun w L hs => blank_any n W w L h2 hs
  rw [← hx] at hb ⊢
  have HB := Lib.hid hb
  clear hx hb
  rcases (by omega : 1 < x ∨ x = 1) with hx1 | rfl
  · skip
    go_enter Tryz.func21, Tryz.ntmps21
    go_wp2_with fail
    refine (HB.out _ _ hs).mono ?_; rintro r w2 ⟨v, vs, R, B, rfl, hr, hbk, hs2⟩
    obtain ⟨a1, c1, rfl⟩ := Ch.RowA.slice hr
    go_wp2_with fail
    refine (HB.out _ _ hs2).mono ?_; rintro r w3 ⟨v2, vs2, R2, B2, rfl, hr2, hbk2, hs3⟩
    obtain ⟨a2, c2, rfl⟩ := Ch.RowA.slice hr2
    have hs4 := hs3.newCells #[.slice a1 n c1, .slice a2 n c2, .slice none 0 0, .int .i64 0] 82
    go_wp2_with fail
    go_ret
    refine ⟨_, _, rfl, ⟨.slice a1 n c1, .slice a2 n c2, .slice none 0 0, R, R2, [], B ++ B2, vs, vs2, [], rfl, ?_, ?_, ?_, ?_, RowA.nil _ _, Blks.nil _⟩, hs4.use (by intro x; simp only [cnt_append, cnt_cons, cnt_nil]; omega)⟩
    · rw [List.length_replicate]; exact hr
    · exact hbk.mono fun x hx => List.mem_append_left _ hx
    · rw [List.length_replicate]; exact hr2
    · exact hbk2.mono fun x hx => List.mem_append_right _ hx
  · skip
    go_enter Tryz.func21, Tryz.ntmps21
    go_wp2_with fail
    refine (HB.out _ _ hs).mono ?_; rintro r w2 ⟨v, vs, R, B, rfl, hr, hbk, hs2⟩
    obtain ⟨a1, c1, rfl⟩ := Ch.RowA.slice hr
    go_wp2_with fail
    refine (HB.out _ _ hs2).mono ?_; rintro r w3 ⟨v2, vs2, R2, B2, rfl, hr2, hbk2, hs3⟩
    obtain ⟨a2, c2, rfl⟩ := Ch.RowA.slice hr2
    have hs4 := hs3.newCells #[.slice a1 n c1, .slice a2 n c2, .slice none 0 0, .int .i64 0] 82
    go_wp2_with fail
    go_ret
    refine ⟨_, _, rfl, ⟨.slice a1 n c1, .slice a2 n c2, .slice none 0 0, R, R2, [], B ++ B2, vs, vs2, [], rfl, ?_, ?_, ?_, ?_, RowA.nil _ _, Blks.nil _⟩, hs4.use (by intro x; simp only [cnt_append, cnt_cons, cnt_nil]; omega)⟩
    · rw [List.length_replicate]; exact hr
    · exact hbk.mono fun x hx => List.mem_append_left _ hx
    · rw [List.length_replicate]; exact hr2
    · exact hbk2.mono fun x hx => List.mem_append_right _ hx

theorem blocks_any (b : Nat) (p : Pt) (A : List Atom) (W w : World) (L : List Atom) (hp : PtA b p A) (hs : Sat W w (A ++ L)) :
    Calls Tryz.prog 64 #[.pointer (some ⟨b, 0, none⟩)] w fun e w' => e = .returned (.int .i64 p.now.length) ∧ w = w' := by
  obtain ⟨vd, vn, vp, Rd, Rn, Rp, B, cd, cn, cp, rfl, hr⟩ := hp
  obtain ⟨a1, c1, rfl⟩ := Ch.RowA.slice hr.n
  have d1 : w.cell? ⟨b, 1, none⟩ = some (.slice a1 p.now.length c1) := hs.cell m0 1
  clear hs
  go_enter Tryz.func64, Tryz.ntmps64
  go_wp2_with fail
  go_ret
  exact ⟨rfl, rfl⟩

theorem has_any (b : Nat) (p : Pt) (A : List Atom) (k : Int) (W w : World) (L : List Atom) (hp : PtA b p A) (hs : Sat W w (A ++ L)) :
    Calls Tryz.prog 41 #[.pointer (some ⟨b, 0, none⟩), .int .i64 k] w fun e w' => e = .returned (.bool (decide (0 ≤ k ∧ k < p.now.length))) ∧ w = w' := by
  obtain ⟨vd, vn, vp, Rd, Rn, Rp, B, cd, cn, cp, rfl, hr⟩ := hp
  obtain ⟨a1, c1, rfl⟩ := Ch.RowA.slice hr.n
  have d1 : w.cell? ⟨b, 1, none⟩ = some (.slice a1 p.now.length c1) := hs.cell m0 1
  clear hs hr
  by_cases k0 : 0 ≤ k
  · by_cases k1 : k < p.now.length
    · rw [decide_eq_true ⟨k0, k1⟩]
      go_enter Tryz.func41, Tryz.ntmps41
      go_wp2_with fail
      go_ret
      exact ⟨rfl, rfl⟩
    · rw [decide_eq_false (fun h => k1 h.2)]
      go_enter Tryz.func41, Tryz.ntmps41
      go_wp2_with fail
      go_ret
      exact ⟨rfl, rfl⟩
  · rw [decide_eq_false (fun h => k0 h.1)]
    go_enter Tryz.func41, Tryz.ntmps41
    go_wp2_with fail
    go_ret
    exact ⟨rfl, rfl⟩
end Go.Proofs.YtekbbpfnkbanjaaGreat.Ch

namespace Go.Proofs.YtekbbpfnkbanjaaGreat.Ch
set_option linter.unusedSimpArgs false
open Go Go.RowKit Go.Sl Go.BigFrame
set_option linter.unusedVariables false

theorem RowA.some_of {e : TypeId} {size n : Nat} {v : Value} {xs : List Value} {R : List Atom} (h : RowA e size v n xs R) (hn : 0 < n) : ∃ g off cap, v = .slice (some ⟨g, off, none⟩) n cap ∧ n ≤ cap ∧ cap ≤ maxLen ∧ R = [(g, rowP e off (cap * size) xs)] := by
  rcases h.2 with ⟨_, h2, _⟩ | h
  · omega
  · exact h

theorem read_out (b : Nat) (p : Pt) (A : List Atom) (k : Int) (W w : World) (L : List Atom) (hp : PtA b p A) (hs : Sat W w (A ++ L)) (hk : ¬ (0 ≤ k ∧ k < p.now.length)) :
    Calls Tryz.prog 19 #[.pointer (some ⟨b, 0, none⟩), .int .i64 k] w fun e w' => e = .returned (.tuple #[.slice none 0 0, .bool false]) ∧ w = w' := by
  have hh := has_any b p A k W w L hp hs
  rw [decide_eq_false hk] at hh
  go_enter Tryz.func19, Tryz.ntmps19
  go_wp2_with fail
  refine hh.mono ?_; rintro r w2 ⟨rfl, rfl⟩
  go_wp2_with fail
  go_ret2
  exact ⟨rfl, rfl⟩

set_option maxRecDepth 100000 in
theorem read_in (b : Nat) (p : Pt) (A : List Atom) (k : Nat) (l : List UInt8) (W w : World) (L : List Atom) (hp : PtA b p A) (hs : Sat W w (A ++ L)) (hk : p.now[k]? = some l) (hl : l.length < 1000000) :
    Calls Tryz.prog 19 #[.pointer (some ⟨b, 0, none⟩), .int .i64 k] w fun e w' => ∃ v R, e = .returned (.tuple #[v, .bool true]) ∧ RowA 5 1 v l.length (bts l) R ∧ Sat W w' (R ++ (A ++ L)) := by
  have hkl := (List.getElem?_eq_some_iff.1 hk).1
  have hh := has_any b p A k W w L hp hs
  rw [decide_eq_true ⟨by omega, by omega⟩] at hh
  have hs0 := hs
  obtain ⟨vd, vn, vp, Rd, Rn, Rp, B, cd, cn, cp, hA, hr⟩ := hp
  rw [hA] at hs
  obtain ⟨u, hu, hbi⟩ := hr.nb.get hk
  obtain ⟨g, off, cap, rfl, hc1, hc2, hR⟩ := Ch.RowA.some_of hr.n (by omega)
  have hsn : Sat W w (Rn ++ (cellsA b #[vd, .slice (some ⟨g, off, none⟩) p.now.length cap, vp, .int .i64 p.writes] 82 :: (Rd ++ (Rp ++ (B ++ L))))) := hs.use (by intro x; simp only [cnt_append, cnt_cons, cnt_nil]; omega)
  have hjl : k < cn.length := (List.getElem?_eq_some_iff.1 hu).1
  have d0 : w.cell? ⟨g, off + k, none⟩ = some u := by rw [(hr.n.cells hsn rfl k hjl).1, hu]
  have d1 : w.cell? ⟨b, 1, none⟩ = some (.slice (some ⟨g, off, none⟩) p.now.length cap) := hs.cell m0 1
  have hrd := hbi.reads hs (fun x hx => by simp [hx])
  obtain ⟨ua, uc, rfl⟩ := reads_shape hrd
  have k0 : (0 : Int) ≤ k := by omega
  have k1 : (k : Int) < p.now.length := by omega
  have hcl := clone_any _ l W w _ hrd hl hs0
  clear hs hsn hbi hu hk hkl hjl hR hc1 hc2 hrd hs0 hr hA
  go_enter Tryz.func19, Tryz.ntmps19
  go_wp2_with fail
  refine hh.mono ?_; rintro r w2 ⟨rfl, rfl⟩
  go_wp2_with fail
  refine hcl.mono ?_; rintro r w3 ⟨v, R, rfl, hv, hs3⟩
  go_wp2_with fail
  go_ret2
  exact ⟨v, R, rfl, hv, hs3⟩

theorem write_out (b : Nat) (p : Pt) (A : List Atom) (k : Int) (bv : Value) (n : Nat) (W w : World) (L : List Atom) (hp : PtA b p A) (hs : Sat W w (A ++ L)) (hb : ∃ a c, bv = .slice a n c) (hk : ¬ (0 ≤ k ∧ k < p.now.length) ∨ n ≠ 160) :
    Calls Tryz.prog 75 #[.pointer (some ⟨b, 0, none⟩), .int .i64 k, bv] w fun e w' => e = .returned (.bool false) ∧ w = w' := by
  obtain ⟨a, c, rfl⟩ := hb
  have hh := has_any b p A k W w L hp hs
  by_cases h1 : 0 ≤ k ∧ k < p.now.length
  · rw [decide_eq_true h1] at hh
    have h2 : ((n : Int) != 160) = true := by
      have := hk.resolve_left (fun h => h h1)
      simp; omega
    clear hk
    go_enter Tryz.func75, Tryz.ntmps75
    go_wp2_with fail
    refine hh.mono ?_; rintro r w2 ⟨rfl, rfl⟩
    go_wp2_with fail
    go_ret
    exact ⟨rfl, rfl⟩
  · rw [decide_eq_false h1] at hh
    clear hk
    go_enter Tryz.func75, Tryz.ntmps75
    go_wp2_with fail
    refine hh.mono ?_; rintro r w2 ⟨rfl, rfl⟩
    go_wp2_with fail
    go_ret
    exact ⟨rfl, rfl⟩

def Pt.wr (p : Pt) (k : Nat) (l : List UInt8) : Pt := ⟨p.done, p.now.set k l, p.pend ++ [(k, l)], p.writes + 1⟩
set_option maxRecDepth 100000 in
set_option maxHeartbeats 4000000 in
theorem write_in (b : Nat) (p : Pt) (A : List Atom) (k : Nat) (bv : Value) (l : List UInt8) (W w : World) (L : List Atom) (hp : PtA b p A) (hs : Sat W w (A ++ L)) (hk : k < p.now.length) (hl : l.length = 160) (hrd : Reads w bv l.length (bts l)) (hpl : p.pend.length < 900000) (hw0 : 0 ≤ p.writes) (hw1 : p.writes < 1000000000) :
    Calls Tryz.prog 75 #[.pointer (some ⟨b, 0, none⟩), .int .i64 k, bv] w fun e w' => ∃ A', e = .returned (.bool true) ∧ PtA b (p.wr k l) A' ∧ Sat W w' (A' ++ L) := by
  have hh := has_any b p A k W w L hp hs
  rw [decide_eq_true ⟨by omega, by omega⟩] at hh
  obtain ⟨vd, vn, vp, Rd, Rn, Rp, B, cd, cn, cp, rfl, hr⟩ := hp
  obtain ⟨g, off, cap, rfl, hc1, hc2, hR⟩ := Ch.RowA.some_of hr.n (by omega)
  obtain ⟨ad, cd', rfl⟩ := Ch.RowA.slice hr.d
  obtain ⟨ap, cp', rfl⟩ := Ch.RowA.slice hr.pr
  have hcl := clone_any bv l W w _ hrd (by omega) hs
  obtain ⟨ua, uc, rfl⟩ := reads_shape hrd
  have k0 : (0 : Int) ≤ k := by omega
  have k1 : (k : Int) < p.now.length := by omega
  have HCL := Lib.hid hcl
  have HL := Lib.hid hl
  have hl2 : ((l.length : Int) != 160) = false := by simp; omega
  clear hs hrd hcl hl
  go_enter Tryz.func75, Tryz.ntmps75
  go_wp2_with fail
  refine hh.mono ?_; rintro r w2 ⟨rfl, rfl⟩
  go_wp2_with fail
  refine HCL.out.mono ?_; rintro r w3 ⟨v, R, rfl, hv, hs3⟩
  have hbi := BlkIn.of_row hv (by rw [HL.out]; decide)
  obtain ⟨av, cv, rfl⟩ := Ch.RowA.slice hv
  rw [hR] at hs3
  have hs4 : Sat W w3 ((g, rowP 35 off (cap * 1) cn) :: (cellsA b #[.slice ad p.done.length cd', .slice (some ⟨g, off, none⟩) p.now.length cap, .slice ap p.pend.length cp', .int .i64 p.writes] 82 :: (Rd ++ (Rp ++ (R ++ (B ++ L)))))) := hs3.use (by intro x; simp only [cnt_append, cnt_cons, cnt_nil]; omega)
  have hcnl : cn.length = p.now.length := by have := hr.n.1; omega
  obtain ⟨e1, e2⟩ := row_cell (G := cellsA b #[.slice ad p.done.length cd', .slice (some ⟨g, off, none⟩) p.now.length cap, .slice ap p.pend.length cp', .int .i64 p.writes] 82 :: (Rd ++ (Rp ++ (R ++ (B ++ L))))) hs4 k _ (List.getElem?_eq_getElem (by omega))
  have hst := row_store hs4 k (by omega) (.slice av l.length cv)
  have d1 : w3.cell? ⟨b, 1, none⟩ = some (.slice (some ⟨g, off, none⟩) p.now.length cap) := hs4.cell m1 1
  have e3 := hst.cell m1 2
  have hs5 := hst.newCells #[.int .i64 k, .slice av l.length cv] 100
  have hs6 : Sat W _ (Rp ++ (cellsA (w3.setCell ⟨g, off + k, none⟩ (.slice av l.length cv)).heap.size #[.int .i64 k, .slice av l.length cv] 100 :: ((g, rowP 35 off (cap * 1) (cn.set k (.slice av l.length cv))) :: (cellsA b #[.slice ad p.done.length cd', .slice (some ⟨g, off, none⟩) p.now.length cap, .slice ap p.pend.length cp', .int .i64 p.writes] 82 :: (Rd ++ (R ++ (B ++ L))))))) := hs5.use (by intro x; simp only [cnt_append, cnt_cons, cnt_nil]; omega)
  have hsrc := reads_cells hs5 m0 1 1 [.int .i64 k, .slice av l.length cv] rfl
  have hsz : (w3.setCell ⟨g, off + k, none⟩ (.slice av l.length cv)).heap.size = w3.heap.size := by simp
  rw [hsz] at hs6 hsrc
  clear hs3 hs4 hs5 hst hsz
  have HR := Lib.hid hR
  have HB := Lib.hid hbi
  have HV := Lib.hid hv
  have HPR := Lib.hid hr
  have hpr := hr.pr
  clear hr hR hbi hv hh HCL
  go_wp2_with (at_builtin; go_loud (refine wpList_plain rfl (fun K hK => ?_); refine wp_append_g Tryz.underlying80 infoWr rfl (by decide) (by decide) rfl rfl rfl hpr hs6 hsrc (by simp) (by simp [Value.oneCell']) (by omega) (fun v2 w4 R2 hr2 hs7 => ?_); refine hK _ _ ?_; simp only [Act.put, List.setIfInBounds_toArray, List.set_cons_zero, List.set_cons_succ]; clear hK hs6 hsrc e1 e2 e3 d1; obtain ⟨a2, k2, rfl⟩ := Ch.RowA.slice hr2; have hs8 := Sat.use (M := cellsA b #[.slice ad p.done.length cd', .slice (some ⟨g, off, none⟩) p.now.length cap, .slice ap p.pend.length cp', .int .i64 p.writes] 82 :: (R2 ++ ((g, rowP 35 off (cap * 1) (cn.set k (.slice av l.length cv))) :: (Rd ++ (R ++ (B ++ L)))))) hs7 (by intro x; simp only [cnt_append, cnt_cons, cnt_nil]; omega); have f0 := hs8.cell m0 2; have f1 := hs8.free m0 2; have hs9 := Sat.setCell hs8 2 (.slice a2 (p.pend.length + 1) k2); have f3 := hs9.cell m0 3; have f4 := hs9.free m0 3))
  have hs10 := Sat.setCell hs9 3 (.int .i64 (p.writes + 1))
  go_ret
  simp only [List.setIfInBounds_toArray, List.set_cons_zero, List.set_cons_succ] at hs10
  have hs11 : Sat W _ (cellsA b #[.slice ad p.done.length cd', .slice (some ⟨g, off, none⟩) p.now.length cap, .slice a2 (p.pend.length + 1) k2, .int .i64 (p.wr k l).writes] 82 :: (R2 ++ ((g, rowP 35 off (cap * 1) (cn.set k (.slice av l.length cv))) :: (Rd ++ (R ++ (B ++ L)))))) := hs10
  refine ⟨_, rfl, ⟨.slice ad p.done.length cd', .slice (some ⟨g, off, none⟩) p.now.length cap, .slice a2 (p.pend.length + 1) k2, Rd, [(g, rowP 35 off (cap * 1) (cn.set k (.slice av l.length cv)))], R2, R ++ B, cd, cn.set k (.slice av l.length cv), cp ++ [.slice av l.length cv], rfl, ?_⟩, hs11.use (by intro x; simp only [cnt_append, cnt_cons, cnt_nil]; omega)⟩
  have hr := HPR.out
  have hbi := HB.out.mono (B' := R ++ B) (fun x hx => List.mem_append_left _ hx)
  have hnl : (p.wr k l).now.length = p.now.length := by simp [Pt.wr]
  have hplen : (p.wr k l).pend.length = p.pend.length + 1 := by simp [Pt.wr]
  have hpc : pendC ((p.wr k l).pend.map Prod.fst) (cp ++ [.slice av l.length cv]) = pendC (p.pend.map Prod.fst) cp ++ [.int .i64 k, .slice av l.length cv] := by
    rw [pendC_snoc _ _ _ _ (by have := hr.pb.len; simpa using this.symm)]
    simp [Pt.wr]
  refine ⟨hr.d, hr.db.mono fun x hx => List.mem_append_right _ hx, ?_, ?_, ?_, ?_⟩
  · rw [hnl]
    exact ⟨by have := hr.n.1; simpa using this, .inr ⟨g, off, cap, rfl, hc1, hc2, rfl⟩⟩
  · exact (hr.nb.mono fun x hx => List.mem_append_right _ hx).set k hbi
  · rw [hplen, hpc]
    exact hr2
  · have := (hr.pb.mono (B' := R ++ B) fun x hx => List.mem_append_right _ hx).snoc hbi
    simpa [Pt.wr] using this
end Go.Proofs.YtekbbpfnkbanjaaGreat.Ch

namespace Go.Proofs.YtekbbpfnkbanjaaGreat.Ch
set_option linter.unusedSimpArgs false
open Go Go.RowKit Go.Sl Go.BigFrame
set_option linter.unusedVariables false

def Pt.fl (p : Pt) : Pt := ⟨p.now, p.now, [], p.writes⟩
set_option maxRecDepth 100000 in
set_option maxHeartbeats 4000000 in
theorem flush_any (b : Nat) (p : Pt) (A : List Atom) (W w : World) (L : List Atom) (hp : PtA b p A) (hs : Sat W w (A ++ L)) (hl : p.now.length < 1000000) :
    Calls Tryz.prog 55 #[.pointer (some ⟨b, 0, none⟩)] w fun e w' => ∃ A', e = .returned (.tuple #[]) ∧ PtA b p.fl A' ∧ Sat W w' (A' ++ L) := by
  obtain ⟨vd, vn, vp, Rd, Rn, Rp, B, cd, cn, cp, rfl, hr⟩ := hp
  obtain ⟨an, cn', rfl⟩ := Ch.RowA.slice hr.n
  obtain ⟨ad, cd', rfl⟩ := Ch.RowA.slice hr.d
  obtain ⟨ap, cp', rfl⟩ := Ch.RowA.slice hr.pr
  have hcnl : cn.length = p.now.length := by have := hr.n.1; omega
  have hsn : Sat W w (Rn ++ (cellsA b #[.slice ad p.done.length cd', .slice an p.now.length cn', .slice ap p.pend.length cp', .int .i64 p.writes] 82 :: (Rd ++ (Rp ++ (B ++ L))))) := hs.use (by intro x; simp only [cnt_append, cnt_cons, cnt_nil]; omega)
  have d1 : w.cell? ⟨b, 1, none⟩ = some (.slice an p.now.length cn') := hs.cell m0 1
  have hcl := clone_bl (.slice an p.now.length cn') cn W w _ (by rw [hcnl]; exact hr.n.reads hsn) hr.nb.one (by omega) hs
  have HCL := Lib.hid hcl
  have HR := Lib.hid hr
  have HCN := Lib.hid hcnl
  clear hs hsn hcl hr hcnl
  go_enter Tryz.func55, Tryz.ntmps55
  go_wp2_with fail
  refine HCL.out.mono ?_; rintro r w2 ⟨v, R, rfl, hv, hs2⟩
  obtain ⟨a2, c2, rfl⟩ := Ch.RowA.slice hv
  have hs3 := Sat.use (M := cellsA b #[.slice ad p.done.length cd', .slice an p.now.length cn', .slice ap p.pend.length cp', .int .i64 p.writes] 82 :: (R ++ (Rn ++ (B ++ L)))) hs2 (by intro x; simp only [cnt_append, cnt_cons, cnt_nil]; omega)
  have e0 := hs3.cell m0 0
  have e1 := hs3.free m0 0
  have hs4 := Sat.setCell hs3 0 (.slice a2 cn.length c2)
  have e2 := hs4.cell m0 2
  have e3 := hs4.free m0 2
  have hs5 := Sat.setCell hs4 2 (.slice none 0 0)
  clear hs2 hs3 hs4
  go_wp2_with fail
  go_end0
  simp only [List.setIfInBounds_toArray, List.set_cons_zero, List.set_cons_succ] at hs5
  have hr := HR.out
  rw [HCN.out] at hv hs5 ⊢
  have hs6 : Sat W _ (cellsA b #[.slice a2 p.now.length c2, .slice an p.now.length cn', .slice none 0 0, .int .i64 p.fl.writes] 82 :: (R ++ (Rn ++ (B ++ L)))) := hs5
  refine ⟨_, rfl, ⟨.slice a2 p.now.length c2, .slice an p.now.length cn', .slice none 0 0, R, Rn, [], B, cn, cn, [], rfl, ⟨hv, hr.nb, hr.n, hr.nb, RowA.nil _ _, Blks.nil _⟩⟩, hs6.use (by intro x; simp only [cnt_append, cnt_cons, cnt_nil]; omega)⟩

/-- Ints as cells. -/
def intsC (l : List Int) : List Value := l.map fun n => .int .i64 n
theorem intsC_length (l : List Int) : (intsC l).length = l.length := by simp [intsC]
theorem intsC_get {l : List Int} {k : Nat} {n : Int} (h : l[k]? = some n) : (intsC l)[k]? = some (.int .i64 n) := by rw [intsC, List.getElem?_map, h]; rfl
theorem intsC_one (l : List Int) : ∀ u ∈ intsC l, u.oneCell' = true := fun u hu => by obtain ⟨x, _, rfl⟩ := List.mem_map.1 hu; rfl
def idxI (l : List Int) (n : Int) : Int := if n ∈ l then (l.idxOf n : Int) else -1

set_option maxRecDepth 100000 in
theorem contains_ints (v : Value) (l : List Int) (n : Int) (w : World) (hr : Reads w v l.length (intsC l)) (hl : l.length < 9223372036854775808) :
    Calls Tryz.prog 46 #[v, .int .i64 n] w fun e w' => e = .returned (.bool (decide (n ∈ l))) ∧ w = w' := by
  obtain ⟨av, cv, rfl⟩ := reads_shape hr
  have hidx : Calls Tryz.prog 69 #[.slice av l.length cv, .int .i64 n] w fun e w' => ∃ i : Int, e = .returned (.int .i64 i) ∧ w = w' ∧ (0 ≤ i ↔ n ∈ l) := by
    go_enter Tryz.func69, Tryz.ntmps69
    go_wp2_with fail
    go_loop [8] (fun kv => ∃ k : Nat, kv = .int .i64 k ∧ k ≤ l.length ∧ n ∉ l.take k) (fun kv => (l.length - (intOf kv).toNat))
    case atStart => exact ⟨0, rfl, Nat.zero_le _, by simp⟩
    case round =>
      obtain ⟨k, rfl, hk, hnk⟩ := hrel
      have HNK := Lib.hid hnk
      clear hnk
      have k0 : (0 : Int) ≤ k := by omega
      by_cases hkl : k < l.length
      · have k1 : (k : Int) < l.length := by omega
        have k2 : (k : Int) < 9223372036854775807 := by omega
        obtain ⟨x, hx⟩ : ∃ x, l[k]? = some x := ⟨_, List.getElem?_eq_getElem hkl⟩
        rcases hr with ⟨_, hz, _⟩ | ⟨a, c', e1, hcell⟩
        · omega
        cases e1
        have d0 : w.cell? (a.add k) = some (.int .i64 x) := hcell k _ (intsC_get hx)
        have HX := Lib.hid hx
        clear hx hcell
        by_cases hnx : n = x
        · subst hnx
          go_wp2_with fail
          go_ret
          exact ⟨k, rfl, rfl, fun _ => List.mem_of_getElem? HX.out, fun _ => k0⟩
        · have q0 : (n == x) = false := by simpa using hnx
          go_wp2_with fail
          refine ⟨⟨k + 1, by simp, by omega, ?_⟩, ?_⟩
          · rw [take_snoc HX.out]
            simp only [List.mem_append, List.mem_singleton, not_or]
            exact ⟨HNK.out, hnx⟩
          · simp [intOf]
            omega
      · have e : k = l.length := by omega
        subst e
        go_wp2_with fail
        go_ret
        have h := HNK.out
        rw [List.take_length] at h
        exact ⟨-1, rfl, rfl, fun h0 => absurd h0 (by decide), fun h0 => absurd h0 h⟩
  have HI := Lib.hid hidx
  clear hidx hr
  go_enter Tryz.func46, Tryz.ntmps46
  go_wp2_with fail
  refine HI.out.mono ?_; rintro r w2 ⟨i, rfl, rfl, hi⟩
  go_wp2_with fail
  go_ret
  refine ⟨?_, rfl⟩
  simp [hi]
end Go.Proofs.YtekbbpfnkbanjaaGreat.Ch

namespace Go.Proofs.YtekbbpfnkbanjaaGreat.Ch
set_option linter.unusedSimpArgs false
open Go Go.RowKit Go.Sl Go.BigFrame
set_option linter.unusedVariables false

/-- What is flushed once the first k pending writes are kept, or not. -/
def crashTo (keep : List Int) (d : List (List UInt8)) (pend : List (Nat × List UInt8)) : Nat → List (List UInt8)
  | 0 => d
  | k + 1 => match pend[k]? with
    | some x => if (k : Int) ∈ keep then (crashTo keep d pend k).set x.1 x.2 else crashTo keep d pend k
    | none => crashTo keep d pend k
theorem crashTo_length (keep : List Int) (d : List (List UInt8)) (pend : List (Nat × List UInt8)) : ∀ k, (crashTo keep d pend k).length = d.length
  | 0 => rfl
  | k + 1 => by
    unfold crashTo
    split
    · split
      · rw [List.length_set, crashTo_length keep d pend k]
      · exact crashTo_length keep d pend k
    · exact crashTo_length keep d pend k
def Pt.crash (p : Pt) (keep : List Int) : Pt := ⟨crashTo keep p.done p.pend p.pend.length, crashTo keep p.done p.pend p.pend.length, [], p.writes⟩

set_option maxRecDepth 100000 in
set_option maxHeartbeats 4000000 in
theorem crash_any (b : Nat) (p : Pt) (A : List Atom) (kv : Value) (keep : List Int) (W w : World) (L : List Atom) (hp : PtA b p A) (hs : Sat W w (A ++ L)) (hin : ∀ y, Sat W y L → Reads y kv keep.length (intsC keep)) (hkl : keep.length < 9223372036854775808) (hd0 : 0 < p.done.length) (hdl : p.done.length < 1000000) (hok : ∀ x ∈ p.pend, x.1 < p.done.length) (hpl : p.pend.length < 1000000) :
    Calls Tryz.prog 26 #[.pointer (some ⟨b, 0, none⟩), kv] w fun e w' => ∃ A', e = .returned (.tuple #[]) ∧ PtA b (p.crash keep) A' ∧ Sat W w' (A' ++ L) := by
  obtain ⟨vd, vn, vp, Rd, Rn, Rp, B, cd, cn, cp, rfl, hr⟩ := hp
  obtain ⟨gd, od, kd, rfl, hd1, hd2, hRd⟩ := Ch.RowA.some_of hr.d hd0
  obtain ⟨an, cn', rfl⟩ := Ch.RowA.slice hr.n
  obtain ⟨ap, cp', rfl⟩ := Ch.RowA.slice hr.pr
  obtain ⟨ak, ck, rfl⟩ := reads_shape (hin w hs.right)
  have d2 : w.cell? ⟨b, 2, none⟩ = some (.slice ap p.pend.length cp') := hs.cell m0 2
  have hcd : cd.length = p.done.length := by have := hr.d.1; omega
  obtain ⟨C, hC⟩ : ∃ C, C = cellsA b #[.slice (some ⟨gd, od, none⟩) p.done.length kd, .slice an p.now.length cn', .slice ap p.pend.length cp', .int .i64 p.writes] 82 := ⟨_, rfl⟩
  have hs0 : Sat W w ((gd, rowP 35 od (kd * 1) cd) :: (C :: (Rp ++ (Rn ++ (B ++ L))))) := by
    rw [hC]; rw [hRd] at hs; exact hs.use (by intro x; simp only [cnt_append, cnt_cons, cnt_nil]; omega)
  have HIN := Lib.hid hin
  have HR := Lib.hid hr
  have HC := Lib.hid hC
  have HOK := Lib.hid hok
  obtain ⟨N, hN⟩ : ∃ N, N = p.pend.length := ⟨_, rfl⟩
  have HN := Lib.hid hN
  rw [← hN] at d2 hpl
  have hdb := hr.db
  clear hs hin hr hC hok hN
  go_enter Tryz.func26, Tryz.ntmps26
  go_wp2_with fail
  go_loopw [11] (fun iv wr => ∃ (k : Nat) (cs : List Value), iv = .int .i64 k ∧ k ≤ N ∧ Blks B cs (crashTo keep p.done p.pend k) ∧ Sat W wr ((gd, rowP 35 od (kd * 1) cs) :: (C :: (Rp ++ (Rn ++ (B ++ L)))))) (fun iv _ => (N - (intOf iv).toNat))
  case atStart => exact ⟨0, cd, rfl, Nat.zero_le _, hdb, hs0⟩
  case round =>
    clear hs0 d2
    obtain ⟨k, cs, rfl, hk, hbk, hs⟩ := hrel
    have k0 : (0 : Int) ≤ k := by omega
    have hcs : cs.length = p.done.length := by rw [hbk.len, crashTo_length]
    have HBK := Lib.hid hbk
    clear hbk
    by_cases hkn : k < N
    · have k1 : (k : Int) < N := by omega
      have k2 : (k : Int) < 1000000 := by omega
      have hr := HR.out
      obtain ⟨gp, op, kp, he, hp1, hp2, hRp⟩ := Ch.RowA.some_of hr.pr (by have := HN.out; omega)
      obtain ⟨rfl, rfl⟩ : ap = some ⟨gp, op, none⟩ ∧ cp' = kp := by
        cases he
        exact ⟨rfl, rfl⟩
      clear he
      obtain ⟨⟨i, l⟩, hx⟩ : ∃ x, p.pend[k]? = some x := ⟨_, List.getElem?_eq_getElem (by have := HN.out; omega)⟩
      obtain ⟨u, hu, hbi⟩ := hr.pb.get (k := k) (l := l) (by rw [List.getElem?_map, hx]; rfl)
      obtain ⟨g0, g1⟩ := pendC_get (p.pend.map Prod.fst) cp k i u (by rw [List.getElem?_map, hx]; rfl) hu
      have hil : i < p.done.length := HOK.out _ (List.mem_of_getElem? hx)
      have hsp : Sat W wr (Rp ++ ((gd, rowP 35 od (kd * 1) cs) :: (C :: (Rn ++ (B ++ L))))) := hs.use (by intro x; simp only [cnt_append, cnt_cons, cnt_nil]; omega)
      have e0 : wr.cell? ⟨gp, op + k * 2, none⟩ = some (.int .i64 i) := by
        rw [(hr.pr.cells hsp rfl (k * 2) (List.getElem?_eq_some_iff.1 g0).1).1, g0]
      have e1 : wr.cell? ⟨gp, op + k * 2 + 1, none⟩ = some u := by
        rw [Nat.add_assoc, (hr.pr.cells hsp rfl (k * 2 + 1) (List.getElem?_eq_some_iff.1 g1).1).1, g1]
      have hs2 := hs.newCells #[.int .i64 i, u] 100
      have hcnt := contains_ints _ keep k (wr.alloc (.cells #[.int .i64 i, u] 100)) (HIN.out _ (Sat.use (M := L) hs2 (by intro x; simp only [cnt_append, cnt_cons, cnt_nil]; omega))) hkl
      have hbu := hbi
      obtain ⟨gu, ou, ku, rfl, hu1, hu2⟩ := hbi
      have HX := Lib.hid hx
      have HBU := Lib.hid hbu
      have HCNT := Lib.hid hcnt
      clear hsp g0 g1 hu hx hRp hr hbu hcnt hu1 hu2
      go_wp2_with fail
      refine HCNT.out.mono ?_; rintro r w4 ⟨rfl, rfl⟩
      by_cases hin : (k : Int) ∈ keep
      · rw [decide_eq_true hin]
        have hct : crashTo keep p.done p.pend (k + 1) = (crashTo keep p.done p.pend k).set i l := by
          simp only [crashTo, HX.out, if_pos hin]
        have HCT := Lib.hid hct
        clear hin hct
        have hd : (i : Int) < p.done.length := by omega
        have hi0 : (0 : Int) ≤ i := by omega
        have hs3 : Sat W (wr.alloc (.cells #[.int .i64 i, .slice (some ⟨gu, ou, none⟩) l.length ku] 100)) ((gd, rowP 35 od (kd * 1) cs) :: (cellsA b #[.slice (some ⟨gd, od, none⟩) p.done.length kd, .slice an p.now.length cn', .slice (some ⟨gp, op, none⟩) p.pend.length cp', .int .i64 p.writes] 82 :: (cellsA wr.heap.size #[.int .i64 i, .slice (some ⟨gu, ou, none⟩) l.length ku] 100 :: (Rp ++ (Rn ++ (B ++ L)))))) := by
          rw [HC.out] at hs2
          exact hs2.use (by intro x; simp only [cnt_append, cnt_cons, cnt_nil]; omega)
        have q0 := hs3.cell m1 0
        have q1 := hs3.cell m2 0
        have q2 := hs3.cell m2 1
        obtain ⟨q3, q4⟩ := row_cell (G := (cellsA b #[.slice (some ⟨gd, od, none⟩) p.done.length kd, .slice an p.now.length cn', .slice (some ⟨gp, op, none⟩) p.pend.length cp', .int .i64 p.writes] 82 :: (cellsA wr.heap.size #[.int .i64 i, .slice (some ⟨gu, ou, none⟩) l.length ku] 100 :: (Rp ++ (Rn ++ (B ++ L)))))) hs3 i _ (List.getElem?_eq_getElem (by omega))
        have hs4 := row_store hs3 i (by omega) (.slice (some ⟨gu, ou, none⟩) l.length ku)
        clear hs hs2 hs3 e0 e1
        go_wp2_with fail
        refine wp_region_one [9] [] [] [] [0, 1, 2, 3, 4, 5, 6, 7, 8, 9] (by kernel_rfl) (by kernel_rfl) ?_
        repeat (first | (refine can_pu1 rfl rfl rfl rfl rfl rfl (fun K hK => ?_); go_big_quiet_op; refine hK _ ?_; clear hK K) | (refine can_st1 rfl rfl rfl rfl rfl rfl (fun K hK => ?_); go_big_quiet_op; refine hK _ ?_; clear hK K) | (refine can_early1 rfl rfl rfl rfl rfl (fun K hK => ?_); go_big_quiet_op; refine hK _ ?_; clear hK K) | (refine can_skip rfl rfl rfl ?_; simp only [Act.put, List.setIfInBounds_toArray, List.set_cons_zero, List.set_cons_succ]))
        refine can_act1 rfl rfl rfl (fun K hK => ?_)
        go_wp2_with fail
        refine can_end1 ?_; (try simp only [Exit.then])
        go_wp2_with fail
        refine ⟨⟨k + 1, cs.set i (.slice (some ⟨gu, ou, none⟩) l.length ku), by simp, by omega, ?_, ?_⟩, ?_⟩
        · rw [HCT.out]
          exact HBK.out.set i HBU.out
        · rw [HC.out]
          exact hs4.drew.use (by intro x; simp only [cnt_append, cnt_cons, cnt_nil]; omega)
        · simp [intOf]
          omega
      · rw [decide_eq_false hin]
        have hct : crashTo keep p.done p.pend (k + 1) = crashTo keep p.done p.pend k := by
          simp only [crashTo, HX.out, if_neg hin]
        have HCT := Lib.hid hct
        clear hin hct e0 e1
        go_wp2_with fail
        refine ⟨⟨k + 1, cs, by simp, by omega, ?_, ?_⟩, ?_⟩
        · rw [HCT.out]
          exact HBK.out
        · exact hs2.use (by intro x; simp only [cnt_append, cnt_cons, cnt_nil]; omega)
        · simp [intOf]
          omega
    · have e : N = k := by omega
      subst e
      have hr := HR.out
      rw [HC.out] at hs
      have hs1 := Sat.use (M := cellsA b #[.slice (some ⟨gd, od, none⟩) p.done.length kd, .slice an p.now.length cn', .slice ap p.pend.length cp', .int .i64 p.writes] 82 :: ((gd, rowP 35 od (kd * 1) cs) :: (B ++ L))) hs (by intro x; simp only [cnt_append, cnt_cons, cnt_nil]; omega)
      have q0 := hs1.cell m0 0
      have hrd : Reads wr (.slice (some ⟨gd, od, none⟩) p.done.length kd) cs.length cs := by
        refine .inr ⟨_, _, by rw [hcs], fun j u hu => ?_⟩
        have hj := (List.getElem?_eq_some_iff.1 hu).1
        obtain ⟨o, ho, hp⟩ := hs1.get m1
        rw [add_row, (hp.cell ho j hj).1, hu]
      have hcl := clone_bl _ cs W wr _ hrd HBK.out.one (by omega) hs1
      have HCL := Lib.hid hcl
      have HCS := Lib.hid hcs
      clear hs hs1 hcl hrd hcs
      go_wp2_with fail
      refine HCL.out.mono ?_; rintro r w2 ⟨v, R, rfl, hv, hs2⟩
      obtain ⟨a2, c2, rfl⟩ := Ch.RowA.slice hv
      have hs3 := Sat.use (M := cellsA b #[.slice (some ⟨gd, od, none⟩) p.done.length kd, .slice an p.now.length cn', .slice ap p.pend.length cp', .int .i64 p.writes] 82 :: ((gd, rowP 35 od (kd * 1) cs) :: (R ++ (B ++ L)))) hs2 (by intro x; simp only [cnt_append, cnt_cons, cnt_nil]; omega)
      have e0 := hs3.cell m0 1
      have e1 := hs3.free m0 1
      have hs4 := Sat.setCell hs3 1 (.slice a2 cs.length c2)
      have e2 := hs4.cell m0 2
      have e3 := hs4.free m0 2
      have hs5 := Sat.setCell hs4 2 (.slice none 0 0)
      clear hs2 hs3 hs4 q0
      go_wp2_with fail
      go_end0
      simp only [List.setIfInBounds_toArray, List.set_cons_zero, List.set_cons_succ] at hs5
      have hlen : cs.length = (p.crash keep).done.length := by
        rw [HBK.out.len, HN.out]; rfl
      have hbk : Blks B cs (p.crash keep).done := by
        have := HBK.out
        rw [HN.out] at this
        exact this
      have hpd : p.done.length = (p.crash keep).done.length := by rw [← hlen, HCS.out]
      rw [hpd] at hs5
      have hs6 : Sat W _ (cellsA b #[.slice (some ⟨gd, od, none⟩) (p.crash keep).done.length kd, .slice a2 cs.length c2, .slice none 0 0, .int .i64 (p.crash keep).writes] 82 :: ((gd, rowP 35 od (kd * 1) cs) :: (R ++ (B ++ L)))) := hs5
      refine ⟨_, rfl, ⟨.slice (some ⟨gd, od, none⟩) (p.crash keep).done.length kd, .slice a2 cs.length c2, .slice none 0 0, [(gd, rowP 35 od (kd * 1) cs)], R, [], B, cs, cs, [], rfl, ⟨⟨by omega, .inr ⟨gd, od, kd, rfl, by omega, hd2, rfl⟩⟩, hbk, ?_, hbk, RowA.nil _ _, Blks.nil _⟩⟩, hs6.use (by intro x; simp only [cnt_append, cnt_cons, cnt_nil]; omega)⟩
      show RowA 35 1 _ (p.crash keep).done.length cs R
      rw [← hlen]
      exact hv
end Go.Proofs.YtekbbpfnkbanjaaGreat.Ch
