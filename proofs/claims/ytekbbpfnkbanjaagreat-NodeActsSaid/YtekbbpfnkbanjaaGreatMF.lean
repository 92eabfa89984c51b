
/-
  node.did at Log, Intents, Release, and where it is refused.
  node.Do at Log, Intents, Release, and where it is refused; what chapter 10's longer example wants of plain lists.
  The ring: Log where it is there already, or where there is no room.
  node.Do at Get, where the stripe lies below 0.
  The ring: what its sort asks of two slots.
  The ring's sort, off the shelf: slots of five cells.
  The sorted row, back as the atoms.
  The sorted slots, as lists.
  SortStableFunc at a row of slots.
-/
import Derived.Test.YtekbbpfnkbanjaaGreatME
import Derived.Deep.DeepCutAuto
import Derived.Deep.CutBlock
import Derived.Shelf.SlSortCmp.InsertionK
import Derived.Shelf.Lay
import Derived.Ground.SlsfProg
namespace Go.Proofs.YtekbbpfnkbanjaaGreat.Ch
set_option linter.unusedSimpArgs false
open Go Go.RowKit Go.Sl Go.BigFrame
set_option linter.unusedVariables false

def liveS (ss : List Sl5) : List Sl5 := ss.filter fun s => s.live
theorem liveOf_map (xs : List (Sl5 × Value)) : (liveOf xs).map Prod.fst = liveS (xs.map Prod.fst) := by
  unfold liveOf liveS
  rw [List.filter_map]
  rfl
def freeS : List Sl5 → Int → Int
  | [], _ => -1
  | s :: ss, k => if s.live then freeS ss (k + 1) else k
theorem freeI_map : ∀ (xs : List (Sl5 × Value)) (k : Int), freeI xs k = freeS (xs.map Prod.fst) k
  | [], _ => rfl
  | x :: xs, k => by
    simp only [freeI, List.map_cons, freeS]
    rw [freeI_map xs (k + 1)]
theorem liveIn_map (xs : List (Sl5 × Value)) (i : It) : liveIn xs i ↔ ∃ s ∈ xs.map Prod.fst, s.live = true ∧ s.i = i := by
  unfold liveIn
  constructor
  · rintro ⟨x, hx, h⟩
    exact ⟨x.1, List.mem_map.2 ⟨x, hx, rfl⟩, h⟩
  · rintro ⟨s, hs, h⟩
    obtain ⟨x, hx, rfl⟩ := List.mem_map.1 hs
    exact ⟨x, hx, h⟩
noncomputable def relS (ss : List Sl5) (s g : Int) : List Sl5 := ss.map fun x => if x.live = true ∧ x.i.stripe = s ∧ x.i.gen = g then sl0 else x
theorem relX_get (xs : List (Sl5 × Value)) (s g : Int) : ∀ k, k ≤ xs.length → ((relX xs s g k).map Prod.fst) = relS ((xs.map Prod.fst).take k) s g ++ (xs.map Prod.fst).drop k
  | 0, _ => by simp [relX, relS]
  | k + 1, h => by
    obtain ⟨x, hx⟩ : ∃ x, xs[k]? = some x := ⟨_, List.getElem?_eq_getElem (by omega)⟩
    have ih := relX_get xs s g k (by omega)
    have hm : (xs.map Prod.fst)[k]? = some x.1 := by rw [List.getElem?_map, hx]; rfl
    have hd : (xs.map Prod.fst).drop k = x.1 :: (xs.map Prod.fst).drop (k + 1) := by
      have := List.drop_eq_getElem_cons (List.getElem?_eq_some_iff.1 hm).1
      rw [this, (List.getElem?_eq_some_iff.1 hm).2]
    have hl : (relS ((xs.map Prod.fst).take k) s g).length = k := by simp [relS]; omega
    rw [relX, hx]
    simp only
    rw [take_snoc hm]
    unfold relS at *
    rw [List.map_append, List.map_cons, List.map_nil, List.append_assoc]
    split
    · rw [List.map_set, ih, hd, List.set_append_right _ _ (by omega), hl, Nat.sub_self]
      rfl
    · rw [ih, hd]
      rfl
theorem relX_all (xs : List (Sl5 × Value)) (s g : Int) (h : xs.length = 16) : (relX xs s g 16).map Prod.fst = relS (xs.map Prod.fst) s g := by
  rw [relX_get xs s g 16 (by omega), List.take_of_length_le (by simp; omega), List.drop_eq_nil_of_le (by simp; omega), List.append_nil]



set_option maxRecDepth 100000 in
set_option maxHeartbeats 4000000 in
theorem did_none (b : Nat) (k s g i : Int) (da : Option Addr) (dn dc : Nat) (W w : World) (L : List Atom) (hs : Sat W w L) (hk : k < 1 ∨ 6 < k) :
    Calls Tryz.prog 32 #[.pointer (some ⟨b, 0, none⟩), .agg #[.int .i64 k, .int .i64 s, .int .i64 g, .int .i64 i, .slice da dn dc]] w fun e w' => e = .returned (repV 1 0 (.slice none 0 0) (.slice none 0 0)) ∧ Sat W w' L := by
  have hsq := hs.newCells #[.int .i64 k, .int .i64 s, .int .i64 g, .int .i64 i, .slice da dn dc] 37
  have hsr := hsq.newCells #[.int .i64 0, .int .i64 0, .slice none 0 0, .slice none 0 0] 44
  have hsz : (w.alloc (.cells #[.int .i64 k, .int .i64 s, .int .i64 g, .int .i64 i, .slice da dn dc] 37)).heap.size = w.heap.size + 1 := by simp
  rw [hsz] at hsr
  clear hsz
  have q1 : (k == 1) = false := by simp; omega
  have q2 : (k == 2) = false := by simp; omega
  have q3 : (k == 3) = false := by simp; omega
  have q4 : (k == 4) = false := by simp; omega
  have q5 : (k == 5) = false := by simp; omega
  have q6 : (k == 6) = false := by simp; omega
  have hs2 := fun o1 o2 => (hs.alloc o1).alloc o2
  clear hs hsq hsr hk
  go_enter Tryz.func32, Tryz.ntmps32
  go_wp2_with fail
  refine bodyPost_ret (v := repV 1 0 (.slice none 0 0) (.slice none 0 0)) (by simp [results, Tryz.results32, go_sem, repV, *]) rfl ?_
  exact ⟨rfl, hs2 _ _⟩
set_option maxRecDepth 100000 in
set_option maxHeartbeats 4000000 in
theorem did_get_bad (b : Nat) (s g i : Int) (da : Option Addr) (dn dc : Nat) (W w : World) (L : List Atom) (hs : Sat W w L) (hk : 40 ≤ s) :
    Calls Tryz.prog 32 #[.pointer (some ⟨b, 0, none⟩), .agg #[.int .i64 1, .int .i64 s, .int .i64 g, .int .i64 i, .slice da dn dc]] w fun e w' => e = .returned (repV 1 0 (.slice none 0 0) (.slice none 0 0)) ∧ Sat W w' L := by
  have q1 : ¬ s < 0 := by omega
  have hs2 := fun o1 o2 => (hs.alloc o1).alloc o2
  clear hs
  go_enter Tryz.func32, Tryz.ntmps32
  go_wp2_with fail
  refine bodyPost_ret (v := repV 1 0 (.slice none 0 0) (.slice none 0 0)) (by simp [results, Tryz.results32, go_sem, repV, *]) rfl ?_
  exact ⟨rfl, hs2 _ _⟩
set_option maxRecDepth 100000 in
set_option maxHeartbeats 4000000 in
theorem did_put_bad (b : Nat) (n : Nd) (A : List Atom) (p : Pc) (da : Option Addr) (dc : Nat) (W w : World) (L : List Atom) (hn : NodA b n A) (hs : Sat W w (A ++ L)) (hp : ¬ rightP p) :
    Calls Tryz.prog 32 #[.pointer (some ⟨b, 0, none⟩), .agg #[.int .i64 2, .int .i64 p.stripe, .int .i64 p.gen, .int .i64 p.index, .slice da p.data.length dc]] w fun e w' => e = .returned (repV 1 0 (.slice none 0 0) (.slice none 0 0)) ∧ Sat W w' (A ++ L) := by
  obtain ⟨bp, br, Aq, Ag, hq, hg, rfl⟩ := hn
  obtain ⟨s, g, i, d⟩ := p
  simp only at ⊢
  obtain ⟨dn, hdn⟩ : ∃ dn, dn = d.length := ⟨_, rfl⟩
  have e0 : w.cell? ⟨b, 0, none⟩ = some (.pointer (some ⟨bp, 0, none⟩)) := hs.cell m0 0
  have hbw : b < w.heap.size := hs.lt m0
  rw [← hdn]
  have hsq := hs.newCells #[.int .i64 2, .int .i64 s, .int .i64 g, .int .i64 i, .slice da dn dc] 37
  have hsr := hsq.newCells #[.int .i64 0, .int .i64 0, .slice none 0 0, .slice none 0 0] 44
  have hsz : (w.alloc (.cells #[.int .i64 2, .int .i64 s, .int .i64 g, .int .i64 i, .slice da dn dc] 37)).heap.size = w.heap.size + 1 := by simp
  rw [hsz] at hsr
  clear hsz
  have hpu := put_bad (.pointer (some ⟨bp, 0, none⟩)) ⟨s, g, i, d⟩ da dc W _ (Aq ++ (cellsA (w.heap.size + 1) #[.int .i64 0, .int .i64 0, .slice none 0 0, .slice none 0 0] 44 :: (cellsA b #[.pointer (some ⟨bp, 0, none⟩), .pointer (some ⟨br, 0, none⟩), .int .i64 n.boot] 64 :: (Ag ++ L)))) (Sat.drew (hsr.use (by intro x; simp only [cnt_append, cnt_cons, cnt_nil]; omega))) hp (.inr ⟨bp, n.q, Aq, _, rfl, hq, rfl⟩)
  unfold pcV at hpu
  simp only at hpu
  rw [← hdn] at hpu
  have HPU := Lib.hid hpu
  clear hs hsq hsr hpu hdn hp
  go_enter Tryz.func32, Tryz.ntmps32
  go_wp2_with fail
  refine wp_region_one [13, 15] [] [] [] [0, 1, 2, 3, 4, 5, 6, 7, 8, 9, 10, 11, 12, 13, 14, 15] (by kernel_rfl) (by kernel_rfl) ?_
  repeat (first | (refine can_pu1 rfl rfl rfl rfl rfl rfl (fun K hK => ?_); go_big_quiet_op; refine hK _ ?_; clear hK K) | (refine can_st1 rfl rfl rfl rfl rfl rfl (fun K hK => ?_); go_big_quiet_op; refine hK _ ?_; clear hK K) | (refine can_early1 rfl rfl rfl rfl rfl (fun K hK => ?_); go_big_quiet_op; refine hK _ ?_; clear hK K) | (refine can_skip rfl rfl rfl ?_; simp only [Act.put, List.setIfInBounds_toArray, List.set_cons_zero, List.set_cons_succ]))
  refine can_act1 rfl rfl rfl (fun K hK => ?_)
  go_wp2_with fail
  refine HPU.out.mono ?_; rintro r w2 ⟨rfl, hs2⟩
  apply hK
  clear hK HPU
  have hs3 := Sat.use (M := cellsA (w.heap.size + 1) #[.int .i64 0, .int .i64 0, .slice none 0 0, .slice none 0 0] 44 :: (cellsA b #[.pointer (some ⟨bp, 0, none⟩), .pointer (some ⟨br, 0, none⟩), .int .i64 n.boot] 64 :: (Aq ++ (Ag ++ L)))) hs2 (by intro x; simp only [cnt_append, cnt_cons, cnt_nil]; omega)
  clear hs2 e0
  have z0 : w2.cell? ⟨w.heap.size + 1, 0, none⟩ = some (.int .i64 0) := hs3.cell m0 0
  have z1 : w2.cell? ⟨w.heap.size + 1, 1, none⟩ = some (.int .i64 0) := hs3.cell m0 1
  have z2 : w2.cell? ⟨w.heap.size + 1, 2, none⟩ = some (.slice none 0 0) := hs3.cell m0 2
  have z3 : w2.cell? ⟨w.heap.size + 1, 3, none⟩ = some (.slice none 0 0) := hs3.cell m0 3
  have f0 := hs3.free m0 0
  have f1 := hs3.free m0 1
  have f2 := hs3.free m0 2
  have f3 := hs3.free m0 3
  have hz := Sat.setCell (Sat.setCell (Sat.setCell (Sat.setCell hs3 0 (.int .i64 1)) 1 (.int .i64 0)) 2 (.slice none 0 0)) 3 (.slice none 0 0)
  repeat (first | (refine can_pu1 rfl rfl rfl rfl rfl rfl (fun K hK => ?_); go_big_quiet_op; refine hK _ ?_; clear hK K) | (refine can_st1 rfl rfl rfl rfl rfl rfl (fun K hK => ?_); go_big_quiet_op; refine hK _ ?_; clear hK K) | (refine can_early1 rfl rfl rfl rfl rfl (fun K hK => ?_); go_big_quiet_op; refine hK _ ?_; clear hK K) | (refine can_skip rfl rfl rfl ?_; simp only [Act.put, List.setIfInBounds_toArray, List.set_cons_zero, List.set_cons_succ]))
  refine can_act1 rfl rfl rfl (fun K hK => ?_)
  go_wp2_with fail
  refine can_end1 ?_; (try simp only [Exit.then])
  go_wp2_with fail
  refine bodyPost_ret (v := repV 1 0 (.slice none 0 0) (.slice none 0 0)) (by simp [results, Tryz.results32, go_sem, repV, *]) rfl ?_
  exact ⟨rfl, hz.tail.use (by intro x; simp only [cnt_append, cnt_cons, cnt_nil]; omega)⟩

set_option maxRecDepth 100000 in
set_option maxHeartbeats 4000000 in
theorem did_log_ok (b k : Nat) (n : Nd) (A : List Atom) (i : It) (ix : Int) (da : Option Addr) (dc : Nat) (W w : World) (L : List Atom) (hn : NodA b n A) (hs : Sat W w (A ++ L)) (hin : ∀ y, Sat W y L → Reads y (.slice da i.data.length dc) i.data.length (bts i.data)) (hp : rightI i)
    (hl : n.g.slots.length = 16) (hsm : ∀ x ∈ n.g.slots, x.i.data.length < 1000000) (hnl : ¬ ∃ x ∈ n.g.slots, x.live = true ∧ x.i = i) (hk : freeS n.g.slots 0 = k) (hk16 : k < 16) (n0 : 0 ≤ n.g.next) (n1 : n.g.next < 281474976710656) (h96 : n.q.now.length = 96) (hpl : n.q.pend.length < 900000) (hw0 : 0 ≤ n.q.writes) (hw1 : n.q.writes < 1000000000) :
    Calls Tryz.prog 32 #[.pointer (some ⟨b, 0, none⟩), .agg #[.int .i64 3, .int .i64 i.stripe, .int .i64 i.gen, .int .i64 ix, .slice da i.data.length dc]] w fun e w' => ∃ A', e = .returned (repV 0 0 (.slice none 0 0) (.slice none 0 0)) ∧ NodA b ⟨n.q.wr (80 + k) (layI n.g.next i), ⟨n.g.slots.set k ⟨true, n.g.next, i⟩, n.g.next + 1⟩, n.boot⟩ A' ∧ Sat W w' (A' ++ L) := by
  obtain ⟨bp, br, Aq, Ag, hq, ⟨xs, B, hxs, hrw, rfl⟩, rfl⟩ := hn
  obtain ⟨s, g, d⟩ := i
  simp only at hin ⊢
  obtain ⟨dn, hdn⟩ : ∃ dn, dn = d.length := ⟨_, rfl⟩
  have e0 : w.cell? ⟨b, 1, none⟩ = some (.pointer (some ⟨br, 0, none⟩)) := hs.cell m0 1
  have hbw : b < w.heap.size := hs.lt m0
  rw [← hdn]
  have HS := Lib.hid hxs
  obtain ⟨i, hi⟩ : ∃ i : Int, i = ix := ⟨_, rfl⟩
  rw [← hi]
  have hsq := hs.newCells #[.int .i64 3, .int .i64 s, .int .i64 g, .int .i64 i, .slice da dn dc] 37
  have hsr := hsq.newCells #[.int .i64 0, .int .i64 0, .slice none 0 0, .slice none 0 0] 44
  have hsz : (w.alloc (.cells #[.int .i64 3, .int .i64 s, .int .i64 g, .int .i64 i, .slice da dn dc] 37)).heap.size = w.heap.size + 1 := by simp
  rw [hsz] at hsr
  clear hsz
  have hlg := log_ok br bp k n.q Aq xs n.g.next B ⟨s, g, d⟩ da dc W _ (cellsA (w.heap.size + 1) #[.int .i64 0, .int .i64 0, .slice none 0 0, .slice none 0 0] 44 :: (cellsA b #[.pointer (some ⟨bp, 0, none⟩), .pointer (some ⟨br, 0, none⟩), .int .i64 n.boot] 64 :: L)) hq hrw (by have := congrArg List.length hxs; rw [List.length_map, hl] at this; exact this) (fun x hx => hsm _ (by rw [← hxs]; exact List.mem_map.2 ⟨x, hx, rfl⟩)) (Sat.drew (hsr.use (by intro x; simp only [cnt_append, cnt_cons, cnt_nil]; omega))) (fun y hy => hin y hy.tail.tail) hp (fun h => hnl (by rw [← hxs]; exact (liveIn_map xs _).1 h)) (by rw [freeI_map, hxs]; exact hk) hk16 n0 n1 h96 hpl hw0 hw1
  unfold itV at hlg
  simp only at hlg
  rw [← hdn] at hlg
  have HLG := Lib.hid hlg
  clear hs hsq hsr hlg hin hdn hp hnl hsm hl hk n0 n1 hxs hi h96
  go_enter Tryz.func32, Tryz.ntmps32
  go_wp2_with fail
  refine wp_region_one [11, 13] [] [] [] [0, 1, 2, 3, 4, 5, 6, 7, 8, 9, 10, 11, 12, 13] (by kernel_rfl) (by kernel_rfl) ?_
  repeat (first | (refine can_pu1 rfl rfl rfl rfl rfl rfl (fun K hK => ?_); go_big_quiet_op; refine hK _ ?_; clear hK K) | (refine can_st1 rfl rfl rfl rfl rfl rfl (fun K hK => ?_); go_big_quiet_op; refine hK _ ?_; clear hK K) | (refine can_early1 rfl rfl rfl rfl rfl (fun K hK => ?_); go_big_quiet_op; refine hK _ ?_; clear hK K) | (refine can_skip rfl rfl rfl ?_; simp only [Act.put, List.setIfInBounds_toArray, List.set_cons_zero, List.set_cons_succ]))
  refine can_act1 rfl rfl rfl (fun K hK => ?_)
  go_wp2_with fail
  refine HLG.out.mono ?_; rintro r w2 ⟨Aq', B', v', rfl, hAq', hrw', hs2⟩
  apply hK
  clear hK HLG
  have hs3 := Sat.use (M := cellsA (w.heap.size + 1) #[.int .i64 0, .int .i64 0, .slice none 0 0, .slice none 0 0] 44 :: (cellsA b #[.pointer (some ⟨bp, 0, none⟩), .pointer (some ⟨br, 0, none⟩), .int .i64 n.boot] 64 :: (Aq' ++ ((cellsA br (ringC bp (xs.set k (⟨true, n.g.next, ⟨s, g, d⟩⟩, v')) (n.g.next + 1)) 120 :: B') ++ L)))) hs2 (by intro x; simp only [cnt_append, cnt_cons, cnt_nil]; omega)
  clear hs2 e0
  have z0 : w2.cell? ⟨w.heap.size + 1, 0, none⟩ = some (.int .i64 0) := hs3.cell m0 0
  have z1 : w2.cell? ⟨w.heap.size + 1, 1, none⟩ = some (.int .i64 0) := hs3.cell m0 1
  have z2 : w2.cell? ⟨w.heap.size + 1, 2, none⟩ = some (.slice none 0 0) := hs3.cell m0 2
  have z3 : w2.cell? ⟨w.heap.size + 1, 3, none⟩ = some (.slice none 0 0) := hs3.cell m0 3
  have f0 := hs3.free m0 0
  have f1 := hs3.free m0 1
  have f2 := hs3.free m0 2
  have f3 := hs3.free m0 3
  have hz := Sat.setCell (Sat.setCell (Sat.setCell (Sat.setCell hs3 0 (.int .i64 0)) 1 (.int .i64 0)) 2 (.slice none 0 0)) 3 (.slice none 0 0)
  repeat (first | (refine can_pu1 rfl rfl rfl rfl rfl rfl (fun K hK => ?_); go_big_quiet_op; refine hK _ ?_; clear hK K) | (refine can_st1 rfl rfl rfl rfl rfl rfl (fun K hK => ?_); go_big_quiet_op; refine hK _ ?_; clear hK K) | (refine can_early1 rfl rfl rfl rfl rfl (fun K hK => ?_); go_big_quiet_op; refine hK _ ?_; clear hK K) | (refine can_skip rfl rfl rfl ?_; simp only [Act.put, List.setIfInBounds_toArray, List.set_cons_zero, List.set_cons_succ]))
  refine can_act1 rfl rfl rfl (fun K hK => ?_)
  go_wp2_with fail
  refine can_end1 ?_; (try simp only [Exit.then])
  go_wp2_with fail
  refine bodyPost_ret (v := repV 0 0 (.slice none 0 0) (.slice none 0 0)) (by simp [results, Tryz.results32, go_sem, repV, *]) rfl ?_
  exact ⟨_, rfl, ⟨bp, br, Aq', _, hAq', ⟨_, B', by rw [List.map_set, HS.out], hrw', rfl⟩, rfl⟩, hz.tail.use (by intro x; simp only [cnt_append, cnt_cons, cnt_nil]; omega)⟩

set_option maxRecDepth 100000 in
set_option maxHeartbeats 4000000 in
theorem did_rel (b : Nat) (n : Nd) (A : List Atom) (s g i : Int) (da : Option Addr) (dn dc : Nat) (W w : World) (L : List Atom) (hn : NodA b n A) (hs : Sat W w (A ++ L)) (hl : n.g.slots.length = 16) :
    Calls Tryz.prog 32 #[.pointer (some ⟨b, 0, none⟩), .agg #[.int .i64 6, .int .i64 s, .int .i64 g, .int .i64 i, .slice da dn dc]] w fun e w' => ∃ A', e = .returned (repV 0 0 (.slice none 0 0) (.slice none 0 0)) ∧ NodA b ⟨n.q, ⟨relS n.g.slots s g, n.g.next⟩, n.boot⟩ A' ∧ Sat W w' (A' ++ L) := by
  obtain ⟨bp, br, Aq, Ag, hq, ⟨xs, B, hxs, hrw, rfl⟩, rfl⟩ := hn
  have e0 : w.cell? ⟨b, 1, none⟩ = some (.pointer (some ⟨br, 0, none⟩)) := hs.cell m0 1
  have hbw : b < w.heap.size := hs.lt m0
  have hxl : xs.length = 16 := by have := congrArg List.length hxs; rw [List.length_map, hl] at this; exact this
  have hsq := hs.newCells #[.int .i64 6, .int .i64 s, .int .i64 g, .int .i64 i, .slice da dn dc] 37
  have hsr := hsq.newCells #[.int .i64 0, .int .i64 0, .slice none 0 0, .slice none 0 0] 44
  have hsz : (w.alloc (.cells #[.int .i64 6, .int .i64 s, .int .i64 g, .int .i64 i, .slice da dn dc] 37)).heap.size = w.heap.size + 1 := by simp
  rw [hsz] at hsr
  clear hsz
  have hrl := release_any br bp xs n.g.next B s g W _ (cellsA (w.heap.size + 1) #[.int .i64 0, .int .i64 0, .slice none 0 0, .slice none 0 0] 44 :: (cellsA b #[.pointer (some ⟨bp, 0, none⟩), .pointer (some ⟨br, 0, none⟩), .int .i64 n.boot] 64 :: (Aq ++ L))) hrw hxl (Sat.drew (hsr.use (by intro x; simp only [cnt_append, cnt_cons, cnt_nil]; omega)))
  have HRL := Lib.hid hrl
  have HXS := Lib.hid (relX_all xs s g hxl)
  have HX2 := Lib.hid hxs
  clear hs hsq hsr hrl hxl hxs hl
  go_enter Tryz.func32, Tryz.ntmps32
  go_wp2_with fail
  refine wp_region_one [8] [] [] [] [0, 1, 2, 3, 4, 5, 6, 7, 8] (by kernel_rfl) (by kernel_rfl) ?_
  repeat (first | (refine can_pu1 rfl rfl rfl rfl rfl rfl (fun K hK => ?_); go_big_quiet_op; refine hK _ ?_; clear hK K) | (refine can_st1 rfl rfl rfl rfl rfl rfl (fun K hK => ?_); go_big_quiet_op; refine hK _ ?_; clear hK K) | (refine can_early1 rfl rfl rfl rfl rfl (fun K hK => ?_); go_big_quiet_op; refine hK _ ?_; clear hK K) | (refine can_skip rfl rfl rfl ?_; simp only [Act.put, List.setIfInBounds_toArray, List.set_cons_zero, List.set_cons_succ]))
  refine can_act1 rfl rfl rfl (fun K hK => ?_)
  go_wp2_with fail
  refine HRL.out.mono ?_; rintro r w2 ⟨cnt, rfl, hs2⟩
  apply hK
  clear hK HRL
  have hs3 := Sat.use (M := cellsA (w.heap.size + 1) #[.int .i64 0, .int .i64 0, .slice none 0 0, .slice none 0 0] 44 :: (cellsA b #[.pointer (some ⟨bp, 0, none⟩), .pointer (some ⟨br, 0, none⟩), .int .i64 n.boot] 64 :: (Aq ++ ((cellsA br (ringC bp (relX xs s g 16) n.g.next) 120 :: B) ++ L)))) hs2 (by intro x; simp only [cnt_append, cnt_cons, cnt_nil]; omega)
  clear hs2 e0
  have z0 : w2.cell? ⟨w.heap.size + 1, 0, none⟩ = some (.int .i64 0) := hs3.cell m0 0
  have z1 : w2.cell? ⟨w.heap.size + 1, 1, none⟩ = some (.int .i64 0) := hs3.cell m0 1
  have z2 : w2.cell? ⟨w.heap.size + 1, 2, none⟩ = some (.slice none 0 0) := hs3.cell m0 2
  have z3 : w2.cell? ⟨w.heap.size + 1, 3, none⟩ = some (.slice none 0 0) := hs3.cell m0 3
  have f0 := hs3.free m0 0
  have f1 := hs3.free m0 1
  have f2 := hs3.free m0 2
  have f3 := hs3.free m0 3
  have hz := Sat.setCell (Sat.setCell (Sat.setCell (Sat.setCell hs3 0 (.int .i64 0)) 1 (.int .i64 0)) 2 (.slice none 0 0)) 3 (.slice none 0 0)
  repeat (first | (refine can_pu1 rfl rfl rfl rfl rfl rfl (fun K hK => ?_); go_big_quiet_op; refine hK _ ?_; clear hK K) | (refine can_st1 rfl rfl rfl rfl rfl rfl (fun K hK => ?_); go_big_quiet_op; refine hK _ ?_; clear hK K) | (refine can_early1 rfl rfl rfl rfl rfl (fun K hK => ?_); go_big_quiet_op; refine hK _ ?_; clear hK K) | (refine can_skip rfl rfl rfl ?_; simp only [Act.put, List.setIfInBounds_toArray, List.set_cons_zero, List.set_cons_succ]))
  refine can_end1 ?_; (try simp only [Exit.then])
  go_wp2_with fail
  refine bodyPost_ret (v := repV 0 0 (.slice none 0 0) (.slice none 0 0)) (by simp [results, Tryz.results32, go_sem, repV, *]) rfl ?_
  exact ⟨_, rfl, ⟨bp, br, Aq, _, hq, ⟨_, B, by rw [HXS.out, HX2.out], relX_rows hrw s g 16, rfl⟩, rfl⟩, hz.tail.use (by intro x; simp only [cnt_append, cnt_cons, cnt_nil]; omega)⟩

set_option maxRecDepth 100000 in
set_option maxHeartbeats 4000000 in
theorem did_live (b : Nat) (n : Nd) (A : List Atom) (s g i : Int) (da : Option Addr) (dn dc : Nat) (W w : World) (L : List Atom) (hn : NodA b n A) (hs : Sat W w (A ++ L)) (hl : n.g.slots.length = 16) (hsm : ∀ x ∈ n.g.slots, x.i.data.length < 1000000) (h1 : (liveS n.g.slots).length ≤ 1) :
    Calls Tryz.prog 32 #[.pointer (some ⟨b, 0, none⟩), .agg #[.int .i64 5, .int .i64 s, .int .i64 g, .int .i64 i, .slice da dn dc]] w fun e w' => ∃ ia ic R, e = .returned (repV 0 0 (.slice none 0 0) (.slice ia (liveS n.g.slots).length ic)) ∧ Sat W w' (A ++ (R ++ L)) := by
  obtain ⟨bp, br, Aq, Ag, hq, ⟨xs, B, hxs, hrw, rfl⟩, rfl⟩ := hn
  have e0 : w.cell? ⟨b, 1, none⟩ = some (.pointer (some ⟨br, 0, none⟩)) := hs.cell m0 1
  have hbw : b < w.heap.size := hs.lt m0
  have hxl : xs.length = 16 := by have := congrArg List.length hxs; rw [List.length_map, hl] at this; exact this
  have hlv : (liveOf xs).length = (liveS n.g.slots).length := by rw [← hxs, ← liveOf_map, List.length_map]
  have hsq := hs.newCells #[.int .i64 5, .int .i64 s, .int .i64 g, .int .i64 i, .slice da dn dc] 37
  have hsr := hsq.newCells #[.int .i64 0, .int .i64 0, .slice none 0 0, .slice none 0 0] 44
  have hsz : (w.alloc (.cells #[.int .i64 5, .int .i64 s, .int .i64 g, .int .i64 i, .slice da dn dc] 37)).heap.size = w.heap.size + 1 := by simp
  rw [hsz] at hsr
  clear hsz
  have hlg := live_small br bp xs n.g.next B W _ (cellsA (w.heap.size + 1) #[.int .i64 0, .int .i64 0, .slice none 0 0, .slice none 0 0] 44 :: (cellsA b #[.pointer (some ⟨bp, 0, none⟩), .pointer (some ⟨br, 0, none⟩), .int .i64 n.boot] 64 :: (Aq ++ L))) hrw hxl (fun x hx => hsm _ (by rw [← hxs]; exact List.mem_map.2 ⟨x, hx, rfl⟩)) (by rw [hlv]; exact h1) (hsr.use (by intro x; simp only [cnt_append, cnt_cons, cnt_nil]; omega))
  have HLG := Lib.hid hlg
  have HLV := Lib.hid hlv
  clear hs hsq hsr hlg hsm h1 hl hxl hxs hlv
  go_enter Tryz.func32, Tryz.ntmps32
  go_wp2_with fail
  refine HLG.out.mono ?_; rintro r w2 ⟨v, ys, R, C, rfl, hr, hy, hs2⟩
  have hyl : ys.length = (liveS n.g.slots).length := by
    have := congrArg List.length hy
    rw [List.length_map, List.length_map, HLV.out] at this
    exact this
  obtain ⟨N, hN⟩ : ∃ N, N = (liveS n.g.slots).length := ⟨_, rfl⟩
  rw [hyl, ← hN] at hr
  have HNN := Lib.hid hN
  clear hN
  obtain ⟨ia, ic, rfl⟩ := Ch.RowA.slice hr
  have hs3 := Sat.use (M := cellsA (w.heap.size + 1) #[.int .i64 0, .int .i64 0, .slice none 0 0, .slice none 0 0] 44 :: (cellsA b #[.pointer (some ⟨bp, 0, none⟩), .pointer (some ⟨br, 0, none⟩), .int .i64 n.boot] 64 :: (Aq ++ ((cellsA br (ringC bp xs n.g.next) 120 :: B) ++ ((R ++ C) ++ L))))) hs2 (by intro x; simp only [cnt_append, cnt_cons, cnt_nil]; omega)
  clear hs2 e0 HLG hyl hr hy
  have z0 : w2.cell? ⟨w.heap.size + 1, 0, none⟩ = some (.int .i64 0) := hs3.cell m0 0
  have z1 : w2.cell? ⟨w.heap.size + 1, 1, none⟩ = some (.int .i64 0) := hs3.cell m0 1
  have z2 : w2.cell? ⟨w.heap.size + 1, 2, none⟩ = some (.slice none 0 0) := hs3.cell m0 2
  have z3 : w2.cell? ⟨w.heap.size + 1, 3, none⟩ = some (.slice none 0 0) := hs3.cell m0 3
  have f0 := hs3.free m0 0
  have f1 := hs3.free m0 1
  have f2 := hs3.free m0 2
  have f3 := hs3.free m0 3
  have hz := Sat.setCell (Sat.setCell (Sat.setCell (Sat.setCell hs3 0 (.int .i64 0)) 1 (.int .i64 0)) 2 (.slice none 0 0)) 3 (.slice ia N ic)
  go_wp2_with fail
  refine bodyPost_ret (v := repV 0 0 (.slice none 0 0) (.slice ia N ic)) (by simp [results, Tryz.results32, go_sem, repV, *]) rfl ?_
  exact ⟨ia, ic, R ++ C, by rw [HNN.out], hz.tail.use (by intro x; simp only [cnt_append, cnt_cons, cnt_nil]; omega)⟩
end Go.Proofs.YtekbbpfnkbanjaaGreat.Ch

namespace Go.Proofs.YtekbbpfnkbanjaaGreat.Ch
set_option linter.unusedSimpArgs false
open Go Go.RowKit Go.Sl Go.BigFrame
set_option linter.unusedVariables false

theorem do_none (b : Nat) (n : Nd) (A : List Atom) (k s g i : Int) (da : Option Addr) (dn dc : Nat) (W w : World) (L : List Atom) (hn : NodA b n A) (hs : Sat W w (A ++ L)) (hk : k < 1 ∨ 6 < k) :
    Calls Tryz.prog 14 #[.pointer (some ⟨b, 0, none⟩), .agg #[.int .i64 k, .int .i64 s, .int .i64 g, .int .i64 i, .slice da dn dc]] w fun e w' => ∃ A', e = .returned (repV 1 n.boot (.slice none 0 0) (.slice none 0 0)) ∧ NodA b n A' ∧ Sat W w' (A' ++ L) := by
  refine (do_of (T := fun code pv iv n' R => code = 1 ∧ pv = .slice none 0 0 ∧ iv = .slice none 0 0 ∧ n' = n ∧ R = []) b A k s g i da dn dc W w L hs (fun M w hM hs => ?_)).mono ?_
  · refine (did_none b k s g i da dn dc W w (A ++ M) hs hk).mono ?_
    rintro e w' ⟨rfl, hs'⟩
    exact ⟨1, none, 0, 0, none, 0, 0, n, A, [], rfl, ⟨rfl, rfl, rfl, rfl, rfl⟩, hn, hs'⟩
  · rintro e w' ⟨code, pa, pn, pc, ia, im, ic, n', A', R, rfl, ⟨rfl, h1, h2, rfl, rfl⟩, hA', hs'⟩
    rw [h1, h2]
    exact ⟨A', rfl, hA', hs'⟩
theorem do_get_bad (b : Nat) (n : Nd) (A : List Atom) (s g i : Int) (da : Option Addr) (dn dc : Nat) (W w : World) (L : List Atom) (hn : NodA b n A) (hs : Sat W w (A ++ L)) (hk : 40 ≤ s) :
    Calls Tryz.prog 14 #[.pointer (some ⟨b, 0, none⟩), .agg #[.int .i64 1, .int .i64 s, .int .i64 g, .int .i64 i, .slice da dn dc]] w fun e w' => ∃ A', e = .returned (repV 1 n.boot (.slice none 0 0) (.slice none 0 0)) ∧ NodA b n A' ∧ Sat W w' (A' ++ L) := by
  refine (do_of (T := fun code pv iv n' R => code = 1 ∧ pv = .slice none 0 0 ∧ iv = .slice none 0 0 ∧ n' = n ∧ R = []) b A 1 s g i da dn dc W w L hs (fun M w hM hs => ?_)).mono ?_
  · refine (did_get_bad b s g i da dn dc W w (A ++ M) hs hk).mono ?_
    rintro e w' ⟨rfl, hs'⟩
    exact ⟨1, none, 0, 0, none, 0, 0, n, A, [], rfl, ⟨rfl, rfl, rfl, rfl, rfl⟩, hn, hs'⟩
  · rintro e w' ⟨code, pa, pn, pc, ia, im, ic, n', A', R, rfl, ⟨rfl, h1, h2, rfl, rfl⟩, hA', hs'⟩
    rw [h1, h2]
    exact ⟨A', rfl, hA', hs'⟩
theorem do_put_bad (b : Nat) (n : Nd) (A : List Atom) (p : Pc) (da : Option Addr) (dc : Nat) (W w : World) (L : List Atom) (hn : NodA b n A) (hs : Sat W w (A ++ L)) (hp : ¬ rightP p) :
    Calls Tryz.prog 14 #[.pointer (some ⟨b, 0, none⟩), .agg #[.int .i64 2, .int .i64 p.stripe, .int .i64 p.gen, .int .i64 p.index, .slice da p.data.length dc]] w fun e w' => ∃ A', e = .returned (repV 1 n.boot (.slice none 0 0) (.slice none 0 0)) ∧ NodA b n A' ∧ Sat W w' (A' ++ L) := by
  refine (do_of (T := fun code pv iv n' R => code = 1 ∧ pv = .slice none 0 0 ∧ iv = .slice none 0 0 ∧ n' = n ∧ R = []) b A 2 p.stripe p.gen p.index da p.data.length dc W w L hs (fun M w hM hs => ?_)).mono ?_
  · refine (did_put_bad b n A p da dc W w M hn hs hp).mono ?_
    rintro e w' ⟨rfl, hs'⟩
    exact ⟨1, none, 0, 0, none, 0, 0, n, A, [], rfl, ⟨rfl, rfl, rfl, rfl, rfl⟩, hn, hs'⟩
  · rintro e w' ⟨code, pa, pn, pc, ia, im, ic, n', A', R, rfl, ⟨rfl, h1, h2, rfl, rfl⟩, hA', hs'⟩
    rw [h1, h2]
    exact ⟨A', rfl, hA', hs'⟩
theorem do_log_ok (b k m : Nat) (n : Nd) (A : List Atom) (i : It) (ix : Int) (da : Option Addr) (dc : Nat) (W w : World) (L : List Atom) (hn : NodA b n A) (hs : Sat W w (A ++ L)) (hin : ∀ y, Sat W y L → Reads y (.slice da i.data.length dc) i.data.length (bts i.data)) (hp : rightI i)
    (hl : n.g.slots.length = 16) (hsm : ∀ x ∈ n.g.slots, x.i.data.length < 1000000) (hnl : ¬ ∃ x ∈ n.g.slots, x.live = true ∧ x.i = i) (hk : freeS n.g.slots 0 = k) (hk16 : k < 16) (n0 : 0 ≤ n.g.next) (n1 : n.g.next < 281474976710656) (hok : NdOk n m) (hm : m < 900000) :
    Calls Tryz.prog 14 #[.pointer (some ⟨b, 0, none⟩), .agg #[.int .i64 3, .int .i64 i.stripe, .int .i64 i.gen, .int .i64 ix, .slice da i.data.length dc]] w fun e w' => ∃ A', e = .returned (repV 0 n.boot (.slice none 0 0) (.slice none 0 0)) ∧ NodA b ⟨n.q.wr (80 + k) (layI n.g.next i), ⟨n.g.slots.set k ⟨true, n.g.next, i⟩, n.g.next + 1⟩, n.boot⟩ A' ∧ Sat W w' (A' ++ L) := by
  refine (do_of (T := fun code pv iv n' R => code = 0 ∧ pv = .slice none 0 0 ∧ iv = .slice none 0 0 ∧ n' = ⟨n.q.wr (80 + k) (layI n.g.next i), ⟨n.g.slots.set k ⟨true, n.g.next, i⟩, n.g.next + 1⟩, n.boot⟩ ∧ R = []) b A 3 i.stripe i.gen ix da i.data.length dc W w L hs (fun M w hM hs => ?_)).mono ?_
  · refine (did_log_ok b k n A i ix da dc W w M hn hs (fun y hy => hin y (hM y hy)) hp hl hsm hnl hk hk16 n0 n1 hok.len (by have := hok.pend; omega) hok.w0 (by have := hok.w1; omega)).mono ?_
    rintro e w' ⟨A', rfl, hA', hs'⟩
    exact ⟨0, none, 0, 0, none, 0, 0, _, A', [], rfl, ⟨rfl, rfl, rfl, rfl, rfl⟩, hA', hs'⟩
  · rintro e w' ⟨code, pa, pn, pc, ia, im, ic, n', A', R, rfl, ⟨rfl, h1, h2, rfl, rfl⟩, hA', hs'⟩
    rw [h1, h2]
    exact ⟨A', rfl, hA', hs'⟩
theorem do_rel (b : Nat) (n : Nd) (A : List Atom) (s g i : Int) (da : Option Addr) (dn dc : Nat) (W w : World) (L : List Atom) (hn : NodA b n A) (hs : Sat W w (A ++ L)) (hl : n.g.slots.length = 16) :
    Calls Tryz.prog 14 #[.pointer (some ⟨b, 0, none⟩), .agg #[.int .i64 6, .int .i64 s, .int .i64 g, .int .i64 i, .slice da dn dc]] w fun e w' => ∃ A', e = .returned (repV 0 n.boot (.slice none 0 0) (.slice none 0 0)) ∧ NodA b ⟨n.q, ⟨relS n.g.slots s g, n.g.next⟩, n.boot⟩ A' ∧ Sat W w' (A' ++ L) := by
  refine (do_of (T := fun code pv iv n' R => code = 0 ∧ pv = .slice none 0 0 ∧ iv = .slice none 0 0 ∧ n' = ⟨n.q, ⟨relS n.g.slots s g, n.g.next⟩, n.boot⟩ ∧ R = []) b A 6 s g i da dn dc W w L hs (fun M w hM hs => ?_)).mono ?_
  · refine (did_rel b n A s g i da dn dc W w M hn hs hl).mono ?_
    rintro e w' ⟨A', rfl, hA', hs'⟩
    exact ⟨0, none, 0, 0, none, 0, 0, _, A', [], rfl, ⟨rfl, rfl, rfl, rfl, rfl⟩, hA', hs'⟩
  · rintro e w' ⟨code, pa, pn, pc, ia, im, ic, n', A', R, rfl, ⟨rfl, h1, h2, rfl, rfl⟩, hA', hs'⟩
    rw [h1, h2]
    exact ⟨A', rfl, hA', hs'⟩
theorem do_live (b : Nat) (n : Nd) (A : List Atom) (s g i : Int) (da : Option Addr) (dn dc : Nat) (W w : World) (L : List Atom) (hn : NodA b n A) (hs : Sat W w (A ++ L)) (hl : n.g.slots.length = 16) (hsm : ∀ x ∈ n.g.slots, x.i.data.length < 1000000) (c : Nat) (hc : (liveS n.g.slots).length = c) (h1 : c ≤ 1) :
    Calls Tryz.prog 14 #[.pointer (some ⟨b, 0, none⟩), .agg #[.int .i64 5, .int .i64 s, .int .i64 g, .int .i64 i, .slice da dn dc]] w fun e w' => ∃ A' ia ic R, e = .returned (repV 0 n.boot (.slice none 0 0) (.slice ia c ic)) ∧ NodA b n A' ∧ Sat W w' (A' ++ (R ++ L)) := by
  refine (do_of (T := fun code pv iv n' R => code = 0 ∧ pv = .slice none 0 0 ∧ (∃ ia ic, iv = .slice ia c ic) ∧ n' = n) b A 5 s g i da dn dc W w L hs (fun M w hM hs => ?_)).mono ?_
  · refine (did_live b n A s g i da dn dc W w M hn hs hl hsm (by omega)).mono ?_
    rintro e w' ⟨ia, ic, R, rfl, hs'⟩
    rw [hc]
    exact ⟨0, none, 0, 0, ia, c, ic, n, A, R, rfl, ⟨rfl, rfl, ⟨ia, ic, rfl⟩, rfl⟩, hn, hs'⟩
  · rintro e w' ⟨code, pa, pn, pc, ia, im, ic, n', A', R, rfl, ⟨rfl, h1, ⟨ia', ic', h2⟩, rfl⟩, hA', hs'⟩
    rw [h1, h2]
    exact ⟨A', ia', ic', R, rfl, hA', hs'⟩

/-! The example's rings. -/
theorem readI_zero : readI zero160 = sl0 := by
  have h : openB zero160 = (0, [], 3) := by
    have e1 : zero160.length = 160 := by unfold zero160; exact List.length_replicate
    have e2 : zero160.take 156 = List.replicate 156 0 := by unfold zero160; rw [List.take_replicate]; rfl
    have e3 : zero160.drop 156 = List.replicate 4 0 := by unfold zero160; rw [List.drop_replicate]
    have e4 : numB (List.replicate 4 0) = 0 := by decide
    unfold openB
    rw [if_neg (by omega), e2, e3, e4, if_pos sum_blank]
  unfold readI
  rw [h, if_neg (fun h => absurd h.1 (by decide))]
theorem readI_lay (no : Int) (i : It) (hp : rightI i) (h0 : 1 ≤ no) (h1 : no < 281474976710656) : readI (layI no i) = ⟨true, no, i⟩ := by
  obtain ⟨s, g, d⟩ := i
  obtain ⟨p1, p2, p3, p4, p5⟩ := hp
  simp only at p1 p2 p3 p4 p5
  have hl := intB_length no ⟨s, g, d⟩
  simp only at hl
  have ho : openB (layI no ⟨s, g, d⟩) = (2, intB no ⟨s, g, d⟩, 0) := open_seal 2 _ (by omega) (by omega) (by omega)
  have l6 : (bytesB no 6).length = 6 := bytesB_length _ _
  have g6 : (bytesB g 6).length = 6 := bytesB_length _ _
  have t6 : (intB no ⟨s, g, d⟩).take 6 = bytesB no 6 := by
    unfold intB
    rw [List.take_append_of_le_length (by omega), List.take_of_length_le (by omega)]
  have hn : numB (bytesB no 6) = no := num_bytes_of no 6 (by omega) (by omega)
  have hs0 : ((byteAt s 0).toNat : Int) = s := by
    have := byteAt_val s 0
    omega
  have d6 : (intB no ⟨s, g, d⟩).drop 6 = byteAt s 0 :: (bytesB g 6 ++ d) := by
    unfold intB
    rw [List.drop_append_of_le_length (by omega), List.drop_of_length_le (by omega)]
    rfl
  have hit : itOf (intB no ⟨s, g, d⟩) = ⟨s, g, d⟩ := by
    unfold itOf
    have e0 : (intB no ⟨s, g, d⟩)[6]? = some (byteAt s 0) := by
      have : ((intB no ⟨s, g, d⟩).drop 6)[0]? = some (byteAt s 0) := by rw [d6]; rfl
      rw [List.getElem?_drop] at this
      exact this
    have e7 : (intB no ⟨s, g, d⟩).drop 7 = bytesB g 6 ++ d := by
      have : ((intB no ⟨s, g, d⟩).drop 6).drop 1 = bytesB g 6 ++ d := by rw [d6]; rfl
      rw [List.drop_drop] at this
      exact this
    have e13 : (intB no ⟨s, g, d⟩).drop 13 = d := by
      have : ((intB no ⟨s, g, d⟩).drop 7).drop 6 = d := by
        rw [e7, List.drop_append_of_le_length (by omega), List.drop_of_length_le (by omega)]
        rfl
      rw [List.drop_drop] at this
      exact this
    rw [getD_of e0, e7, e13, List.take_append_of_le_length (by omega), List.take_of_length_le (by omega), hs0, num_bytes_of g 6 (by omega) (by omega)]
  unfold readI
  rw [ho]
  simp only
  rw [if_pos ⟨trivial, trivial, by omega⟩, t6, hn, hit, if_pos ⟨by omega, p1, p2, p3, p4, p5⟩]
end Go.Proofs.YtekbbpfnkbanjaaGreat.Ch

namespace Go.Proofs.YtekbbpfnkbanjaaGreat.Ch
set_option linter.unusedSimpArgs false
open Go Go.RowKit Go.Sl Go.BigFrame
set_option linter.unusedVariables false

set_option maxRecDepth 100000 in
set_option maxHeartbeats 8000000 in
theorem log_there (b bp : Nat) (xs : List (Sl5 × Value)) (nx : Int) (B : List Atom) (i : It) (da : Option Addr) (dc : Nat) (W w : World) (Aq L : List Atom) (hri : RowsIn B xs) (hxl : xs.length = 16) (hsm : ∀ x ∈ xs, x.1.i.data.length < 1000000)
    (hs : Sat W w (cellsA b (ringC bp xs nx) 120 :: (B ++ (Aq ++ L)))) (hin : ∀ y, Sat W y L → Reads y (.slice da i.data.length dc) i.data.length (bts i.data)) (hp : rightI i) (hnl : liveIn xs i) :
    Calls Tryz.prog 54 #[.pointer (some ⟨b, 0, none⟩), itV i (.slice da i.data.length dc)] w fun e w' => e = .returned (.int .i64 0) ∧ Sat W w' (cellsA b (ringC bp xs nx) 120 :: (B ++ (Aq ++ L))) := by
  have hr := iright_any i da dc
  rw [decide_eq_true hp] at hr
  obtain ⟨s, g, d⟩ := i
  obtain ⟨p1, p2, p3, p4, p5⟩ := hp
  unfold itV at *
  simp only at *
  have hs1 := hs.newCells #[.int .i64 s, .int .i64 g, .slice da d.length dc] 77
  have hs2 := Sat.use (M := cellsA b (ringC bp xs nx) 120 :: (cellsA w.heap.size #[.int .i64 s, .int .i64 g, .slice da d.length dc] 77 :: (B ++ (Aq ++ L)))) hs1 (by intro x; simp only [cnt_append, cnt_cons, cnt_nil]; omega)
  have HR := Lib.hid hr
  have HIN := Lib.hid (show ∀ y, Sat W y (cellsA b (ringC bp xs nx) 120 :: (cellsA w.heap.size #[.int .i64 s, .int .i64 g, .slice da d.length dc] 77 :: (B ++ (Aq ++ L)))) → Reads y (.slice da d.length dc) d.length (bts d) from fun y hy => hin y hy.tail.tail.right.right)
  have HCT := Lib.hid (fun w2 hs => contains_same b bp w.heap.size ⟨s, g, d⟩ (.slice da d.length dc) xs nx W w2 (cellsA w.heap.size #[.int .i64 s, .int .i64 g, .slice da d.length dc] 77 :: (B ++ (Aq ++ L))) hs hxl m0 (fun y hy => hin y hy.tail.right.right) (fun y hy x hx => (hri x hx).reads hy (fun z hz => .tail _ (List.mem_append_left _ hz))) (by show d.length < 1000000; omega) hsm)
  have HIN0 := Lib.hid hin
  have HIX := Lib.hid (fun w2 hs => index_free b bp xs nx W w2 (cellsA w.heap.size #[.int .i64 s, .int .i64 g, .slice da d.length dc] 77 :: (B ++ (Aq ++ L))) hs hxl (fun x hx => by obtain ⟨a, c, h⟩ := (hri x hx).shape; exact ⟨_, _, _, h⟩))
  have HRI := Lib.hid hri
  have HXL := Lib.hid hxl
  have HP5 := Lib.hid p5
  clear hr hs hs1 hin hri hsm p5 hxl
  have HNL := Lib.hid hnl
  clear hnl
  go_enter Tryz.func54, Tryz.ntmps54
  go_wp2_with fail
  refine (HR.out _).mono ?_; rintro r w2 ⟨rfl, hx⟩
  have hs3 := hs2.below hx
  clear hs2 hx HR
  go_wp2_with fail
  refine (HCT.out w2 hs3).mono ?_; rintro r w3 ⟨cb, hcb, rfl, hs4⟩
  obtain rfl : cb = true := hcb.2 HNL.out
  clear hs3 HCT hcb
  go_wp2_with fail
  go_ret
  exact ⟨rfl, hs4.use (by intro x; simp only [cnt_append, cnt_cons, cnt_nil]; omega)⟩

set_option maxRecDepth 100000 in
set_option maxHeartbeats 8000000 in
theorem log_full (b bp : Nat) (xs : List (Sl5 × Value)) (nx : Int) (B : List Atom) (i : It) (da : Option Addr) (dc : Nat) (W w : World) (Aq L : List Atom) (hri : RowsIn B xs) (hxl : xs.length = 16) (hsm : ∀ x ∈ xs, x.1.i.data.length < 1000000)
    (hs : Sat W w (cellsA b (ringC bp xs nx) 120 :: (B ++ (Aq ++ L)))) (hin : ∀ y, Sat W y L → Reads y (.slice da i.data.length dc) i.data.length (bts i.data)) (hp : rightI i) (hnl : ¬ liveIn xs i) (hfull : freeI xs 0 < 0 ∨ 281474976710655 < nx) :
    Calls Tryz.prog 54 #[.pointer (some ⟨b, 0, none⟩), itV i (.slice da i.data.length dc)] w fun e w' => e = .returned (.int .i64 6) ∧ Sat W w' (cellsA b (ringC bp xs nx) 120 :: (B ++ (Aq ++ L))) := by
  have hr := iright_any i da dc
  rw [decide_eq_true hp] at hr
  obtain ⟨s, g, d⟩ := i
  obtain ⟨p1, p2, p3, p4, p5⟩ := hp
  unfold itV at *
  simp only at *
  have hs1 := hs.newCells #[.int .i64 s, .int .i64 g, .slice da d.length dc] 77
  have hs2 := Sat.use (M := cellsA b (ringC bp xs nx) 120 :: (cellsA w.heap.size #[.int .i64 s, .int .i64 g, .slice da d.length dc] 77 :: (B ++ (Aq ++ L)))) hs1 (by intro x; simp only [cnt_append, cnt_cons, cnt_nil]; omega)
  have HR := Lib.hid hr
  have HIN := Lib.hid (show ∀ y, Sat W y (cellsA b (ringC bp xs nx) 120 :: (cellsA w.heap.size #[.int .i64 s, .int .i64 g, .slice da d.length dc] 77 :: (B ++ (Aq ++ L)))) → Reads y (.slice da d.length dc) d.length (bts d) from fun y hy => hin y hy.tail.tail.right.right)
  have HCT := Lib.hid (fun w2 hs => contains_same b bp w.heap.size ⟨s, g, d⟩ (.slice da d.length dc) xs nx W w2 (cellsA w.heap.size #[.int .i64 s, .int .i64 g, .slice da d.length dc] 77 :: (B ++ (Aq ++ L))) hs hxl m0 (fun y hy => hin y hy.tail.right.right) (fun y hy x hx => (hri x hx).reads hy (fun z hz => .tail _ (List.mem_append_left _ hz))) (by show d.length < 1000000; omega) hsm)
  have HIN0 := Lib.hid hin
  have HIX := Lib.hid (fun w2 hs => index_free b bp xs nx W w2 (cellsA w.heap.size #[.int .i64 s, .int .i64 g, .slice da d.length dc] 77 :: (B ++ (Aq ++ L))) hs hxl (fun x hx => by obtain ⟨a, c, h⟩ := (hri x hx).shape; exact ⟨_, _, _, h⟩))
  have HRI := Lib.hid hri
  have HXL := Lib.hid hxl
  have HP5 := Lib.hid p5
  clear hr hs hs1 hin hri hsm p5 hxl
  have HNL := Lib.hid hnl
  clear hnl
  go_enter Tryz.func54, Tryz.ntmps54
  go_wp2_with fail
  refine (HR.out _).mono ?_; rintro r w2 ⟨rfl, hx⟩
  have hs3 := hs2.below hx
  clear hs2 hx HR
  go_wp2_with fail
  refine (HCT.out w2 hs3).mono ?_; rintro r w3 ⟨cb, hcb, rfl, hs4⟩
  obtain rfl : cb = false := by
    cases cb
    · rfl
    · exact absurd (hcb.1 rfl) HNL.out
  generalize freeI xs 0 = fr at *
  by_cases hf : fr < 0
  · skip
    clear hs3 HCT hcb
    go_wp2_with fail
    refine (HIX.out w3 hs4).mono ?_; rintro r w4 ⟨rfl, hs5⟩
    clear hs4 HIX
    have e81 : w4.cell? ⟨b, 81, none⟩ = some (.int .i64 nx) := by rw [hs5.cell m0]; exact ring_next HXL.out
    go_wp2_with fail
    go_ret
    exact ⟨rfl, hs5.use (by intro x; simp only [cnt_append, cnt_cons, cnt_nil]; omega)⟩
  · have hn : 281474976710655 < nx := by omega
    clear hs3 HCT hcb
    go_wp2_with fail
    refine (HIX.out w3 hs4).mono ?_; rintro r w4 ⟨rfl, hs5⟩
    clear hs4 HIX
    have e81 : w4.cell? ⟨b, 81, none⟩ = some (.int .i64 nx) := by rw [hs5.cell m0]; exact ring_next HXL.out
    go_wp2_with fail
    go_ret
    exact ⟨rfl, hs5.use (by intro x; simp only [cnt_append, cnt_cons, cnt_nil]; omega)⟩
end Go.Proofs.YtekbbpfnkbanjaaGreat.Ch

namespace Go.Proofs.YtekbbpfnkbanjaaGreat.Ch
set_option linter.unusedSimpArgs false
open Go Go.RowKit Go.Sl Go.BigFrame
set_option linter.unusedVariables false

set_option maxRecDepth 100000 in
set_option maxHeartbeats 4000000 in
theorem did_get_neg (b : Nat) (s g i : Int) (da : Option Addr) (dn dc : Nat) (W w : World) (L : List Atom) (hs : Sat W w L) (hk : s < 0) :
    Calls Tryz.prog 32 #[.pointer (some ⟨b, 0, none⟩), .agg #[.int .i64 1, .int .i64 s, .int .i64 g, .int .i64 i, .slice da dn dc]] w fun e w' => e = .returned (repV 1 0 (.slice none 0 0) (.slice none 0 0)) ∧ Sat W w' L := by
  have hs2 := fun o1 o2 => (hs.alloc o1).alloc o2
  clear hs
  go_enter Tryz.func32, Tryz.ntmps32
  go_wp2_with fail
  refine bodyPost_ret (v := repV 1 0 (.slice none 0 0) (.slice none 0 0)) (by simp [results, Tryz.results32, go_sem, repV, *]) rfl ?_
  exact ⟨rfl, hs2 _ _⟩
theorem do_get_out (b : Nat) (n : Nd) (A : List Atom) (s g i : Int) (da : Option Addr) (dn dc : Nat) (W w : World) (L : List Atom) (hn : NodA b n A) (hs : Sat W w (A ++ L)) (hk : s < 0 ∨ 40 ≤ s) :
    Calls Tryz.prog 14 #[.pointer (some ⟨b, 0, none⟩), .agg #[.int .i64 1, .int .i64 s, .int .i64 g, .int .i64 i, .slice da dn dc]] w fun e w' => ∃ A', e = .returned (repV 1 n.boot (.slice none 0 0) (.slice none 0 0)) ∧ NodA b n A' ∧ Sat W w' (A' ++ L) := by
  rcases hk with hk | hk
  · refine (do_of (T := fun code pv iv n' R => code = 1 ∧ pv = .slice none 0 0 ∧ iv = .slice none 0 0 ∧ n' = n ∧ R = []) b A 1 s g i da dn dc W w L hs (fun M w hM hs => ?_)).mono ?_
    · refine (did_get_neg b s g i da dn dc W w (A ++ M) hs hk).mono ?_
      rintro e w' ⟨rfl, hs'⟩
      exact ⟨1, none, 0, 0, none, 0, 0, n, A, [], rfl, ⟨rfl, rfl, rfl, rfl, rfl⟩, hn, hs'⟩
    · rintro e w' ⟨code, pa, pn, pc, ia, im, ic, n', A', R, rfl, ⟨rfl, h1, h2, rfl, rfl⟩, hA', hs'⟩
      rw [h1, h2]
      exact ⟨A', rfl, hA', hs'⟩
  · exact do_get_bad b n A s g i da dn dc W w L hn hs hk
end Go.Proofs.YtekbbpfnkbanjaaGreat.Ch

namespace Go.Proofs.YtekbbpfnkbanjaaGreat.Ch
set_option linter.unusedSimpArgs false
open Go Go.RowKit Go.Sl Go.BigFrame
set_option linter.unusedVariables false

set_option maxRecDepth 100000 in
set_option maxHeartbeats 4000000 in
theorem cmp_live (x y : Sl5) (ax ay : Option Addr) (nx cx ny cy : Nat) (W w : World) (L : List Atom) (hs : Sat W w L) (x0 : 0 ≤ x.num) (x1 : x.num ≤ 281474976710656) (y0 : 0 ≤ y.num) (y1 : y.num ≤ 281474976710656) :
    Calls Tryz.prog 86 #[slV x (.slice ax nx cx), slV y (.slice ay ny cy)] w fun e w' => e = .returned (.int .i64 (x.num - y.num)) ∧ Sat W w' L := by
  obtain ⟨xl, xn, ⟨xs, xg, xd⟩⟩ := x
  obtain ⟨yl, yn, ⟨ys, yg, yd⟩⟩ := y
  unfold slV
  simp only at *
  have d0 : -9223372036854775808 ≤ xn - yn := by omega
  have d1 : xn - yn < 9223372036854775808 := by omega
  have hs2 := fun o1 o2 => (hs.alloc o1).alloc o2
  have hs1 := hs.newCells #[.bool xl, .int .i64 xn, .int .i64 xs, .int .i64 xg, .slice ax nx cx] 117
  clear hs
  go_enter Tryz.func86, Tryz.ntmps86
  go_wp2_with fail
  go_ret
  exact ⟨rfl, hs2 _ _⟩
set_option maxRecDepth 100000 in
set_option maxHeartbeats 4000000 in
theorem cmp_live_eq (x y : Sl5) (ax ay : Option Addr) (nx cx ny cy : Nat) (w : World) (x0 : 0 ≤ x.num) (x1 : x.num ≤ 281474976710656) (y0 : 0 ≤ y.num) (y1 : y.num ≤ 281474976710656) :
    Calls Tryz.prog 86 #[slV x (.slice ax nx cx), slV y (.slice ay ny cy)] w fun e w' => e = .returned (.int .i64 (x.num - y.num)) ∧ ∃ o1 o2, w' = (w.alloc o1).alloc o2 := by
  obtain ⟨xl, xn, ⟨xs, xg, xd⟩⟩ := x
  obtain ⟨yl, yn, ⟨ys, yg, yd⟩⟩ := y
  unfold slV
  simp only at *
  have d0 : -9223372036854775808 ≤ xn - yn := by omega
  have d1 : xn - yn < 9223372036854775808 := by omega
  go_enter Tryz.func86, Tryz.ntmps86
  go_wp2_with fail
  go_ret
  exact ⟨rfl, _, _, rfl⟩
end Go.Proofs.YtekbbpfnkbanjaaGreat.Ch

namespace Go.Proofs
set_option linter.unusedSimpArgs false
open Go.Shelf Go.RowKit Go.Lib Go.Sort
shelf_lay_g SlLaysF0.n20 Slsf 20 at Tryz 111 as Tryz.insSlot
end Go.Proofs
namespace Go.Proofs.YtekbbpfnkbanjaaGreat.Ch
open Go Go.RowKit Go.Sl Go.BigFrame
set_option linter.unusedVariables false

/-- A slot whose number lies within its bounds, behind a slice. -/
def SlB : Type := {x : Sl5 × (Option Addr × Nat × Nat) // 0 ≤ x.1.num ∧ x.1.num ≤ 281474976710656}
instance : Inhabited SlB := ⟨⟨⟨⟨false, 0, ⟨0, 0, []⟩⟩, none, 0, 0⟩, by decide, by decide⟩⟩
def encB (x : SlB) : List Value := slCells x.1.1 (.slice x.1.2.1 x.1.2.2.1 x.1.2.2.2)
def cfB (x y : SlB) : Int := x.1.1.num - y.1.1.num

theorem cmpLays_live (blk off size : Nat) (w : World) : CmpLays Tryz.prog 86 #[] encB 5 cfB blk off size w := fun m os dk _ x y => by
  obtain ⟨⟨x, ax, nx, cx⟩, x0, x1⟩ := x
  obtain ⟨⟨y, ay, ny, cy⟩, y0, y1⟩ := y
  refine (cmp_live_eq x y ax ay nx cx ny cy _ x0 x1 y0 y1).mono ?_
  rintro e w' ⟨rfl, o1, o2, rfl⟩
  exact ⟨rfl, 0, _, by rw [Sort.alloc_eq_grow, Sort.alloc_eq_grow, Sort.grow_grow]; rfl⟩

theorem insI_any (blk off cap a b : Nat) (d : Array SlB) (w : World) (hH : Sort.HoldsK encB 5 w blk off d) (hblk : blk < w.heap.size) (hab : a ≤ b) (hb : b ≤ d.size) (hsz : d.size < 4611686018427387904) :
    Calls Tryz.prog 111 #[.slice (some ⟨blk, off, none⟩) d.size cap, .int .i64 a, .int .i64 b, .func (.func 86) #[] #[]] w fun e w' =>
      e = .returned (.tuple #[]) ∧ ∃ n os, w' = sortWorldK encB 5 w blk off n (Sort.insertionSort (ltOf cfB) d a b) os := by
  have eg : ∀ args w, (callFunc 86 args).run Tryz.prog w = .ok (.enter 86 args) w := enters_of Tryz.func86 (by kernel_rfl) rfl
  exact AnyQ.insertionSortCmpFunc Tryz.insSlot 5 Tryz.isAgg117 Tryz.sizeOf117 encB (fun _ => rfl) (fun x v hv => by simp [encB, slCells] at hv; rcases hv with rfl | rfl | rfl | rfl | rfl <;> rfl) cfB 86 #[] blk off cap a b d w eg (cmpLays_live blk off d.size w) hH hblk hab hb hsz
theorem sortI_any (blk off cap : Nat) (d : Array SlB) (w : World) (hH : Sort.HoldsK encB 5 w blk off d) (hblk : blk < w.heap.size) (hn : d.size < 20) :
    Calls Tryz.prog 85 #[.slice (some ⟨blk, off, none⟩) d.size cap, .func (.func 86) #[] #[]] w fun e w' =>
      e = .returned (.tuple #[]) ∧ ∃ n os, w' = sortWorldK encB 5 w blk off n (Sort.insertionSort (ltOf cfB) d 0 d.size) os := by
  have hi := insI_any blk off cap 0 d.size d w hH hblk (Nat.zero_le _) (Nat.le_refl _) (by omega)
  generalize Sort.insertionSort (ltOf cfB) d 0 d.size = r at hi ⊢
  have hst : Calls Tryz.prog 100 #[.slice (some ⟨blk, off, none⟩) d.size cap, .int .i64 d.size, .func (.func 86) #[] #[]] w fun e w' => e = .returned (.tuple #[]) ∧ ∃ n os, w' = sortWorldK encB 5 w blk off n r os := by
    generalize sortWorldK encB 5 w blk off = sw at hi ⊢
    have HI := Lib.hid hi
    clear hi hH
    obtain ⟨x, hx⟩ : ∃ x : Int, x = d.size := ⟨_, rfl⟩
    have h1 : ¬ (20 : Int) ≤ x := by omega
    have h2 : ¬ (20 : Int) < x := by omega
    rw [← hx] at HI ⊢
    clear hx hn hblk
    go_enter Tryz.func100, Tryz.ntmps100
    go_wp2_with fail
    refine wp_loop_rounds 1 ?_
    rw [rounds_succ]
    go_wp2_with fail
    refine HI.out.mono ?_; rintro r2 w2 ⟨rfl, n2, os2, rfl⟩
    go_wp2_with fail
    refine wp_loop_rounds 1 ?_
    rw [rounds_succ]
    go_wp2_with fail
    go_end0
    exact ⟨rfl, n2, os2, rfl⟩
  generalize sortWorldK encB 5 w blk off = sw at hst ⊢
  have HST := Lib.hid hst
  clear hst hn hi hH hblk
  go_enter Tryz.func85, Tryz.ntmps85
  go_wp2_with fail
  refine HST.out.mono ?_; rintro r2 w2 ⟨rfl, n2, os2, rfl⟩
  go_wp2_with fail
  go_end0
  exact ⟨rfl, n2, os2, rfl⟩
end Go.Proofs.YtekbbpfnkbanjaaGreat.Ch

namespace Go.Proofs.YtekbbpfnkbanjaaGreat.Ch
set_option linter.unusedSimpArgs false
open Go Go.RowKit Go.Sl Go.BigFrame
set_option linter.unusedVariables false

theorem putCells_row (off : Nat) (fl c : Array Value) (h : off + fl.size ≤ c.size) : ((Sort.putCells id off fl c).toList.drop off).take fl.size = fl.toList := by
  apply List.ext_getElem?
  intro i
  rw [List.getElem?_take, List.getElem?_drop]
  split
  · rename_i hi
    rw [Array.getElem?_toList, Array.getElem?_toList]
    unfold Sort.putCells
    rw [Array.getElem?_mapIdx, Array.getElem?_eq_getElem (by omega), Array.getElem?_eq_getElem hi, Option.map_some, if_pos ⟨by omega, by omega⟩, Nat.add_sub_cancel_left, getElem!_pos fl i hi]
    rfl
  · rename_i hi
    rw [Array.getElem?_toList, Array.getElem?_eq_none (by omega)]
theorem size_putCells (off : Nat) (fl c : Array Value) : (Sort.putCells id off fl c).size = c.size := by simp [Sort.putCells]

theorem sort_sat {α : Type} [Inhabited α] (enc : α → List Value) (k : Nat) {W w : World} {blk off len : Nat} {T : TypeId} {d d' : Array α} {F : List Atom} (hs : Sat W w ((blk, rowP T off len (Sort.flatK enc k d).toList) :: F)) (hd : d'.size = d.size) (n : Nat) (os : Array Obj) :
    Sat W (sortWorldK enc k w blk off n d' os) ((blk, rowP T off len (Sort.flatK enc k d').toList) :: F) := by
  obtain ⟨o, ho, cur, rfl, h1, h2, h3⟩ := hs.head
  have hb : blk < w.heap.size := (Array.getElem?_eq_some_iff.1 ho).1
  have hsz : (sortWorldK enc k w blk off n d' os).heap = (w.heap.modify blk (Sort.onCells (Sort.putCells id off (Sort.flatK enc k d')))) ++ os := rfl
  have hl : (Sort.flatK enc k d').size = (Sort.flatK enc k d).size := by rw [Sort.size_flatK, Sort.size_flatK, hd]
  refine hs.turn ⟨rfl, rfl, rfl, ?_⟩ (fun j hj hne => ?_) ⟨.cells (Sort.putCells id off (Sort.flatK enc k d') cur) T (0, 0), ?_, _, rfl, ?_, ?_, ?_⟩
  · rw [hsz]; simp
  · rw [hsz, Array.getElem?_append_left (by simpa using hj), Array.getElem?_modify, if_neg (by omega)]
  · rw [hsz, Array.getElem?_append_left (by simpa using hb), Array.getElem?_modify, if_pos rfl, ho]
    rfl
  · rw [size_putCells]; exact h1
  · rw [Array.length_toList, hl]; rw [Array.length_toList] at h2; exact h2
  · rw [Array.length_toList]
    rw [Array.length_toList] at h2
    exact putCells_row off _ cur (by omega)
theorem row_holds {α : Type} [Inhabited α] (enc : α → List Value) (k : Nat) {W w : World} {blk off len : Nat} {T : TypeId} {d : Array α} {F : List Atom} (hs : Sat W w ((blk, rowP T off len (Sort.flatK enc k d).toList) :: F)) : Sort.HoldsK enc k w blk off d ∧ blk < w.heap.size := by
  obtain ⟨o, ho, hp⟩ := hs.head
  refine ⟨fun j hj => ?_, (Array.getElem?_eq_some_iff.1 ho).1⟩
  obtain ⟨g1, g2⟩ := hp.cell ho j (by rw [Array.length_toList]; exact hj)
  refine ⟨?_, g2⟩
  rw [g1, Array.getElem?_toList, Array.getElem?_eq_getElem hj, getElem!_pos _ j hj]
  rfl
end Go.Proofs.YtekbbpfnkbanjaaGreat.Ch

namespace Go.Proofs.YtekbbpfnkbanjaaGreat.Ch
set_option linter.unusedSimpArgs false
open Go Go.RowKit Go.Sl Go.BigFrame
set_option linter.unusedVariables false

def pairB (x : SlB) : Sl5 × Value := (x.1.1, .slice x.1.2.1 x.1.2.2.1 x.1.2.2.2)
theorem flatK_list (d : Array SlB) : (Sort.flatK encB 5 d).toList = slotsC (d.toList.map pairB) := by
  apply List.ext_getElem?
  intro t
  by_cases ht : t < d.size * 5
  · have hi : t / 5 < d.size := by omega
    have hf : t % 5 < 5 := by omega
    rw [Array.getElem?_toList, Array.getElem?_eq_getElem (by rw [Sort.size_flatK]; exact ht)]
    have e1 := Sort.get_flatK encB 5 d t ht
    rw [getElem!_pos _ t (by rw [Sort.size_flatK]; exact ht)] at e1
    rw [e1]
    have e2 : (d.toList.map pairB)[t / 5]? = some (pairB d[t / 5]!) := by
      rw [List.getElem?_map, Array.getElem?_toList, Array.getElem?_eq_getElem hi, getElem!_pos d _ hi]
      rfl
    have e3 : (slCells (pairB d[t / 5]!).1 (pairB d[t / 5]!).2)[t % 5]? = some (encB d[t / 5]!)[t % 5]! := by
      show (encB d[t / 5]!)[t % 5]? = _
      rw [List.getElem?_eq_getElem (show t % 5 < (encB d[t / 5]!).length from hf), getElem!_pos (encB d[t / 5]!) _ hf]
      rfl
    have e4 := slotsC_get e2 (t % 5) _ e3
    rw [show t / 5 * 5 + t % 5 = t by omega] at e4
    exact e4.symm
  · rw [List.getElem?_eq_none (by rw [Array.length_toList, Sort.size_flatK]; omega), List.getElem?_eq_none (by rw [slotsC_length, List.length_map, Array.length_toList]; omega)]
theorem ltB (x y : SlB) : ltOf cfB x y = decide (x.1.1.num < y.1.1.num) := by
  unfold ltOf cfB
  rw [decide_eq_decide]
  constructor <;> intro h <;> omega
theorem swo_cfB : Sort.SWO (ltOf cfB) := by
  constructor
  · intro x
    rw [ltB]
    exact decide_eq_false (by omega)
  · intro x y z h1 h2
    rw [ltB, decide_eq_true_eq] at *
    omega
  · intro x y z h1 h2
    rw [ltB, decide_eq_false_iff_not] at *
    omega
theorem sort_list (d : Array SlB) : (Sort.insertionSort (ltOf cfB) d 0 d.size).size = d.size ∧ (Sort.insertionSort (ltOf cfB) d 0 d.size).toList.Perm d.toList ∧ (Sort.insertionSort (ltOf cfB) d 0 d.size).toList.Pairwise fun x y => x.1.1.num ≤ y.1.1.num := by
  obtain ⟨⟨h1, _, h2⟩, h3⟩ := Sort.insertionSort_holds (lt := ltOf cfB) swo_cfB d 0 d.size (Nat.zero_le _) (Nat.le_refl _)
  generalize Sort.insertionSort (ltOf cfB) d 0 d.size = r at *
  refine ⟨h1, ?_, ?_⟩
  · rw [← h1] at h2
    rw [Array.extract_size] at h2
    rw [h1, Array.extract_size] at h2
    exact h2
  · rw [List.pairwise_iff_getElem]
    intro i j hi hj hij
    rw [Array.length_toList] at hi hj
    have h := h3 i j (Nat.zero_le _) hij (by omega)
    rw [getElem!_pos r i hi, getElem!_pos r j hj] at h
    rw [ltB, decide_eq_false_iff_not] at h
    rw [Array.getElem_toList, Array.getElem_toList]
    omega
theorem of_pairs : ∀ (ls : List (Sl5 × Value)), (∀ x ∈ ls, (∃ a n c, x.2 = .slice a n c) ∧ 0 ≤ x.1.num ∧ x.1.num ≤ 281474976710656) → ∃ d : Array SlB, d.toList.map pairB = ls := by
  intro ls
  induction ls with
  | nil => intro _; exact ⟨#[], rfl⟩
  | cons x ls ih =>
    intro h
    obtain ⟨d, hd⟩ := ih (fun y hy => h y (.tail _ hy))
    obtain ⟨⟨a, n, c, hv⟩, h0, h1⟩ := h x (.head _)
    obtain ⟨s, v⟩ := x
    simp only at hv h0 h1
    subst hv
    refine ⟨(⟨(s, a, n, c), h0, h1⟩ :: d.toList).toArray, ?_⟩
    show pairB ⟨(s, a, n, c), h0, h1⟩ :: d.toList.map pairB = _
    rw [hd]
    rfl
end Go.Proofs.YtekbbpfnkbanjaaGreat.Ch

namespace Go.Proofs.YtekbbpfnkbanjaaGreat.Ch
set_option linter.unusedSimpArgs false
open Go Go.RowKit Go.Sl Go.BigFrame
set_option linter.unusedVariables false

theorem sort_row (v : Value) (ls : List (Sl5 × Value)) (R : List Atom) (W w : World) (F : List Atom) (hr : RowA 117 5 v ls.length (slotsC ls) R) (hs : Sat W w (R ++ F)) (hl : ls.length < 20) (hsh : ∀ x ∈ ls, (∃ a n c, x.2 = .slice a n c) ∧ 0 ≤ x.1.num ∧ x.1.num ≤ 281474976710656) :
    Calls Tryz.prog 85 #[v, .func (.func 86) #[] #[]] w fun e w' => e = .returned (.tuple #[]) ∧ ∃ ls' R', ls'.length = ls.length ∧ ls'.Perm ls ∧ ls'.Pairwise (fun x y => x.1.num ≤ y.1.num) ∧ RowA 117 5 v ls'.length (slotsC ls') R' ∧ Sat W w' (R' ++ F) := by
  have hr2 := hr
  obtain ⟨hlen, ⟨rfl, h0, rfl⟩ | ⟨g, off, cap, rfl, hc1, hc2, rfl⟩⟩ := hr
  · obtain rfl := List.eq_nil_of_length_eq_zero h0
    refine (sortI_small none 0 0 (by omega) w).mono ?_
    rintro e w' ⟨rfl, rfl⟩
    exact ⟨rfl, [], [], rfl, .refl _, .nil, hr2, hs⟩
  · obtain ⟨d, rfl⟩ := of_pairs ls hsh
    rw [← flatK_list] at hs
    have hsz : (d.toList.map pairB).length = d.size := by rw [List.length_map, Array.length_toList]
    rw [hsz] at hl hc1 ⊢
    rw [hsz] at hr2
    obtain ⟨hH, hb⟩ := row_holds encB 5 hs
    obtain ⟨q1, q2, q3⟩ := sort_list d
    have hso := sortI_any g off cap d w hH hb (by omega)
    generalize Sort.insertionSort (ltOf cfB) d 0 d.size = r at *
    refine hso.mono ?_
    rintro e w' ⟨rfl, n, os, rfl⟩
    have hs2 := sort_sat encB 5 hs q1 n os
    rw [flatK_list] at hs2
    have hsz2 : (r.toList.map pairB).length = d.size := by rw [List.length_map, Array.length_toList, q1]
    refine ⟨rfl, r.toList.map pairB, [(g, rowP 117 off (cap * 5) (slotsC (r.toList.map pairB)))], hsz2, q2.map _, List.pairwise_map.2 q3, ?_, hs2⟩
    rw [hsz2]
    exact ⟨by rw [slotsC_length, hsz2], .inr ⟨g, off, cap, rfl, hc1, hc2, rfl⟩⟩
end Go.Proofs.YtekbbpfnkbanjaaGreat.Ch
