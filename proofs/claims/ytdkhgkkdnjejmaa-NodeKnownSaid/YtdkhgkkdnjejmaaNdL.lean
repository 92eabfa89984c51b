/-
  node.did at Log, Intents, Release, and where it is refused.
-/
import Derived.Test.YtdkhgkkdnjejmaaNdK
namespace Go.Proofs.Ytdkhgkkdnjejmaa.Ch
set_option linter.unusedSimpArgs false
open Go Go.RowKit Go.Sl Go.BigFrame
set_option linter.unusedVariables false

def liveS (ss : List Sl5) : List Sl5 := ss.filter fun s => s.live
theorem liveOf_map (xs : List (Sl5 × Value)) : (liveOf xs).map Prod.fst = liveS (xs.map Prod.fst) := by
  unfold liveOf liveS
  rw [List.filter_map]
  rfl
def freeS : List Sl5 → Int → Int
  | [], _ => -1
  | s :: ss, k => if s.live then freeS ss (k + 1) else k
theorem freeI_map : ∀ (xs : List (Sl5 × Value)) (k : Int), freeI xs k = freeS (xs.map Prod.fst) k
  | [], _ => rfl
  | x :: xs, k => by
    simp only [freeI, List.map_cons, freeS]
    rw [freeI_map xs (k + 1)]
theorem liveIn_map (xs : List (Sl5 × Value)) (i : It) : liveIn xs i ↔ ∃ s ∈ xs.map Prod.fst, s.live = true ∧ s.i = i := by
  unfold liveIn
  constructor
  · rintro ⟨x, hx, h⟩
    exact ⟨x.1, List.mem_map.2 ⟨x, hx, rfl⟩, h⟩
  · rintro ⟨s, hs, h⟩
    obtain ⟨x, hx, rfl⟩ := List.mem_map.1 hs
    exact ⟨x, hx, h⟩
noncomputable def relS (ss : List Sl5) (s g : Int) : List Sl5 := ss.map fun x => if x.live = true ∧ x.i.stripe = s ∧ x.i.gen = g then sl0 else x
theorem relX_get (xs : List (Sl5 × Value)) (s g : Int) : ∀ k, k ≤ xs.length → ((relX xs s g k).map Prod.fst) = relS ((xs.map Prod.fst).take k) s g ++ (xs.map Prod.fst).drop k
  | 0, _ => by simp [relX, relS]
  | k + 1, h => by
    obtain ⟨x, hx⟩ : ∃ x, xs[k]? = some x := ⟨_, List.getElem?_eq_getElem (by omega)⟩
    have ih := relX_get xs s g k (by omega)
    have hm : (xs.map Prod.fst)[k]? = some x.1 := by rw [List.getElem?_map, hx]; rfl
    have hd : (xs.map Prod.fst).drop k = x.1 :: (xs.map Prod.fst).drop (k + 1) := by
      have := List.drop_eq_getElem_cons (List.getElem?_eq_some_iff.1 hm).1
      rw [this, (List.getElem?_eq_some_iff.1 hm).2]
    have hl : (relS ((xs.map Prod.fst).take k) s g).length = k := by simp [relS]; omega
    rw [relX, hx]
    simp only
    rw [take_snoc hm]
    unfold relS at *
    rw [List.map_append, List.map_cons, List.map_nil, List.append_assoc]
    split
    · rw [List.map_set, ih, hd, List.set_append_right _ _ (by omega), hl, Nat.sub_self]
      rfl
    · rw [ih, hd]
      rfl
theorem relX_all (xs : List (Sl5 × Value)) (s g : Int) (h : xs.length = 16) : (relX xs s g 16).map Prod.fst = relS (xs.map Prod.fst) s g := by
  rw [relX_get xs s g 16 (by omega), List.take_of_length_le (by simp; omega), List.drop_eq_nil_of_le (by simp; omega), List.append_nil]



set_option maxRecDepth 100000 in
set_option maxHeartbeats 4000000 in
theorem did_none (b : Nat) (k s g i : Int) (da : Option Addr) (dn dc : Nat) (W w : World) (L : List Atom) (hs : Sat W w L) (hk : k < 1 ∨ 6 < k) :
    Calls Try.prog 86 #[.pointer (some ⟨b, 0, none⟩), .agg #[.int .i64 k, .int .i64 s, .int .i64 g, .int .i64 i, .slice da dn dc]] w fun e w' => e = .returned (repV 1 0 (.slice none 0 0) (.slice none 0 0)) ∧ Sat W w' L := by
  have hsq := hs.newCells #[.int .i64 k, .int .i64 s, .int .i64 g, .int .i64 i, .slice da dn dc] 84
  have hsr := hsq.newCells #[.int .i64 0, .int .i64 0, .slice none 0 0, .slice none 0 0] 80
  have hsz : (w.alloc (.cells #[.int .i64 k, .int .i64 s, .int .i64 g, .int .i64 i, .slice da dn dc] 84)).heap.size = w.heap.size + 1 := by simp
  rw [hsz] at hsr
  clear hsz
  have q1 : (k == 1) = false := by simp; omega
  have q2 : (k == 2) = false := by simp; omega
  have q3 : (k == 3) = false := by simp; omega
  have q4 : (k == 4) = false := by simp; omega
  have q5 : (k == 5) = false := by simp; omega
  have q6 : (k == 6) = false := by simp; omega
  have hs2 := fun o1 o2 => (hs.alloc o1).alloc o2
  clear hs hsq hsr hk
  go_enter Try.func86, Try.ntmps86
  go_wp2_with fail
  refine bodyPost_ret (v := repV 1 0 (.slice none 0 0) (.slice none 0 0)) (by simp [results, Try.results86, go_sem, repV, *]) rfl ?_
  exact ⟨rfl, hs2 _ _⟩
set_option maxRecDepth 100000 in
set_option maxHeartbeats 4000000 in
theorem did_get_bad (b : Nat) (s g i : Int) (da : Option Addr) (dn dc : Nat) (W w : World) (L : List Atom) (hs : Sat W w L) (hk : 40 ≤ s) :
    Calls Try.prog 86 #[.pointer (some ⟨b, 0, none⟩), .agg #[.int .i64 1, .int .i64 s, .int .i64 g, .int .i64 i, .slice da dn dc]] w fun e w' => e = .returned (repV 1 0 (.slice none 0 0) (.slice none 0 0)) ∧ Sat W w' L := by
  have q1 : ¬ s < 0 := by omega
  have hs2 := fun o1 o2 => (hs.alloc o1).alloc o2
  clear hs
  go_enter Try.func86, Try.ntmps86
  go_wp2_with fail
  refine bodyPost_ret (v := repV 1 0 (.slice none 0 0) (.slice none 0 0)) (by simp [results, Try.results86, go_sem, repV, *]) rfl ?_
  exact ⟨rfl, hs2 _ _⟩
set_option maxRecDepth 100000 in
set_option maxHeartbeats 4000000 in
theorem did_put_bad (b : Nat) (n : Nd) (A : List Atom) (p : Pc) (da : Option Addr) (dc : Nat) (W w : World) (L : List Atom) (hn : NodA b n A) (hs : Sat W w (A ++ L)) (hp : ¬ rightP p) :
    Calls Try.prog 86 #[.pointer (some ⟨b, 0, none⟩), .agg #[.int .i64 2, .int .i64 p.stripe, .int .i64 p.gen, .int .i64 p.index, .slice da p.data.length dc]] w fun e w' => e = .returned (repV 1 0 (.slice none 0 0) (.slice none 0 0)) ∧ Sat W w' (A ++ L) := by
  obtain ⟨bp, br, Aq, Ag, hq, hg, rfl⟩ := hn
  obtain ⟨s, g, i, d⟩ := p
  simp only at ⊢
  obtain ⟨dn, hdn⟩ : ∃ dn, dn = d.length := ⟨_, rfl⟩
  have e0 : w.cell? ⟨b, 0, none⟩ = some (.pointer (some ⟨bp, 0, none⟩)) := hs.cell m0 0
  have hbw : b < w.heap.size := hs.lt m0
  rw [← hdn]
  have hsq := hs.newCells #[.int .i64 2, .int .i64 s, .int .i64 g, .int .i64 i, .slice da dn dc] 84
  have hsr := hsq.newCells #[.int .i64 0, .int .i64 0, .slice none 0 0, .slice none 0 0] 80
  have hsz : (w.alloc (.cells #[.int .i64 2, .int .i64 s, .int .i64 g, .int .i64 i, .slice da dn dc] 84)).heap.size = w.heap.size + 1 := by simp
  rw [hsz] at hsr
  clear hsz
  have hpu := put_bad (.pointer (some ⟨bp, 0, none⟩)) ⟨s, g, i, d⟩ da dc W _ (Aq ++ (cellsA (w.heap.size + 1) #[.int .i64 0, .int .i64 0, .slice none 0 0, .slice none 0 0] 80 :: (cellsA b #[.pointer (some ⟨bp, 0, none⟩), .pointer (some ⟨br, 0, none⟩), .int .i64 n.boot] 132 :: (Ag ++ L)))) (Sat.drew (hsr.use (by intro x; simp only [cnt_append, cnt_cons, cnt_nil]; omega))) hp (.inr ⟨bp, n.q, Aq, _, rfl, hq, rfl⟩)
  unfold pcV at hpu
  simp only at hpu
  rw [← hdn] at hpu
  have HPU := Lib.hid hpu
  clear hs hsq hsr hpu hdn hp
  go_enter Try.func86, Try.ntmps86
  go_wp2_with fail
  refine wp_region_one [13, 15] [] [] [] [0, 1, 2, 3, 4, 5, 6, 7, 8, 9, 10, 11, 12, 13, 14, 15] (by kernel_rfl) (by kernel_rfl) ?_
  repeat (first | (refine can_pu1 rfl rfl rfl rfl rfl rfl (fun K hK => ?_); go_big_quiet_op; refine hK _ ?_; clear hK K) | (refine can_st1 rfl rfl rfl rfl rfl rfl (fun K hK => ?_); go_big_quiet_op; refine hK _ ?_; clear hK K) | (refine can_early1 rfl rfl rfl rfl rfl (fun K hK => ?_); go_big_quiet_op; refine hK _ ?_; clear hK K) | (refine can_skip rfl rfl rfl ?_; simp only [Act.put, List.setIfInBounds_toArray, List.set_cons_zero, List.set_cons_succ]))
  refine can_act1 rfl rfl rfl (fun K hK => ?_)
  go_wp2_with fail
  refine HPU.out.mono ?_; rintro r w2 ⟨rfl, hs2⟩
  apply hK
  clear hK HPU
  have hs3 := Sat.use (M := cellsA (w.heap.size + 1) #[.int .i64 0, .int .i64 0, .slice none 0 0, .slice none 0 0] 80 :: (cellsA b #[.pointer (some ⟨bp, 0, none⟩), .pointer (some ⟨br, 0, none⟩), .int .i64 n.boot] 132 :: (Aq ++ (Ag ++ L)))) hs2 (by intro x; simp only [cnt_append, cnt_cons, cnt_nil]; omega)
  clear hs2 e0
  have z0 : w2.cell? ⟨w.heap.size + 1, 0, none⟩ = some (.int .i64 0) := hs3.cell m0 0
  have z1 : w2.cell? ⟨w.heap.size + 1, 1, none⟩ = some (.int .i64 0) := hs3.cell m0 1
  have z2 : w2.cell? ⟨w.heap.size + 1, 2, none⟩ = some (.slice none 0 0) := hs3.cell m0 2
  have z3 : w2.cell? ⟨w.heap.size + 1, 3, none⟩ = some (.slice none 0 0) := hs3.cell m0 3
  have f0 := hs3.free m0 0
  have f1 := hs3.free m0 1
  have f2 := hs3.free m0 2
  have f3 := hs3.free m0 3
  have hz := Sat.setCell (Sat.setCell (Sat.setCell (Sat.setCell hs3 0 (.int .i64 1)) 1 (.int .i64 0)) 2 (.slice none 0 0)) 3 (.slice none 0 0)
  repeat (first | (refine can_pu1 rfl rfl rfl rfl rfl rfl (fun K hK => ?_); go_big_quiet_op; refine hK _ ?_; clear hK K) | (refine can_st1 rfl rfl rfl rfl rfl rfl (fun K hK => ?_); go_big_quiet_op; refine hK _ ?_; clear hK K) | (refine can_early1 rfl rfl rfl rfl rfl (fun K hK => ?_); go_big_quiet_op; refine hK _ ?_; clear hK K) | (refine can_skip rfl rfl rfl ?_; simp only [Act.put, List.setIfInBounds_toArray, List.set_cons_zero, List.set_cons_succ]))
  refine can_act1 rfl rfl rfl (fun K hK => ?_)
  go_wp2_with fail
  refine can_end1 ?_; (try simp only [Exit.then])
  go_wp2_with fail
  refine bodyPost_ret (v := repV 1 0 (.slice none 0 0) (.slice none 0 0)) (by simp [results, Try.results86, go_sem, repV, *]) rfl ?_
  exact ⟨rfl, hz.tail.use (by intro x; simp only [cnt_append, cnt_cons, cnt_nil]; omega)⟩

set_option maxRecDepth 100000 in
set_option maxHeartbeats 4000000 in
theorem did_log_ok (b k : Nat) (n : Nd) (A : List Atom) (i : It) (ix : Int) (da : Option Addr) (dc : Nat) (W w : World) (L : List Atom) (hn : NodA b n A) (hs : Sat W w (A ++ L)) (hin : ∀ y, Sat W y L → Reads y (.slice da i.data.length dc) i.data.length (bts i.data)) (hp : rightI i)
    (hl : n.g.slots.length = 16) (hsm : ∀ x ∈ n.g.slots, x.i.data.length < 1000000) (hnl : ¬ ∃ x ∈ n.g.slots, x.live = true ∧ x.i = i) (hk : freeS n.g.slots 0 = k) (hk16 : k < 16) (n0 : 0 ≤ n.g.next) (n1 : n.g.next < 281474976710656) (h96 : n.q.now.length = 96) (hpl : n.q.pend.length < 900000) (hw0 : 0 ≤ n.q.writes) (hw1 : n.q.writes < 1000000000) :
    Calls Try.prog 86 #[.pointer (some ⟨b, 0, none⟩), .agg #[.int .i64 3, .int .i64 i.stripe, .int .i64 i.gen, .int .i64 ix, .slice da i.data.length dc]] w fun e w' => ∃ A', e = .returned (repV 0 0 (.slice none 0 0) (.slice none 0 0)) ∧ NodA b ⟨n.q.wr (80 + k) (layI n.g.next i), ⟨n.g.slots.set k ⟨true, n.g.next, i⟩, n.g.next + 1⟩, n.boot⟩ A' ∧ Sat W w' (A' ++ L) := by
  obtain ⟨bp, br, Aq, Ag, hq, ⟨xs, B, hxs, hrw, rfl⟩, rfl⟩ := hn
  obtain ⟨s, g, d⟩ := i
  simp only at hin ⊢
  obtain ⟨dn, hdn⟩ : ∃ dn, dn = d.length := ⟨_, rfl⟩
  have e0 : w.cell? ⟨b, 1, none⟩ = some (.pointer (some ⟨br, 0, none⟩)) := hs.cell m0 1
  have hbw : b < w.heap.size := hs.lt m0
  rw [← hdn]
  have HS := Lib.hid hxs
  obtain ⟨i, hi⟩ : ∃ i : Int, i = ix := ⟨_, rfl⟩
  rw [← hi]
  have hsq := hs.newCells #[.int .i64 3, .int .i64 s, .int .i64 g, .int .i64 i, .slice da dn dc] 84
  have hsr := hsq.newCells #[.int .i64 0, .int .i64 0, .slice none 0 0, .slice none 0 0] 80
  have hsz : (w.alloc (.cells #[.int .i64 3, .int .i64 s, .int .i64 g, .int .i64 i, .slice da dn dc] 84)).heap.size = w.heap.size + 1 := by simp
  rw [hsz] at hsr
  clear hsz
  have hlg := log_ok br bp k n.q Aq xs n.g.next B ⟨s, g, d⟩ da dc W _ (cellsA (w.heap.size + 1) #[.int .i64 0, .int .i64 0, .slice none 0 0, .slice none 0 0] 80 :: (cellsA b #[.pointer (some ⟨bp, 0, none⟩), .pointer (some ⟨br, 0, none⟩), .int .i64 n.boot] 132 :: L)) hq hrw (by have := congrArg List.length hxs; rw [List.length_map, hl] at this; exact this) (fun x hx => hsm _ (by rw [← hxs]; exact List.mem_map.2 ⟨x, hx, rfl⟩)) (Sat.drew (hsr.use (by intro x; simp only [cnt_append, cnt_cons, cnt_nil]; omega))) (fun y hy => hin y hy.tail.tail) hp (fun h => hnl (by rw [← hxs]; exact (liveIn_map xs _).1 h)) (by rw [freeI_map, hxs]; exact hk) hk16 n0 n1 h96 hpl hw0 hw1
  unfold itV at hlg
  simp only at hlg
  rw [← hdn] at hlg
  have HLG := Lib.hid hlg
  clear hs hsq hsr hlg hin hdn hp hnl hsm hl hk n0 n1 hxs hi h96
  go_enter Try.func86, Try.ntmps86
  go_wp2_with fail
  refine wp_region_one [11, 13] [] [] [] [0, 1, 2, 3, 4, 5, 6, 7, 8, 9, 10, 11, 12, 13] (by kernel_rfl) (by kernel_rfl) ?_
  repeat (first | (refine can_pu1 rfl rfl rfl rfl rfl rfl (fun K hK => ?_); go_big_quiet_op; refine hK _ ?_; clear hK K) | (refine can_st1 rfl rfl rfl rfl rfl rfl (fun K hK => ?_); go_big_quiet_op; refine hK _ ?_; clear hK K) | (refine can_early1 rfl rfl rfl rfl rfl (fun K hK => ?_); go_big_quiet_op; refine hK _ ?_; clear hK K) | (refine can_skip rfl rfl rfl ?_; simp only [Act.put, List.setIfInBounds_toArray, List.set_cons_zero, List.set_cons_succ]))
  refine can_act1 rfl rfl rfl (fun K hK => ?_)
  go_wp2_with fail
  refine HLG.out.mono ?_; rintro r w2 ⟨Aq', B', v', rfl, hAq', hrw', hs2⟩
  apply hK
  clear hK HLG
  have hs3 := Sat.use (M := cellsA (w.heap.size + 1) #[.int .i64 0, .int .i64 0, .slice none 0 0, .slice none 0 0] 80 :: (cellsA b #[.pointer (some ⟨bp, 0, none⟩), .pointer (some ⟨br, 0, none⟩), .int .i64 n.boot] 132 :: (Aq' ++ ((cellsA br (ringC bp (xs.set k (⟨true, n.g.next, ⟨s, g, d⟩⟩, v')) (n.g.next + 1)) 160 :: B') ++ L)))) hs2 (by intro x; simp only [cnt_append, cnt_cons, cnt_nil]; omega)
  clear hs2 e0
  have z0 : w2.cell? ⟨w.heap.size + 1, 0, none⟩ = some (.int .i64 0) := hs3.cell m0 0
  have z1 : w2.cell? ⟨w.heap.size + 1, 1, none⟩ = some (.int .i64 0) := hs3.cell m0 1
  have z2 : w2.cell? ⟨w.heap.size + 1, 2, none⟩ = some (.slice none 0 0) := hs3.cell m0 2
  have z3 : w2.cell? ⟨w.heap.size + 1, 3, none⟩ = some (.slice none 0 0) := hs3.cell m0 3
  have f0 := hs3.free m0 0
  have f1 := hs3.free m0 1
  have f2 := hs3.free m0 2
  have f3 := hs3.free m0 3
  have hz := Sat.setCell (Sat.setCell (Sat.setCell (Sat.setCell hs3 0 (.int .i64 0)) 1 (.int .i64 0)) 2 (.slice none 0 0)) 3 (.slice none 0 0)
  repeat (first | (refine can_pu1 rfl rfl rfl rfl rfl rfl (fun K hK => ?_); go_big_quiet_op; refine hK _ ?_; clear hK K) | (refine can_st1 rfl rfl rfl rfl rfl rfl (fun K hK => ?_); go_big_quiet_op; refine hK _ ?_; clear hK K) | (refine can_early1 rfl rfl rfl rfl rfl (fun K hK => ?_); go_big_quiet_op; refine hK _ ?_; clear hK K) | (refine can_skip rfl rfl rfl ?_; simp only [Act.put, List.setIfInBounds_toArray, List.set_cons_zero, List.set_cons_succ]))
  refine can_act1 rfl rfl rfl (fun K hK => ?_)
  go_wp2_with fail
  refine can_end1 ?_; (try simp only [Exit.then])
  go_wp2_with fail
  refine bodyPost_ret (v := repV 0 0 (.slice none 0 0) (.slice none 0 0)) (by simp [results, Try.results86, go_sem, repV, *]) rfl ?_
  exact ⟨_, rfl, ⟨bp, br, Aq', _, hAq', ⟨_, B', by rw [List.map_set, HS.out], hrw', rfl⟩, rfl⟩, hz.tail.use (by intro x; simp only [cnt_append, cnt_cons, cnt_nil]; omega)⟩

set_option maxRecDepth 100000 in
set_option maxHeartbeats 4000000 in
theorem did_rel (b : Nat) (n : Nd) (A : List Atom) (s g i : Int) (da : Option Addr) (dn dc : Nat) (W w : World) (L : List Atom) (hn : NodA b n A) (hs : Sat W w (A ++ L)) (hl : n.g.slots.length = 16) :
    Calls Try.prog 86 #[.pointer (some ⟨b, 0, none⟩), .agg #[.int .i64 6, .int .i64 s, .int .i64 g, .int .i64 i, .slice da dn dc]] w fun e w' => ∃ A', e = .returned (repV 0 0 (.slice none 0 0) (.slice none 0 0)) ∧ NodA b ⟨n.q, ⟨relS n.g.slots s g, n.g.next⟩, n.boot⟩ A' ∧ Sat W w' (A' ++ L) := by
  obtain ⟨bp, br, Aq, Ag, hq, ⟨xs, B, hxs, hrw, rfl⟩, rfl⟩ := hn
  have e0 : w.cell? ⟨b, 1, none⟩ = some (.pointer (some ⟨br, 0, none⟩)) := hs.cell m0 1
  have hbw : b < w.heap.size := hs.lt m0
  have hxl : xs.length = 16 := by have := congrArg List.length hxs; rw [List.length_map, hl] at this; exact this
  have hsq := hs.newCells #[.int .i64 6, .int .i64 s, .int .i64 g, .int .i64 i, .slice da dn dc] 84
  have hsr := hsq.newCells #[.int .i64 0, .int .i64 0, .slice none 0 0, .slice none 0 0] 80
  have hsz : (w.alloc (.cells #[.int .i64 6, .int .i64 s, .int .i64 g, .int .i64 i, .slice da dn dc] 84)).heap.size = w.heap.size + 1 := by simp
  rw [hsz] at hsr
  clear hsz
  have hrl := release_any br bp xs n.g.next B s g W _ (cellsA (w.heap.size + 1) #[.int .i64 0, .int .i64 0, .slice none 0 0, .slice none 0 0] 80 :: (cellsA b #[.pointer (some ⟨bp, 0, none⟩), .pointer (some ⟨br, 0, none⟩), .int .i64 n.boot] 132 :: (Aq ++ L))) hrw hxl (Sat.drew (hsr.use (by intro x; simp only [cnt_append, cnt_cons, cnt_nil]; omega)))
  have HRL := Lib.hid hrl
  have HXS := Lib.hid (relX_all xs s g hxl)
  have HX2 := Lib.hid hxs
  clear hs hsq hsr hrl hxl hxs hl
  go_enter Try.func86, Try.ntmps86
  go_wp2_with fail
  refine wp_region_one [8] [] [] [] [0, 1, 2, 3, 4, 5, 6, 7, 8] (by kernel_rfl) (by kernel_rfl) ?_
  repeat (first | (refine can_pu1 rfl rfl rfl rfl rfl rfl (fun K hK => ?_); go_big_quiet_op; refine hK _ ?_; clear hK K) | (refine can_st1 rfl rfl rfl rfl rfl rfl (fun K hK => ?_); go_big_quiet_op; refine hK _ ?_; clear hK K) | (refine can_early1 rfl rfl rfl rfl rfl (fun K hK => ?_); go_big_quiet_op; refine hK _ ?_; clear hK K) | (refine can_skip rfl rfl rfl ?_; simp only [Act.put, List.setIfInBounds_toArray, List.set_cons_zero, List.set_cons_succ]))
  refine can_act1 rfl rfl rfl (fun K hK => ?_)
  go_wp2_with fail
  refine HRL.out.mono ?_; rintro r w2 ⟨cnt, rfl, hs2⟩
  apply hK
  clear hK HRL
  have hs3 := Sat.use (M := cellsA (w.heap.size + 1) #[.int .i64 0, .int .i64 0, .slice none 0 0, .slice none 0 0] 80 :: (cellsA b #[.pointer (some ⟨bp, 0, none⟩), .pointer (some ⟨br, 0, none⟩), .int .i64 n.boot] 132 :: (Aq ++ ((cellsA br (ringC bp (relX xs s g 16) n.g.next) 160 :: B) ++ L)))) hs2 (by intro x; simp only [cnt_append, cnt_cons, cnt_nil]; omega)
  clear hs2 e0
  have z0 : w2.cell? ⟨w.heap.size + 1, 0, none⟩ = some (.int .i64 0) := hs3.cell m0 0
  have z1 : w2.cell? ⟨w.heap.size + 1, 1, none⟩ = some (.int .i64 0) := hs3.cell m0 1
  have z2 : w2.cell? ⟨w.heap.size + 1, 2, none⟩ = some (.slice none 0 0) := hs3.cell m0 2
  have z3 : w2.cell? ⟨w.heap.size + 1, 3, none⟩ = some (.slice none 0 0) := hs3.cell m0 3
  have f0 := hs3.free m0 0
  have f1 := hs3.free m0 1
  have f2 := hs3.free m0 2
  have f3 := hs3.free m0 3
  have hz := Sat.setCell (Sat.setCell (Sat.setCell (Sat.setCell hs3 0 (.int .i64 0)) 1 (.int .i64 0)) 2 (.slice none 0 0)) 3 (.slice none 0 0)
  repeat (first | (refine can_pu1 rfl rfl rfl rfl rfl rfl (fun K hK => ?_); go_big_quiet_op; refine hK _ ?_; clear hK K) | (refine can_st1 rfl rfl rfl rfl rfl rfl (fun K hK => ?_); go_big_quiet_op; refine hK _ ?_; clear hK K) | (refine can_early1 rfl rfl rfl rfl rfl (fun K hK => ?_); go_big_quiet_op; refine hK _ ?_; clear hK K) | (refine can_skip rfl rfl rfl ?_; simp only [Act.put, List.setIfInBounds_toArray, List.set_cons_zero, List.set_cons_succ]))
  refine can_end1 ?_; (try simp only [Exit.then])
  go_wp2_with fail
  refine bodyPost_ret (v := repV 0 0 (.slice none 0 0) (.slice none 0 0)) (by simp [results, Try.results86, go_sem, repV, *]) rfl ?_
  exact ⟨_, rfl, ⟨bp, br, Aq, _, hq, ⟨_, B, by rw [HXS.out, HX2.out], relX_rows hrw s g 16, rfl⟩, rfl⟩, hz.tail.use (by intro x; simp only [cnt_append, cnt_cons, cnt_nil]; omega)⟩

set_option maxRecDepth 100000 in
set_option maxHeartbeats 4000000 in
theorem did_live (b : Nat) (n : Nd) (A : List Atom) (s g i : Int) (da : Option Addr) (dn dc : Nat) (W w : World) (L : List Atom) (hn : NodA b n A) (hs : Sat W w (A ++ L)) (hl : n.g.slots.length = 16) (hsm : ∀ x ∈ n.g.slots, x.i.data.length < 1000000) (h1 : (liveS n.g.slots).length ≤ 1) :
    Calls Try.prog 86 #[.pointer (some ⟨b, 0, none⟩), .agg #[.int .i64 5, .int .i64 s, .int .i64 g, .int .i64 i, .slice da dn dc]] w fun e w' => ∃ ia ic R, e = .returned (repV 0 0 (.slice none 0 0) (.slice ia (liveS n.g.slots).length ic)) ∧ Sat W w' (A ++ (R ++ L)) := by
  obtain ⟨bp, br, Aq, Ag, hq, ⟨xs, B, hxs, hrw, rfl⟩, rfl⟩ := hn
  have e0 : w.cell? ⟨b, 1, none⟩ = some (.pointer (some ⟨br, 0, none⟩)) := hs.cell m0 1
  have hbw : b < w.heap.size := hs.lt m0
  have hxl : xs.length = 16 := by have := congrArg List.length hxs; rw [List.length_map, hl] at this; exact this
  have hlv : (liveOf xs).length = (liveS n.g.slots).length := by rw [← hxs, ← liveOf_map, List.length_map]
  have hsq := hs.newCells #[.int .i64 5, .int .i64 s, .int .i64 g, .int .i64 i, .slice da dn dc] 84
  have hsr := hsq.newCells #[.int .i64 0, .int .i64 0, .slice none 0 0, .slice none 0 0] 80
  have hsz : (w.alloc (.cells #[.int .i64 5, .int .i64 s, .int .i64 g, .int .i64 i, .slice da dn dc] 84)).heap.size = w.heap.size + 1 := by simp
  rw [hsz] at hsr
  clear hsz
  have hlg := live_small br bp xs n.g.next B W _ (cellsA (w.heap.size + 1) #[.int .i64 0, .int .i64 0, .slice none 0 0, .slice none 0 0] 80 :: (cellsA b #[.pointer (some ⟨bp, 0, none⟩), .pointer (some ⟨br, 0, none⟩), .int .i64 n.boot] 132 :: (Aq ++ L))) hrw hxl (fun x hx => hsm _ (by rw [← hxs]; exact List.mem_map.2 ⟨x, hx, rfl⟩)) (by rw [hlv]; exact h1) (hsr.use (by intro x; simp only [cnt_append, cnt_cons, cnt_nil]; omega))
  have HLG := Lib.hid hlg
  have HLV := Lib.hid hlv
  clear hs hsq hsr hlg hsm h1 hl hxl hxs hlv
  go_enter Try.func86, Try.ntmps86
  go_wp2_with fail
  refine HLG.out.mono ?_; rintro r w2 ⟨v, ys, R, C, rfl, hr, hy, hs2⟩
  have hyl : ys.length = (liveS n.g.slots).length := by
    have := congrArg List.length hy
    rw [List.length_map, List.length_map, HLV.out] at this
    exact this
  obtain ⟨N, hN⟩ : ∃ N, N = (liveS n.g.slots).length := ⟨_, rfl⟩
  rw [hyl, ← hN] at hr
  have HNN := Lib.hid hN
  clear hN
  obtain ⟨ia, ic, rfl⟩ := Ch.RowA.slice hr
  have hs3 := Sat.use (M := cellsA (w.heap.size + 1) #[.int .i64 0, .int .i64 0, .slice none 0 0, .slice none 0 0] 80 :: (cellsA b #[.pointer (some ⟨bp, 0, none⟩), .pointer (some ⟨br, 0, none⟩), .int .i64 n.boot] 132 :: (Aq ++ ((cellsA br (ringC bp xs n.g.next) 160 :: B) ++ ((R ++ C) ++ L))))) hs2 (by intro x; simp only [cnt_append, cnt_cons, cnt_nil]; omega)
  clear hs2 e0 HLG hyl hr hy
  have z0 : w2.cell? ⟨w.heap.size + 1, 0, none⟩ = some (.int .i64 0) := hs3.cell m0 0
  have z1 : w2.cell? ⟨w.heap.size + 1, 1, none⟩ = some (.int .i64 0) := hs3.cell m0 1
  have z2 : w2.cell? ⟨w.heap.size + 1, 2, none⟩ = some (.slice none 0 0) := hs3.cell m0 2
  have z3 : w2.cell? ⟨w.heap.size + 1, 3, none⟩ = some (.slice none 0 0) := hs3.cell m0 3
  have f0 := hs3.free m0 0
  have f1 := hs3.free m0 1
  have f2 := hs3.free m0 2
  have f3 := hs3.free m0 3
  have hz := Sat.setCell (Sat.setCell (Sat.setCell (Sat.setCell hs3 0 (.int .i64 0)) 1 (.int .i64 0)) 2 (.slice none 0 0)) 3 (.slice ia N ic)
  go_wp2_with fail
  refine bodyPost_ret (v := repV 0 0 (.slice none 0 0) (.slice ia N ic)) (by simp [results, Try.results86, go_sem, repV, *]) rfl ?_
  exact ⟨ia, ic, R ++ C, by rw [HNN.out], hz.tail.use (by intro x; simp only [cnt_append, cnt_cons, cnt_nil]; omega)⟩
end Go.Proofs.Ytdkhgkkdnjejmaa.Ch
