/-
  ChunkTurns, walked.
-/
import Derived.Test.YtdkhgkkdnjejmaaLtA
import Derived.Test.YtdkhgkkdnjejmaaLkA
namespace Go.Proofs.Ytdkhgkkdnjejmaa.Ch
set_option linter.unusedSimpArgs false
open Go Go.RowKit Go.Sl Go.BigFrame
set_option linter.unusedVariables false

theorem small_bytes (n : Int) : (bytesOf n 32).length < 1000000 := by rw [bytesOf_length]; decide
theorem q0_now : q0.now.length = 96 := by simp [q0]
theorem tQ1_small (p : Pc) (h : rightP p) : ∀ x ∈ (tQ1 p).now, x.length < 1000000 := now_small q0_small (lay_small p h)
theorem tQ3_small (p q : Pc) (h : rightP p) (h2 : rightP q) : ∀ x ∈ (tQ3 p q).now, x.length < 1000000 := now_small (q := (tQ1 p).fl) (tQ1_small p h) (lay_small q h2)
theorem tQ3_len (p q : Pc) : (tQ3 p q).now.length = 96 ∧ (tQ3 p q).done.length = 96 := ⟨by simp [tQ3, tQ1, Pt.wr, Pt.fl, q0], by simp [tQ3, tQ1, Pt.wr, Pt.fl, q0]⟩

theorem crashTo_mem (keep : List Int) (d : List (List UInt8)) (pend : List (Nat × List UInt8)) : ∀ k, ∀ x ∈ crashTo keep d pend k, x ∈ d ∨ ∃ y ∈ pend, x = y.2
  | 0, x, h => .inl h
  | k + 1, x, h => by
    unfold crashTo at h
    split at h
    · rename_i y hy
      split at h
      · rcases List.mem_or_eq_of_mem_set h with h | h
        · exact crashTo_mem keep d pend k x h
        · exact .inr ⟨y, List.mem_of_getElem? hy, h⟩
      · exact crashTo_mem keep d pend k x h
    · exact crashTo_mem keep d pend k x h
/-- Two pieces in a row, wherever the row and the blocks are owned. -/
theorem pcs_two {W w : World} {L : List Atom} {xs : List (Pc × Value)} {v : Value} {R B : List Atom} {p q : Pc} (hr : RowA 45 4 v xs.length (pcsC xs) R) (hxs : xs.map Prod.fst = [p, q]) (hxb : PcBl B xs) (hs : Sat W w (R ++ (B ++ L))) :
    ∃ g off cap a1 c1 a2 c2, v = .slice (some ⟨g, off, none⟩) 2 cap ∧ (2 : Int) ≤ cap ∧ ∀ L', (∀ x ∈ R, x ∈ L') → (∀ x ∈ B, x ∈ L') →
      (∀ y, Sat W y L' → ∀ j u, (pcCells p (.slice a1 p.data.length c1) ++ pcCells q (.slice a2 q.data.length c2))[j]? = some u → y.cell? ⟨g, off + j, none⟩ = some u) ∧
      (∀ y, Sat W y L' → Reads y (.slice a1 p.data.length c1) p.data.length (bts p.data)) ∧ (∀ y, Sat W y L' → Reads y (.slice a2 q.data.length c2) q.data.length (bts q.data)) := by
  rcases xs with _ | ⟨⟨x, vx⟩, _ | ⟨⟨y, vy⟩, _ | ⟨z, xs⟩⟩⟩
  · simp at hxs
  · simp at hxs
  rotate_left
  · simp at hxs
  obtain ⟨rfl, rfl⟩ : x = p ∧ y = q := by
    simp only [List.map_cons, List.map_nil, List.cons.injEq, and_true] at hxs
    exact hxs
  obtain ⟨hbx, _⟩ := hxb (x, vx) (by simp)
  obtain ⟨hby, _⟩ := hxb (y, vy) (by simp)
  simp only at hbx hby
  obtain ⟨g, off, cap, rfl, hc1, hR⟩ := pcs_cells hr hs (by simp)
  simp only [List.length_cons, List.length_nil, Nat.zero_add] at hc1
  have hrx : ∀ L' : List Atom, (∀ x ∈ B, x ∈ L') → ∀ w', Sat W w' L' → Reads w' vx x.data.length (bts x.data) := fun L' h2 w' hw => hbx.reads hw h2
  have hry : ∀ L' : List Atom, (∀ x ∈ B, x ∈ L') → ∀ w', Sat W w' L' → Reads w' vy y.data.length (bts y.data) := fun L' h2 w' hw => hby.reads hw h2
  obtain ⟨gx, ox, kx, rfl, _, _⟩ := hbx
  obtain ⟨gy, oy, ky, rfl, _, _⟩ := hby
  refine ⟨g, off, cap, _, kx, _, ky, rfl, by omega, fun L' h1 h2 => ⟨fun w' hw j u hu => ?_, fun w' hw => hrx L' h2 w' hw, fun w' hw => hry L' h2 w' hw⟩⟩
  obtain ⟨o, ho, hp⟩ := hw.get (h1 _ (by rw [hR]; exact List.mem_singleton.2 rfl))
  have hu2 : (pcsC [(x, .slice (some ⟨gx, ox, none⟩) x.data.length kx), (y, .slice (some ⟨gy, oy, none⟩) y.data.length ky)])[j]? = some u := hu
  rw [(hp.cell ho j (List.getElem?_eq_some_iff.1 hu2).1).1, hu2]
theorem pcs_one {W w : World} {L : List Atom} {xs : List (Pc × Value)} {v : Value} {R B : List Atom} {p : Pc} (hr : RowA 45 4 v xs.length (pcsC xs) R) (hxs : xs.map Prod.fst = [p]) (hxb : PcBl B xs) (hs : Sat W w (R ++ (B ++ L))) :
    ∃ g off cap a1 c1, v = .slice (some ⟨g, off, none⟩) 1 cap ∧ (1 : Int) ≤ cap ∧ ∀ L', (∀ x ∈ R, x ∈ L') → (∀ x ∈ B, x ∈ L') →
      (∀ y, Sat W y L' → ∀ j u, (pcCells p (.slice a1 p.data.length c1))[j]? = some u → y.cell? ⟨g, off + j, none⟩ = some u) ∧
      (∀ y, Sat W y L' → Reads y (.slice a1 p.data.length c1) p.data.length (bts p.data)) := by
  rcases xs with _ | ⟨⟨x, vx⟩, _ | ⟨z, xs⟩⟩
  · simp at hxs
  rotate_left
  · simp at hxs
  obtain rfl : x = p := by
    simp only [List.map_cons, List.map_nil, List.cons.injEq, and_true] at hxs
    exact hxs
  obtain ⟨hbx, _⟩ := hxb (x, vx) (by simp)
  simp only at hbx
  obtain ⟨g, off, cap, rfl, hc1, hR⟩ := pcs_cells hr hs (by simp)
  simp only [List.length_cons, List.length_nil, Nat.zero_add] at hc1
  have hrx : ∀ L' : List Atom, (∀ x ∈ B, x ∈ L') → ∀ w', Sat W w' L' → Reads w' vx x.data.length (bts x.data) := fun L' h2 w' hw => hbx.reads hw h2
  obtain ⟨gx, ox, kx, rfl, _, _⟩ := hbx
  refine ⟨g, off, cap, _, kx, rfl, by omega, fun L' h1 h2 => ⟨fun w' hw j u hu => ?_, fun w' hw => hrx L' h2 w' hw⟩⟩
  obtain ⟨o, ho, hp⟩ := hw.get (h1 _ (by rw [hR]; exact List.mem_singleton.2 rfl))
  have hu2 : (pcsC [(x, .slice (some ⟨gx, ox, none⟩) x.data.length kx)])[j]? = some u := hu
  rw [(hp.cell ho j (List.getElem?_eq_some_iff.1 hu2).1).1, hu2]

set_option maxRecDepth 100000 in
set_option maxHeartbeats 8000000 in
theorem turns_walk (stripe gen index a b : Int) (kv : Value) (keep : List Int) (W : World) (hk : ∀ y, Below W.heap.size W y → Reads y kv keep.length (intsC keep)) (hkl : keep.length < 9223372036854775808) :
    Calls Try.prog 9 #[.int .i64 stripe, .int .i64 gen, .int .i64 index, .int .i64 a, .int .i64 b, kv] W fun e w' => e = .returned (.bool true) ∧ Below W.heap.size W w' := by
  have hs0 := allOf_sat W
  have HN := Lib.hid (fun w L (hs : Sat W w L) => platter_new 96 W w L (by omega) (by omega) hs)
  have hB : ∀ w', Sat W w' (allOf W) → Below W.heap.size W w' := fun w' h => below_of h
  have HB := Lib.hid hB
  have HK := Lib.hid (fun y (h : Sat W y (allOf W)) => hk y (hB y h))
  obtain ⟨ak, ck, rfl⟩ := reads_shape (hk W (Below.refl _ W))
  clear hB hk
  generalize allOf W = aW at *
  obtain ⟨s1, s2⟩ := handPick_bounds stripe 40 (by omega)
  obtain ⟨g1, g2⟩ := handPick_bounds gen 100000 (by omega)
  obtain ⟨i1, i2⟩ := handPick_bounds index 6 (by omega)
  go_enter Try.func9, Try.ntmps9
  go_wp2_with fail
  refine (HN.out _ _ hs0).mono ?_; rintro r w1 ⟨bp, A, rfl, hA, hs1⟩
  clear hs0 HN
  go_wp2_with fail
  refine (hand_pick stripe 40 _ (by omega) (by omega)).mono ?_; rintro r w4 ⟨rfl, rfl⟩
  go_wp2_with fail
  refine (hand_pick gen 100000 _ (by omega) (by omega)).mono ?_; rintro r w4 ⟨rfl, rfl⟩
  generalize handPick stripe 40 = S at *
  generalize handPick gen 100000 = g' at *
  obtain ⟨G, hG⟩ : ∃ G, G = 1 + g' := ⟨_, rfl⟩
  have G1 : 1 ≤ G := by omega
  have G2 : G ≤ 100000 := by omega
  go_wp2_with fail
  refine (hand_pick index 6 _ (by omega) (by omega)).mono ?_; rintro r w4 ⟨rfl, rfl⟩
  generalize handPick index 6 = I at *
  rw [← hG]
  clear hG g1 g2
  have hpa := tp_right S G I a s1 s2 G1 (by omega) i1 i2
  have hpb := tp_right S (G + 1) I b s1 s2 (by omega) (by omega) i1 i2
  have HPA := Lib.hid hpa
  have HPB := Lib.hid hpb
  clear hpa hpb
  go_wp2_with fail
  refine (known_any W _ _ hs1).mono ?_; rintro r w2 ⟨rfl, hs2⟩
  clear hs1
  go_wp2_with fail
  refine (one_any S G I a W _ _ hs2).mono ?_; rintro r w3 ⟨v3, R3, rfl, hv3, hs3⟩
  obtain ⟨a3, c3, rfl⟩ := Ch.RowA.slice hv3
  have hs4 : Sat W w3 (A ++ (R3 ++ aW)) := hs3.use (by intro x; simp only [cnt_append, cnt_cons, cnt_nil]; omega)
  clear hs2 hs3
  have HPU := Lib.hid (put_any bp q0 A (tp S G I a) a3 c3 W w3 _ hA hs4 (fun y hy => hv3.reads (F := aW) hy.right) HPA.out (by simp [q0]) (by simp [q0]) (by simp [q0]) (by simp [q0]))
  clear hs4
  go_wp2_with fail
  refine HPU.out.mono ?_; rintro r w5 ⟨A5, rfl, hA5, hs5⟩
  have hs6 : Sat W w5 (A5 ++ aW) := hs5.use (by intro x; simp only [cnt_append, cnt_cons, cnt_nil]; omega)
  clear hs5 HPU hA
  have HFL := Lib.hid (flush_any bp (tQ1 (tp S G I a)) A5 W w5 aW hA5 hs6 (by simp [tQ1, Pt.wr, q0]))
  clear hs6
  go_wp2_with fail
  refine HFL.out.mono ?_; rintro r w7 ⟨A7, rfl, hA7, hs7⟩
  clear HFL hA5
  go_wp2_with fail
  refine (one_any S (G + 1) I b W _ _ hs7).mono ?_; rintro r w8 ⟨v8, R8, rfl, hv8, hs8⟩
  obtain ⟨a8, c8, rfl⟩ := Ch.RowA.slice hv8
  have hs9 : Sat W w8 (A7 ++ (R8 ++ aW)) := hs8.use (by intro x; simp only [cnt_append, cnt_cons, cnt_nil]; omega)
  clear hs7 hs8
  have HPU := Lib.hid (put_any bp (tQ1 (tp S G I a)).fl A7 (tp S (G + 1) I b) a8 c8 W w8 _ hA7 hs9 (fun y hy => hv8.reads (F := aW) hy.right) HPB.out (by simp [tQ1, Pt.fl, Pt.wr, q0]) (by simp [Pt.fl]) (by simp [tQ1, Pt.fl, Pt.wr, q0]) (by simp [tQ1, Pt.fl, Pt.wr, q0]))
  clear hs9
  go_wp2_with fail
  refine HPU.out.mono ?_; rintro r w10 ⟨A10, rfl, hA10, hs10⟩
  have hs11 : Sat W w10 (A10 ++ aW) := hs10.use (by intro x; simp only [cnt_append, cnt_cons, cnt_nil]; omega)
  clear hs10 HPU hA7
  have hA11 : PtA bp (tQ3 (tp S G I a) (tp S (G + 1) I b)) A10 := hA10
  clear hA10
  have HGT := Lib.hid (get_any bp (tQ3 (tp S G I a) (tp S (G + 1) I b)) A10 S W w10 aW hA11 hs11 s1 s2 (by rw [(tQ3_len _ _).1]; decide) (tQ3_small _ _ HPA.out HPB.out))
  clear hs11
  go_wp2_with fail
  refine HGT.out.mono ?_; rintro r w12 ⟨v, xs, R, B, rfl, hr, hxs, hxb, hs12⟩
  clear HGT
  rw [tQ3_get S G I a b s1 s2 G1 (by omega) i1 i2] at hxs
  obtain ⟨gl, ol, kl, a1, k1, a2, k2, rfl, hkl2, hpl⟩ := pcs_two hr hxs hxb hs12
  obtain ⟨LL, hLL⟩ : ∃ LL, LL = R ++ (B ++ (A10 ++ aW)) := ⟨_, rfl⟩
  obtain ⟨hcell, hrp, hrq⟩ := hpl LL (fun x hx => by rw [hLL]; simp [hx]) (fun x hx => by rw [hLL]; simp [hx])
  rw [← hLL] at hs12
  have c0 : ∀ y : Of W LL, y.v.cell? ⟨gl, ol, none⟩ = some (.int .i64 S) := fun y => hcell y.v y.s 0 _ rfl
  have c1 : ∀ y : Of W LL, y.v.cell? ⟨gl, ol + 1, none⟩ = some (.int .i64 (G + 1)) := fun y => hcell y.v y.s 1 _ rfl
  have c2 : ∀ y : Of W LL, y.v.cell? ⟨gl, ol + 2, none⟩ = some (.int .i64 I) := fun y => hcell y.v y.s 2 _ rfl
  have c3 : ∀ y : Of W LL, y.v.cell? ⟨gl, ol + 3, none⟩ = some (.slice a1 (tp S (G + 1) I b).data.length k1) := fun y => hcell y.v y.s 3 _ rfl
  have c4 : ∀ y : Of W LL, y.v.cell? ⟨gl, ol + 4, none⟩ = some (.int .i64 S) := fun y => hcell y.v y.s 4 _ rfl
  have c5 : ∀ y : Of W LL, y.v.cell? ⟨gl, ol + 5, none⟩ = some (.int .i64 G) := fun y => hcell y.v y.s 5 _ rfl
  have c6 : ∀ y : Of W LL, y.v.cell? ⟨gl, ol + 6, none⟩ = some (.int .i64 I) := fun y => hcell y.v y.s 6 _ rfl
  have c7 : ∀ y : Of W LL, y.v.cell? ⟨gl, ol + 7, none⟩ = some (.slice a2 (tp S G I a).data.length k2) := fun y => hcell y.v y.s 7 _ rfl
  have HPL := Lib.hid hpl
  have HRP := Lib.hid hrp
  have HRQ := Lib.hid hrq
  have HLL := Lib.hid hLL
  clear hpl hcell hrp hrq hLL hr hxs hxb
  go_wp2_with fail
  refine wp_region_held1 [12, 13, 24, 25] [4, 5, 6, 17, 18, 19] [4, 5, 17, 18] [12, 13, 24] [0, 1, 2, 3, 4, 5, 6, 7, 8, 9, 10, 11, 12, 13, 14, 15, 16, 17, 18, 19, 20, 21, 22, 23, 24, 25, 26, 27] (Held W LL) (by kernel_rfl) (by kernel_rfl) ?_ ?_
  · exact Held.mk hs12.drew
  have hne : Nonempty (Of W LL) := ⟨⟨_, hs12⟩⟩
  have hs13 : Sat W w12.drew LL := hs12.drew
  clear hs12
  repeat (first | (refine can_pu1 rfl rfl rfl rfl rfl rfl (fun K hK => ?_); go_big_quiet_op; refine hK _ ?_; clear hK K) | (refine can_st1 rfl rfl rfl rfl rfl rfl (fun K hK => ?_); go_big_quiet_op; refine hK _ ?_; clear hK K) | (refine can_early1 rfl rfl rfl rfl rfl (fun K hK => ?_); go_big_quiet_op; refine hK _ ?_; clear hK K) | (refine can_skip rfl rfl rfl ?_; simp only [Act.put, List.setIfInBounds_toArray, List.set_cons_zero, List.set_cons_succ]))
  refine can_actS rfl rfl rfl rfl (fun K hK => ?_)
  go_wp2_with fail
  refine (one_any S (G + 1) I b W _ _ hs13).mono ?_; rintro r w14 ⟨v14, R14, rfl, hv14, hs14⟩
  apply hK
  refine ⟨Held.mk hs14.right, ?_⟩
  clear hK
  obtain ⟨a14, k14, rfl⟩ := Ch.RowA.slice hv14
  unfold pcV
  refine can_actS rfl rfl rfl rfl (fun K hK => ?_)
  go_wp2_with fail
  refine (same_any (tp S (G + 1) I b) (tp S (G + 1) I b) (.slice a1 (tp S (G + 1) I b).data.length k1) (.slice a14 (bytesOf b 32).length k14) W w14 _ hs14 (fun y hy => HRP.out y hy.right) (fun y hy => hv14.reads hy) (by rw [tp_len]; decide) (by rw [tp_len]; decide)).mono ?_
  rintro r w15 ⟨rfl, hs15⟩
  rw [decide_eq_true rfl]
  apply hK
  refine ⟨Held.mk hs15.right, ?_⟩
  have hs16 := hs15.right
  clear hK hs14 hs15 hs13
  repeat (first | (refine can_pu1 rfl rfl rfl rfl rfl rfl (fun K hK => ?_); go_big_quiet_op; refine hK _ ?_; clear hK K) | (refine can_st1 rfl rfl rfl rfl rfl rfl (fun K hK => ?_); go_big_quiet_op; refine hK _ ?_; clear hK K) | (refine can_early1 rfl rfl rfl rfl rfl (fun K hK => ?_); go_big_quiet_op; refine hK _ ?_; clear hK K) | (refine can_skip rfl rfl rfl ?_; simp only [Act.put, List.setIfInBounds_toArray, List.set_cons_zero, List.set_cons_succ]))
  refine can_actS rfl rfl rfl rfl (fun K hK => ?_)
  go_wp2_with fail
  refine (one_any S G I a W _ _ hs16).mono ?_; rintro r w17 ⟨v17, R17, rfl, hv17, hs17⟩
  apply hK
  refine ⟨Held.mk hs17.right, ?_⟩
  clear hK hs16
  obtain ⟨a17, k17, rfl⟩ := Ch.RowA.slice hv17
  unfold pcV
  refine can_actF rfl rfl rfl rfl (fun K hK => ?_)
  go_wp2_with fail
  refine (same_any (tp S G I a) (tp S G I a) (.slice a2 (tp S G I a).data.length k2) (.slice a17 (bytesOf a 32).length k17) W w17 _ hs17 (fun y hy => HRQ.out y hy.right) (fun y hy => hv17.reads hy) (by rw [tp_len]; decide) (by rw [tp_len]; decide)).mono ?_
  rintro r w18 ⟨rfl, hs18⟩
  rw [decide_eq_true rfl]
  apply hK
  have hs19 := hs18.right
  clear hK hs17 hs18 hne c0 c1 c2 c3 c4 c5 c6 c7
  repeat (first | (refine can_pu1 rfl rfl rfl rfl rfl rfl (fun K hK => ?_); go_big_quiet_op; refine hK _ ?_; clear hK K) | (refine can_st1 rfl rfl rfl rfl rfl rfl (fun K hK => ?_); go_big_quiet_op; refine hK _ ?_; clear hK K) | (refine can_early1 rfl rfl rfl rfl rfl (fun K hK => ?_); go_big_quiet_op; refine hK _ ?_; clear hK K) | (refine can_skip rfl rfl rfl ?_; simp only [Act.put, List.setIfInBounds_toArray, List.set_cons_zero, List.set_cons_succ]))
  refine can_end1 ?_; (try simp only [Exit.then])
  rw [HLL.out] at hs19
  have hs20 : Sat W w18 (A10 ++ (R ++ (B ++ aW))) := hs19.use (by intro x; simp only [cnt_append, cnt_cons, cnt_nil]; omega)
  have HCR := Lib.hid (crash_any bp (tQ3 (tp S G I a) (tp S (G + 1) I b)) A10 _ keep W w18 _ hA11 hs20 (fun y hy => HK.out y hy.right.right) hkl (by rw [(tQ3_len _ _).2]; decide) (by rw [(tQ3_len _ _).2]; decide) (fun x hx => by
    rw [(tQ3_len _ _).2]
    have hx2 : x = (placeN S (G + 1), layB (tp S (G + 1) I b)) := by
      have : x ∈ [(placeN S (G + 1), layB (tp S (G + 1) I b))] := hx
      simpa using this
    rw [hx2]
    have := placeN_lt S (G + 1) s1 s2
    simp only
    omega) (by simp [tQ3, Pt.fl, Pt.wr]))
  clear hs19 hs20 hA11
  go_wp2_with fail
  refine HCR.out.mono ?_; rintro r w21 ⟨A21, rfl, hA21, hs21⟩
  clear HCR
  go_wp2_with fail
  have hrk := HK.out w21 hs21.right.right.right
  have hkl3 : (keep.length : Int) < 9223372036854775808 := by omega
  go_loop [89, 15] (fun iv bv => ∃ k : Nat, iv = .int .i64 k ∧ k ≤ keep.length ∧ bv = .bool (decide ((0 : Int) ∈ keep.take k))) (fun iv _ => (keep.length - (intOf iv).toNat))
  case atStart => exact ⟨0, rfl, Nat.zero_le _, by simp⟩
  case round =>
    obtain ⟨k, rfl, hk, rfl⟩ := hrel
    have k0 : (0 : Int) ≤ k := by omega
    by_cases hkn : k < keep.length
    · have k1 : (k : Int) < keep.length := by omega
      have k2 : (k : Int) < 9223372036854775807 := by omega
      obtain ⟨x, hx⟩ : ∃ x, keep[k]? = some x := ⟨_, List.getElem?_eq_getElem hkn⟩
      have htk := take_snoc hx
      have HTK := Lib.hid htk
      by_cases hin : (0 : Int) ∈ keep.take k
      · have hd : decide ((0 : Int) ∈ keep.take (k + 1)) = true := by
          rw [decide_eq_true_iff, htk]; exact List.mem_append_left _ hin
        have HD := Lib.hid hd
        rw [decide_eq_true hin]
        clear hd hin htk hx hs21 hrk
        go_wp2_with fail
        refine ⟨⟨k + 1, by simp, by omega, by rw [HD.out]⟩, ?_⟩
        simp [intOf]
        omega
      · rcases hrk with ⟨_, hz, _⟩ | ⟨ga, c', e1, hcell⟩
        · omega
        cases e1
        have d0 : w21.cell? (ga.add k) = some (.int .i64 x) := hcell k _ (intsC_get hx)
        rw [decide_eq_false hin]
        by_cases hx0 : x = 0
        · have hd : decide ((0 : Int) ∈ keep.take (k + 1)) = true := by
            rw [decide_eq_true_iff, htk, hx0]; simp
          have HD := Lib.hid hd
          subst hx0
          clear hd hin htk hx hs21 hcell
          go_wp2_with fail
          refine ⟨⟨k + 1, by simp, by omega, by rw [HD.out]⟩, ?_⟩
          simp [intOf]
          omega
        · have hd : decide ((0 : Int) ∈ keep.take (k + 1)) = false := by
            rw [decide_eq_false_iff_not, htk]
            simp only [List.mem_append, List.mem_singleton, not_or]
            exact ⟨hin, fun h => hx0 h.symm⟩
          have HD := Lib.hid hd
          have q0 : (x == 0) = false := by simpa using hx0
          clear hd hin htk hx hs21 hcell hx0
          go_wp2_with fail
          refine ⟨⟨k + 1, by simp, by omega, by rw [HD.out]⟩, ?_⟩
          simp [intOf]
          omega
    · have e : k = keep.length := by omega
      subst e
      rw [List.take_length]
      have hcl : ((tQ3 (tp S G I a) (tp S (G + 1) I b)).crash keep).now.length = 96 := by
        show (crashTo _ _ _ _).length = _
        rw [crashTo_length, (tQ3_len _ _).2]
      have hcs : ∀ x ∈ ((tQ3 (tp S G I a) (tp S (G + 1) I b)).crash keep).now, x.length < 1000000 := fun x hx => by
        rcases crashTo_mem _ _ _ _ x hx with h | ⟨y, hy, rfl⟩
        · exact tQ1_small _ HPA.out x h
        · have : y ∈ [(placeN S (G + 1), layB (tp S (G + 1) I b))] := hy
          rw [List.mem_singleton.1 this]
          exact lay_small _ HPB.out
      have HGT := Lib.hid (get_any bp _ A21 S W w21 _ hA21 hs21 s1 s2 (by rw [hcl]; decide) hcs)
      clear hrk hcl hcs hs21 hA21
      by_cases hin : (0 : Int) ∈ keep
      · rw [decide_eq_true hin]
        go_wp2_with fail
        refine HGT.out.mono ?_; rintro r w22 ⟨v, xs, R2, B2, rfl, hr2, hxs2, hxb2, hs22⟩
        clear HGT
        rw [tQ4_get S G I a b s1 s2 G1 (by omega) i1 i2, if_pos hin] at hxs2
        obtain ⟨gm, om, km, a3', k3', a4', k4', rfl, hkm2, hpm⟩ := pcs_two hr2 hxs2 hxb2 hs22
        obtain ⟨LM, hLM⟩ : ∃ LM, LM = R2 ++ (B2 ++ (A21 ++ (R ++ (B ++ aW)))) := ⟨_, rfl⟩
        obtain ⟨hcm, hmp, hmq⟩ := hpm LM (fun x hx => by rw [hLM]; simp [hx]) (fun x hx => by rw [hLM]; simp [hx])
        obtain ⟨hcl, hlp, _⟩ := HPL.out LM (fun x hx => by rw [hLM]; simp [hx]) (fun x hx => by rw [hLM]; simp [hx])
        rw [← hLM] at hs22
        have c0 : ∀ y : Of W LM, y.v.cell? ⟨gm, om + 4, none⟩ = some (.int .i64 S) := fun y => hcm y.v y.s 4 _ rfl
        have c1 : ∀ y : Of W LM, y.v.cell? ⟨gm, om + 5, none⟩ = some (.int .i64 G) := fun y => hcm y.v y.s 5 _ rfl
        have c2 : ∀ y : Of W LM, y.v.cell? ⟨gm, om + 6, none⟩ = some (.int .i64 I) := fun y => hcm y.v y.s 6 _ rfl
        have c3 : ∀ y : Of W LM, y.v.cell? ⟨gm, om + 7, none⟩ = some (.slice a4' (tp S G I a).data.length k4') := fun y => hcm y.v y.s 7 _ rfl
        have HCM := Lib.hid hcm
        have HCL := Lib.hid hcl
        have HMP := Lib.hid hmp
        have HMQ := Lib.hid hmq
        have HLP := Lib.hid hlp
        have HLM := Lib.hid hLM
        clear hcm hcl hmp hmq hlp hLM hpm hr2 hxs2 hxb2
        go_wp2_with fail
        refine wp_region_held1 [14, 15, 34] [4, 5, 6, 7, 8, 9] [4, 5, 7, 8] [14] [0, 1, 2, 3, 4, 5, 6, 7, 8, 9, 10, 11, 12, 13, 14, 15, 16, 17, 18, 19, 20, 21, 22, 23, 24, 25, 26, 27, 28, 29, 30, 31, 32, 33, 34, 35, 36, 37] (Held W LM) (by kernel_rfl) (by kernel_rfl) ?_ ?_
        · exact Held.mk hs22.drew
        have hne : Nonempty (Of W LM) := ⟨⟨_, hs22⟩⟩
        have hs23 : Sat W w22.drew LM := hs22.drew
        clear hs22
        repeat (first | (refine can_pu1 rfl rfl rfl rfl rfl rfl (fun K hK => ?_); go_big_quiet_op; refine hK _ ?_; clear hK K) | (refine can_st1 rfl rfl rfl rfl rfl rfl (fun K hK => ?_); go_big_quiet_op; refine hK _ ?_; clear hK K) | (refine can_early1 rfl rfl rfl rfl rfl (fun K hK => ?_); go_big_quiet_op; refine hK _ ?_; clear hK K) | (refine can_skip rfl rfl rfl ?_; simp only [Act.put, List.setIfInBounds_toArray, List.set_cons_zero, List.set_cons_succ]))
        refine can_actS rfl rfl rfl rfl (fun K hK => ?_)
        go_wp2_with fail
        refine (one_any S G I a W _ _ hs23).mono ?_; rintro r w24 ⟨v24, R24, rfl, hv24, hs24⟩
        apply hK
        refine ⟨Held.mk hs24.right, ?_⟩
        clear hK hs23 c0 c1 c2 c3 hne
        obtain ⟨a24, k24, rfl⟩ := Ch.RowA.slice hv24
        unfold pcV
        refine can_actF rfl rfl rfl rfl (fun K hK => ?_)
        go_wp2_with fail
        refine (same_any (tp S G I a) (tp S G I a) (.slice a4' (tp S G I a).data.length k4') (.slice a24 (bytesOf a 32).length k24) W w24 _ hs24 (fun y hy => HMQ.out y hy.right) (fun y hy => hv24.reads hy) (by rw [tp_len]; decide) (by rw [tp_len]; decide)).mono ?_
        rintro r w25 ⟨rfl, hs25⟩
        rw [decide_eq_true rfl]
        apply hK
        have hs26 := hs25.right
        clear hK hs24 hs25
        have e0 := HCM.out w25 hs26 0 _ rfl
        have e1 := HCM.out w25 hs26 1 _ rfl
        have e2 := HCM.out w25 hs26 2 _ rfl
        have e3 := HCM.out w25 hs26 3 _ rfl
        have f0 := HCL.out w25 hs26 0 _ rfl
        have f1 := HCL.out w25 hs26 1 _ rfl
        have f2 := HCL.out w25 hs26 2 _ rfl
        have f3 := HCL.out w25 hs26 3 _ rfl
        rw [Nat.add_zero] at e0 f0
        have hkl4 : (1 : Int) ≤ kl := by omega
        repeat (first | (refine can_pu1 rfl rfl rfl rfl rfl rfl (fun K hK => ?_); go_big_quiet_op; refine hK _ ?_; clear hK K) | (refine can_st1 rfl rfl rfl rfl rfl rfl (fun K hK => ?_); go_big_quiet_op; refine hK _ ?_; clear hK K) | (refine can_early1 rfl rfl rfl rfl rfl (fun K hK => ?_); go_big_quiet_op; refine hK _ ?_; clear hK K) | (refine can_skip rfl rfl rfl ?_; simp only [Act.put, List.setIfInBounds_toArray, List.set_cons_zero, List.set_cons_succ]))
        refine can_actF rfl rfl rfl rfl (fun K hK => ?_)
        go_wp2_with fail
        refine (same_any (tp S (G + 1) I b) (tp S (G + 1) I b) (.slice a3' (tp S (G + 1) I b).data.length k3') (.slice a1 (tp S (G + 1) I b).data.length k1) W w25 _ hs26 (fun y hy => HMP.out y hy) (fun y hy => HLP.out y hy) (by rw [tp_len]; decide) (by rw [tp_len]; decide)).mono ?_
        rintro r w27 ⟨rfl, hs27⟩
        rw [decide_eq_true rfl]
        apply hK
        clear hK hs26 e0 e1 e2 e3 f0 f1 f2 f3
        repeat (first | (refine can_pu1 rfl rfl rfl rfl rfl rfl (fun K hK => ?_); go_big_quiet_op; refine hK _ ?_; clear hK K) | (refine can_st1 rfl rfl rfl rfl rfl rfl (fun K hK => ?_); go_big_quiet_op; refine hK _ ?_; clear hK K) | (refine can_early1 rfl rfl rfl rfl rfl (fun K hK => ?_); go_big_quiet_op; refine hK _ ?_; clear hK K) | (refine can_skip rfl rfl rfl ?_; simp only [Act.put, List.setIfInBounds_toArray, List.set_cons_zero, List.set_cons_succ]))
        refine can_end1 ?_; (try simp only [Exit.then])
        go_wp2_with fail
        go_ret
        rw [HLM.out] at hs27
        exact ⟨rfl, HB.out _ hs27.right.right.right.right.right⟩
      · rw [decide_eq_false hin]
        go_wp2_with fail
        refine HGT.out.mono ?_; rintro r w22 ⟨v, xs, R2, B2, rfl, hr2, hxs2, hxb2, hs22⟩
        clear HGT
        rw [tQ4_get S G I a b s1 s2 G1 (by omega) i1 i2, if_neg hin] at hxs2
        obtain ⟨gm, om, km, a4', k4', rfl, hkm2, hpm⟩ := pcs_one hr2 hxs2 hxb2 hs22
        obtain ⟨LM, hLM⟩ : ∃ LM, LM = R2 ++ (B2 ++ (A21 ++ (R ++ (B ++ aW)))) := ⟨_, rfl⟩
        obtain ⟨hcm, hmq⟩ := hpm LM (fun x hx => by rw [hLM]; simp [hx]) (fun x hx => by rw [hLM]; simp [hx])
        rw [← hLM] at hs22
        have c0 : ∀ y : Of W LM, y.v.cell? ⟨gm, om, none⟩ = some (.int .i64 S) := fun y => hcm y.v y.s 0 _ rfl
        have c1 : ∀ y : Of W LM, y.v.cell? ⟨gm, om + 1, none⟩ = some (.int .i64 G) := fun y => hcm y.v y.s 1 _ rfl
        have c2 : ∀ y : Of W LM, y.v.cell? ⟨gm, om + 2, none⟩ = some (.int .i64 I) := fun y => hcm y.v y.s 2 _ rfl
        have c3 : ∀ y : Of W LM, y.v.cell? ⟨gm, om + 3, none⟩ = some (.slice a4' (tp S G I a).data.length k4') := fun y => hcm y.v y.s 3 _ rfl
        have HMQ := Lib.hid hmq
        have HLM := Lib.hid hLM
        clear hcm hmq hLM hpm hr2 hxs2 hxb2
        go_wp2_with fail
        refine wp_region_held1 [14, 15, 34] [4, 5, 6, 7, 8, 9] [4, 5, 7, 8] [14] [0, 1, 2, 3, 4, 5, 6, 7, 8, 9, 10, 11, 12, 13, 14, 15, 16, 17, 18, 19, 20, 21, 22, 23, 24, 25, 26, 27, 28, 29, 30, 31, 32, 33, 34, 35, 36, 37] (Held W LM) (by kernel_rfl) (by kernel_rfl) ?_ ?_
        · exact Held.mk hs22.drew
        have hne : Nonempty (Of W LM) := ⟨⟨_, hs22⟩⟩
        have hs23 : Sat W w22.drew LM := hs22.drew
        clear hs22
        repeat (first | (refine can_pu1 rfl rfl rfl rfl rfl rfl (fun K hK => ?_); go_big_quiet_op; refine hK _ ?_; clear hK K) | (refine can_st1 rfl rfl rfl rfl rfl rfl (fun K hK => ?_); go_big_quiet_op; refine hK _ ?_; clear hK K) | (refine can_early1 rfl rfl rfl rfl rfl (fun K hK => ?_); go_big_quiet_op; refine hK _ ?_; clear hK K) | (refine can_skip rfl rfl rfl ?_; simp only [Act.put, List.setIfInBounds_toArray, List.set_cons_zero, List.set_cons_succ]))
        refine can_actS rfl rfl rfl rfl (fun K hK => ?_)
        go_wp2_with fail
        refine (one_any S G I a W _ _ hs23).mono ?_; rintro r w24 ⟨v24, R24, rfl, hv24, hs24⟩
        apply hK
        refine ⟨Held.mk hs24.right, ?_⟩
        clear hK hs23 c0 c1 c2 c3 hne
        obtain ⟨a24, k24, rfl⟩ := Ch.RowA.slice hv24
        unfold pcV
        refine can_actF rfl rfl rfl rfl (fun K hK => ?_)
        go_wp2_with fail
        refine (same_any (tp S G I a) (tp S G I a) (.slice a4' (tp S G I a).data.length k4') (.slice a24 (bytesOf a 32).length k24) W w24 _ hs24 (fun y hy => HMQ.out y hy.right) (fun y hy => hv24.reads hy) (by rw [tp_len]; decide) (by rw [tp_len]; decide)).mono ?_
        rintro r w25 ⟨rfl, hs25⟩
        rw [decide_eq_true rfl]
        apply hK
        have hs27 := hs25.right
        clear hK hs24 hs25
        repeat (first | (refine can_pu1 rfl rfl rfl rfl rfl rfl (fun K hK => ?_); go_big_quiet_op; refine hK _ ?_; clear hK K) | (refine can_st1 rfl rfl rfl rfl rfl rfl (fun K hK => ?_); go_big_quiet_op; refine hK _ ?_; clear hK K) | (refine can_early1 rfl rfl rfl rfl rfl (fun K hK => ?_); go_big_quiet_op; refine hK _ ?_; clear hK K) | (refine can_skip rfl rfl rfl ?_; simp only [Act.put, List.setIfInBounds_toArray, List.set_cons_zero, List.set_cons_succ]))
        refine can_act_skip rfl rfl rfl (fun wz hx => ⟨(fun h => absurd h (by decide)), ?_⟩); obtain rfl : wz = w25 := hx
        simp only [Act.put, List.setIfInBounds_toArray, List.set_cons_zero, List.set_cons_succ]
        repeat (first | (refine can_pu1 rfl rfl rfl rfl rfl rfl (fun K hK => ?_); go_big_quiet_op; refine hK _ ?_; clear hK K) | (refine can_st1 rfl rfl rfl rfl rfl rfl (fun K hK => ?_); go_big_quiet_op; refine hK _ ?_; clear hK K) | (refine can_early1 rfl rfl rfl rfl rfl (fun K hK => ?_); go_big_quiet_op; refine hK _ ?_; clear hK K) | (refine can_skip rfl rfl rfl ?_; simp only [Act.put, List.setIfInBounds_toArray, List.set_cons_zero, List.set_cons_succ]))
        refine can_end1 ?_; (try simp only [Exit.then])
        go_wp2_with fail
        go_ret
        rw [HLM.out] at hs27
        exact ⟨rfl, HB.out _ hs27.right.right.right.right.right⟩
end Go.Proofs.Ytdkhgkkdnjejmaa.Ch
