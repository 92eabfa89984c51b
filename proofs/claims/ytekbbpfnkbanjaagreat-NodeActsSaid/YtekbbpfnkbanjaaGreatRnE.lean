
/-
  The document's SameIntents, SameRep, at the same replies.
-/
import Derived.Test.YtekbbpfnkbanjaaGreatRnD
namespace Go.Proofs.YtekbbpfnkbanjaaGreat.Ch
open Go Go.RowKit Go.Sl Go.BigFrame
set_option linter.unusedVariables false
set_option linter.unusedSimpArgs false

theorem itsC_get {xs : List (It × Value)} : ∀ {i : Nat} {p : It} {v : Value}, xs[i]? = some (p, v) → ∀ f u, ([Value.int .i64 p.stripe, .int .i64 p.gen, v] : List Value)[f]? = some u → (itsC xs)[i * 3 + f]? = some u := by
  induction xs with
  | nil => intro i p v h; simp at h
  | cons x xs ih =>
    intro i p v h f u hu
    have hf : f < 3 := by have := (List.getElem?_eq_some_iff.1 hu).1; simpa using this
    cases i with
    | zero =>
      simp at h
      subst h
      rw [Nat.zero_mul, Nat.zero_add]
      simp only [itsC, List.map_cons, List.flatten_cons]
      rw [List.getElem?_append_left (by simpa using hf)]
      exact hu
    | succ i =>
      simp only [itsC, List.map_cons, List.flatten_cons]
      rw [List.getElem?_append_right (by simp; omega), show (i + 1) * 3 + f - [Value.int .i64 x.1.stripe, .int .i64 x.1.gen, x.2].length = i * 3 + f by simp; omega]
      exact ih (by simpa using h) f u hu
set_option maxRecDepth 100000 in
set_option maxHeartbeats 4000000 in
theorem same_intents (xs ys : List (It × Value)) (va vb : Value) (Ra Rb M B C : List Atom) (W w : World)
    (hra : RowA 77 3 va xs.length (itsC xs) Ra) (hrb : RowA 77 3 vb ys.length (itsC ys) Rb) (hs : Sat W w (Ra ++ (Rb ++ M)))
    (hxy : xs.map Prod.fst = ys.map Prod.fst) (hbx : ItsIn B xs) (hby : ItsIn C ys) (hB : ∀ x ∈ B, x ∈ M) (hC : ∀ x ∈ C, x ∈ M) (hn : xs.length ≤ 1000) :
    Calls Tryz.prog 31 #[va, vb] w fun e w' => e = .returned (.bool true) ∧ Sat W w' (Ra ++ (Rb ++ M)) := by
  obtain ⟨aa, ca, rfl⟩ := Ch.RowA.slice hra
  obtain ⟨ab, cb, rfl⟩ := Ch.RowA.slice hrb
  have hlen : xs.length = ys.length := by have := congrArg List.length hxy; simpa using this
  obtain ⟨n, hnn⟩ : ∃ n, n = xs.length := ⟨_, rfl⟩
  have HN := Lib.hid hnn
  have HN2 := Lib.hid (hnn.trans hlen)
  have HRA := Lib.hid hra
  have HRB := Lib.hid hrb
  have HXY := Lib.hid hxy
  have HBX := Lib.hid hbx
  have HBY := Lib.hid hby
  rw [← hlen, ← hnn]
  rw [← hnn] at hn
  clear hra hrb hxy hbx hby hlen hnn
  go_enter Tryz.func31, Tryz.ntmps31
  go_wp2_with fail
  go_loopw [5] (fun iv wr => ∃ i : Nat, iv = .int .i64 i ∧ i ≤ n ∧ Sat W wr (Ra ++ (Rb ++ M))) (fun iv _ => (n - (intOf iv).toNat))
  case atStart => exact ⟨0, rfl, Nat.zero_le _, hs⟩
  case round =>
    clear hs
    obtain ⟨i, rfl, hi, hs⟩ := hrel
    have i0 : (0 : Int) ≤ i := by omega
    by_cases hin : i < n
    · have i1 : (i : Int) < n := by omega
      have i2 : (i : Int) < 1000000 := by omega
      obtain ⟨⟨⟨p0, p1, p3⟩, pv⟩, hp⟩ : ∃ x, xs[i]? = some x := ⟨_, List.getElem?_eq_getElem (by have := HN.out; omega)⟩
      obtain ⟨⟨q, qv⟩, hq⟩ : ∃ x, ys[i]? = some x := ⟨_, List.getElem?_eq_getElem (by have := HN2.out; omega)⟩
      obtain rfl : (⟨p0, p1, p3⟩ : It) = q := by
        have h1 : (xs.map Prod.fst)[i]? = some ⟨p0, p1, p3⟩ := by rw [List.getElem?_map, hp]; rfl
        have h2 : (ys.map Prod.fst)[i]? = some q := by rw [List.getElem?_map, hq]; rfl
        rw [HXY.out, h2] at h1
        exact (Option.some.inj h1).symm
      have hbp := HBX.out _ (List.mem_of_getElem? hp)
      have hbq := HBY.out _ (List.mem_of_getElem? hq)
      have hra := HRA.out
      have hrb := HRB.out
      rw [← HN.out] at hra
      rw [← HN2.out] at hrb
      obtain ⟨ga, oa, ka, he, _, _, _⟩ := Ch.RowA.some_of hra (by omega)
      obtain ⟨rfl, rfl⟩ : aa = some ⟨ga, oa, none⟩ ∧ ca = ka := by cases he; exact ⟨rfl, rfl⟩
      clear he
      obtain ⟨gb, ob, kb, he, _, _, _⟩ := Ch.RowA.some_of hrb (by omega)
      obtain ⟨rfl, rfl⟩ : ab = some ⟨gb, ob, none⟩ ∧ cb = kb := by cases he; exact ⟨rfl, rfl⟩
      clear he
      have hsb : Sat W wr (Rb ++ (Ra ++ M)) := hs.use (by intro x; simp only [cnt_append, cnt_cons, cnt_nil]; omega)
      have hc := fun f u (hu : ([Value.int .i64 p0, .int .i64 p1, pv] : List Value)[f]? = some u) => (hra.cells hs rfl (i * 3 + f) (List.getElem?_eq_some_iff.1 (itsC_get hp f u hu)).1).1.trans (itsC_get hp f u hu)
      have hd := fun f u (hu : ([Value.int .i64 p0, .int .i64 p1, qv] : List Value)[f]? = some u) => (hrb.cells hsb rfl (i * 3 + f) (List.getElem?_eq_some_iff.1 (itsC_get hq f u hu)).1).1.trans (itsC_get hq f u hu)
      have c0 : wr.cell? ⟨ga, oa + i * 3, none⟩ = some (.int .i64 p0) := hc 0 _ rfl
      have c1 : wr.cell? ⟨ga, oa + i * 3 + 1, none⟩ = some (.int .i64 p1) := by rw [Nat.add_assoc]; exact hc 1 _ rfl
      have c2 : wr.cell? ⟨ga, oa + i * 3 + 2, none⟩ = some pv := by rw [Nat.add_assoc]; exact hc 2 _ rfl
      have d0 : wr.cell? ⟨gb, ob + i * 3, none⟩ = some (.int .i64 p0) := hd 0 _ rfl
      have d1 : wr.cell? ⟨gb, ob + i * 3 + 1, none⟩ = some (.int .i64 p1) := by rw [Nat.add_assoc]; exact hd 1 _ rfl
      have d2 : wr.cell? ⟨gb, ob + i * 3 + 2, none⟩ = some qv := by rw [Nat.add_assoc]; exact hd 2 _ rfl
      have hsm := fun w (hs : Sat W w (Ra ++ (Rb ++ M))) => ref_sameI ⟨p0, p1, p3⟩ ⟨p0, p1, p3⟩ pv qv W w _ hs (fun y hy => hbp.reads hy (fun x hx => List.mem_append_right _ (List.mem_append_right _ (hB x hx)))) (fun y hy => hbq.reads hy (fun x hx => List.mem_append_right _ (List.mem_append_right _ (hC x hx))))
      try simp only at hbp hbq
      obtain ⟨pg, pc, hv1⟩ := hbp.shape
      try simp only at hv1
      subst hv1
      obtain ⟨qg, qc, hv2⟩ := hbq.shape
      try simp only at hv2
      subst hv2
      rw [decide_eq_true (rfl : (⟨p0, p1, p3⟩ : It) = ⟨p0, p1, p3⟩)] at hsm
      unfold itV at hsm
      simp only at hsm
      have HSM := Lib.hid hsm
      clear hsm hc hd hsb hp hq hra hrb
      go_wp2_with fail
      refine wp_region_one [8] [] [] [] [0, 1, 2, 3, 4, 5, 6, 7, 8, 9] (by kernel_rfl) (by kernel_rfl) ?_
      repeat (first | (refine can_pu1 rfl rfl rfl rfl rfl rfl (fun K hK => ?_); go_big_quiet_op; refine hK _ ?_; clear hK K) | (refine can_st1 rfl rfl rfl rfl rfl rfl (fun K hK => ?_); go_big_quiet_op; refine hK _ ?_; clear hK K) | (refine can_early1 rfl rfl rfl rfl rfl (fun K hK => ?_); go_big_quiet_op; refine hK _ ?_; clear hK K) | (refine can_skip rfl rfl rfl ?_; simp only [Act.put, List.setIfInBounds_toArray, List.set_cons_zero, List.set_cons_succ]))
      refine can_act1 rfl rfl rfl (fun K hK => ?_)
      go_wp2_with fail
      refine (HSM.out _ hs.drew).mono ?_; rintro r2 w2 ⟨rfl, hs2⟩
      apply hK
      clear hK c0 c1 c2 d0 d1 d2 hs
      repeat (first | (refine can_pu1 rfl rfl rfl rfl rfl rfl (fun K hK => ?_); go_big_quiet_op; refine hK _ ?_; clear hK K) | (refine can_st1 rfl rfl rfl rfl rfl rfl (fun K hK => ?_); go_big_quiet_op; refine hK _ ?_; clear hK K) | (refine can_early1 rfl rfl rfl rfl rfl (fun K hK => ?_); go_big_quiet_op; refine hK _ ?_; clear hK K) | (refine can_skip rfl rfl rfl ?_; simp only [Act.put, List.setIfInBounds_toArray, List.set_cons_zero, List.set_cons_succ]))
      refine can_end1 ?_; (try simp only [Exit.then])
      go_wp2_with fail
      refine ⟨⟨i + 1, by simp, by omega, hs2⟩, ?_⟩
      simp [intOf]
      omega
    · have e : n = i := by omega
      subst e
      go_wp2_with fail
      go_ret
      exact ⟨rfl, hs⟩

/-- A reply of the document's node: its intents' bytes may be the ring's own. -/
def RefA (M : List Atom) (pv iv : Value) (p : Rp) (R : List Atom) : Prop :=
  ∃ pa pc xs R1 B ia ic ys R2, pv = .slice pa xs.length pc ∧ RowA 72 4 (.slice pa xs.length pc) xs.length (pcsC xs) R1 ∧ xs.map Prod.fst = p.pcs ∧ PcBl B xs ∧
    iv = .slice ia ys.length ic ∧ RowA 77 3 (.slice ia ys.length ic) ys.length (itsC ys) R2 ∧ ys.map Prod.fst = p.its ∧ ItsIn M ys ∧ R = (R1 ++ B) ++ R2
theorem RefA.nil0 (M : List Atom) (code : Int) : RefA M (.slice none 0 0) (.slice none 0 0) ⟨code, [], []⟩ [] :=
  ⟨Option.none, 0, [], [], [], Option.none, 0, [], [], rfl, RowA.nil _ _, rfl, (fun x hx => by cases hx), rfl, RowA.nil _ _, rfl, (fun x hx => by cases hx), rfl⟩
theorem RefA.shape {M : List Atom} {pv iv : Value} {p : Rp} {R : List Atom} (h : RefA M pv iv p R) : ∃ pa pn pc ia im ic, pv = .slice pa pn pc ∧ iv = .slice ia im ic := by
  obtain ⟨pa, pc, xs, R1, B, ia, ic, ys, R2, h1, _, _, _, h2, _⟩ := h
  exact ⟨_, _, _, _, _, _, h1, h2⟩
set_option maxRecDepth 100000 in
set_option maxHeartbeats 4000000 in
theorem same_rep (p : Rp) (boot : Int) (pv iv pv2 iv2 : Value) (R R' M M' : List Atom) (W w : World) (L : List Atom) (h1 : RepA pv iv p R) (h2 : RefA M' pv2 iv2 p R') (hs : Sat W w (R ++ (R' ++ M))) (hM : ∀ x ∈ M', x ∈ M) (hp : p.pcs.length ≤ 2) (hi : p.its.length ≤ 1000) :
    Calls Tryz.prog 13 #[repV p.code boot pv iv, repV p.code boot pv2 iv2] w fun e w' => e = .returned (.bool true) ∧ Sat W w' (R ++ (R' ++ M)) := by
  obtain ⟨code, pcs, its⟩ := p
  obtain ⟨pa, pc, xs, R1, B, ia, ic, ys, R2, C, rfl, hr1, hx, hb, rfl, hr2, hy, hC, rfl⟩ := h1
  obtain ⟨pa', pc', xs', R1', B', ia', ic', ys', R2', rfl, hr1', hx', hb', rfl, hr2', hy', hC', rfl⟩ := h2
  simp only at hx hy hx' hy' hp hi ⊢
  unfold repV
  have hxn : xs.length ≤ 2 := by rw [← hx, List.length_map] at hp; exact hp
  have hyn : ys.length ≤ 1000 := by rw [← hy, List.length_map] at hi; exact hi
  have HP := Lib.hid (fun w N (hs : Sat W w (R1 ++ (R1' ++ (B ++ (B' ++ N))))) => same_pieces xs xs' (.slice pa xs.length pc) (.slice pa' xs'.length pc') R1 R1' _ B B' W w hr1 hr1' hs (by rw [hx, hx']) hb hb' (fun x hx => by simp [hx]) (fun x hx => by simp [hx]) hxn)
  have HI := Lib.hid (fun w N (hN : ∀ x ∈ M', x ∈ N) (hs : Sat W w (R2 ++ (R2' ++ (C ++ N)))) => same_intents ys ys' (.slice ia ys.length ic) (.slice ia' ys'.length ic') R2 R2' _ C M' W w hr2 hr2' hs (by rw [hy, hy']) hC hC' (fun x hx => by simp [hx]) (fun x hx => by simp [hN x hx]) hyn)
  obtain ⟨n1, e1⟩ : ∃ n, n = xs.length := ⟨_, rfl⟩
  obtain ⟨n2, e2⟩ : ∃ n, n = xs'.length := ⟨_, rfl⟩
  obtain ⟨q1, e3⟩ : ∃ n, n = ys.length := ⟨_, rfl⟩
  obtain ⟨q2, e4⟩ : ∃ n, n = ys'.length := ⟨_, rfl⟩
  rw [← e1, ← e2] at HP
  rw [← e3, ← e4] at HI
  rw [← e1, ← e2, ← e3, ← e4]
  have hs3 := (hs.newCells #[.int .i64 code, .int .i64 boot, .slice pa n1 pc, .slice ia q1 ic] 44).newCells #[.int .i64 code, .int .i64 boot, .slice pa' n2 pc', .slice ia' q2 ic'] 44
  have hsz : (w.alloc (.cells #[.int .i64 code, .int .i64 boot, .slice pa n1 pc, .slice ia q1 ic] 44)).heap.size = w.heap.size + 1 := by simp
  rw [hsz] at hs3
  have hsP := Sat.use (M := R1 ++ (R1' ++ (B ++ (B' ++ ((R2 ++ C) ++ (R2' ++ (cellsA w.heap.size #[.int .i64 code, .int .i64 boot, .slice pa n1 pc, .slice ia q1 ic] 44 :: (cellsA (w.heap.size + 1) #[.int .i64 code, .int .i64 boot, .slice pa' n2 pc', .slice ia' q2 ic'] 44 :: M)))))))) hs3 (by intro x; simp only [cnt_append, cnt_cons, cnt_nil]; omega)
  clear e1 e2 e3 e4 hs3 hsz hs hr1 hr1' hr2 hr2' hx hx' hy hy' hb hb' hC hC' hp hi hxn hyn
  go_enter Tryz.func13, Tryz.ntmps13
  go_wp2_with fail
  refine (HP.out _ _ hsP).mono ?_; rintro r w2 ⟨rfl, hs4⟩
  clear hsP HP
  generalize w.heap.size = z at *
  have hs5 := Sat.use (M := cellsA z #[.int .i64 code, .int .i64 boot, .slice pa n1 pc, .slice ia q1 ic] 44 :: (cellsA (z + 1) #[.int .i64 code, .int .i64 boot, .slice pa' n2 pc', .slice ia' q2 ic'] 44 :: [])) hs4 (by intro x; simp only [cnt_append, cnt_cons, cnt_nil]; omega)
  have c3 : w2.cell? ⟨z, 3, none⟩ = some (.slice ia q1 ic) := hs5.cell m0 3
  have d3 : w2.cell? ⟨z + 1, 3, none⟩ = some (.slice ia' q2 ic') := hs5.cell m1 3
  have hsI := Sat.use (M := R2 ++ (R2' ++ (C ++ (R1 ++ (R1' ++ (B ++ (B' ++ M))))))) hs4 (by intro x; simp only [cnt_append, cnt_cons, cnt_nil]; omega)
  clear hs5 hs4
  go_wp2_with fail
  refine (HI.out _ _ (fun x hx => by simp [hM x hx]) hsI).mono ?_; rintro r w3 ⟨rfl, hs6⟩
  go_wp2_with fail
  go_ret
  exact ⟨rfl, hs6.use (by intro x; simp only [cnt_append, cnt_cons, cnt_nil]; omega)⟩
end Go.Proofs.YtekbbpfnkbanjaaGreat.Ch
