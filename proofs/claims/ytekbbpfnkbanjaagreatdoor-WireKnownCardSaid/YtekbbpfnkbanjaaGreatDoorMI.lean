
/-
  call.within, bytes, LayReq: whether a request may be.
  A wire in memory; its small functions.
  A wire: its fates, a try that is sent.
  A wire: send.
  A wire: Call.
  A wire: New, Fates; the document's SameInts.
  A wire: what a flush is answered; errors of a node; chapter 12's example.
-/
import Derived.Test.YtekbbpfnkbanjaaGreatDoorMG
import Derived.Test.YtekbbpfnkbanjaaGreatDoorMH
namespace Go.Proofs.YtekbbpfnkbanjaaGreatDoor.Ch
set_option linter.unusedSimpArgs false
open Go Go.RowKit Go.Sl Go.BigFrame
set_option linter.unusedVariables false

theorem within_any (n lo hi : Int) (w : World) :
    Calls Tryz.prog 42 #[.int .i64 n, .int .i64 lo, .int .i64 hi] w fun e w' => e = .returned (.bool (decide (lo ≤ n ∧ n ≤ hi))) ∧ w = w' := by
  by_cases h : lo ≤ n
  · by_cases h2 : n ≤ hi
    · rw [decide_eq_true (⟨h, h2⟩ : lo ≤ n ∧ n ≤ hi)]
      go_enter Tryz.func42, Tryz.ntmps42
      go_wp2_with fail
      go_ret
      exact ⟨rfl, rfl⟩
    · rw [decide_eq_false (fun x : lo ≤ n ∧ n ≤ hi => h2 x.2)]
      have h3 : ¬ n ≤ hi := h2
      go_enter Tryz.func42, Tryz.ntmps42
      go_wp2_with fail
      go_ret
      exact ⟨rfl, rfl⟩
  · rw [decide_eq_false (fun x : lo ≤ n ∧ n ≤ hi => h x.1)]
    go_enter Tryz.func42, Tryz.ntmps42
    go_wp2_with fail
    go_ret
    exact ⟨rfl, rfl⟩

set_option maxRecDepth 100000 in
set_option maxHeartbeats 2000000 in
theorem cbytes_any (n : Int) (size : Nat) (W w : World) (L : List Atom) (hn : 0 ≤ n) (hn2 : n < 9223372036854775808) (hsz : size ≤ 8) (hs : Sat W w L) :
    Calls Tryz.prog 44 #[.int .i64 n, .int .i64 size] w fun e w' => ∃ v R, e = .returned v ∧ RowA 5 1 v (bytesB n size).length (bts (bytesB n size)) R ∧ Sat W w' (R ++ L) := by
  have s0 : (0 : Int) ≤ size := by omega
  have s1 : (size : Int) ≤ 8 := by omega
  go_enter Tryz.func44, Tryz.ntmps44
  go_wp2_with fail
  go_loopw [5, 6] (fun ov iv wr => ∃ (k : Nat) (l : List UInt8) (R : List Atom), k ≤ size ∧ iv = .int .i64 ((k : Int) - 1) ∧ l ++ bytesB n k = bytesB n size ∧ RowA 5 1 ov l.length (bts l) R ∧ Sat W wr (R ++ L)) (fun _ iv _ => (intOf iv + 1).toNat)
  case atStart => exact ⟨size, [], [], Nat.le_refl _, rfl, rfl, RowA.nil _ _, hs⟩
  case round =>
    clear hs
    obtain ⟨k, l, R, hk, rfl, hl, hr, hs⟩ := hrel
    have HL := Lib.hid hl
    have hll : l.length ≤ 8 := by
      have h := congrArg List.length hl
      rw [List.length_append, bytesB_length, bytesB_length] at h
      omega
    clear hl
    obtain ⟨aL, cL, rfl⟩ := Ch.RowA.slice hr
    cases k with
    | zero =>
      go_wp2_with fail
      go_ret
      have h := HL.out
      rw [bytesB, List.append_nil] at h
      exact ⟨_, R, rfl, by rw [← h]; exact hr, hs⟩
    | succ k =>
      have e1 : (((k + 1 : Nat) : Int) - 1) = k := by omega
      rw [e1]
      have k0 : (0 : Int) ≤ k := by omega
      have k1 : (k : Int) ≤ 7 := by omega
      go_wp2_with (at_builtin; refine wpList_plain rfl (fun K hK => ?_); refine wp_append_u8 rfl l [byteAt n k] rfl rfl hr (sat_new hs) (reads_new wr _ _ _ _ _ (by simp [bts, byteAt_val])) (by simp <;> omega) (fun v2 w2 R2 hr2 hs2 => ?_); refine hK _ _ ?_; simp only [Act.put, List.setIfInBounds_toArray, List.set_cons_zero, List.set_cons_succ]; clear hK)
      refine ⟨⟨k, l ++ [byteAt n k], R2, by omega, rfl, ?_, hr2, hs2.use (by intro x; simp only [cnt_append, cnt_cons, cnt_nil]; omega)⟩, ?_⟩
      · rw [← HL.out, bytesB, List.append_assoc]; rfl
      · simp [intOf]

/-- A request that may be. -/
def reqOk (q : Rq) : Prop := 1 ≤ q.kind ∧ q.kind ≤ 6 ∧ 0 ≤ q.stripe ∧ q.stripe ≤ 65535 ∧ 0 ≤ q.gen ∧ q.gen ≤ 1099511627776 ∧ 0 ≤ q.index ∧ q.index ≤ 255 ∧ q.data.length ≤ 128
noncomputable instance (q : Rq) : Decidable (reqOk q) := Classical.propDecidable _

set_option maxRecDepth 100000 in
set_option maxHeartbeats 4000000 in
theorem layreq_bad (q : Rq) (da : Option Addr) (dc : Nat) (W w : World) (L : List Atom) (hs : Sat W w L) (hp : ¬ reqOk q) :
    Calls Tryz.prog 31 #[rqV q (.slice da q.data.length dc)] w fun e w' => e = .returned (.tuple #[.slice none 0 0, .int .i64 1]) ∧ Sat W w' L := by
  obtain ⟨k, s, g, i, d⟩ := q
  unfold rqV
  simp only [reqOk] at hp ⊢
  obtain ⟨dn, hdn⟩ : ∃ dn : Nat, dn = d.length := ⟨_, rfl⟩
  rw [← hdn] at hp ⊢
  have HP := Lib.hid hp
  clear hdn hp
  have hs1 := hs.newCells #[.int .i64 k, .int .i64 s, .int .i64 g, .int .i64 i, .slice da dn dc] 44
  clear hs
  go_enter Tryz.func31, Tryz.ntmps31
  by_cases h1 : 1 ≤ k ∧ k ≤ 6
  case neg =>
    go_wp2_with fail
    refine (within_any k 1 6 _).mono ?_; rintro r wq ⟨rfl, rfl⟩
    rw [decide_eq_false (by omega)]
    go_wp2_with fail
    go_ret2
    exact ⟨rfl, hs1.tail⟩
  go_wp2_with fail
  refine (within_any k 1 6 _).mono ?_; rintro r wq ⟨rfl, rfl⟩
  rw [decide_eq_true ⟨by omega, by omega⟩]
  by_cases h2 : 0 ≤ s ∧ s ≤ 65535
  case neg =>
    go_wp2_with fail
    refine (within_any s 0 65535 _).mono ?_; rintro r wq ⟨rfl, rfl⟩
    rw [decide_eq_false (by omega)]
    go_wp2_with fail
    go_ret2
    exact ⟨rfl, hs1.tail⟩
  go_wp2_with fail
  refine (within_any s 0 65535 _).mono ?_; rintro r wq ⟨rfl, rfl⟩
  rw [decide_eq_true ⟨by omega, by omega⟩]
  by_cases h3 : 0 ≤ g ∧ g ≤ 1099511627776
  case neg =>
    go_wp2_with fail
    refine (within_any g 0 1099511627776 _).mono ?_; rintro r wq ⟨rfl, rfl⟩
    rw [decide_eq_false (by omega)]
    go_wp2_with fail
    go_ret2
    exact ⟨rfl, hs1.tail⟩
  go_wp2_with fail
  refine (within_any g 0 1099511627776 _).mono ?_; rintro r wq ⟨rfl, rfl⟩
  rw [decide_eq_true ⟨by omega, by omega⟩]
  by_cases h4 : 0 ≤ i ∧ i ≤ 255
  case neg =>
    go_wp2_with fail
    refine (within_any i 0 255 _).mono ?_; rintro r wq ⟨rfl, rfl⟩
    rw [decide_eq_false (by omega)]
    go_wp2_with fail
    go_ret2
    exact ⟨rfl, hs1.tail⟩
  go_wp2_with fail
  refine (within_any i 0 255 _).mono ?_; rintro r wq ⟨rfl, rfl⟩
  rw [decide_eq_true ⟨by omega, by omega⟩]
  have h5 : (128 : Int) < dn := by have := HP.out; omega
  go_wp2_with fail
  go_ret2
  exact ⟨rfl, hs1.tail⟩

set_option maxRecDepth 100000 in
set_option maxHeartbeats 4000000 in
theorem layreq_ok (q : Rq) (da : Option Addr) (dc : Nat) (W w : World) (L : List Atom) (hs : Sat W w L) (hin : ∀ y, Sat W y L → Reads y (.slice da q.data.length dc) q.data.length (bts q.data)) (hp : reqOk q) :
    Calls Tryz.prog 31 #[rqV q (.slice da q.data.length dc)] w fun e w' => ∃ v, e = .returned (.tuple #[v, .int .i64 0]) ∧ Sat W w' L := by
  obtain ⟨k, s, g, i, d⟩ := q
  unfold rqV
  simp only [reqOk] at hp hin ⊢
  obtain ⟨p1, p2, p3, p4, p5, p6, p7, p8, p9⟩ := hp
  obtain ⟨dn, hdn⟩ : ∃ dn : Nat, dn = d.length := ⟨_, rfl⟩
  rw [← hdn] at p9
  have HIN := Lib.hid hin
  rw [← hdn]
  have HDN := Lib.hid hdn
  clear hdn hin
  have d1 : (0 : Int) ≤ dn := by omega
  have d2 : (dn : Int) ≤ 128 := by omega
  have hs1 := hs.newCells #[.int .i64 k, .int .i64 s, .int .i64 g, .int .i64 i, .slice da dn dc] 44
  obtain ⟨L1, hL1⟩ : ∃ L1, L1 = cellsA w.heap.size #[.int .i64 k, .int .i64 s, .int .i64 g, .int .i64 i, .slice da dn dc] 44 :: L := ⟨_, rfl⟩
  have HL1 := Lib.hid hL1
  have hm1 : cellsA w.heap.size #[.int .i64 k, .int .i64 s, .int .i64 g, .int .i64 i, .slice da dn dc] 44 ∈ L1 := by rw [hL1]; exact m0
  rw [← hL1] at hs1
  clear hL1 hs
  have c0 : ∀ y : Of W L1, y.v.cell? ⟨w.heap.size, 0, none⟩ = some (.int .i64 k) := fun y => y.s.cell hm1 0
  have c1 : ∀ y : Of W L1, y.v.cell? ⟨w.heap.size, 1, none⟩ = some (.int .i64 s) := fun y => y.s.cell hm1 1
  have c2 : ∀ y : Of W L1, y.v.cell? ⟨w.heap.size, 2, none⟩ = some (.int .i64 g) := fun y => y.s.cell hm1 2
  have c3 : ∀ y : Of W L1, y.v.cell? ⟨w.heap.size, 3, none⟩ = some (.int .i64 i) := fun y => y.s.cell hm1 3
  have c4 : ∀ y : Of W L1, y.v.cell? ⟨w.heap.size, 4, none⟩ = some (.slice da dn dc) := fun y => y.s.cell hm1 4
  go_enter Tryz.func31, Tryz.ntmps31
  go_wp2_with fail
  refine (within_any k 1 6 _).mono ?_; rintro r wq ⟨rfl, rfl⟩
  rw [decide_eq_true ⟨by omega, by omega⟩]
  go_wp2_with fail
  refine (within_any s 0 65535 _).mono ?_; rintro r wq ⟨rfl, rfl⟩
  rw [decide_eq_true ⟨by omega, by omega⟩]
  go_wp2_with fail
  refine (within_any g 0 1099511627776 _).mono ?_; rintro r wq ⟨rfl, rfl⟩
  rw [decide_eq_true ⟨by omega, by omega⟩]
  go_wp2_with fail
  refine (within_any i 0 255 _).mono ?_; rintro r wq ⟨rfl, rfl⟩
  rw [decide_eq_true ⟨by omega, by omega⟩]
  go_upto_region 3 with fail
  refine with_sat hs1 ?_
  clear hs1
  intro w2 hs2
  have d0 : w2.cell? ⟨w.heap.size, 0, none⟩ = some (.int .i64 k) := c0 ⟨_, hs2⟩
  generalize w.heap.size = z at *
  go_wp2_with fail
  refine wp_region_held1 [2, 5, 8, 11, 15, 18, 19] [3, 4, 6, 7, 9, 10, 12, 13, 14, 16, 17] [3, 6, 9, 12, 16] [2, 5, 8, 11, 15] [0, 1, 3, 4, 6, 7, 9, 10, 12, 13, 14, 16, 17, 2, 5, 8, 11, 15, 18, 19, 20, 21] (Held W L1) (by kernel_rfl) (by kernel_rfl) ?_ ?_
  · exact Held.mk hs2.drew
  have hne : Nonempty (Of W L1) := ⟨⟨_, hs2⟩⟩
  have hs3 : Sat W w2.drew L1 := hs2.drew
  clear hs2
  repeat (first | (refine can_pu1 rfl rfl rfl rfl rfl rfl (fun K hK => ?_); go_big_quiet_op; refine hK _ ?_; clear hK K) | (refine can_st1 rfl rfl rfl rfl rfl rfl (fun K hK => ?_); go_big_quiet_op; refine hK _ ?_; clear hK K) | (refine can_early1 rfl rfl rfl rfl rfl (fun K hK => ?_); go_big_quiet_op; refine hK _ ?_; clear hK K) | (refine can_skip rfl rfl rfl ?_; simp only [Act.put, List.setIfInBounds_toArray, List.set_cons_zero, List.set_cons_succ]))
  clear c0 c1 c2 c3 c4 d0 hne
  refine can_actS rfl rfl rfl rfl (fun K hK => ?_)
  go_wp2_with fail
  refine (cbytes_any k 1 W _ _ (by omega) (by omega) (by omega) hs3).mono ?_; rintro r w4 ⟨v1, R1, rfl, hr1, hs4⟩
  apply hK
  refine ⟨Held.mk hs4.right, ?_⟩
  clear hK
  obtain ⟨a1, k1, rfl⟩ := Ch.RowA.slice hr1
  refine can_actS rfl rfl rfl rfl (fun K hK => ?_)
  go_wp2_with fail
  refine (cbytes_any s 2 W _ _ (by omega) (by omega) (by omega) hs4).mono ?_; rintro r w5 ⟨v1, R2, rfl, hr2, hs5⟩
  apply hK
  refine ⟨Held.mk hs5.right.right, ?_⟩
  clear hK
  obtain ⟨a2, k2, rfl⟩ := Ch.RowA.slice hr2
  refine can_actS rfl rfl rfl rfl (fun K hK => ?_)
  go_wp2_with fail
  refine (cbytes_any g 6 W _ _ (by omega) (by omega) (by omega) hs5).mono ?_; rintro r w6 ⟨v1, R3, rfl, hr3, hs6⟩
  apply hK
  refine ⟨Held.mk hs6.right.right.right, ?_⟩
  clear hK
  obtain ⟨a3, k3, rfl⟩ := Ch.RowA.slice hr3
  refine can_actS rfl rfl rfl rfl (fun K hK => ?_)
  go_wp2_with fail
  refine (cbytes_any i 1 W _ _ (by omega) (by omega) (by omega) hs6).mono ?_; rintro r w7 ⟨v1, R4, rfl, hr4, hs7⟩
  apply hK
  refine ⟨Held.mk hs7.right.right.right.right, ?_⟩
  clear hK
  obtain ⟨a4, k4, rfl⟩ := Ch.RowA.slice hr4
  refine can_actS rfl rfl rfl rfl (fun K hK => ?_)
  go_wp2_with fail
  refine (cbytes_any dn 2 W _ _ (by omega) (by omega) (by omega) hs7).mono ?_; rintro r w8 ⟨v1, R5, rfl, hr5, hs8⟩
  apply hK
  refine ⟨Held.mk hs8.right.right.right.right.right, ?_⟩
  clear hK
  obtain ⟨a5, k5, rfl⟩ := Ch.RowA.slice hr5
  refine can_actF rfl rfl rfl rfl (fun K hK => ?_)
  go_wp2_with fail
  refine can_actF rfl rfl rfl rfl (fun K hK => ?_)
  go_wp2_with fail
  have hs9 := hs8.newCells #[.slice a1 (bytesB k 1).length k1, .slice a2 (bytesB s 2).length k2, .slice a3 (bytesB g 6).length k3, .slice a4 (bytesB i 1).length k4, .slice a5 (bytesB dn 2).length k5, .slice da dn dc] 30
  refine (concat_any W _ _ _ [.slice a1 (bytesB k 1).length k1, .slice a2 (bytesB s 2).length k2, .slice a3 (bytesB g 6).length k3, .slice a4 (bytesB i 1).length k4, .slice a5 (bytesB dn 2).length k5, .slice da dn dc] [bytesB k 1, bytesB s 2, bytesB g 6, bytesB i 1, bytesB dn 2, d] hs9 (fun y hy => reads_cells hy m0 _ _ _ rfl) (fun y hy => ?_) ?_ (by simp)).mono ?_
  · have hy2 := hy.tail
    refine ⟨hr1.reads hy2.right.right.right.right, hr2.reads hy2.right.right.right, hr3.reads hy2.right.right, hr4.reads hy2.right, hr5.reads hy2, ?_, trivial⟩
    have h := HIN.out y (by have := hy2.right.right.right.right.right; rw [HL1.out] at this; exact this.tail)
    have e := HDN.out
    subst e
    exact h
  · have := HDN.out
    simp only [List.flatten_cons, List.flatten_nil, List.length_append, bytesB_length, List.length_nil]
    omega
  rintro r w9 ⟨v6, R6, rfl, hr6, hs10⟩
  generalize [bytesB k 1, bytesB s 2, bytesB g 6, bytesB i 1, bytesB dn 2, d].flatten = M at *
  clear hs9 hs8
  go_wp2_with fail
  repeat (first | (refine can_pu1 rfl rfl rfl rfl rfl rfl (fun K hK => ?_); go_big_quiet_op; refine hK _ ?_; clear hK K) | (refine can_st1 rfl rfl rfl rfl rfl rfl (fun K hK => ?_); go_big_quiet_op; refine hK _ ?_; clear hK K) | (refine can_early1 rfl rfl rfl rfl rfl (fun K hK => ?_); go_big_quiet_op; refine hK _ ?_; clear hK K) | (refine can_skip rfl rfl rfl ?_; simp only [Act.put, List.setIfInBounds_toArray, List.set_cons_zero, List.set_cons_succ]))
  refine can_end1 ?_; (try simp only [Exit.then])
  go_wp2_with fail
  go_ret2
  refine ⟨v6, rfl, ?_⟩
  have h := hs10.right.tail.right.right.right.right.right
  rw [HL1.out] at h
  exact h.tail
end Go.Proofs.YtekbbpfnkbanjaaGreatDoor.Ch

namespace Go.Proofs.YtekbbpfnkbanjaaGreatDoor.Ch
set_option linter.unusedSimpArgs false
open Go Go.RowKit Go.Sl Go.BigFrame
set_option linter.unusedVariables false

/-- A wire. -/
structure Wr where
  ns : List (Nat × Nd)
  down : List Bool
  fates : List Int
  fuse : Int
  dead : Bool
  sent : Int
def ptrOf (p : Nat × Nd) : Value := .pointer (some ⟨p.1, 0, none⟩)
def wrC (fv : Value) (x : Wr) : Array Value := (x.ns.map ptrOf ++ (x.down.map Value.bool ++ [fv, .int .i64 x.fuse, .bool x.dead, .int .i64 x.sent])).toArray
/-- The nodes' atoms. -/
def NodesA : List (Nat × Nd) → List Atom → Prop
  | [], A => A = []
  | p :: ps, A => ∃ A1 A2, NodA p.1 p.2 A1 ∧ NodesA ps A2 ∧ A = A1 ++ A2
theorem NodesA.at {n : Nd} {b : Nat} : ∀ {ps : List (Nat × Nd)} {A : List Atom} {k : Nat}, NodesA ps A → ps[k]? = some (b, n) →
    ∃ A1 A2, NodA b n A1 ∧ (∀ x, cnt x A = cnt x A1 + cnt x A2) ∧ ∀ n' A1', NodA b n' A1' → ∃ A', NodesA (ps.set k (b, n')) A' ∧ ∀ x, cnt x A' = cnt x A1' + cnt x A2
  | [], A, k, h, hk => by simp at hk
  | p :: ps, A, 0, ⟨A1, A2, h1, h2, h3⟩, hk => by
    simp at hk
    subst hk
    subst h3
    exact ⟨A1, A2, h1, fun x => cnt_append .., fun n' A1' h => ⟨A1' ++ A2, ⟨A1', A2, h, h2, rfl⟩, fun x => cnt_append ..⟩⟩
  | p :: ps, A, k + 1, ⟨A1, A2, h1, h2, h3⟩, hk => by
    subst h3
    obtain ⟨B1, B2, g1, g2, g3⟩ := NodesA.at (k := k) h2 (by simpa using hk)
    refine ⟨B1, A1 ++ B2, g1, fun x => by rw [cnt_append, g2, cnt_append]; omega, fun n' A1' h => ?_⟩
    obtain ⟨A', g4, g5⟩ := g3 n' A1' h
    exact ⟨A1 ++ A', ⟨A1, A', h1, g4, rfl⟩, fun x => by rw [cnt_append, g5, cnt_append]; omega⟩
def WrA (b : Nat) (x : Wr) (A : List Atom) : Prop :=
  ∃ fv Rf An, RowA 3 1 fv x.fates.length (intsC x.fates) Rf ∧ NodesA x.ns An ∧ x.ns.length = 8 ∧ x.down.length = 8 ∧ A = cellsA b (wrC fv x) 64 :: (Rf ++ An)

theorem list8 {α : Type} {l : List α} (h : l.length = 8) : ∃ a0 a1 a2 a3 a4 a5 a6 a7, l = [a0, a1, a2, a3, a4, a5, a6, a7] := by
  match l, h with
  | [a0, a1, a2, a3, a4, a5, a6, a7], _ => exact ⟨a0, a1, a2, a3, a4, a5, a6, a7, rfl⟩
theorem wrC_tail {fv : Value} {x : Wr} (h8 : x.ns.length = 8) (hd : x.down.length = 8) :
    (wrC fv x)[16]? = some fv ∧ (wrC fv x)[17]? = some (.int .i64 x.fuse) ∧ (wrC fv x)[18]? = some (.bool x.dead) ∧ (wrC fv x)[19]? = some (.int .i64 x.sent) := by
  obtain ⟨ns, down, fates, fuse, dead, sent⟩ := x
  obtain ⟨a0, a1, a2, a3, a4, a5, a6, a7, rfl⟩ := list8 h8
  obtain ⟨b0, b1, b2, b3, b4, b5, b6, b7, rfl⟩ := list8 hd
  exact ⟨rfl, rfl, rfl, rfl⟩
theorem wrC_set {fv : Value} {x : Wr} (h8 : x.ns.length = 8) (hd : x.down.length = 8) :
    (∀ v fs, (wrC fv x).setIfInBounds 16 v = wrC v { x with fates := fs }) ∧ (∀ f, (wrC fv x).setIfInBounds 17 (.int .i64 f) = wrC fv { x with fuse := f }) ∧ (∀ d, (wrC fv x).setIfInBounds 18 (.bool d) = wrC fv { x with dead := d }) ∧ (∀ s, (wrC fv x).setIfInBounds 19 (.int .i64 s) = wrC fv { x with sent := s }) := by
  obtain ⟨ns, down, fates, fuse, dead, sent⟩ := x
  obtain ⟨a0, a1, a2, a3, a4, a5, a6, a7, rfl⟩ := list8 h8
  obtain ⟨b0, b1, b2, b3, b4, b5, b6, b7, rfl⟩ := list8 hd
  exact ⟨fun _ _ => rfl, fun _ => rfl, fun _ => rfl, fun _ => rfl⟩
theorem wrC_node {fv : Value} {x : Wr} {k : Nat} {p : Nat × Nd} (hk : x.ns[k]? = some p) : (wrC fv x)[k]? = some (ptrOf p) := by
  have hl := (List.getElem?_eq_some_iff.1 hk).1
  simp only [wrC, List.getElem?_toArray]
  rw [List.getElem?_append_left (by simpa using hl), List.getElem?_map, hk]
  rfl
theorem wrC_down {fv : Value} {x : Wr} (h8 : x.ns.length = 8) {k : Nat} {d : Bool} (hk : x.down[k]? = some d) : (wrC fv x)[8 + k]? = some (.bool d) := by
  have hl := (List.getElem?_eq_some_iff.1 hk).1
  simp only [wrC, List.getElem?_toArray]
  rw [List.getElem?_append_right (by simp [h8]), List.length_map, h8, Nat.add_sub_cancel_left, List.getElem?_append_left (by simpa using hl), List.getElem?_map, hk]
  rfl
theorem wrC_setd {fv : Value} {x : Wr} (h8 : x.ns.length = 8) {k : Nat} (d : Bool) (hk : k < x.down.length) : (wrC fv x).setIfInBounds (8 + k) (.bool d) = wrC fv { x with down := x.down.set k d } := by
  simp only [wrC, List.setIfInBounds_toArray]
  rw [List.set_append_right _ _ (by simp [h8]), List.length_map, h8, Nat.add_sub_cancel_left, List.set_append_left _ _ (by simpa using hk), List.map_set]

theorem wis_any (n : Int) (w : World) :
    Calls Tryz.prog 32 #[.int .i64 n] w fun e w' => e = .returned (.bool (decide (0 ≤ n ∧ n < 8))) ∧ w = w' := by
  by_cases h : 0 ≤ n
  · by_cases h2 : n < 8
    · rw [decide_eq_true (⟨h, h2⟩ : 0 ≤ n ∧ n < 8)]
      go_enter Tryz.func32, Tryz.ntmps32
      go_wp2_with fail
      go_ret
      exact ⟨rfl, rfl⟩
    · rw [decide_eq_false (fun x : 0 ≤ n ∧ n < 8 => h2 x.2)]
      go_enter Tryz.func32, Tryz.ntmps32
      go_wp2_with fail
      go_ret
      exact ⟨rfl, rfl⟩
  · rw [decide_eq_false (fun x : 0 ≤ n ∧ n < 8 => h x.1)]
    go_enter Tryz.func32, Tryz.ntmps32
    go_wp2_with fail
    go_ret
    exact ⟨rfl, rfl⟩

section
variable {b : Nat} {x : Wr} {A L : List Atom} {W w : World}
theorem WrA.shape (h : WrA b x A) : x.ns.length = 8 ∧ x.down.length = 8 := by
  obtain ⟨_, _, _, _, _, h8, hd, _⟩ := h
  exact ⟨h8, hd⟩
theorem wsent_any (hx : WrA b x A) (hs : Sat W w (A ++ L)) :
    Calls Tryz.prog 11 #[.pointer (some ⟨b, 0, none⟩)] w fun e w' => e = .returned (.int .i64 x.sent) ∧ w = w' := by
  obtain ⟨fv, Rf, An, hf, hn, h8, hd, rfl⟩ := hx
  have c19 : w.cell? ⟨b, 19, none⟩ = some (.int .i64 x.sent) := (hs.cell m0 19).trans (wrC_tail h8 hd).2.2.2
  clear hs
  go_enter Tryz.func11, Tryz.ntmps11
  go_wp2_with fail
  go_ret
  exact ⟨rfl, rfl⟩
theorem wleft_any (hx : WrA b x A) (hs : Sat W w (A ++ L)) :
    Calls Tryz.prog 24 #[.pointer (some ⟨b, 0, none⟩)] w fun e w' => e = .returned (.int .i64 x.fates.length) ∧ w = w' := by
  obtain ⟨fv, Rf, An, hf, hn, h8, hd, rfl⟩ := hx
  obtain ⟨fa, fc, rfl⟩ := Ch.RowA.slice hf
  have c16 : w.cell? ⟨b, 16, none⟩ = some (.slice fa x.fates.length fc) := (hs.cell m0 16).trans (wrC_tail h8 hd).1
  clear hs
  go_enter Tryz.func24, Tryz.ntmps24
  go_wp2_with fail
  go_ret
  exact ⟨rfl, rfl⟩
theorem wnode_in {k n : Nat} {nd : Nd} (hx : WrA b x A) (hs : Sat W w (A ++ L)) (hk : x.ns[k]? = some (n, nd)) :
    Calls Tryz.prog 14 #[.pointer (some ⟨b, 0, none⟩), .int .i64 k] w fun e w' => e = .returned (.pointer (some ⟨n, 0, none⟩)) ∧ w = w' := by
  obtain ⟨fv, Rf, An, hf, hn, h8, hd, rfl⟩ := hx
  have ck : w.cell? ⟨b, k, none⟩ = some (.pointer (some ⟨n, 0, none⟩)) := (hs.cell m0 k).trans (wrC_node hk)
  have hk8 : k < 8 := by have := (List.getElem?_eq_some_iff.1 hk).1; omega
  have k0 : (0 : Int) ≤ k := by omega
  have k1 : (k : Int) < 8 := by omega
  clear hs hk
  go_enter Tryz.func14, Tryz.ntmps14
  go_wp2_with fail
  refine (wis_any k _).mono ?_; rintro r wq ⟨rfl, rfl⟩
  rw [decide_eq_true ⟨k0, k1⟩]
  go_wp2_with fail
  go_ret
  exact ⟨rfl, rfl⟩
theorem wnode_out {n : Int} {bv : Value} (hn : ¬ (0 ≤ n ∧ n < 8)) :
    Calls Tryz.prog 14 #[bv, .int .i64 n] w fun e w' => e = .returned (.pointer none) ∧ w = w' := by
  have HN := Lib.hid hn
  clear hn
  go_enter Tryz.func14, Tryz.ntmps14
  go_wp2_with fail
  refine (wis_any n _).mono ?_; rintro r wq ⟨rfl, rfl⟩
  rw [decide_eq_false HN.out]
  go_wp2_with fail
  go_ret
  exact ⟨rfl, rfl⟩
theorem wisdown_in {k : Nat} {d : Bool} (hx : WrA b x A) (hs : Sat W w (A ++ L)) (hk : x.down[k]? = some d) :
    Calls Tryz.prog 21 #[.pointer (some ⟨b, 0, none⟩), .int .i64 k] w fun e w' => e = .returned (.bool d) ∧ w = w' := by
  obtain ⟨fv, Rf, An, hf, hn, h8, hd, rfl⟩ := hx
  have ck : w.cell? ⟨b, 8 + k, none⟩ = some (.bool d) := (hs.cell m0 (8 + k)).trans (wrC_down h8 hk)
  have hk8 : k < 8 := by have := (List.getElem?_eq_some_iff.1 hk).1; omega
  have k0 : (0 : Int) ≤ k := by omega
  have k1 : (k : Int) < 8 := by omega
  clear hs hk
  go_enter Tryz.func21, Tryz.ntmps21
  go_wp2_with fail
  refine (wis_any k _).mono ?_; rintro r wq ⟨rfl, rfl⟩
  rw [decide_eq_true ⟨k0, k1⟩]
  go_wp2_with fail
  go_ret
  exact ⟨rfl, rfl⟩
theorem wisdown_out {n : Int} {bv : Value} (hn : ¬ (0 ≤ n ∧ n < 8)) :
    Calls Tryz.prog 21 #[bv, .int .i64 n] w fun e w' => e = .returned (.bool false) ∧ w = w' := by
  have HN := Lib.hid hn
  clear hn
  go_enter Tryz.func21, Tryz.ntmps21
  go_wp2_with fail
  refine (wis_any n _).mono ?_; rintro r wq ⟨rfl, rfl⟩
  rw [decide_eq_false HN.out]
  go_wp2_with fail
  go_ret
  exact ⟨rfl, rfl⟩
theorem wdown_in {k : Nat} (d : Bool) (hx : WrA b x A) (hs : Sat W w (A ++ L)) (hk : k < 8) :
    Calls Tryz.prog 19 #[.pointer (some ⟨b, 0, none⟩), .int .i64 k, .bool d] w fun e w' => ∃ A', e = .returned (.bool true) ∧ WrA b { x with down := x.down.set k d } A' ∧ Sat W w' (A' ++ L) := by
  obtain ⟨fv, Rf, An, hf, hn, h8, hd, rfl⟩ := hx
  obtain ⟨d0, hd0⟩ : ∃ d0, x.down[k]? = some d0 := ⟨_, List.getElem?_eq_getElem (by omega)⟩
  have ck : w.cell? ⟨b, 8 + k, none⟩ = some (.bool d0) := (hs.cell m0 (8 + k)).trans (wrC_down h8 hd0)
  have fk := hs.free m0 (8 + k)
  have k0 : (0 : Int) ≤ k := by omega
  have k1 : (k : Int) < 8 := by omega
  have hz := Sat.setCell hs (8 + k) (.bool d)
  rw [wrC_setd h8 d (by omega)] at hz
  have HZ := Lib.hid hz
  clear hs hd0 hz
  go_enter Tryz.func19, Tryz.ntmps19
  go_wp2_with fail
  refine (wis_any k _).mono ?_; rintro r wq ⟨rfl, rfl⟩
  rw [decide_eq_true ⟨k0, k1⟩]
  go_wp2_with fail
  go_ret
  first
    | exact ⟨_, rfl, ⟨fv, Rf, An, hf, hn, h8, by rw [List.length_set]; exact hd, rfl⟩, HZ.out⟩
    | exact ⟨rfl, _, ⟨fv, Rf, An, hf, hn, h8, by rw [List.length_set]; exact hd, rfl⟩, HZ.out⟩
theorem wdown_out {n : Int} {bv dv : Value} (hn : ¬ (0 ≤ n ∧ n < 8)) :
    Calls Tryz.prog 19 #[bv, .int .i64 n, dv] w fun e w' => e = .returned (.bool false) ∧ w = w' := by
  have HN := Lib.hid hn
  clear hn
  go_enter Tryz.func19, Tryz.ntmps19
  go_wp2_with fail
  refine (wis_any n _).mono ?_; rintro r wq ⟨rfl, rfl⟩
  rw [decide_eq_false HN.out]
  go_wp2_with fail
  go_ret
  exact ⟨rfl, rfl⟩
theorem wdead_any (hx : WrA b x A) (hs : Sat W w (A ++ L)) :
    Calls Tryz.prog 28 #[.pointer (some ⟨b, 0, none⟩)] w fun e w' => e = .returned (.bool x.dead) ∧ w = w' := by
  obtain ⟨fv, Rf, An, hf, hn, h8, hd, rfl⟩ := hx
  have c18 : w.cell? ⟨b, 18, none⟩ = some (.bool x.dead) := (hs.cell m0 18).trans (wrC_tail h8 hd).2.2.1
  clear hs
  go_enter Tryz.func28, Tryz.ntmps28
  go_wp2_with fail
  go_ret
  exact ⟨rfl, rfl⟩
theorem wfuse_any (n : Int) (hx : WrA b x A) (hs : Sat W w (A ++ L)) (h0 : -1 ≤ n) :
    Calls Tryz.prog 27 #[.pointer (some ⟨b, 0, none⟩), .int .i64 n] w fun e w' => ∃ A', e = .returned (.tuple #[]) ∧ WrA b { x with fuse := n } A' ∧ Sat W w' (A' ++ L) := by
  obtain ⟨fv, Rf, An, hf, hn, h8, hd, rfl⟩ := hx
  have c17 : w.cell? ⟨b, 17, none⟩ = some (.int .i64 x.fuse) := (hs.cell m0 17).trans (wrC_tail h8 hd).2.1
  have f17 := hs.free m0 17
  have hmx : max (-1 : Int) n = n := by omega
  have hz := Sat.setCell hs 17 (.int .i64 n)
  rw [(wrC_set h8 hd).2.1] at hz
  have HZ := Lib.hid hz
  clear hs hz
  go_enter Tryz.func27, Tryz.ntmps27
  go_wp2_with fail
  go_end0
  first
    | exact ⟨_, rfl, ⟨fv, Rf, An, hf, hn, h8, hd, rfl⟩, HZ.out⟩
    | exact ⟨rfl, _, ⟨fv, Rf, An, hf, hn, h8, hd, rfl⟩, HZ.out⟩
theorem wrevive_any (hx : WrA b x A) (hs : Sat W w (A ++ L)) :
    Calls Tryz.prog 29 #[.pointer (some ⟨b, 0, none⟩)] w fun e w' => ∃ A', e = .returned (.tuple #[]) ∧ WrA b { x with dead := false, fuse := -1 } A' ∧ Sat W w' (A' ++ L) := by
  obtain ⟨fv, Rf, An, hf, hn, h8, hd, rfl⟩ := hx
  have c18 : w.cell? ⟨b, 18, none⟩ = some (.bool x.dead) := (hs.cell m0 18).trans (wrC_tail h8 hd).2.2.1
  have f18 := hs.free m0 18
  have hz1 := Sat.setCell hs 18 (.bool false)
  rw [(wrC_set h8 hd).2.2.1] at hz1
  have c17 : (w.setCell ⟨b, 18, none⟩ (.bool false)).cell? ⟨b, 17, none⟩ = some (.int .i64 x.fuse) := (hz1.cell m0 17).trans (wrC_tail (x := { x with dead := false }) h8 hd).2.1
  have f17 := hz1.free m0 17
  have hz := Sat.setCell hz1 17 (.int .i64 (-1))
  rw [(wrC_set (x := { x with dead := false }) h8 hd).2.1] at hz
  have HZ := Lib.hid hz
  clear hs hz hz1
  go_enter Tryz.func29, Tryz.ntmps29
  go_wp2_with fail
  go_end0
  first
    | exact ⟨_, rfl, ⟨fv, Rf, An, hf, hn, h8, hd, rfl⟩, HZ.out⟩
    | exact ⟨rfl, _, ⟨fv, Rf, An, hf, hn, h8, hd, rfl⟩, HZ.out⟩

/-- What burning the fuse turns. -/
def Wr.burnt (x : Wr) : Wr := { x with fuse := max (-1) (x.fuse - 1), dead := x.dead || decide (x.fuse = 0) }
theorem wburn_any (hx : WrA b x A) (hs : Sat W w (A ++ L)) (h0 : -1 ≤ x.fuse) (h1 : x.fuse < 1000000000) :
    Calls Tryz.prog 34 #[.pointer (some ⟨b, 0, none⟩)] w fun e w' => ∃ A', e = .returned (.bool (!x.burnt.dead)) ∧ WrA b x.burnt A' ∧ Sat W w' (A' ++ L) := by
  obtain ⟨fv, Rf, An, hf, hn, h8, hd, rfl⟩ := hx
  obtain ⟨ns, down, fates, fuse, dead, sent⟩ := x
  simp only at hf hn h8 hd h0 h1
  have c17 : w.cell? ⟨b, 17, none⟩ = some (.int .i64 fuse) := (hs.cell m0 17).trans (wrC_tail h8 hd).2.1
  have f17 := hs.free m0 17
  by_cases hz : fuse = 0
  · have hb : Wr.burnt ⟨ns, down, fates, fuse, dead, sent⟩ = ⟨ns, down, fates, -1, true, sent⟩ := by
      unfold Wr.burnt
      simp [hz]
    rw [hb]
    subst hz
    have c18 : w.cell? ⟨b, 18, none⟩ = some (.bool dead) := (hs.cell m0 18).trans (wrC_tail h8 hd).2.2.1
    have f18 := hs.free m0 18
    have hz1 := Sat.setCell hs 18 (.bool true)
    rw [(wrC_set h8 hd).2.2.1] at hz1
    have f17' := hz1.free m0 17
    have hz2 := Sat.setCell hz1 17 (.int .i64 (-1))
    rw [(wrC_set (x := ⟨ns, down, fates, 0, true, sent⟩) h8 hd).2.1] at hz2
    have c18' : ((w.setCell ⟨b, 18, none⟩ (.bool true)).setCell ⟨b, 17, none⟩ (.int .i64 (-1))).cell? ⟨b, 18, none⟩ = some (.bool true) := (hz2.cell m0 18).trans (wrC_tail (x := ⟨ns, down, fates, -1, true, sent⟩) h8 hd).2.2.1
    have HZ := Lib.hid hz2
    clear hs hz1 hz2 hb h0 h1
    go_enter Tryz.func34, Tryz.ntmps34
    go_wp2_with fail
    go_ret
    first
      | exact ⟨_, rfl, ⟨fv, Rf, An, hf, hn, h8, hd, rfl⟩, HZ.out⟩
      | exact ⟨rfl, _, ⟨fv, Rf, An, hf, hn, h8, hd, rfl⟩, HZ.out⟩
  · obtain ⟨f', hf'⟩ : ∃ f', f' = max (-1) (fuse - 1) := ⟨_, rfl⟩
    have hb : Wr.burnt ⟨ns, down, fates, fuse, dead, sent⟩ = ⟨ns, down, fates, f', dead, sent⟩ := by
      unfold Wr.burnt
      rw [← hf', decide_eq_false hz, Bool.or_false]
    rw [hb]
    have c18 : w.cell? ⟨b, 18, none⟩ = some (.bool dead) := (hs.cell m0 18).trans (wrC_tail h8 hd).2.2.1
    have hz2 := Sat.setCell hs 17 (.int .i64 f')
    rw [(wrC_set h8 hd).2.1] at hz2
    have hq : (fuse == 0) = false := by simpa using hz
    by_cases hm : fuse = -1
    · have hmn : min (1 : Int) 2 = 1 := by decide
      have e1 : f' = -1 := by omega
      subst e1
      subst hm
      have HZ := Lib.hid hz2
      clear hs hz2 hb hz h0 h1 hf'
      go_enter Tryz.func34, Tryz.ntmps34
      go_wp2_with fail
      go_ret
      first
        | exact ⟨_, rfl, ⟨fv, Rf, An, hf, hn, h8, hd, rfl⟩, HZ.out⟩
        | exact ⟨rfl, _, ⟨fv, Rf, An, hf, hn, h8, hd, rfl⟩, HZ.out⟩
    · have e1 : f' = fuse - 1 := by omega
      subst e1
      have q1 : max (-1 : Int) (fuse - 1) = fuse - 1 := by omega
      have HZ := Lib.hid hz2
      clear hs hz2 hb hz hf' hm
      go_enter Tryz.func34, Tryz.ntmps34
      go_wp2_with fail
      go_ret
      first
        | exact ⟨_, rfl, ⟨fv, Rf, An, hf, hn, h8, hd, rfl⟩, HZ.out⟩
        | exact ⟨rfl, _, ⟨fv, Rf, An, hf, hn, h8, hd, rfl⟩, HZ.out⟩
end
end Go.Proofs.YtekbbpfnkbanjaaGreatDoor.Ch

namespace Go.Proofs.YtekbbpfnkbanjaaGreatDoor.Ch
set_option linter.unusedSimpArgs false
open Go Go.RowKit Go.Sl Go.BigFrame
set_option linter.unusedVariables false

theorem infoInt : (Tryz.prog.info? 3).map (fun i => (i.zero, i.size, i.bytes)) = some (some (.int .i64 0), 1, 8) := by kernel_rfl
set_option maxRecDepth 100000 in
theorem clone_ints (v : Value) (xs : List Value) (W w : World) (L : List Atom) (hr : Reads w v xs.length xs) (h1 : ∀ u ∈ xs, u.oneCell' = true) (hl : xs.length < 1000000) (hs : Sat W w L) :
    Calls Tryz.prog 56 #[v] w fun e w' => ∃ v' R, e = .returned v' ∧ RowA 3 1 v' xs.length xs R ∧ Sat W w' (R ++ L) := by
  have q32 : ∀ (w : World) (a : Option Addr) (n c n' c' : Nat), (binOp .eql 22 (.slice a n c) (.slice none n' c')).run Tryz.prog w = .ok (.bool a.isNone) w := fun w a n c n' c' => Go.Lib.run_eql_slice_nil w _ _ a n c n' c' Tryz.underlying22
  rcases hr with ⟨rfl, h2, h3⟩ | ⟨a, c, rfl, hc⟩
  · have : xs = [] := List.length_eq_zero_iff.1 h2
    subst this
    go_enter Tryz.func56, Tryz.ntmps56
    go_wp2_with fail
    go_ret
    first
      | exact ⟨_, _, rfl, RowA.nil _ _, hs⟩
      | exact ⟨_, rfl, _, RowA.nil _ _, hs⟩
  · have hr : Reads w (.slice (some a) xs.length c) xs.length xs := .inr ⟨_, _, rfl, hc⟩
    have hr0 := hr.grown ((Below.refl _ w).alloc (Nat.le_refl _) (.cells #[] 3))
    clear hc hr
    go_enter Tryz.func56, Tryz.ntmps56
    go_wp2_with (at_builtin; refine wpList_plain rfl (fun K hK => ?_); refine wp_append_g Tryz.underlying22 infoInt rfl (by decide) (by decide) rfl rfl rfl (none_rowT _ 1 _) (none_satT hs _ 1) hr0 (by simp) h1 (by omega) (fun v2 w3 R2 hr2 hs3 => ?_); refine hK _ _ ?_; simp only [Act.put, List.setIfInBounds_toArray, List.set_cons_zero, List.set_cons_succ]; clear hK)
    go_ret
    refine ⟨v2, R2, rfl, ?_, hs3⟩
    simpa using hr2

/-- The fate that is next, and the others. -/
def Wr.fate (x : Wr) : Int := x.fates.headD 0
def Wr.fated (x : Wr) : Wr := { x with fates := x.fates.tail }
section
variable {b : Nat} {x : Wr} {A L : List Atom} {W w : World}
set_option maxRecDepth 100000 in
set_option maxHeartbeats 2000000 in
theorem wfate_any (hx : WrA b x A) (hs : Sat W w (A ++ L)) (hl : x.fates.length ≤ 1000) :
    Calls Tryz.prog 45 #[.pointer (some ⟨b, 0, none⟩)] w fun e w' => ∃ A', e = .returned (.int .i64 x.fate) ∧ WrA b x.fated A' ∧ Sat W w' (A' ++ L) := by
  obtain ⟨fv, Rf, An, hf, hn, h8, hd, rfl⟩ := hx
  obtain ⟨ns, down, fates, fuse, dead, sent⟩ := x
  simp only at hf hn h8 hd hl
  cases fates with
  | nil =>
    obtain ⟨fa, fc, rfl⟩ := Ch.RowA.slice hf
    have c16 : w.cell? ⟨b, 16, none⟩ = some (.slice fa 0 fc) := (hs.cell m0 16).trans (wrC_tail h8 hd).1
    have HS := Lib.hid hs
    clear hs
    go_enter Tryz.func45, Tryz.ntmps45
    go_wp2_with fail
    go_ret
    first
      | exact ⟨_, rfl, ⟨_, Rf, An, hf, hn, h8, hd, rfl⟩, HS.out⟩
      | exact ⟨rfl, _, ⟨_, Rf, An, hf, hn, h8, hd, rfl⟩, HS.out⟩
  | cons f fs =>
    have hf0 := hf
    obtain ⟨g, off, cap, rfl, hcap, _, rfl⟩ := Ch.RowA.some_of hf (by simp)
    obtain ⟨n, hn1⟩ : ∃ n, n = (f :: fs).length := ⟨_, rfl⟩
    have c16 : w.cell? ⟨b, 16, none⟩ = some (.slice (some ⟨g, off, none⟩) (f :: fs).length cap) := (hs.cell m0 16).trans (wrC_tail h8 hd).1
    have hsr := Sat.use (M := [(g, rowP 3 off (cap * 1) (intsC (f :: fs)))] ++ (cellsA b (wrC (.slice (some ⟨g, off, none⟩) (f :: fs).length cap) ⟨ns, down, f :: fs, fuse, dead, sent⟩) 64 :: (An ++ L))) hs (by intro x; simp only [cnt_append, cnt_cons, cnt_nil]; omega)
    have hcell := fun (k : Nat) (z : Int) (hz : (f :: fs)[k]? = some z) => ((hf.cells hsr rfl k (by rw [intsC_length]; exact (List.getElem?_eq_some_iff.1 hz).1)).1.trans (intsC_get hz))
    have c0 : w.cell? ⟨g, off, none⟩ = some (.int .i64 f) := hcell 0 f rfl
    have hrd : ∀ c', Reads w (.slice (some ⟨g, off + 1, none⟩) (intsC fs).length c') (intsC fs).length (intsC fs) := fun c' => by
      refine .inr ⟨_, _, rfl, fun j u hu => ?_⟩
      rw [intsC, List.getElem?_map] at hu
      obtain ⟨z, hz, rfl⟩ := Option.map_eq_some_iff.1 hu
      have := hcell (j + 1) z (by simpa using hz)
      rw [add_row]
      rw [show off + 1 + j = off + (j + 1) by omega]
      exact this
    have hfl : fs.length < 1000000 := by simp at hl; omega
    have hlen : (f :: fs).length = fs.length + 1 := rfl
    rw [hlen] at c16 hcap hsr
    obtain ⟨m, hm⟩ : ∃ m, m = fs.length := ⟨_, rfl⟩
    rw [intsC_length, ← hm] at hrd
    have HRD := Lib.hid (show ∀ c', Reads w (.slice (some ⟨g, off + 1, none⟩) m c') (intsC fs).length (intsC fs) from fun c' => by rw [intsC_length, ← hm]; exact hrd c')
    have HM := Lib.hid hm
    rw [← hm] at c16 hcap hsr
    have q0 : (0 : Int) ≤ m := by omega
    have q1 : (m : Int) + 1 ≤ cap := by omega
    have HS := Lib.hid hsr
    clear hs hsr hcell hrd hm hlen hn1 hf hf0 hcap
    have HE := Lib.hid (show ∀ a c', m = 0 → Reads w (.slice (some a) m c') (intsC fs).length (intsC fs) from fun a c' h => by
      have e := HM.out
      subst h
      rw [intsC_length, ← e]
      exact .inr ⟨_, _, rfl, fun j u hu => by
        rw [List.length_eq_zero_iff.1 e.symm] at hu
        simp [intsC] at hu⟩)
    by_cases hc : cap = 1
    · subst hc
      have hm0 : m = 0 := by omega
      subst hm0
      go_enter Tryz.func45, Tryz.ntmps45
      go_wp2_with fail
      refine (clone_ints _ (intsC fs) W _ _ (HE.out _ _ trivial) (intsC_one fs) (by rw [intsC_length]; exact hfl) HS.out).mono ?_; rintro r w2 ⟨v2, R2, rfl, hr2, hs2⟩
      rw [intsC_length] at hr2
      obtain ⟨a2, k2, rfl⟩ := Ch.RowA.slice hr2
      have hs3 := Sat.use (M := cellsA b (wrC (.slice (some ⟨g, off, none⟩) (0 + 1) 1) ⟨ns, down, f :: fs, fuse, dead, sent⟩) 64 :: (R2 ++ (An ++ L))) hs2 (by intro x; simp only [cnt_append, cnt_cons, cnt_nil]; omega)
      clear hs2 c16 c0
      have e16 : w2.cell? ⟨b, 16, none⟩ = some (.slice (some ⟨g, off, none⟩) (0 + 1) 1) := (hs3.cell m0 16).trans (wrC_tail h8 hd).1
      have f16 := hs3.free m0 16
      have hz := Sat.setCell hs3 16 (.slice a2 fs.length k2)
      rw [(wrC_set h8 hd).1 _ fs] at hz
      have hz : Sat W _ (cellsA b (wrC (.slice a2 fs.length k2) (Wr.fated ⟨ns, down, f :: fs, fuse, dead, sent⟩)) 64 :: (R2 ++ (An ++ L))) := hz
      have HZ := Lib.hid hz
      clear hs3 hz
      go_wp2_with fail
      go_ret
      first
        | exact ⟨_, rfl, ⟨_, R2, An, hr2, hn, h8, hd, rfl⟩, HZ.out.use (by intro x; simp only [cnt_append, cnt_cons, cnt_nil]; omega)⟩
    · have q2 : (1 : Int) < cap := by omega
      go_enter Tryz.func45, Tryz.ntmps45
      go_wp2_with fail
      refine (clone_ints _ (intsC fs) W _ _ (HRD.out _) (intsC_one fs) (by rw [intsC_length]; exact hfl) HS.out).mono ?_; rintro r w2 ⟨v2, R2, rfl, hr2, hs2⟩
      rw [intsC_length] at hr2
      obtain ⟨a2, k2, rfl⟩ := Ch.RowA.slice hr2
      have hs3 := Sat.use (M := cellsA b (wrC (.slice (some ⟨g, off, none⟩) (m + 1) cap) ⟨ns, down, f :: fs, fuse, dead, sent⟩) 64 :: (R2 ++ (An ++ L))) hs2 (by intro x; simp only [cnt_append, cnt_cons, cnt_nil]; omega)
      clear hs2 c16 c0
      have e16 : w2.cell? ⟨b, 16, none⟩ = some (.slice (some ⟨g, off, none⟩) (m + 1) cap) := (hs3.cell m0 16).trans (wrC_tail h8 hd).1
      have f16 := hs3.free m0 16
      have hz := Sat.setCell hs3 16 (.slice a2 fs.length k2)
      rw [(wrC_set h8 hd).1 _ fs] at hz
      have hz : Sat W _ (cellsA b (wrC (.slice a2 fs.length k2) (Wr.fated ⟨ns, down, f :: fs, fuse, dead, sent⟩)) 64 :: (R2 ++ (An ++ L))) := hz
      have HZ := Lib.hid hz
      clear hs3 hz
      go_wp2_with fail
      go_ret
      first
        | exact ⟨_, rfl, ⟨_, R2, An, hr2, hn, h8, hd, rfl⟩, HZ.out.use (by intro x; simp only [cnt_append, cnt_cons, cnt_nil]; omega)⟩

/-- What keeps a wire in bounds. -/
structure WrFit (x : Wr) (m : Nat) : Prop where
  nodes : ∀ p ∈ x.ns, NdFit p.2 m
  fates : x.fates.length ≤ 1000
  f0 : -1 ≤ x.fuse
  f1 : x.fuse < 1000000000
  s0 : 0 ≤ x.sent
  s1 : x.sent ≤ m
def Wr.put (x : Wr) (k b : Nat) (n : Nd) : Wr := { x with ns := x.ns.set k (b, n) }
/-- Sent once more; its fate is taken. -/
def Wr.tick (x : Wr) : Wr := { x with sent := x.sent + 1, fates := x.fates.tail }
/-- A try: what is answered, if a reply comes. -/
def SendR (k : Nat) (q : Rq) (x x' : Wr) : Option (Int × Rp) → Prop
  | none => (x.fate = 1 ∧ x' = x.tick) ∨ (x.fate = 2 ∧ ∃ b n n' p, x.ns[k]? = some (b, n) ∧ DoR q n n' p ∧ x' = x.tick.put k b n')
  | some c => x.fate ≠ 1 ∧ x.fate ≠ 2 ∧ ∃ b n n1 n', x.ns[k]? = some (b, n) ∧ n1 = (if x.fate = 3 then n.crash [] else n) ∧ c.1 = n1.boot ∧ DoR q n1 n' c.2 ∧ x' = x.tick.put k b n'
theorem put_fit {x : Wr} {m k b : Nat} {n : Nd} (h : WrFit x m) {m' : Nat} (hm : m ≤ m') (hn : NdFit n m') : WrFit (x.put k b n) m' :=
  ⟨fun p hp => by
    rcases List.mem_or_eq_of_mem_set hp with h1 | h1
    · exact (h.nodes p h1).mono hm
    · rw [h1]; exact hn, h.fates, h.f0, h.f1, h.s0, by have := h.s1; show x.sent ≤ m'; omega⟩
theorem WrFit.mono {x : Wr} {i j : Nat} (h : WrFit x i) (hij : i ≤ j) : WrFit x j := ⟨fun p hp => (h.nodes p hp).mono hij, h.fates, h.f0, h.f1, h.s0, by have := h.s1; omega⟩
theorem WrFit.tick {x : Wr} {m : Nat} (h : WrFit x m) : WrFit x.tick (m + 1) :=
  ⟨fun p hp => (h.nodes p hp).mono (by omega), by have := h.fates; show x.fates.tail.length ≤ 1000; rw [List.length_tail]; omega, h.f0, h.f1, by have := h.s0; show 0 ≤ x.sent + 1; omega, by have := h.s1; show x.sent + 1 ≤ _; omega⟩
theorem SendR.fit {k : Nat} {q : Rq} {x x' : Wr} {m : Nat} : ∀ {c}, SendR k q x x' c → WrFit x m → WrFit x' (m + 2)
  | none, h, hf => by
    rcases h with ⟨_, rfl⟩ | ⟨_, b, n, n', p, hk, hd, rfl⟩
    · exact hf.tick.mono (by omega)
    · exact put_fit hf.tick (by omega) ((hd.fit (hf.nodes _ (List.mem_of_getElem? hk))).mono (by omega))
  | some c, h, hf => by
    obtain ⟨_, _, b, n, n1, n', hk, hn1, _, hd, rfl⟩ := h
    have hn : NdFit n1 (m + 1) := by
      rw [hn1]
      split
      · exact (hf.nodes _ (List.mem_of_getElem? hk)).crash []
      · exact (hf.nodes _ (List.mem_of_getElem? hk)).mono (by omega)
    exact put_fit hf.tick (by omega) (hd.fit hn)
theorem WrA.node {x : Wr} {An : List Atom} {k n : Nat} {nd : Nd} (hn : NodesA x.ns An) (hk : x.ns[k]? = some (n, nd)) :
    ∃ A1 A2, NodA n nd A1 ∧ (∀ y, cnt y An = cnt y A1 + cnt y A2) ∧ ∀ nd' A1', NodA n nd' A1' → ∃ An', NodesA (x.put k n nd').ns An' ∧ ∀ y, cnt y An' = cnt y A1' + cnt y A2 := hn.at hk
theorem wrC_put {fv : Value} {x : Wr} {k n : Nat} {nd : Nd} (nd' : Nd) (hk : x.ns[k]? = some (n, nd)) : wrC fv (x.put k n nd') = wrC fv x := by
  unfold wrC Wr.put
  simp only
  rw [List.map_set]
  obtain ⟨hl, he⟩ := List.getElem?_eq_some_iff.1 hk
  have e : ptrOf (n, nd') = (x.ns.map ptrOf)[k]'(by simpa using hl) := by
    rw [List.getElem_map, he]
    rfl
  rw [e, List.set_getElem_self]
end
end Go.Proofs.YtekbbpfnkbanjaaGreatDoor.Ch

namespace Go.Proofs.YtekbbpfnkbanjaaGreatDoor.Ch
set_option linter.unusedSimpArgs false
open Go Go.RowKit Go.Sl Go.BigFrame
set_option linter.unusedVariables false

/-- The value of a reply, if there is one. -/
def RepO : Option (Int × Rp) → Value → List Atom → Prop
  | none, v, R => v = repV 0 0 (.slice none 0 0) (.slice none 0 0) ∧ R = []
  | some c, v, R => ∃ pv iv, v = repV c.2.code c.1 pv iv ∧ RepA pv iv c.2 R

set_option maxRecDepth 100000 in
set_option maxHeartbeats 8000000 in
theorem wsend_any (m b k n : Nat) (nd : Nd) (x : Wr) (A : List Atom) (q : Rq) (da : Option Addr) (dc : Nat) (W w : World) (L : List Atom) (hx : WrA b x A) (hs : Sat W w (A ++ L)) (hk : x.ns[k]? = some (n, nd)) (hin : ∀ y, Sat W y L → Reads y (.slice da q.data.length dc) q.data.length (bts q.data)) (hf : WrFit x m) (hm : m < 800000) :
    Calls Tryz.prog 35 #[.pointer (some ⟨b, 0, none⟩), .int .i64 k, rqV q (.slice da q.data.length dc)] w fun e w' => ∃ x' c v A' R, e = .returned (.tuple #[v, .bool c.isSome]) ∧ SendR k q x x' c ∧ RepO c v R ∧ WrA b x' A' ∧ Sat W w' (A' ++ (R ++ L)) := by
  obtain ⟨fv, Rf, An, hfr, hna, h8, hd, rfl⟩ := hx
  obtain ⟨qk, qs, qg, qi, qd⟩ := q
  have hkl := (List.getElem?_eq_some_iff.1 hk).1
  have hk8 : k < 8 := by omega
  have k0 : (0 : Int) ≤ k := by omega
  have k1 : (k : Int) < 8 := by omega
  unfold rqV
  simp only at hin ⊢
  obtain ⟨dn, hdn⟩ : ∃ dn, dn = qd.length := ⟨_, rfl⟩
  have HIN := Lib.hid hin
  have HDN := Lib.hid hdn
  have HF := Lib.hid hf
  have hs0 := hf.s0
  have hs1' := hf.s1
  rw [← hdn]
  clear hin hf
  have hs : Sat W w (cellsA b (wrC fv x) 64 :: (Rf ++ (An ++ L))) := hs.use (by intro x; simp only [cnt_append, cnt_cons, cnt_nil]; omega)
  have c19 : w.cell? ⟨b, 19, none⟩ = some (.int .i64 x.sent) := (hs.cell m0 19).trans (wrC_tail h8 hd).2.2.2
  have f19 : w.frozen? ⟨b, 19, none⟩ = false := hs.free m0 19
  have hsb := Sat.setCell hs 19 (.int .i64 (x.sent + 1))
  rw [(wrC_set h8 hd).2.2.2] at hsb
  have hsq := hsb.newCells #[.int .i64 qk, .int .i64 qs, .int .i64 qg, .int .i64 qi, .slice da dn dc] 44
  have hsr := hsq.newCells #[.int .i64 0, .int .i64 0, .slice none 0 0, .slice none 0 0] 38
  have hsz : ((w.setCell ⟨b, 19, none⟩ (.int .i64 (x.sent + 1))).alloc (.cells #[.int .i64 qk, .int .i64 qs, .int .i64 qg, .int .i64 qi, .slice da dn dc] 44)).heap.size = w.heap.size + 1 := by simp
  have hsz2 : (w.setCell ⟨b, 19, none⟩ (.int .i64 (x.sent + 1))).heap.size = w.heap.size := by simp
  rw [hsz, hsz2] at hsr
  have hft := wfate_any (b := b) (x := { x with sent := x.sent + 1 }) (L := cellsA (w.heap.size + 1) #[.int .i64 0, .int .i64 0, .slice none 0 0, .slice none 0 0] 38 :: (cellsA w.heap.size #[.int .i64 qk, .int .i64 qs, .int .i64 qg, .int .i64 qi, .slice da dn dc] 44 :: L)) ⟨fv, Rf, An, hfr, hna, h8, hd, rfl⟩ (hsr.use (by intro x; simp only [cnt_append, cnt_cons, cnt_nil]; omega)) HF.out.fates
  have hbw : b < w.heap.size := hs.lt m0
  have HFT := Lib.hid hft
  clear hs hsq hsr hsz hsz2 hsb hft hfr hdn
  go_enter Tryz.func35, Tryz.ntmps35
  go_wp2_with fail
  refine HFT.out.mono ?_; rintro r w2 ⟨A2, rfl, ⟨fv2, Rf2, An2, hfr, hna, _, _, rfl⟩, hs2⟩
  obtain ⟨y1, hy1⟩ : ∃ y1, y1 = x.tick := ⟨_, rfl⟩
  have ey : ({ x with sent := x.sent + 1 } : Wr).fated = y1 := by rw [hy1]; rfl
  have ef : ({ x with sent := x.sent + 1 } : Wr).fate = x.fate := rfl
  rw [ey] at hfr hna hs2
  rw [ef]
  have hk0 := hk
  have hk : y1.ns[k]? = some (n, nd) := by rw [hy1]; exact hk0
  have h8 : y1.ns.length = 8 := by rw [hy1]; exact h8
  have hd : y1.down.length = 8 := by rw [hy1]; exact hd
  have HK0 := Lib.hid hk0
  have HY := Lib.hid hy1
  clear HFT c19 f19 ey ef hy1 hk0 hkl
  generalize w.heap.size = z at *
  generalize hfa : x.fate = f at *
  have HFA := Lib.hid hfa
  clear hfa
  by_cases e1 : f = 1
  · subst e1
    have hs3 := Sat.use (M := cellsA (z + 1) #[.int .i64 0, .int .i64 0, .slice none 0 0, .slice none 0 0] 38 :: (cellsA b (wrC fv2 y1) 64 :: (Rf2 ++ (An2 ++ L)))) hs2 (by intro x; simp only [cnt_append, cnt_cons, cnt_nil]; omega)
    clear hs2
    have z0 : w2.cell? ⟨z + 1, 0, none⟩ = some (.int .i64 0) := hs3.cell m0 0
    have z1 : w2.cell? ⟨z + 1, 1, none⟩ = some (.int .i64 0) := hs3.cell m0 1
    have z2 : w2.cell? ⟨z + 1, 2, none⟩ = some (.slice none 0 0) := hs3.cell m0 2
    have z3 : w2.cell? ⟨z + 1, 3, none⟩ = some (.slice none 0 0) := hs3.cell m0 3
    have f0 := hs3.free m0 0
    have f1 := hs3.free m0 1
    have f2 := hs3.free m0 2
    have f3 := hs3.free m0 3
    have hz := Sat.setCell (Sat.setCell (Sat.setCell (Sat.setCell hs3 0 (.int .i64 0)) 1 (.int .i64 0)) 2 (.slice none 0 0)) 3 (.slice none 0 0)
    clear hs3
    go_wp2_with fail
    refine bodyPost_ret (v := .tuple #[repV 0 0 (.slice none 0 0) (.slice none 0 0), .bool false]) (by simp [results, Tryz.results35, go_sem, repV, *]) rfl ?_
    exact ⟨y1, none, _, _, [], rfl, .inl ⟨HFA.out, HY.out⟩, ⟨rfl, rfl⟩, ⟨fv2, Rf2, An2, hfr, hna, h8, hd, rfl⟩, hz.tail.use (by intro x; simp only [cnt_append, cnt_cons, cnt_nil]; omega)⟩
  have p1 : (f == 1) = false := by simpa using e1
  by_cases e2 : f = 2
  · subst e2
    obtain ⟨A1, Ar, hN, hcn, hput⟩ := WrA.node hna hk
    have hs3 := hs2.use (M := A1 ++ (cellsA b (wrC fv2 y1) 64 :: (Rf2 ++ (Ar ++ (cellsA (z + 1) #[.int .i64 0, .int .i64 0, .slice none 0 0, .slice none 0 0] 38 :: (cellsA z #[.int .i64 qk, .int .i64 qs, .int .i64 qg, .int .i64 qi, .slice da dn dc] 44 :: L)))))) (by intro y; simp only [cnt_append, cnt_cons, cnt_nil]; have := hcn y; omega)
    have hdo := do_any n m nd A1 ⟨qk, qs, qg, qi, qd⟩ da dc W w2.drew _ hN hs3.drew (fun y hy => HIN.out y hy.tail.right.right.tail.tail) (HF.out.nodes _ (List.mem_of_getElem? HK0.out)) (by omega)
    unfold rqV at hdo
    simp only at hdo
    rw [← HDN.out] at hdo
    have HDO := Lib.hid hdo
    have ek : w2.cell? ⟨b, k, none⟩ = some (.pointer (some ⟨n, 0, none⟩)) := (hs2.cell m0 k).trans (wrC_node hk)
    have hs4 := Sat.use (M := cellsA z #[.int .i64 qk, .int .i64 qs, .int .i64 qg, .int .i64 qi, .slice da dn dc] 44 :: []) hs2 (by intro x; simp only [cnt_append, cnt_cons, cnt_nil]; omega)
    have g0 : w2.cell? ⟨z, 0, none⟩ = some (.int .i64 qk) := hs4.cell m0 0
    have g1 : w2.cell? ⟨z, 1, none⟩ = some (.int .i64 qs) := hs4.cell m0 1
    have g2 : w2.cell? ⟨z, 2, none⟩ = some (.int .i64 qg) := hs4.cell m0 2
    have g3 : w2.cell? ⟨z, 3, none⟩ = some (.int .i64 qi) := hs4.cell m0 3
    have g4 : w2.cell? ⟨z, 4, none⟩ = some (.slice da dn dc) := hs4.cell m0 4
    clear hs2 hs3 hs4 hdo hN
    go_wp2_with fail
    refine wp_region_one [7] [] [] [] [0, 1, 2, 3, 4, 5, 6, 7] (by kernel_rfl) (by kernel_rfl) ?_
    repeat (first | (refine can_pu1 rfl rfl rfl rfl rfl rfl (fun K hK => ?_); go_big_quiet_op; refine hK _ ?_; clear hK K) | (refine can_st1 rfl rfl rfl rfl rfl rfl (fun K hK => ?_); go_big_quiet_op; refine hK _ ?_; clear hK K) | (refine can_early1 rfl rfl rfl rfl rfl (fun K hK => ?_); go_big_quiet_op; refine hK _ ?_; clear hK K) | (refine can_skip rfl rfl rfl ?_; simp only [Act.put, List.setIfInBounds_toArray, List.set_cons_zero, List.set_cons_succ]))
    refine can_act1 rfl rfl rfl (fun K hK => ?_)
    go_wp2_with fail
    refine HDO.out.mono ?_; rintro r w3 ⟨nd', p, pv, iv, A1', R, rfl, hdr, hra, hN', hs5⟩
    apply hK
    clear hK HDO ek g0 g1 g2 g3 g4
    obtain ⟨An', hna', hcn'⟩ := hput nd' A1' hN'
    have hs6 := Sat.use (M := cellsA (z + 1) #[.int .i64 0, .int .i64 0, .slice none 0 0, .slice none 0 0] 38 :: (cellsA b (wrC fv2 y1) 64 :: (Rf2 ++ (An' ++ L)))) hs5 (by intro y; simp only [cnt_append, cnt_cons, cnt_nil]; have := hcn' y; omega)
    clear hs5
    have z0 : w3.cell? ⟨z + 1, 0, none⟩ = some (.int .i64 0) := hs6.cell m0 0
    have z1 : w3.cell? ⟨z + 1, 1, none⟩ = some (.int .i64 0) := hs6.cell m0 1
    have z2 : w3.cell? ⟨z + 1, 2, none⟩ = some (.slice none 0 0) := hs6.cell m0 2
    have z3 : w3.cell? ⟨z + 1, 3, none⟩ = some (.slice none 0 0) := hs6.cell m0 3
    have f0 := hs6.free m0 0
    have f1 := hs6.free m0 1
    have f2 := hs6.free m0 2
    have f3 := hs6.free m0 3
    have hz := Sat.setCell (Sat.setCell (Sat.setCell (Sat.setCell hs6 0 (.int .i64 0)) 1 (.int .i64 0)) 2 (.slice none 0 0)) 3 (.slice none 0 0)
    clear hs6
    repeat (first | (refine can_pu1 rfl rfl rfl rfl rfl rfl (fun K hK => ?_); go_big_quiet_op; refine hK _ ?_; clear hK K) | (refine can_st1 rfl rfl rfl rfl rfl rfl (fun K hK => ?_); go_big_quiet_op; refine hK _ ?_; clear hK K) | (refine can_early1 rfl rfl rfl rfl rfl (fun K hK => ?_); go_big_quiet_op; refine hK _ ?_; clear hK K) | (refine can_skip rfl rfl rfl ?_; simp only [Act.put, List.setIfInBounds_toArray, List.set_cons_zero, List.set_cons_succ]))
    refine can_end1 ?_; (try simp only [Exit.then])
    go_wp2_with fail
    refine bodyPost_ret (v := .tuple #[repV 0 0 (.slice none 0 0) (.slice none 0 0), .bool false]) (by simp [results, Tryz.results35, go_sem, repV, *]) rfl ?_
    rw [← wrC_put nd' hk] at hz
    exact ⟨y1.put k n nd', none, _, _, [], rfl, .inr ⟨HFA.out, n, nd, nd', p, HK0.out, hdr, by rw [HY.out]⟩, ⟨rfl, rfl⟩, ⟨fv2, Rf2, An', hfr, hna', by show (y1.ns.set k (n, nd')).length = 8; rw [List.length_set]; exact h8, hd, rfl⟩, hz.tail.use (by intro x; simp only [cnt_append, cnt_cons, cnt_nil]; omega)⟩
  have p2 : (f == 2) = false := by simpa using e2
  have HFN := Lib.hid (HF.out.nodes _ (List.mem_of_getElem? HK0.out))
  obtain ⟨A1, Ar, hN, hcn, hput⟩ := WrA.node hna hk
  have hs3 := hs2.use (M := A1 ++ (cellsA b (wrC fv2 y1) 64 :: (Rf2 ++ (Ar ++ (cellsA (z + 1) #[.int .i64 0, .int .i64 0, .slice none 0 0, .slice none 0 0] 38 :: (cellsA z #[.int .i64 qk, .int .i64 qs, .int .i64 qg, .int .i64 qi, .slice da dn dc] 44 :: L)))))) (by intro y; simp only [cnt_append, cnt_cons, cnt_nil]; have := hcn y; omega)
  by_cases e3 : f = 3
  · subst e3
    have hcr := node_crash n m nd A1 (.slice none 0 0) [] W w2 _ hN hs3 (fun y hy => .inl ⟨rfl, rfl, rfl⟩) (by simp) HFN.out.ok (by omega)
    have ek : w2.cell? ⟨b, k, none⟩ = some (.pointer (some ⟨n, 0, none⟩)) := (hs2.cell m0 k).trans (wrC_node hk)
    have HCR := Lib.hid hcr
    clear hs2 hs3 hcr hN
    go_wp2_with fail
    refine HCR.out.mono ?_; rintro r w3 ⟨A3, rfl, hN3, hs3⟩
    clear ek HCR
    have HFC := Lib.hid (HFN.out.crash [])
    have hdo := do_any n (m + 1) (nd.crash []) A3 ⟨qk, qs, qg, qi, qd⟩ da dc W (w3).drew _ hN3 (hs3).drew (fun y hy => HIN.out y hy.tail.right.right.tail.tail) HFC.out (by omega)
    unfold rqV at hdo
    simp only at hdo
    rw [← HDN.out] at hdo
    have HDO := Lib.hid hdo
    have hsB := Sat.use (M := cellsA b (wrC fv2 y1) 64 :: []) hs3 (by intro x; simp only [cnt_append, cnt_cons, cnt_nil]; omega)
    have ek : (w3).cell? ⟨b, k, none⟩ = some (.pointer (some ⟨n, 0, none⟩)) := (hsB.cell m0 k).trans (wrC_node hk)
    have hs4 := Sat.use (M := cellsA z #[.int .i64 qk, .int .i64 qs, .int .i64 qg, .int .i64 qi, .slice da dn dc] 44 :: []) hs3 (by intro x; simp only [cnt_append, cnt_cons, cnt_nil]; omega)
    have g0 : (w3).cell? ⟨z, 0, none⟩ = some (.int .i64 qk) := hs4.cell m0 0
    have g1 : (w3).cell? ⟨z, 1, none⟩ = some (.int .i64 qs) := hs4.cell m0 1
    have g2 : (w3).cell? ⟨z, 2, none⟩ = some (.int .i64 qg) := hs4.cell m0 2
    have g3 : (w3).cell? ⟨z, 3, none⟩ = some (.int .i64 qi) := hs4.cell m0 3
    have g4 : (w3).cell? ⟨z, 4, none⟩ = some (.slice da dn dc) := hs4.cell m0 4
    clear hsB hs4 hdo hs3 hN3
    go_wp2_with fail
    refine wp_region_one [7, 8] [] [] [] [0, 1, 2, 3, 4, 5, 6, 7, 8, 9] (by kernel_rfl) (by kernel_rfl) ?_
    repeat (first | (refine can_pu1 rfl rfl rfl rfl rfl rfl (fun K hK => ?_); go_big_quiet_op; refine hK _ ?_; clear hK K) | (refine can_st1 rfl rfl rfl rfl rfl rfl (fun K hK => ?_); go_big_quiet_op; refine hK _ ?_; clear hK K) | (refine can_early1 rfl rfl rfl rfl rfl (fun K hK => ?_); go_big_quiet_op; refine hK _ ?_; clear hK K) | (refine can_skip rfl rfl rfl ?_; simp only [Act.put, List.setIfInBounds_toArray, List.set_cons_zero, List.set_cons_succ]))
    refine can_act1 rfl rfl rfl (fun K hK => ?_)
    go_wp2_with fail
    refine HDO.out.mono ?_; rintro r w4 ⟨nd', p, pv, iv, A2', R, rfl, hdr, hra, hN2, hs5⟩
    apply hK
    clear hK HDO ek g0 g1 g2 g3 g4
    obtain ⟨An', hna', hcn'⟩ := hput nd' A2' hN2
    have hs6 := Sat.use (M := cellsA (z + 1) #[.int .i64 0, .int .i64 0, .slice none 0 0, .slice none 0 0] 38 :: (cellsA b (wrC fv2 y1) 64 :: (Rf2 ++ (An' ++ (R ++ L))))) hs5 (by intro y; simp only [cnt_append, cnt_cons, cnt_nil]; have := hcn' y; omega)
    clear hs5
    obtain ⟨pa, pn, pc, ia, im, ic, rfl, rfl⟩ := hra.shape
    obtain ⟨code, ps, is⟩ := p
    unfold repV
    simp only at hra ⊢
    have HRA := Lib.hid hra
    have HDR := Lib.hid hdr
    clear hra hdr
    have z0 : w4.cell? ⟨z + 1, 0, none⟩ = some (.int .i64 0) := hs6.cell m0 0
    have z1 : w4.cell? ⟨z + 1, 1, none⟩ = some (.int .i64 0) := hs6.cell m0 1
    have z2 : w4.cell? ⟨z + 1, 2, none⟩ = some (.slice none 0 0) := hs6.cell m0 2
    have z3 : w4.cell? ⟨z + 1, 3, none⟩ = some (.slice none 0 0) := hs6.cell m0 3
    have f0 := hs6.free m0 0
    have f1 := hs6.free m0 1
    have f2 := hs6.free m0 2
    have f3 := hs6.free m0 3
    have hz := Sat.setCell (Sat.setCell (Sat.setCell (Sat.setCell hs6 0 (.int .i64 code)) 1 (.int .i64 (nd.crash []).boot)) 2 (.slice pa pn pc)) 3 (.slice ia im ic)
    clear hs6
    repeat (first | (refine can_pu1 rfl rfl rfl rfl rfl rfl (fun K hK => ?_); go_big_quiet_op; refine hK _ ?_; clear hK K) | (refine can_st1 rfl rfl rfl rfl rfl rfl (fun K hK => ?_); go_big_quiet_op; refine hK _ ?_; clear hK K) | (refine can_early1 rfl rfl rfl rfl rfl (fun K hK => ?_); go_big_quiet_op; refine hK _ ?_; clear hK K) | (refine can_skip rfl rfl rfl ?_; simp only [Act.put, List.setIfInBounds_toArray, List.set_cons_zero, List.set_cons_succ]))
    refine can_act1 rfl rfl rfl (fun K hK => ?_)
    go_wp2_with fail
    repeat (first | (refine can_pu1 rfl rfl rfl rfl rfl rfl (fun K hK => ?_); go_big_quiet_op; refine hK _ ?_; clear hK K) | (refine can_st1 rfl rfl rfl rfl rfl rfl (fun K hK => ?_); go_big_quiet_op; refine hK _ ?_; clear hK K) | (refine can_early1 rfl rfl rfl rfl rfl (fun K hK => ?_); go_big_quiet_op; refine hK _ ?_; clear hK K) | (refine can_skip rfl rfl rfl ?_; simp only [Act.put, List.setIfInBounds_toArray, List.set_cons_zero, List.set_cons_succ]))
    refine can_end1 ?_; (try simp only [Exit.then])
    go_wp2_with fail
    refine bodyPost_ret (v := .tuple #[repV code (nd.crash []).boot (.slice pa pn pc) (.slice ia im ic), .bool true]) (by simp [results, Tryz.results35, go_sem, repV, *]) rfl ?_
    rw [← wrC_put nd' hk] at hz
    exact ⟨y1.put k n nd', some ((nd.crash []).boot, ⟨code, ps, is⟩), _, _, R, rfl, ⟨by rw [HFA.out]; first | exact e1 | decide, by rw [HFA.out]; first | exact e2 | decide, n, nd, nd.crash [], nd', HK0.out, by rw [HFA.out, if_pos rfl], rfl, HDR.out, by rw [HY.out]⟩, ⟨_, _, rfl, HRA.out⟩, ⟨fv2, Rf2, An', hfr, hna', by show (y1.ns.set k (n, nd')).length = 8; rw [List.length_set]; exact h8, hd, rfl⟩, hz.tail.use (by intro x; simp only [cnt_append, cnt_cons, cnt_nil]; omega)⟩
  · have p3 : (f == 3) = false := by simpa using e3
    clear hs2
    have hdo := do_any n m (nd) A1 ⟨qk, qs, qg, qi, qd⟩ da dc W (w2).drew _ hN (hs3).drew (fun y hy => HIN.out y hy.tail.right.right.tail.tail) HFN.out (by omega)
    unfold rqV at hdo
    simp only at hdo
    rw [← HDN.out] at hdo
    have HDO := Lib.hid hdo
    have hsB := Sat.use (M := cellsA b (wrC fv2 y1) 64 :: []) hs3 (by intro x; simp only [cnt_append, cnt_cons, cnt_nil]; omega)
    have ek : (w2).cell? ⟨b, k, none⟩ = some (.pointer (some ⟨n, 0, none⟩)) := (hsB.cell m0 k).trans (wrC_node hk)
    have hs4 := Sat.use (M := cellsA z #[.int .i64 qk, .int .i64 qs, .int .i64 qg, .int .i64 qi, .slice da dn dc] 44 :: []) hs3 (by intro x; simp only [cnt_append, cnt_cons, cnt_nil]; omega)
    have g0 : (w2).cell? ⟨z, 0, none⟩ = some (.int .i64 qk) := hs4.cell m0 0
    have g1 : (w2).cell? ⟨z, 1, none⟩ = some (.int .i64 qs) := hs4.cell m0 1
    have g2 : (w2).cell? ⟨z, 2, none⟩ = some (.int .i64 qg) := hs4.cell m0 2
    have g3 : (w2).cell? ⟨z, 3, none⟩ = some (.int .i64 qi) := hs4.cell m0 3
    have g4 : (w2).cell? ⟨z, 4, none⟩ = some (.slice da dn dc) := hs4.cell m0 4
    clear hsB hs4 hdo hs3 hN
    go_wp2_with fail
    refine wp_region_one [7, 8] [] [] [] [0, 1, 2, 3, 4, 5, 6, 7, 8, 9] (by kernel_rfl) (by kernel_rfl) ?_
    repeat (first | (refine can_pu1 rfl rfl rfl rfl rfl rfl (fun K hK => ?_); go_big_quiet_op; refine hK _ ?_; clear hK K) | (refine can_st1 rfl rfl rfl rfl rfl rfl (fun K hK => ?_); go_big_quiet_op; refine hK _ ?_; clear hK K) | (refine can_early1 rfl rfl rfl rfl rfl (fun K hK => ?_); go_big_quiet_op; refine hK _ ?_; clear hK K) | (refine can_skip rfl rfl rfl ?_; simp only [Act.put, List.setIfInBounds_toArray, List.set_cons_zero, List.set_cons_succ]))
    refine can_act1 rfl rfl rfl (fun K hK => ?_)
    go_wp2_with fail
    refine HDO.out.mono ?_; rintro r w4 ⟨nd', p, pv, iv, A2', R, rfl, hdr, hra, hN2, hs5⟩
    apply hK
    clear hK HDO ek g0 g1 g2 g3 g4
    obtain ⟨An', hna', hcn'⟩ := hput nd' A2' hN2
    have hs6 := Sat.use (M := cellsA (z + 1) #[.int .i64 0, .int .i64 0, .slice none 0 0, .slice none 0 0] 38 :: (cellsA b (wrC fv2 y1) 64 :: (Rf2 ++ (An' ++ (R ++ L))))) hs5 (by intro y; simp only [cnt_append, cnt_cons, cnt_nil]; have := hcn' y; omega)
    clear hs5
    obtain ⟨pa, pn, pc, ia, im, ic, rfl, rfl⟩ := hra.shape
    obtain ⟨code, ps, is⟩ := p
    unfold repV
    simp only at hra ⊢
    have HRA := Lib.hid hra
    have HDR := Lib.hid hdr
    clear hra hdr
    have z0 : w4.cell? ⟨z + 1, 0, none⟩ = some (.int .i64 0) := hs6.cell m0 0
    have z1 : w4.cell? ⟨z + 1, 1, none⟩ = some (.int .i64 0) := hs6.cell m0 1
    have z2 : w4.cell? ⟨z + 1, 2, none⟩ = some (.slice none 0 0) := hs6.cell m0 2
    have z3 : w4.cell? ⟨z + 1, 3, none⟩ = some (.slice none 0 0) := hs6.cell m0 3
    have f0 := hs6.free m0 0
    have f1 := hs6.free m0 1
    have f2 := hs6.free m0 2
    have f3 := hs6.free m0 3
    have hz := Sat.setCell (Sat.setCell (Sat.setCell (Sat.setCell hs6 0 (.int .i64 code)) 1 (.int .i64 (nd).boot)) 2 (.slice pa pn pc)) 3 (.slice ia im ic)
    clear hs6
    repeat (first | (refine can_pu1 rfl rfl rfl rfl rfl rfl (fun K hK => ?_); go_big_quiet_op; refine hK _ ?_; clear hK K) | (refine can_st1 rfl rfl rfl rfl rfl rfl (fun K hK => ?_); go_big_quiet_op; refine hK _ ?_; clear hK K) | (refine can_early1 rfl rfl rfl rfl rfl (fun K hK => ?_); go_big_quiet_op; refine hK _ ?_; clear hK K) | (refine can_skip rfl rfl rfl ?_; simp only [Act.put, List.setIfInBounds_toArray, List.set_cons_zero, List.set_cons_succ]))
    refine can_act1 rfl rfl rfl (fun K hK => ?_)
    go_wp2_with fail
    repeat (first | (refine can_pu1 rfl rfl rfl rfl rfl rfl (fun K hK => ?_); go_big_quiet_op; refine hK _ ?_; clear hK K) | (refine can_st1 rfl rfl rfl rfl rfl rfl (fun K hK => ?_); go_big_quiet_op; refine hK _ ?_; clear hK K) | (refine can_early1 rfl rfl rfl rfl rfl (fun K hK => ?_); go_big_quiet_op; refine hK _ ?_; clear hK K) | (refine can_skip rfl rfl rfl ?_; simp only [Act.put, List.setIfInBounds_toArray, List.set_cons_zero, List.set_cons_succ]))
    refine can_end1 ?_; (try simp only [Exit.then])
    go_wp2_with fail
    refine bodyPost_ret (v := .tuple #[repV code (nd).boot (.slice pa pn pc) (.slice ia im ic), .bool true]) (by simp [results, Tryz.results35, go_sem, repV, *]) rfl ?_
    rw [← wrC_put nd' hk] at hz
    exact ⟨y1.put k n nd', some ((nd).boot, ⟨code, ps, is⟩), _, _, R, rfl, ⟨by rw [HFA.out]; first | exact e1 | decide, by rw [HFA.out]; first | exact e2 | decide, n, nd, nd, nd', HK0.out, by rw [HFA.out, if_neg e3], rfl, HDR.out, by rw [HY.out]⟩, ⟨_, _, rfl, HRA.out⟩, ⟨fv2, Rf2, An', hfr, hna', by show (y1.ns.set k (n, nd')).length = 8; rw [List.length_set]; exact h8, hd, rfl⟩, hz.tail.use (by intro x; simp only [cnt_append, cnt_cons, cnt_nil]; omega)⟩
end Go.Proofs.YtekbbpfnkbanjaaGreatDoor.Ch

namespace Go.Proofs.YtekbbpfnkbanjaaGreatDoor.Ch
set_option linter.unusedSimpArgs false
open Go Go.RowKit Go.Sl Go.BigFrame
set_option linter.unusedVariables false

/-- What a call answers: a reply with its boot, or a code. -/
inductive WR where
  | ok (boot : Int) (p : Rp)
  | err (c : Int)
def TryR (k : Nat) (q : Rq) : Nat → Wr → Wr → WR → Prop
  | 0, x, x', r => x' = x ∧ r = .err 5
  | t + 1, x, x', r =>
    ((x.dead = true ∨ x.down[k]? = some true) ∧ x' = x ∧ r = .err 4) ∨
    (x.dead = false ∧ x.down[k]? = some false ∧ x.fuse = 0 ∧ x' = x.burnt ∧ r = .err 4) ∨
    (x.dead = false ∧ x.down[k]? = some false ∧ x.fuse ≠ 0 ∧ ∃ y, (SendR k q x.burnt y none ∧ TryR k q t y x' r) ∨ ∃ boot p, SendR k q x.burnt y (some (boot, p)) ∧ x' = y ∧ ((p.code = 0 ∧ r = .ok boot p) ∨ (p.code ≠ 0 ∧ r = .err p.code)))
/-- The error of a node, and its block. -/
def onA (be : Nat) (n c : Int) : Atom := cellsA be #[.int .i64 n, .iface 34 (.int .i64 c)] 88
def ResA (n : Int) (v ev : Value) (R : List Atom) : WR → Prop
  | .ok boot p => p.code = 0 ∧ ev = .nilIface ∧ ∃ pv iv, v = repV 0 boot pv iv ∧ RepA pv iv p R
  | .err c => v = repV 0 0 (.slice none 0 0) (.slice none 0 0) ∧ ∃ be, ev = Ca.val (.on be n (.code c)) ∧ R = [onA be n c]
theorem WrFit.burnt {x : Wr} {m : Nat} (h : WrFit x m) : WrFit x.burnt m :=
  ⟨h.nodes, h.fates, by show -1 ≤ max (-1) (x.fuse - 1); omega, by have := h.f1; show max (-1) (x.fuse - 1) < _; omega, h.s0, h.s1⟩
theorem at_code (n c : Int) (W w : World) (L : List Atom) (hs : Sat W w L) :
    Calls Tryz.prog 33 #[.int .i64 n, .iface 34 (.int .i64 c)] w fun r w' => ∃ b, r = .returned (.iface 85 (.pointer (some ⟨b, 0, none⟩))) ∧ Sat W w' (onA b n c :: L) := Ca.at_node n (.code c) W w L hs

set_option maxRecDepth 100000 in
set_option maxHeartbeats 4000000 in
theorem wcall_bad (b : Nat) (n : Int) (q : Rq) (bv : Value) (da : Option Addr) (dc : Nat) (W w : World) (L : List Atom) (hs : Sat W w L) (hin : ∀ y, Sat W y L → Reads y (.slice da q.data.length dc) q.data.length (bts q.data)) (hp : ¬ (0 ≤ n ∧ n < 8 ∧ reqOk q)) :
    Calls Tryz.prog 13 #[bv, .int .i64 n, rqV q (.slice da q.data.length dc)] w fun e w' => ∃ v ev R, e = .returned (.tuple #[v, ev]) ∧ ResA n v ev R (.err 1) ∧ Sat W w' (R ++ L) := by
  have hlay : ∀ w L', (∀ y, Sat W y L' → Sat W y L) → Sat W w L' → Calls Tryz.prog 31 #[rqV q (.slice da q.data.length dc)] w fun e w' => ∃ v, e = .returned (.tuple #[v, .int .i64 (if reqOk q then 0 else 1)]) ∧ Sat W w' L' := fun w L' hL hs => by
    by_cases h : reqOk q
    · rw [if_pos h]
      exact layreq_ok q da dc W w L' hs (fun y hy => hin y (hL y hy)) h
    · rw [if_neg h]
      refine (layreq_bad q da dc W w L' hs h).mono ?_
      rintro e w' ⟨rfl, hs'⟩
      exact ⟨_, rfl, hs'⟩
  obtain ⟨c, hc⟩ : ∃ c : Int, c = if reqOk q then 0 else 1 := ⟨_, rfl⟩
  have hcn : ¬ (0 ≤ n ∧ n < 8) ∨ c = 1 := by
    by_cases h : reqOk q
    · exact .inl fun hn => hp ⟨hn.1, hn.2, h⟩
    · rw [if_neg h] at hc
      exact .inr hc
  rw [← hc] at hlay
  clear hc
  obtain ⟨qk, qs, qg, qi, qd⟩ := q
  unfold rqV at hlay ⊢
  simp only at hin hlay ⊢
  obtain ⟨dn, hdn⟩ : ∃ dn, dn = qd.length := ⟨_, rfl⟩
  rw [← hdn] at hlay ⊢
  have hsq := hs.newCells #[.int .i64 qk, .int .i64 qs, .int .i64 qg, .int .i64 qi, .slice da dn dc] 44
  have hsr := hsq.newCells #[.int .i64 0, .int .i64 0, .slice none 0 0, .slice none 0 0] 38
  have hsz : (w.alloc (.cells #[.int .i64 qk, .int .i64 qs, .int .i64 qg, .int .i64 qi, .slice da dn dc] 44)).heap.size = w.heap.size + 1 := by simp
  rw [hsz] at hsr
  clear hsz hsq hs
  have HL := Lib.hid hlay
  have HCN := Lib.hid hcn
  clear hlay hin hdn hp hcn
  go_enter Tryz.func13, Tryz.ntmps13
  go_wp2_with fail
  refine (HL.out _ _ (fun y hy => hy.tail.tail) hsr).mono ?_; rintro r w2 ⟨v, rfl, hs2⟩
  clear hsr HL
  generalize w.heap.size = z at *
  go_wp2_with fail
  refine (wis_any n _).mono ?_; rintro r wq ⟨rfl, rfl⟩
  by_cases hn : 0 ≤ n ∧ n < 8
  · rw [decide_eq_true hn]
    obtain rfl : c = 1 := HCN.out.resolve_left (fun h => h hn)
    go_wp2_with fail
    refine (at_code n 1 W _ _ hs2).mono ?_; rintro r w8 ⟨be, rfl, hs8⟩
    have hs9 := Sat.use (M := cellsA (z + 1) #[.int .i64 0, .int .i64 0, .slice none 0 0, .slice none 0 0] 38 :: (onA be n (1) :: ([] ++ L))) hs8 (by intro x; simp only [cnt_append, cnt_cons, cnt_nil]; omega)
    clear hs8 hs2
    have z0 : w8.cell? ⟨z + 1, 0, none⟩ = some (.int .i64 0) := hs9.cell m0 0
    have z1 : w8.cell? ⟨z + 1, 1, none⟩ = some (.int .i64 0) := hs9.cell m0 1
    have z2 : w8.cell? ⟨z + 1, 2, none⟩ = some (.slice none 0 0) := hs9.cell m0 2
    have z3 : w8.cell? ⟨z + 1, 3, none⟩ = some (.slice none 0 0) := hs9.cell m0 3
    have f0 := hs9.free m0 0
    have f1 := hs9.free m0 1
    have f2 := hs9.free m0 2
    have f3 := hs9.free m0 3
    have hz := Sat.setCell (Sat.setCell (Sat.setCell (Sat.setCell hs9 0 (.int .i64 0)) 1 (.int .i64 0)) 2 (.slice none 0 0)) 3 (.slice none 0 0)
    clear hs9
    go_wp2_with fail
    refine bodyPost_ret (v := .tuple #[repV 0 0 (.slice none 0 0) (.slice none 0 0), .iface 85 (.pointer (some ⟨be, 0, none⟩))]) (by simp [results, Tryz.results13, go_sem, repV, *]) rfl ?_
    exact ⟨_, _, _, rfl, ⟨rfl, be, rfl, rfl⟩, hz.tail.use (by intro x; simp only [cnt_append, cnt_cons, cnt_nil]; omega)⟩
  · rw [decide_eq_false hn]
    clear hn HCN
    go_wp2_with fail
    refine (at_code n 1 W _ _ hs2).mono ?_; rintro r w8 ⟨be, rfl, hs8⟩
    have hs9 := Sat.use (M := cellsA (z + 1) #[.int .i64 0, .int .i64 0, .slice none 0 0, .slice none 0 0] 38 :: (onA be n (1) :: ([] ++ L))) hs8 (by intro x; simp only [cnt_append, cnt_cons, cnt_nil]; omega)
    clear hs8 hs2
    have z0 : w8.cell? ⟨z + 1, 0, none⟩ = some (.int .i64 0) := hs9.cell m0 0
    have z1 : w8.cell? ⟨z + 1, 1, none⟩ = some (.int .i64 0) := hs9.cell m0 1
    have z2 : w8.cell? ⟨z + 1, 2, none⟩ = some (.slice none 0 0) := hs9.cell m0 2
    have z3 : w8.cell? ⟨z + 1, 3, none⟩ = some (.slice none 0 0) := hs9.cell m0 3
    have f0 := hs9.free m0 0
    have f1 := hs9.free m0 1
    have f2 := hs9.free m0 2
    have f3 := hs9.free m0 3
    have hz := Sat.setCell (Sat.setCell (Sat.setCell (Sat.setCell hs9 0 (.int .i64 0)) 1 (.int .i64 0)) 2 (.slice none 0 0)) 3 (.slice none 0 0)
    clear hs9
    go_wp2_with fail
    refine bodyPost_ret (v := .tuple #[repV 0 0 (.slice none 0 0) (.slice none 0 0), .iface 85 (.pointer (some ⟨be, 0, none⟩))]) (by simp [results, Tryz.results13, go_sem, repV, *]) rfl ?_
    exact ⟨_, _, _, rfl, ⟨rfl, be, rfl, rfl⟩, hz.tail.use (by intro x; simp only [cnt_append, cnt_cons, cnt_nil]; omega)⟩
set_option maxRecDepth 100000 in
set_option maxHeartbeats 8000000 in
theorem wcall_any (m b k : Nat) (x : Wr) (A : List Atom) (q : Rq) (da : Option Addr) (dc : Nat) (W w : World) (L : List Atom) (hx : WrA b x A) (hs : Sat W w (A ++ L)) (hk8 : k < 8) (hq : reqOk q) (hin : ∀ y, Sat W y L → Reads y (.slice da q.data.length dc) q.data.length (bts q.data)) (hf : WrFit x m) (hm : m < 700000) :
    Calls Tryz.prog 13 #[.pointer (some ⟨b, 0, none⟩), .int .i64 k, rqV q (.slice da q.data.length dc)] w fun e w' => ∃ x' r v ev A' R, e = .returned (.tuple #[v, ev]) ∧ TryR k q 3 x x' r ∧ ResA k v ev R r ∧ WrA b x' A' ∧ Sat W w' (A' ++ (R ++ L)) := by
  have hlay := fun w L' (hL : ∀ y, Sat W y L' → Sat W y L) (hs : Sat W w L') => layreq_ok q da dc W w L' hs (fun y hy => hin y (hL y hy)) hq
  obtain ⟨T, hT⟩ : ∃ T : Nat → Wr → Wr → WR → Prop, T = TryR k q := ⟨_, rfl⟩
  obtain ⟨S, hS⟩ : ∃ S : Wr → Wr → Option (Int × Rp) → Prop, S = SendR k q := ⟨_, rfl⟩
  rw [← hT]
  have HT := Lib.hid hT
  have k0 : (0 : Int) ≤ k := by omega
  have k1 : (k : Int) < 8 := by omega
  obtain ⟨dn, hdn⟩ : ∃ dn, dn = q.data.length := ⟨_, rfl⟩
  obtain ⟨qv, hqv⟩ : ∃ qv, qv = rqV q (.slice da dn dc) := ⟨_, rfl⟩
  have hsend : ∀ m' n nd x A w L', WrA b x A → Sat W w (A ++ L') → x.ns[k]? = some (n, nd) → (∀ y, Sat W y L' → Sat W y L) → WrFit x m' → m' < 800000 → Calls Tryz.prog 35 #[.pointer (some ⟨b, 0, none⟩), .int .i64 k, qv] w fun e w' => ∃ x' c v A' R, e = .returned (.tuple #[v, .bool c.isSome]) ∧ S x x' c ∧ RepO c v R ∧ WrA b x' A' ∧ Sat W w' (A' ++ (R ++ L')) := fun m' n nd x A w L' hx hs hk hL hf hm => by
    rw [hS, hqv, hdn]
    exact wsend_any m' b k n nd x A q da dc W w L' hx hs hk (fun y hy => hin y (hL y hy)) hf hm
  have HS := Lib.hid hS
  rw [← hdn] at hlay ⊢
  have HDN := Lib.hid hdn
  clear hin hdn hT hS hq
  obtain ⟨qk, qs, qg, qi, qd⟩ := q
  unfold rqV at hlay hqv ⊢
  simp only at hlay hqv ⊢
  subst hqv
  have HSE := Lib.hid hsend
  have hsq := hs.newCells #[.int .i64 qk, .int .i64 qs, .int .i64 qg, .int .i64 qi, .slice da dn dc] 44
  have hsr := hsq.newCells #[.int .i64 0, .int .i64 0, .slice none 0 0, .slice none 0 0] 38
  have hsz : (w.alloc (.cells #[.int .i64 qk, .int .i64 qs, .int .i64 qg, .int .i64 qi, .slice da dn dc] 44)).heap.size = w.heap.size + 1 := by simp
  rw [hsz] at hsr
  clear hsz hsq hs
  have HL := Lib.hid hlay
  have HX := Lib.hid hx
  have HF := Lib.hid hf
  clear hlay hsend hx hf
  go_enter Tryz.func13, Tryz.ntmps13
  go_wp2_with fail
  refine (HL.out _ _ (fun y hy => hy.tail.tail.right) hsr).mono ?_; rintro r w2 ⟨v, rfl, hs2⟩
  clear hsr HL
  generalize w.heap.size = z at *
  go_wp2_with fail
  refine (wis_any k _).mono ?_; rintro r wq ⟨rfl, rfl⟩
  rw [decide_eq_true ⟨k0, k1⟩]
  go_wp2_with fail
  go_loopw [28] (fun kv wr => ∃ (t : Nat) (x1 : Wr) (A1 : List Atom), kv = .int .i64 (3 - (t : Int)) ∧ t ≤ 3 ∧ WrA b x1 A1 ∧ (∀ x' r, T t x1 x' r → T 3 x x' r) ∧ WrFit x1 (m + 2 * (3 - t)) ∧ Sat W wr (A1 ++ (cellsA (z + 1) #[.int .i64 0, .int .i64 0, .slice none 0 0, .slice none 0 0] 38 :: (cellsA z #[.int .i64 qk, .int .i64 qs, .int .i64 qg, .int .i64 qi, .slice da dn dc] 44 :: L)))) (fun kv _ => (3 - intOf kv).toNat)
  case atStart => exact ⟨3, x, A, rfl, Nat.le_refl _, HX.out, fun _ _ h => h, HF.out.mono (by omega), hs2.use (by intro x; simp only [cnt_append, cnt_cons, cnt_nil]; omega)⟩
  case round =>
    clear hs2 HX HF
    obtain ⟨t, x1, A1, rfl, ht, hx1, hT1, hf1, hs⟩ := hrel
    have HT1 := Lib.hid hT1
    have HF1 := Lib.hid hf1
    clear hT1 hf1
    cases t with
    | zero =>
      go_wp2_with fail
      refine (at_code k 5 W _ _ hs).mono ?_; rintro r w8 ⟨be, rfl, hs8⟩
      have hs9 := Sat.use (M := cellsA (z + 1) #[.int .i64 0, .int .i64 0, .slice none 0 0, .slice none 0 0] 38 :: (onA be k (5) :: (A1 ++ L))) hs8 (by intro x; simp only [cnt_append, cnt_cons, cnt_nil]; omega)
      clear hs8 hs
      have z0 : w8.cell? ⟨z + 1, 0, none⟩ = some (.int .i64 0) := hs9.cell m0 0
      have z1 : w8.cell? ⟨z + 1, 1, none⟩ = some (.int .i64 0) := hs9.cell m0 1
      have z2 : w8.cell? ⟨z + 1, 2, none⟩ = some (.slice none 0 0) := hs9.cell m0 2
      have z3 : w8.cell? ⟨z + 1, 3, none⟩ = some (.slice none 0 0) := hs9.cell m0 3
      have f0 := hs9.free m0 0
      have f1 := hs9.free m0 1
      have f2 := hs9.free m0 2
      have f3 := hs9.free m0 3
      have hz := Sat.setCell (Sat.setCell (Sat.setCell (Sat.setCell hs9 0 (.int .i64 0)) 1 (.int .i64 0)) 2 (.slice none 0 0)) 3 (.slice none 0 0)
      clear hs9
      go_wp2_with fail
      refine bodyPost_ret (v := .tuple #[repV 0 0 (.slice none 0 0) (.slice none 0 0), .iface 85 (.pointer (some ⟨be, 0, none⟩))]) (by simp [results, Tryz.results13, go_sem, repV, *]) rfl ?_
      exact ⟨x1, .err 5, _, _, A1, _, rfl, HT1.out _ _ (by rw [HT.out]; exact ⟨rfl, rfl⟩), ⟨rfl, be, rfl, rfl⟩, hx1, hz.tail.use (by intro x; simp only [cnt_append, cnt_cons, cnt_nil]; omega)⟩
    | succ t =>
      obtain ⟨tv, htv⟩ : ∃ tv : Int, tv = 3 - ((t + 1 : Nat) : Int) := ⟨_, rfl⟩
      rw [← htv]
      have t0 : tv < 3 := by omega
      have t2 : 0 ≤ tv := by omega
      have HTV := Lib.hid htv
      clear htv
      have hx0 := hx1
      obtain ⟨fv1, Rf1, An1, hfr, hna, h8, hd, hA⟩ := hx0
      obtain ⟨ns, down, fates, fuse, dead, sent⟩ := x1
      simp only at h8 hd
      obtain ⟨dd, hdd⟩ : ∃ dd, down[k]? = some dd := ⟨_, List.getElem?_eq_getElem (by omega)⟩
      obtain ⟨⟨n, nd⟩, hnk⟩ : ∃ p, ns[k]? = some p := ⟨_, List.getElem?_eq_getElem (by omega)⟩
      have hsb := hs
      rw [hA] at hsb
      have hsb := Sat.use (M := cellsA b (wrC fv1 ⟨ns, down, fates, fuse, dead, sent⟩) 64 :: []) hsb (by intro x; simp only [cnt_append, cnt_cons, cnt_nil]; omega)
      have c18 : wr.cell? ⟨b, 18, none⟩ = some (.bool dead) := (hsb.cell m0 18).trans (wrC_tail h8 hd).2.2.1
      have cd : wr.cell? ⟨b, 8 + k, none⟩ = some (.bool dd) := (hsb.cell m0 (8 + k)).trans (wrC_down h8 hdd)
      have HDD := Lib.hid hdd
      clear hsb hA hdd hfr hna h8 hd
      cases dead with
      | true =>
        go_wp2_with fail
        refine (at_code k 4 W _ _ hs).mono ?_; rintro r w8 ⟨be, rfl, hs8⟩
        have hs9 := Sat.use (M := cellsA (z + 1) #[.int .i64 0, .int .i64 0, .slice none 0 0, .slice none 0 0] 38 :: (onA be k (4) :: (A1 ++ L))) hs8 (by intro x; simp only [cnt_append, cnt_cons, cnt_nil]; omega)
        clear hs8 hs
        have z0 : w8.cell? ⟨z + 1, 0, none⟩ = some (.int .i64 0) := hs9.cell m0 0
        have z1 : w8.cell? ⟨z + 1, 1, none⟩ = some (.int .i64 0) := hs9.cell m0 1
        have z2 : w8.cell? ⟨z + 1, 2, none⟩ = some (.slice none 0 0) := hs9.cell m0 2
        have z3 : w8.cell? ⟨z + 1, 3, none⟩ = some (.slice none 0 0) := hs9.cell m0 3
        have f0 := hs9.free m0 0
        have f1 := hs9.free m0 1
        have f2 := hs9.free m0 2
        have f3 := hs9.free m0 3
        have hz := Sat.setCell (Sat.setCell (Sat.setCell (Sat.setCell hs9 0 (.int .i64 0)) 1 (.int .i64 0)) 2 (.slice none 0 0)) 3 (.slice none 0 0)
        clear hs9
        go_wp2_with fail
        refine bodyPost_ret (v := .tuple #[repV 0 0 (.slice none 0 0) (.slice none 0 0), .iface 85 (.pointer (some ⟨be, 0, none⟩))]) (by simp [results, Tryz.results13, go_sem, repV, *]) rfl ?_
        exact ⟨_, .err 4, _, _, A1, _, rfl, HT1.out _ _ (by rw [HT.out]; exact .inl ⟨.inl rfl, rfl, rfl⟩), ⟨rfl, be, rfl, rfl⟩, hx1, hz.tail.use (by intro x; simp only [cnt_append, cnt_cons, cnt_nil]; omega)⟩
      | false =>
        cases dd with
        | true =>
          go_wp2_with fail
          refine (at_code k 4 W _ _ hs).mono ?_; rintro r w8 ⟨be, rfl, hs8⟩
          have hs9 := Sat.use (M := cellsA (z + 1) #[.int .i64 0, .int .i64 0, .slice none 0 0, .slice none 0 0] 38 :: (onA be k (4) :: (A1 ++ L))) hs8 (by intro x; simp only [cnt_append, cnt_cons, cnt_nil]; omega)
          clear hs8 hs
          have z0 : w8.cell? ⟨z + 1, 0, none⟩ = some (.int .i64 0) := hs9.cell m0 0
          have z1 : w8.cell? ⟨z + 1, 1, none⟩ = some (.int .i64 0) := hs9.cell m0 1
          have z2 : w8.cell? ⟨z + 1, 2, none⟩ = some (.slice none 0 0) := hs9.cell m0 2
          have z3 : w8.cell? ⟨z + 1, 3, none⟩ = some (.slice none 0 0) := hs9.cell m0 3
          have f0 := hs9.free m0 0
          have f1 := hs9.free m0 1
          have f2 := hs9.free m0 2
          have f3 := hs9.free m0 3
          have hz := Sat.setCell (Sat.setCell (Sat.setCell (Sat.setCell hs9 0 (.int .i64 0)) 1 (.int .i64 0)) 2 (.slice none 0 0)) 3 (.slice none 0 0)
          clear hs9
          go_wp2_with fail
          refine bodyPost_ret (v := .tuple #[repV 0 0 (.slice none 0 0) (.slice none 0 0), .iface 85 (.pointer (some ⟨be, 0, none⟩))]) (by simp [results, Tryz.results13, go_sem, repV, *]) rfl ?_
          exact ⟨_, .err 4, _, _, A1, _, rfl, HT1.out _ _ (by rw [HT.out]; exact .inl ⟨.inr HDD.out, rfl, rfl⟩), ⟨rfl, be, rfl, rfl⟩, hx1, hz.tail.use (by intro x; simp only [cnt_append, cnt_cons, cnt_nil]; omega)⟩
        | false =>
          go_wp2_with fail
          refine (wburn_any hx1 hs HF1.out.f0 HF1.out.f1).mono ?_; rintro r w3 ⟨A2, rfl, hA2, hs3⟩
          clear c18 cd hs hx1
          by_cases hfu : fuse = 0
          · rw [show (!(Wr.burnt ⟨ns, down, fates, fuse, false, sent⟩).dead) = false by simp [Wr.burnt, hfu]]
            have HFU := Lib.hid hfu
            clear hfu
            go_wp2_with fail
            refine (at_code k 4 W _ _ hs3).mono ?_; rintro r w8 ⟨be, rfl, hs8⟩
            have hs9 := Sat.use (M := cellsA (z + 1) #[.int .i64 0, .int .i64 0, .slice none 0 0, .slice none 0 0] 38 :: (onA be k (4) :: (A2 ++ L))) hs8 (by intro x; simp only [cnt_append, cnt_cons, cnt_nil]; omega)
            clear hs8 hs3
            have z0 : w8.cell? ⟨z + 1, 0, none⟩ = some (.int .i64 0) := hs9.cell m0 0
            have z1 : w8.cell? ⟨z + 1, 1, none⟩ = some (.int .i64 0) := hs9.cell m0 1
            have z2 : w8.cell? ⟨z + 1, 2, none⟩ = some (.slice none 0 0) := hs9.cell m0 2
            have z3 : w8.cell? ⟨z + 1, 3, none⟩ = some (.slice none 0 0) := hs9.cell m0 3
            have f0 := hs9.free m0 0
            have f1 := hs9.free m0 1
            have f2 := hs9.free m0 2
            have f3 := hs9.free m0 3
            have hz := Sat.setCell (Sat.setCell (Sat.setCell (Sat.setCell hs9 0 (.int .i64 0)) 1 (.int .i64 0)) 2 (.slice none 0 0)) 3 (.slice none 0 0)
            clear hs9
            go_wp2_with fail
            refine bodyPost_ret (v := .tuple #[repV 0 0 (.slice none 0 0) (.slice none 0 0), .iface 85 (.pointer (some ⟨be, 0, none⟩))]) (by simp [results, Tryz.results13, go_sem, repV, *]) rfl ?_
            exact ⟨_, .err 4, _, _, A2, _, rfl, HT1.out _ _ (by rw [HT.out]; exact .inr (.inl ⟨rfl, HDD.out, HFU.out, rfl, rfl⟩)), ⟨rfl, be, rfl, rfl⟩, hA2, hz.tail.use (by intro x; simp only [cnt_append, cnt_cons, cnt_nil]; omega)⟩
          · rw [show (!(Wr.burnt ⟨ns, down, fates, fuse, false, sent⟩).dead) = true by simp [Wr.burnt, hfu]]
            have HFU := Lib.hid hfu
            clear hfu
            have hs4 := Sat.use (M := cellsA z #[.int .i64 qk, .int .i64 qs, .int .i64 qg, .int .i64 qi, .slice da dn dc] 44 :: []) hs3 (by intro x; simp only [cnt_append, cnt_cons, cnt_nil]; omega)
            have g0 : w3.cell? ⟨z, 0, none⟩ = some (.int .i64 qk) := hs4.cell m0 0
            have g1 : w3.cell? ⟨z, 1, none⟩ = some (.int .i64 qs) := hs4.cell m0 1
            have g2 : w3.cell? ⟨z, 2, none⟩ = some (.int .i64 qg) := hs4.cell m0 2
            have g3 : w3.cell? ⟨z, 3, none⟩ = some (.int .i64 qi) := hs4.cell m0 3
            have g4 : w3.cell? ⟨z, 4, none⟩ = some (.slice da dn dc) := hs4.cell m0 4
            clear hs4
            go_wp2_with fail
            refine (HSE.out _ n nd _ A2 _ _ hA2 hs3 hnk (fun y hy => hy.tail.tail) HF1.out.burnt (by omega)).mono ?_
            rintro r w4 ⟨y, c, v, A3, R, rfl, hS1, hR, hA3, hs5⟩
            rw [HS.out] at hS1
            have HF2 := Lib.hid (hS1.fit HF1.out.burnt)
            have HS1 := Lib.hid hS1
            clear g0 g1 g2 g3 g4 hs3 hA2 hS1
            cases c with
            | none =>
              obtain ⟨rfl, rfl⟩ := hR
              unfold repV
              simp only [Option.isSome]
              go_wp2_with fail
              refine ⟨⟨t, y, A3, ?_, by omega, hA3, fun x' r h => HT1.out x' r ?_, HF2.out.mono (by omega), ?_⟩, ?_⟩
              · have := HTV.out
                simp
                omega
              · rw [HT.out] at h ⊢
                exact .inr (.inr ⟨rfl, HDD.out, HFU.out, y, .inl ⟨HS1.out, h⟩⟩)
              · exact hs5.alloc _
              · simp [intOf]
                omega
            | some c =>
              obtain ⟨boot, ⟨code, ps, is⟩⟩ := c
              obtain ⟨pv, iv, rfl, hra⟩ := hR
              obtain ⟨pa, pn, pc, ia, im, ic, rfl, rfl⟩ := hra.shape
              have HRA := Lib.hid hra
              clear hra
              unfold repV
              simp only [Option.isSome]
              by_cases hc : code = 0
              · subst hc
                have hs6 := Sat.use (M := cellsA (z + 1) #[.int .i64 0, .int .i64 0, .slice none 0 0, .slice none 0 0] 38 :: (A3 ++ (R ++ L))) hs5 (by intro x; simp only [cnt_append, cnt_cons, cnt_nil]; omega)
                have hzl : z + 1 < w4.heap.size := hs6.lt m0
                clear hs5
                have z0 : w4.cell? ⟨z + 1, 0, none⟩ = some (.int .i64 0) := hs6.cell m0 0
                have z1 : w4.cell? ⟨z + 1, 1, none⟩ = some (.int .i64 0) := hs6.cell m0 1
                have z2 : w4.cell? ⟨z + 1, 2, none⟩ = some (.slice none 0 0) := hs6.cell m0 2
                have z3 : w4.cell? ⟨z + 1, 3, none⟩ = some (.slice none 0 0) := hs6.cell m0 3
                have f0 := hs6.free m0 0
                have f1 := hs6.free m0 1
                have f2 := hs6.free m0 2
                have f3 := hs6.free m0 3
                have hz := Sat.setCell (Sat.setCell (Sat.setCell (Sat.setCell hs6 0 (.int .i64 0)) 1 (.int .i64 boot)) 2 (.slice pa pn pc)) 3 (.slice ia im ic)
                clear hs6
                go_wp2_with fail
                refine bodyPost_ret (v := .tuple #[repV 0 boot (.slice pa pn pc) (.slice ia im ic), .nilIface]) (by simp [results, Tryz.results13, go_sem, repV, *]) rfl ?_
                exact ⟨y, .ok boot ⟨0, ps, is⟩, _, _, rfl, HT1.out _ _ (by rw [HT.out]; exact .inr (.inr ⟨rfl, HDD.out, HFU.out, y, .inr ⟨boot, _, HS1.out, rfl, .inl ⟨rfl, rfl⟩⟩⟩)), A3, R, ⟨rfl, rfl, _, _, rfl, HRA.out⟩, hA3, (hz.alloc _).tail.use (by intro x; simp only [cnt_append, cnt_cons, cnt_nil]; omega)⟩
              · have hq : (code != 0) = true := by simpa using hc
                have hsa := hs5.alloc (.cells #[.int .i64 code, .int .i64 boot, .slice pa pn pc, .slice ia im ic] 38)
                have HC := Lib.hid hc
                clear hs5 hc
                go_wp2_with fail
                refine (at_code k code W _ _ hsa).mono ?_; rintro r w8 ⟨be, rfl, hs8⟩
                have hs9 := Sat.use (M := cellsA (z + 1) #[.int .i64 0, .int .i64 0, .slice none 0 0, .slice none 0 0] 38 :: (onA be k (code) :: ((A3 ++ R) ++ L))) hs8 (by intro x; simp only [cnt_append, cnt_cons, cnt_nil]; omega)
                clear hs8 hsa
                have z0 : w8.cell? ⟨z + 1, 0, none⟩ = some (.int .i64 0) := hs9.cell m0 0
                have z1 : w8.cell? ⟨z + 1, 1, none⟩ = some (.int .i64 0) := hs9.cell m0 1
                have z2 : w8.cell? ⟨z + 1, 2, none⟩ = some (.slice none 0 0) := hs9.cell m0 2
                have z3 : w8.cell? ⟨z + 1, 3, none⟩ = some (.slice none 0 0) := hs9.cell m0 3
                have f0 := hs9.free m0 0
                have f1 := hs9.free m0 1
                have f2 := hs9.free m0 2
                have f3 := hs9.free m0 3
                have hz := Sat.setCell (Sat.setCell (Sat.setCell (Sat.setCell hs9 0 (.int .i64 0)) 1 (.int .i64 0)) 2 (.slice none 0 0)) 3 (.slice none 0 0)
                clear hs9
                go_wp2_with fail
                refine bodyPost_ret (v := .tuple #[repV 0 0 (.slice none 0 0) (.slice none 0 0), .iface 85 (.pointer (some ⟨be, 0, none⟩))]) (by simp [results, Tryz.results13, go_sem, repV, *]) rfl ?_
                exact ⟨y, .err code, _, _, A3, _, rfl, HT1.out _ _ (by rw [HT.out]; exact .inr (.inr ⟨rfl, HDD.out, HFU.out, y, .inr ⟨boot, _, HS1.out, rfl, .inr ⟨HC.out, rfl⟩⟩⟩)), ⟨rfl, be, rfl, rfl⟩, hA3, hz.tail.use (by intro x; simp only [cnt_append, cnt_cons, cnt_nil]; omega)⟩
end Go.Proofs.YtekbbpfnkbanjaaGreatDoor.Ch

namespace Go.Proofs.YtekbbpfnkbanjaaGreatDoor.Ch
set_option linter.unusedSimpArgs false
open Go Go.RowKit Go.Sl Go.BigFrame
set_option linter.unusedVariables false

theorem same_ints (v v2 : Value) (l m : List Int) (w : World) (h1 : Reads w v l.length (intsC l)) (h2 : Reads w v2 m.length (intsC m)) (hl : l.length < 1000000) (hm : m.length < 1000000) :
    Calls Tryz.prog 22 #[v, v2] w fun e w' => e = .returned (.bool (decide (l = m))) ∧ Sl.Inert w w' ∧ Below w.heap.size w w' := by
  obtain ⟨a1, c1, rfl⟩ := reads_shape h1
  obtain ⟨a2, c2, rfl⟩ := reads_shape h2
  by_cases hlen : l.length = m.length
  · have HLM := Lib.hid hlen
    have H1 := Lib.hid h1
    have H2 := Lib.hid h2
    obtain ⟨n, hn⟩ : ∃ n, n = l.length := ⟨_, rfl⟩
    have hn2 : n = m.length := by rw [hn, hlen]
    have HN := Lib.hid hn
    have HN2 := Lib.hid hn2
    rw [← hn] at hl ⊢
    rw [← hn2]
    clear h1 h2 hn hn2 hlen hm
    go_enter Tryz.func22, Tryz.ntmps22
    go_wp2_with fail
    go_loopw [5] (fun kv wr => ∃ k : Nat, kv = .int .i64 k ∧ k ≤ n ∧ l.take k = m.take k ∧ Sl.Inert w wr ∧ Below w.heap.size w wr) (fun kv _ => (n - (intOf kv).toNat))
    case atStart => exact ⟨0, rfl, Nat.zero_le _, rfl, Sl.Inert.refl w, Below.refl _ w⟩
    case round =>
      obtain ⟨k, rfl, hk, hlt, hi, hb⟩ := hrel
      have k0 : (0 : Int) ≤ k := by omega
      have HLT := Lib.hid hlt
      have HI := Lib.hid hi
      have HB := Lib.hid hb
      clear hlt hi hb
      by_cases hkn : k < n
      · have k1 : (k : Int) < n := by omega
        obtain ⟨x, hx⟩ : ∃ x, l[k]? = some x := ⟨_, List.getElem?_eq_getElem (by have := HN.out; omega)⟩
        obtain ⟨y, hy⟩ : ∃ y, m[k]? = some y := ⟨_, List.getElem?_eq_getElem (by have := HN2.out; omega)⟩
        rcases (H1.out.grown HB.out) with ⟨_, hz, _⟩ | ⟨a, c, e1, hc1⟩
        · have := HN.out; omega
        rcases (H2.out.grown HB.out) with ⟨_, hz, _⟩ | ⟨a', c', e2, hc2⟩
        · have := HN2.out; omega
        cases e1
        cases e2
        have d1 : wr.cell? (a.add k) = some (.int .i64 x) := hc1 k _ (intsC_get hx)
        have d2 : wr.cell? (a'.add k) = some (.int .i64 y) := hc2 k _ (intsC_get hy)
        have HX := Lib.hid hx
        have HY := Lib.hid hy
        clear hc1 hc2 hx hy
        have d1' : wr.drew.cell? (a.add k) = some (.int .i64 x) := d1
        have d2' : wr.drew.cell? (a'.add k) = some (.int .i64 y) := d2
        go_wp2_with fail
        refine wp_region_one [] [] [] [] [0, 1, 2, 3, 4, 5, 6, 7, 8] (by kernel_rfl) (by kernel_rfl) ?_
        repeat (first | (refine can_pu1 rfl rfl rfl rfl rfl rfl (fun K hK => ?_); go_big_quiet_op; refine hK _ ?_; clear hK K) | (refine can_st1 rfl rfl rfl rfl rfl rfl (fun K hK => ?_); go_big_quiet_op; refine hK _ ?_; clear hK K) | (refine can_early1 rfl rfl rfl rfl rfl (fun K hK => ?_); go_big_quiet_op; refine hK _ ?_; clear hK K) | (refine can_skip rfl rfl rfl ?_; simp only [Act.put, List.setIfInBounds_toArray, List.set_cons_zero, List.set_cons_succ]))
        refine can_end1 ?_; (try simp only [Exit.then])
        by_cases hxy : x = y
        · subst hxy
          go_wp2_with fail
          refine ⟨⟨k + 1, by simp, by omega, ?_, HI.out.trans (Sl.Inert.drew _), HB.out.trans ((Below.refl _ wr).drew.mono (by exact HI.out.size))⟩, ?_⟩
          · rw [take_snoc HX.out, take_snoc HY.out, HLT.out]
          · simp [intOf]
            omega
        · have q : (x != y) = true := by simpa using hxy
          have HXY := Lib.hid hxy
          clear hxy
          go_wp2_with fail
          go_ret
          refine ⟨?_, HI.out.trans (Sl.Inert.drew _), HB.out.trans ((Below.refl _ wr).drew.mono (by exact HI.out.size))⟩
          have hne : ¬ l = m := by
            intro e
            subst e
            have h := HX.out
            rw [HY.out] at h
            exact HXY.out (Option.some.inj h).symm
          rw [decide_eq_false hne]
          rfl
      · obtain rfl : k = n := by omega
        have e : l = m := by
          have h := HLT.out
          rwa [List.take_of_length_le (by have := HN.out; omega), List.take_of_length_le (by have := HN2.out; omega)] at h
        have HE := Lib.hid e
        clear e
        go_wp2_with fail
        go_ret
        exact ⟨by rw [decide_eq_true HE.out]; rfl, HI.out, HB.out⟩
  · have q : ((l.length : Int) != m.length) = true := by simp; omega
    rw [decide_eq_false (fun e => hlen (by rw [e]))]
    clear h1 h2 hlen
    go_enter Tryz.func22, Tryz.ntmps22
    go_wp2_with fail
    go_ret
    exact ⟨rfl, Sl.Inert.refl w, Below.refl _ w⟩

/-- A wire that is being made: so many nodes stand in it. -/
def newC (ps : List (Nat × Nd)) : Array Value := (ps.map ptrOf ++ (List.replicate (8 - ps.length) (Value.pointer none) ++ (List.replicate 8 (Value.bool false) ++ ([.slice none 0 0, .int .i64 (-1), .bool false, .int .i64 0] : List Value)))).toArray
theorem newC_get {ps : List (Nat × Nd)} (h : ps.length < 8) : (newC ps)[ps.length]? = some (.pointer none) := by
  simp only [newC, List.getElem?_toArray]
  rw [List.getElem?_append_right (by simp), List.length_map, Nat.sub_self, List.getElem?_append_left (by simp; omega)]
  simp [List.getElem?_replicate]
  omega
theorem newC_set {ps : List (Nat × Nd)} (h : ps.length < 8) (p : Nat × Nd) : (newC ps).setIfInBounds ps.length (ptrOf p) = newC (ps ++ [p]) := by
  simp only [newC, List.setIfInBounds_toArray]
  obtain ⟨r, hr⟩ : ∃ r, 8 - ps.length = r + 1 := ⟨8 - ps.length - 1, by omega⟩
  have h2 : 8 - (ps ++ [p]).length = r := by simp; omega
  rw [List.set_append_right _ _ (by simp), List.length_map, Nat.sub_self, hr, h2, List.map_append, List.append_assoc]
  rfl
def wr0 (ps : List (Nat × Nd)) : Wr := ⟨ps, List.replicate 8 false, [], -1, false, 0⟩
theorem newC_all {ps : List (Nat × Nd)} (h : ps.length = 8) : newC ps = wrC (.slice none 0 0) (wr0 ps) := by
  unfold newC wrC wr0
  rw [h]
  rfl
theorem NodesA.snoc {n : Nd} {b : Nat} {A1 : List Atom} : ∀ {ps : List (Nat × Nd)} {A : List Atom}, NodesA ps A → NodA b n A1 → ∃ A', NodesA (ps ++ [(b, n)]) A' ∧ ∀ x, cnt x A' = cnt x A + cnt x A1
  | [], A, h, hn => ⟨A1, ⟨A1, [], hn, rfl, by simp⟩, fun x => by rw [show A = [] from h, cnt_nil]; omega⟩
  | p :: ps, A, ⟨B1, B2, h1, h2, h3⟩, hn => by
    subst h3
    obtain ⟨A', g1, g2⟩ := NodesA.snoc h2 hn
    exact ⟨B1 ++ A', ⟨B1, A', h1, g1, rfl⟩, fun x => by rw [cnt_append, g2, cnt_append]; omega⟩
set_option maxRecDepth 100000 in
set_option maxHeartbeats 4000000 in
theorem wnew_any (W w : World) (L : List Atom) (hs : Sat W w L) :
    Calls Tryz.prog 6 #[] w fun e w' => ∃ b ps A, e = .returned (.pointer (some ⟨b, 0, none⟩)) ∧ ps.length = 8 ∧ (∀ p ∈ ps, p.2 = nd0) ∧ WrA b (wr0 ps) A ∧ Sat W w' (A ++ L) := by
  have hs1 : Sat W _ (cellsA w.heap.size (newC []) 64 :: L) := hs.newCells _ _
  clear hs
  go_enter Tryz.func6, Tryz.ntmps6
  go_wp2_with fail
  generalize w.heap.size = b at *
  go_loopw [5] (fun kv wr => ∃ (ps : List (Nat × Nd)) (An : List Atom), kv = .int .i64 ps.length ∧ ps.length ≤ 8 ∧ (∀ p ∈ ps, p.2 = nd0) ∧ NodesA ps An ∧ Sat W wr (cellsA b (newC ps) 64 :: (An ++ L))) (fun kv _ => (8 - (intOf kv).toNat))
  case atStart => exact ⟨[], [], rfl, by simp, (fun p hp => by cases hp), rfl, hs1⟩
  case round =>
    clear hs1
    obtain ⟨ps, An, rfl, hk, hall, hna, hs⟩ := hrel
    obtain ⟨k, hkp⟩ : ∃ k, k = ps.length := ⟨_, rfl⟩
    have HK := Lib.hid hkp
    rw [← hkp] at hk
    rw [← hkp]
    clear hkp
    have k0 : (0 : Int) ≤ k := by omega
    by_cases hk8 : k < 8
    · have k1 : (k : Int) < 8 := by omega
      have hnn := node_new W wr.drew _ hs.drew
      have HNN := Lib.hid hnn
      clear hnn hs
      go_wp2_with fail
      refine wp_region_one [2, 6] [0, 1, 3, 4] [0, 1, 3, 4] [] [0, 1, 3, 4, 2, 5, 6] (by kernel_rfl) (by kernel_rfl) ?_
      repeat (first | (refine can_pu1 rfl rfl rfl rfl rfl rfl (fun K hK => ?_); go_big_quiet_op; refine hK _ ?_; clear hK K) | (refine can_st1 rfl rfl rfl rfl rfl rfl (fun K hK => ?_); go_big_quiet_op; refine hK _ ?_; clear hK K) | (refine can_early1 rfl rfl rfl rfl rfl (fun K hK => ?_); go_big_quiet_op; refine hK _ ?_; clear hK K) | (refine can_skip rfl rfl rfl ?_; simp only [Act.put, List.setIfInBounds_toArray, List.set_cons_zero, List.set_cons_succ]))
      refine can_act1 rfl rfl rfl (fun K hK => ?_)
      go_wp2_with fail
      refine HNN.out.mono ?_; rintro r w3 ⟨n, A1, rfl, hn, hs2⟩
      apply hK
      clear hK HNN
      have hs3 := Sat.use (M := cellsA b (newC ps) 64 :: (A1 ++ (An ++ L))) hs2 (by intro x; simp only [cnt_append, cnt_cons, cnt_nil]; omega)
      clear hs2
      have ek : w3.cell? ⟨b, k, none⟩ = some (.pointer none) := by rw [hs3.cell m0 k, HK.out]; exact newC_get (by have := HK.out; omega)
      have fk := hs3.free m0 k
      have hz := Sat.setCell hs3 k (ptrOf (n, nd0))
      rw [HK.out, newC_set (by have := HK.out; omega), ← HK.out] at hz
      have HZ := Lib.hid hz
      clear hs3 hz
      repeat (first | (refine can_pu1 rfl rfl rfl rfl rfl rfl (fun K hK => ?_); go_big_quiet_op; refine hK _ ?_; clear hK K) | (refine can_st1 rfl rfl rfl rfl rfl rfl (fun K hK => ?_); go_big_quiet_op; refine hK _ ?_; clear hK K) | (refine can_early1 rfl rfl rfl rfl rfl (fun K hK => ?_); go_big_quiet_op; refine hK _ ?_; clear hK K) | (refine can_skip rfl rfl rfl ?_; simp only [Act.put, List.setIfInBounds_toArray, List.set_cons_zero, List.set_cons_succ]))
      refine can_act1 rfl rfl rfl (fun K hK => ?_)
      go_wp2_with fail
      refine can_end1 ?_; (try simp only [Exit.then])
      go_wp2_with fail
      obtain ⟨A', hna', hcn⟩ := hna.snoc hn
      refine ⟨⟨ps ++ [(n, nd0)], A', ?_, ?_, ?_, hna', HZ.out.use (by intro y; simp only [cnt_append, cnt_cons, cnt_nil]; have := hcn y; omega)⟩, ?_⟩
      · have := HK.out
        simp
        omega
      · have := HK.out
        simp
        omega
      · intro p hp
        rcases List.mem_append.1 hp with h | h
        · exact hall p h
        · rw [List.mem_singleton.1 h]
      · simp [intOf]
        omega
    · have e8 : k = 8 := by omega
      subst e8
      go_wp2_with fail
      go_ret
      rw [newC_all HK.out.symm] at hs
      exact ⟨b, ps, _, rfl, HK.out.symm, hall, ⟨_, [], An, RowA.nil _ _, hna, HK.out.symm, List.length_replicate, rfl⟩, hs.use (by intro x; simp only [cnt_append, cnt_cons, cnt_nil]; omega)⟩

section
variable {b : Nat} {x : Wr} {A L : List Atom} {W w : World}
set_option maxRecDepth 100000 in
set_option maxHeartbeats 2000000 in
theorem wfates_any (l : List Int) (la : Option Addr) (lc : Nat) (hx : WrA b x A) (hs : Sat W w (A ++ L)) (hin : ∀ y, Sat W y L → Reads y (.slice la l.length lc) l.length (intsC l)) (hcap : l.length ≤ lc) (hl : x.fates.length + l.length ≤ 1000) :
    Calls Tryz.prog 8 #[.pointer (some ⟨b, 0, none⟩), .slice la l.length lc] w fun e w' => ∃ A', e = .returned (.tuple #[]) ∧ WrA b { x with fates := x.fates ++ l } A' ∧ Sat W w' (A' ++ L) := by
  obtain ⟨fv, Rf, An, hf, hn, h8, hd, rfl⟩ := hx
  obtain ⟨ns, down, fates, fuse, dead, sent⟩ := x
  simp only at hf hn h8 hd hl
  obtain ⟨fa, fc, rfl⟩ := Ch.RowA.slice hf
  have hs : Sat W w (cellsA b (wrC (.slice fa fates.length fc) ⟨ns, down, fates, fuse, dead, sent⟩) 64 :: (Rf ++ (An ++ L))) := hs.use (by intro x; simp only [cnt_append, cnt_cons, cnt_nil]; omega)
  have c16 : w.drew.cell? ⟨b, 16, none⟩ = some (.slice fa fates.length fc) := (hs.drew.cell m0 16).trans (wrC_tail h8 hd).1
  obtain ⟨n, hn1⟩ : ∃ n, n = l.length := ⟨_, rfl⟩
  obtain ⟨m, hm1⟩ : ∃ m, m = fates.length := ⟨_, rfl⟩
  have hrow : Sat W w.drew (Rf ++ (cellsA b (wrC (.slice fa fates.length fc) ⟨ns, down, fates, fuse, dead, sent⟩) 64 :: (An ++ L))) := hs.drew.use (by intro x; simp only [cnt_append, cnt_cons, cnt_nil]; omega)
  have hrd := hin _ hs.drew.tail.right.right
  have HN := Lib.hid hn1
  have HM := Lib.hid hm1
  rw [← hn1] at hl hcap hrd ⊢
  rw [← hm1] at hl c16 hf hrow
  have q0 : min (n : Int) (1000 - (m : Int)) = n := by omega
  have q1 : (0 : Int) ≤ n := by omega
  have q2 : (n : Int) ≤ lc := by omega
  have HRD := Lib.hid hrd
  have HRF := Lib.hid hf
  have HRW := Lib.hid hrow
  clear hs hin hn1 hm1 hcap hrd hf hrow
  go_enter Tryz.func8, Tryz.ntmps8
  go_wp2_with fail
  refine wp_region_one [16, 19] [0] [0] [] [0, 1, 2, 3, 4, 5, 6, 7, 8, 9, 10, 11, 12, 13, 14, 15, 16, 17, 18, 19] (by kernel_rfl) (by kernel_rfl) ?_
  repeat (first | (refine can_pu1 rfl rfl rfl rfl rfl rfl (fun K hK => ?_); go_big_quiet_op; refine hK _ ?_; clear hK K) | (refine can_st1 rfl rfl rfl rfl rfl rfl (fun K hK => ?_); go_big_quiet_op; refine hK _ ?_; clear hK K) | (refine can_early1 rfl rfl rfl rfl rfl (fun K hK => ?_); go_big_quiet_op; refine hK _ ?_; clear hK K) | (refine can_skip rfl rfl rfl ?_; simp only [Act.put, List.setIfInBounds_toArray, List.set_cons_zero, List.set_cons_succ]))
  refine can_act1 rfl rfl rfl (fun K hK => ?_)
  refine wp_append_g Tryz.underlying22 infoInt rfl (by decide) (by decide) rfl rfl rfl HRF.out HRW.out HRD.out (by rw [intsC_length, ← HN.out]; simp) (intsC_one l) (by omega) (fun v2 w3 R2 hr2 hs3 => ?_)
  simp only [Act.put, List.setIfInBounds_toArray, List.set_cons_zero, List.set_cons_succ]
  apply hK
  clear hK c16
  obtain ⟨a2, k2, rfl⟩ := Ch.RowA.slice hr2
  have hs4 := Sat.use (M := cellsA b (wrC (.slice fa m fc) ⟨ns, down, fates, fuse, dead, sent⟩) 64 :: (R2 ++ (An ++ L))) hs3 (by intro x; simp only [cnt_append, cnt_cons, cnt_nil]; omega)
  have e16 : w3.cell? ⟨b, 16, none⟩ = some (.slice fa m fc) := (hs4.cell m0 16).trans (wrC_tail h8 hd).1
  have f16 := hs4.free m0 16
  have hz := Sat.setCell hs4 16 (.slice a2 (m + n) k2)
  rw [(wrC_set h8 hd).1 _ (fates ++ l)] at hz
  have HZ := Lib.hid hz
  have HR2 := Lib.hid hr2
  clear hs3 hs4 hz hr2
  repeat (first | (refine can_pu1 rfl rfl rfl rfl rfl rfl (fun K hK => ?_); go_big_quiet_op; refine hK _ ?_; clear hK K) | (refine can_st1 rfl rfl rfl rfl rfl rfl (fun K hK => ?_); go_big_quiet_op; refine hK _ ?_; clear hK K) | (refine can_early1 rfl rfl rfl rfl rfl (fun K hK => ?_); go_big_quiet_op; refine hK _ ?_; clear hK K) | (refine can_skip rfl rfl rfl ?_; simp only [Act.put, List.setIfInBounds_toArray, List.set_cons_zero, List.set_cons_succ]))
  refine can_act1 rfl rfl rfl (fun K hK => ?_)
  go_wp2_with fail
  refine can_end1 ?_; (try simp only [Exit.then])
  go_wp2_with fail
  go_end0
  have e : m + n = (fates ++ l).length := by rw [HM.out, HN.out, List.length_append]
  have h2 : RowA 3 1 (.slice a2 (m + n) k2) (fates ++ l).length (intsC (fates ++ l)) R2 := by
    rw [← e, intsC, List.map_append]
    exact HR2.out
  have hz := HZ.out
  first
    | exact ⟨_, rfl, ⟨_, R2, An, h2, hn, h8, hd, rfl⟩, hz.use (by intro x; simp only [cnt_append, cnt_cons, cnt_nil]; omega)⟩
    | exact ⟨rfl, _, ⟨_, R2, An, h2, hn, h8, hd, rfl⟩, hz.use (by intro x; simp only [cnt_append, cnt_cons, cnt_nil]; omega)⟩
end
end Go.Proofs.YtekbbpfnkbanjaaGreatDoor.Ch

namespace Go.Proofs.YtekbbpfnkbanjaaGreatDoor.Ch
set_option linter.unusedSimpArgs false
open Go Go.RowKit Go.Sl Go.BigFrame
set_option linter.unusedVariables false

def qF : Rq := ⟨4, 0, 0, 0, []⟩
def Nd.flu (n : Nd) : Nd := ⟨n.q.fl, n.g, n.boot⟩
theorem reqOk_flush : reqOk qF := ⟨by decide, by decide, by decide, by decide, by decide, by decide, by decide, by decide, by decide⟩
theorem doR_flush {n n' : Nd} {p : Rp} (h : DoR qF n n' p) : n' = n.flu ∧ p = ⟨0, [], []⟩ := by
  rcases h with ⟨h, _⟩ | ⟨h, _⟩ | ⟨h, _⟩ | ⟨_, h1, h2⟩ | ⟨h, _⟩ | ⟨h, _⟩ | ⟨h, _⟩
  · exact absurd h (by decide)
  · exact absurd h (by decide)
  · exact absurd h (by decide)
  · exact ⟨h1, h2⟩
  · exact absurd h (by decide)
  · exact absurd h (by decide)
  · exact absurd h (by decide)
theorem burnt_id {x : Wr} (h : x.fuse = -1) : x.burnt = x := by
  obtain ⟨ns, down, fates, fuse, dead, sent⟩ := x
  simp only at h
  subst h
  unfold Wr.burnt
  simp
  decide
theorem try_step {k t : Nat} {q : Rq} {x x' : Wr} {r : WR} (hd : x.dead = false) (hk : x.down[k]? = some false) (hf : x.fuse = -1) (h : TryR k q (t + 1) x x' r) :
    ∃ y, (SendR k q x y none ∧ TryR k q t y x' r) ∨ ∃ boot p, SendR k q x y (some (boot, p)) ∧ x' = y ∧ ((p.code = 0 ∧ r = .ok boot p) ∨ (p.code ≠ 0 ∧ r = .err p.code)) := by
  rcases h with ⟨h | h, _⟩ | ⟨_, _, h, _⟩ | ⟨_, _, _, h⟩
  · rw [hd] at h; cases h
  · rw [hk] at h; cases h
  · rw [hf] at h; cases h
  · rw [burnt_id hf] at h
    exact h
/-- A try whose request is lost. -/
theorem try_noreq {k t : Nat} {q : Rq} {x x' : Wr} {r : WR} (hd : x.dead = false) (hk : x.down[k]? = some false) (hf : x.fuse = -1) (h1 : x.fate = 1) (h : TryR k q (t + 1) x x' r) : TryR k q t x.tick x' r := by
  obtain ⟨y, ⟨hs, ht⟩ | ⟨boot, p, hs, _⟩⟩ := try_step hd hk hf h
  · rcases hs with ⟨_, rfl⟩ | ⟨h2, _⟩
    · exact ht
    · rw [h1] at h2; exact absurd h2 (by decide)
  · exact absurd h1 hs.1
/-- A flush that is heard. -/
theorem try_flush {k t b : Nat} {n : Nd} {x x' : Wr} {r : WR} (hd : x.dead = false) (hk : x.down[k]? = some false) (hf : x.fuse = -1) (h1 : x.fate ≠ 1) (h2 : x.fate ≠ 2) (hn : x.ns[k]? = some (b, n)) (h : TryR k qF (t + 1) x x' r) :
    x' = x.tick.put k b (if x.fate = 3 then n.crash [] else n).flu ∧ r = .ok (if x.fate = 3 then n.crash [] else n).boot ⟨0, [], []⟩ := by
  obtain ⟨y, ⟨hs, ht⟩ | ⟨boot, p, hs, rfl, hr⟩⟩ := try_step hd hk hf h
  · rcases hs with ⟨h3, _⟩ | ⟨h3, _⟩
    · exact absurd h3 h1
    · exact absurd h3 h2
  · obtain ⟨_, _, b', n0, n1, n', hn', hn1, hb, hdo, rfl⟩ := hs
    rw [hn] at hn'
    obtain ⟨rfl, rfl⟩ : b = b' ∧ n = n0 := by cases hn'; exact ⟨rfl, rfl⟩
    obtain ⟨rfl, hp⟩ := doR_flush hdo
    simp only at hb hp
    subst hp
    rcases hr with ⟨_, rfl⟩ | ⟨h0, _⟩
    · rw [hb, hn1]
      exact ⟨rfl, rfl⟩
    · exact absurd rfl h0

theorem try_flush0 {k t b : Nat} {n : Nd} {x x' : Wr} {r : WR} (hd : x.dead = false) (hk : x.down[k]? = some false) (hf : x.fuse = -1) (h0 : x.fate ≠ 1 ∧ x.fate ≠ 2 ∧ x.fate ≠ 3) (hn : x.ns[k]? = some (b, n)) (h : TryR k qF (t + 1) x x' r) :
    x' = x.tick.put k b n.flu ∧ r = .ok n.boot ⟨0, [], []⟩ := by
  have h1 := try_flush hd hk hf h0.1 h0.2.1 hn h
  rw [if_neg h0.2.2] at h1
  exact h1
theorem try_flush3 {k t b : Nat} {n : Nd} {x x' : Wr} {r : WR} (hd : x.dead = false) (hk : x.down[k]? = some false) (hf : x.fuse = -1) (h0 : x.fate = 3) (hn : x.ns[k]? = some (b, n)) (h : TryR k qF (t + 1) x x' r) :
    x' = x.tick.put k b (n.crash []).flu ∧ r = .ok (n.boot + 1) ⟨0, [], []⟩ := by
  have h1 := try_flush hd hk hf (by rw [h0]; decide) (by rw [h0]; decide) hn h
  rw [if_pos h0] at h1
  exact h1
theorem flush12 (W w : World) (L : List Atom) (hs : Sat W w L) :
    Calls Tryz.prog 25 #[] w fun e w' => e = .returned (.agg #[.int .i64 4, .int .i64 0, .int .i64 0, .int .i64 0, .slice none 0 0]) ∧ Sat W w' L := by
  go_enter Tryz.func25, Tryz.ntmps25
  go_wp2_with fail
  have h := hs.alloc (.cells #[.int .i64 4, .int .i64 0, .int .i64 0, .int .i64 0, .slice none 0 0] 44)
  clear hs
  refine bodyPost_ret (v := .agg #[.int .i64 4, .int .i64 0, .int .i64 0, .int .i64 0, .slice none 0 0]) (by simp [results, Tryz.results25, go_sem, *]) rfl ?_
  exact ⟨rfl, h⟩
theorem wcall_flush (m b k : Nat) (n : Int) (x : Wr) (A : List Atom) (W w : World) (L : List Atom) (hn : n = k) (hx : WrA b x A) (hs : Sat W w (A ++ L)) (hk8 : k < 8) (hf : WrFit x m) (hm : m < 700000) :
    Calls Tryz.prog 13 #[.pointer (some ⟨b, 0, none⟩), .int .i64 n, .agg #[.int .i64 4, .int .i64 0, .int .i64 0, .int .i64 0, .slice none 0 0]] w fun e w' => ∃ x' r v ev A' R, e = .returned (.tuple #[v, ev]) ∧ TryR k qF 3 x x' r ∧ ResA n v ev R r ∧ WrA b x' A' ∧ Sat W w' (A' ++ (R ++ L)) := by
  subst hn
  exact wcall_any m b k x A qF none 0 W w L hx hs hk8 reqOk_flush (fun y hy => .inl ⟨rfl, rfl, rfl⟩) hf hm

theorem in_on (be : Nat) (n c : Int) (L : List Atom) : Ca.In (onA be n c :: L) (.on be n (.code c)) := by
  unfold Ca.In
  exact ⟨List.mem_cons_self .., by unfold Ca.In; trivial⟩
theorem code_on (be : Nat) (n c : Int) (W w : World) (L : List Atom) (hG : Ca.ErrT w) (hs : Sat W w (onA be n c :: L)) :
    Calls Tryz.prog 18 #[Ca.val (.on be n (.code c))] w fun r w' => r = .returned (.int .i64 c) ∧ Sat W w' (onA be n c :: L) := by
  refine (Ca.code_any (.on be n (.code c)) W w [onA be n c] L (in_on be n c []) hG hs).mono ?_
  rintro r w' ⟨rfl, hs'⟩
  exact ⟨rfl, hs'⟩
theorem nodes_on (be : Nat) (n c : Int) (W w : World) (L : List Atom) (hs : Sat W w (onA be n c :: L)) :
    Calls Tryz.prog 23 #[Ca.val (.on be n (.code c))] w fun r w' => ∃ v R, r = .returned v ∧ RowA 3 1 v [n].length (intsC [n]) R ∧ Sat W w' (R ++ (onA be n c :: L)) := by
  refine (Ca.nodes_any 2 (.on be n (.code c)) (by simp [Ca.ET.size]) (by simp [Ca.nodesE]) W w [onA be n c] L (in_on be n c []) hs).mono ?_
  rintro r w' ⟨v, R, rfl, hr, hs'⟩
  exact ⟨v, R, rfl, hr, hs'⟩

theorem bel {w w' : World} {W : World} {L : List Atom} (hi : Sl.Inert w w') (hb : Below w.heap.size w w') (hs : Sat W w L) : Sat W w' L := hs.below hb
theorem fit0 {ps : List (Nat × Nd)} (hall : ∀ p ∈ ps, p.2 = nd0) (fs : List Int) (hf : fs.length ≤ 1000) : WrFit { wr0 ps with fates := fs } 0 :=
  ⟨fun p hp => by rw [hall p hp]; exact NdFit.start, hf, by show (-1 : Int) ≤ -1; omega, by show (-1 : Int) < _; omega, by show (0 : Int) ≤ 0; omega, by show (0 : Int) ≤ _; omega⟩
theorem known_try1 {ps : List (Nat × Nd)} {x' : Wr} {r : WR} (h : TryR 2 qF 3 { wr0 ps with fates := (wr0 ps).fates ++ [1, 1, 1] } x' r) : x' = { wr0 ps with sent := 3 } ∧ r = .err 5 := by
  have h1 := try_noreq rfl rfl rfl rfl h
  have h2 := try_noreq rfl rfl rfl rfl h1
  have h3 := try_noreq rfl rfl rfl rfl h2
  unfold TryR at h3
  exact h3
theorem known_try2 {ps : List (Nat × Nd)} {b : Nat} {x' : Wr} {r : WR} (hn : ps[2]? = some (b, nd0)) (h : TryR 2 qF 3 { wr0 ps with sent := 3 } x' r) : x' = { wr0 (ps.set 2 (b, nd0.flu)) with sent := 4 } ∧ r = .ok 1 ⟨0, [], []⟩ := by
  have h0 : ({ wr0 ps with sent := 3 } : Wr).fate = 0 := rfl
  exact try_flush0 rfl rfl rfl (by rw [h0]; decide) hn h
set_option maxRecDepth 100000 in
set_option maxHeartbeats 8000000 in
theorem known12_any (W w : World) (L : List Atom) (hs : Sat W w L) (hG : ∀ y, Sat W y L → Ca.ErrT y) :
    Calls Tryz.prog 7 #[] w fun e w' => e = .returned (.bool true) ∧ Sat W w' L := by
  have HG := Lib.hid hG
  have HS := Lib.hid hs
  clear hs hG
  go_enter Tryz.func7, Tryz.ntmps7
  go_wp2_with fail
  refine (wnew_any W _ _ HS.out).mono ?_; rintro r w2 ⟨b, ps, A, rfl, hpl, hall, hA, hs2⟩
  have HPL := Lib.hid hpl
  have HALL := Lib.hid hall
  have hs3 := hs2.newCells #[.int .i64 1, .int .i64 1, .int .i64 1] 3
  have hbw : b < w2.heap.size := by
    obtain ⟨_, _, _, _, _, _, _, rfl⟩ := hA
    exact hs2.lt m0
  obtain ⟨⟨b2, n2⟩, hb2⟩ : ∃ p, ps[2]? = some p := ⟨_, List.getElem?_eq_getElem (by omega)⟩
  obtain rfl : n2 = nd0 := hall _ (List.mem_of_getElem? hb2)
  have HB2 := Lib.hid hb2
  have hsf := Sat.use (M := A ++ (cellsA w2.heap.size #[.int .i64 1, .int .i64 1, .int .i64 1] 3 :: L)) hs3 (by intro x; simp only [cnt_append, cnt_cons, cnt_nil]; omega)
  have hF := wfates_any (b := b) (x := wr0 ps) [1, 1, 1] (some ⟨w2.heap.size, 0, none⟩) 3 hA hsf (fun y hy => reads_cells hy m0 _ _ _ rfl) (by simp) (by simp [wr0])
  have HF := Lib.hid hF
  clear hs2 hs3 hsf hF hpl hall HS hb2
  go_wp2_with fail
  refine HF.out.mono ?_; rintro r w3 ⟨A3, rfl, hA3, hs4⟩
  clear HF hbw hA
  generalize w2.heap.size = z1 at *
  go_wp2_with fail
  refine (flush12 W _ _ hs4).mono ?_; rintro r w4 ⟨rfl, hs5⟩
  clear hs4
  go_wp2_with fail
  refine (wcall_flush 0 b 2 2 _ A3 W _ _ rfl hA3 hs5 (by omega) (fit0 HALL.out _ (by simp [wr0])) (by omega)).mono ?_
  rintro r w5 ⟨x', rr, v, ev, A5, R5, rfl, hT, hR, hA5, hs6⟩
  obtain ⟨rfl, rfl⟩ := known_try1 hT
  obtain ⟨rfl, be, rfl, rfl⟩ := hR
  unfold repV
  clear hT hs5 hA3
  have hs7 := hs6.alloc (.cells #[.int .i64 0, .int .i64 0, .slice none 0 0, .slice none 0 0] 38)
  clear hs6
  go_wp2_with fail
  refine (flush12 W _ _ hs7).mono ?_; rintro r w6 ⟨rfl, hs8⟩
  clear hs7
  go_wp2_with fail
  refine (wcall_flush 3 b 2 2 _ A5 W _ _ rfl hA5 hs8 (by omega) ⟨fun p hp => by rw [HALL.out p hp]; exact NdFit.start.mono (by omega), by simp [wr0], by show (-1 : Int) ≤ -1; omega, by show (-1 : Int) < _; omega, by show (0 : Int) ≤ 3; omega, by show (3 : Int) ≤ _; omega⟩ (by omega)).mono ?_
  rintro r w7 ⟨x', rr, v, ev, A7, R7, rfl, hT, hR, hA7, hs9⟩
  obtain ⟨rfl, rfl⟩ := known_try2 HB2.out hT
  obtain ⟨_, rfl, pv, iv, rfl, hra⟩ := hR
  obtain ⟨pa, pn, pc, ia, im, ic, rfl, rfl⟩ := hra.shape
  unfold repV
  clear hT hs8 hA5 hra
  have hs10 := hs9.newCells #[.int .i64 0, .int .i64 1, .slice pa pn pc, .slice ia im ic] 38
  have u1 := Ca.neq_val (.on be 2 (.code 5))
  have u2 := Ca.guardn_nil (.on be 2 (.code 5))
  have hsA := Sat.use (M := onA be 2 5 :: (A7 ++ (cellsA w7.heap.size #[.int .i64 0, .int .i64 1, .slice pa pn pc, .slice ia im ic] 38 :: L))) hs10 (by intro x; simp only [cnt_append, cnt_cons, cnt_nil]; omega)
  clear hs9 hs10
  go_wp2_with fail
  refine (code_on be 2 5 W _ _ (HG.out _ hsA.tail.right.tail) hsA).mono ?_; rintro r w8 ⟨rfl, hsB⟩
  clear hsA
  generalize w7.heap.size = z7 at *
  go_wp2_with fail
  refine (nodes_on be 2 5 W _ _ hsB).mono ?_; rintro r w9 ⟨nv, R9, rfl, hr9, hsC⟩
  clear hsB
  have hsD := hsC.newCells #[.int .i64 2] 3
  have hrd := hr9.reads hsD.tail
  obtain ⟨na, nc, rfl⟩ := Ch.RowA.slice hr9
  have hsi := same_ints _ (.slice (some ⟨w9.heap.size, 0, none⟩) 1 1) [2] [2] _ hrd (reads_cells hsD m0 _ _ _ rfl) (by simp) (by simp)
  have HSI := Lib.hid hsi
  clear hrd hsi
  go_wp2_with fail
  refine HSI.out.mono ?_; rintro r w10 ⟨rfl, hi, hb⟩
  have hsE := bel hi hb hsD
  clear HSI hi hb hsC hsD
  generalize w9.heap.size = z9 at *
  have hsF := Sat.use (M := cellsA z7 #[.int .i64 0, .int .i64 1, .slice pa pn pc, .slice ia im ic] 38 :: (A7 ++ L)) hsE (by intro x; simp only [cnt_append, cnt_cons, cnt_nil]; omega)
  clear hsE
  have e1 : w10.cell? ⟨z7, 1, none⟩ = some (.int .i64 1) := hsF.cell m0 1
  go_wp2_with fail
  refine (wsent_any hA7 (Sat.use hsF.tail (M := A7 ++ L) (by intro x; simp only [cnt_append, cnt_cons, cnt_nil]; omega))).mono ?_; rintro r w11 ⟨rfl, rfl⟩
  go_wp2_with fail
  go_ret
  exact ⟨rfl, hsF.tail.right⟩
end Go.Proofs.YtekbbpfnkbanjaaGreatDoor.Ch
