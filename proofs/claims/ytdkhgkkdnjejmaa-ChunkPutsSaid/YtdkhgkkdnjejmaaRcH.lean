/-
  The document's ReadPiece.
-/
import Derived.Test.YtdkhgkkdnjejmaaRcG
import Derived.Test.YtdkhgkkdnjejmaaChV
namespace Go.Proofs.Ytdkhgkkdnjejmaa.Ch
set_option linter.unusedSimpArgs false
open Go Go.RowKit Go.Sl Go.BigFrame
set_option linter.unusedVariables false

theorem numB_inj : ∀ (l m : List UInt8), l.length = m.length → numB l = numB m → l = m
  | [], [], _, _ => rfl
  | [], _ :: _, h, _ => by simp at h
  | _ :: _, [], h, _ => by simp at h
  | c :: l, d :: m, h, e => by
    have hl : l.length = m.length := by simpa using h
    rw [numB_cons, numB_cons, hl] at e
    obtain ⟨a0, a1⟩ := numB_bounds l m.length hl
    obtain ⟨b0, b1⟩ := numB_bounds m m.length rfl
    have hP : (256 : Int) ^ m.length ≠ 0 := by omega
    have e1 : ((c.toNat : Int) * 256 ^ m.length + numB l) / 256 ^ m.length = c.toNat := by
      rw [Int.add_comm, Int.add_mul_ediv_right _ _ hP, Int.ediv_eq_zero_of_lt a0 a1, Int.zero_add]
    have e2 : ((d.toNat : Int) * 256 ^ m.length + numB m) / 256 ^ m.length = d.toNat := by
      rw [Int.add_comm, Int.add_mul_ediv_right _ _ hP, Int.ediv_eq_zero_of_lt b0 b1, Int.zero_add]
    have hcd : (c.toNat : Int) = d.toNat := by rw [← e1, e, e2]
    have hcd' : c.toNat = d.toNat := by omega
    obtain rfl : c = d := UInt8.toNat_inj.1 hcd'
    have : numB l = numB m := by omega
    rw [numB_inj l m hl this]
theorem bytes_num (l : List UInt8) (k : Nat) (h : l.length = k) : bytesB (numB l) k = l := by
  obtain ⟨a0, a1⟩ := numB_bounds l k h
  exact numB_inj _ _ (by rw [bytesB_length, h]) (num_bytes_of _ _ a0 a1)
theorem piece_back (b : List UInt8) (h : 8 ≤ b.length) : pieceB (pieceOf b) = b := by
  rcases b with _ | ⟨a0, _ | ⟨a1, _ | ⟨a2, _ | ⟨a3, _ | ⟨a4, _ | ⟨a5, _ | ⟨a6, _ | ⟨a7, D⟩⟩⟩⟩⟩⟩⟩⟩
  all_goals first | (simp only [List.length_cons, List.length_nil] at h; omega) | skip
  have e : pieceB (pieceOf (a0 :: a1 :: a2 :: a3 :: a4 :: a5 :: a6 :: a7 :: D)) = bytesB (numB [a0]) 1 ++ (bytesB (numB [a1, a2, a3, a4, a5, a6]) 6 ++ (bytesB (numB [a7]) 1 ++ D)) := by
    have n0 : numB [a0] = a0.toNat := by simp [numB, numStep]
    have n7 : numB [a7] = a7.toNat := by simp [numB, numStep]
    rw [n0, n7]
    unfold pieceB
    simp [pieceOf]
  rw [e, bytes_num [a0] 1 rfl, bytes_num [a1, a2, a3, a4, a5, a6] 6 rfl, bytes_num [a7] 1 rfl]
  rfl
theorem open_good (b : List UInt8) (h : (openB b).2.2 = 0) : sealB (openB b).1 (openB b).2.1 = b := by
  unfold openB at h ⊢
  split at h
  · exact absurd h (by decide)
  · rename_i h1
    rw [if_neg h1]
    split at h
    · exact absurd h (by decide)
    · rename_i h2
      rw [if_neg h2]
      simp only at h ⊢
      split at h
      · exact absurd h (by decide)
      · rename_i h3
        rw [if_neg h3]
        simp only
        exact Classical.not_not.1 (fun h4 => h3 (.inr h4))
theorem open_len (b : List UInt8) : (openB b).2.1.length ≤ 153 := by
  unfold openB
  split
  · simp
  · split
    · simp
    · simp only
      split
      · simp
      · simp only [List.length_take]
        omega

set_option maxRecDepth 100000 in
set_option maxHeartbeats 4000000 in
theorem ref_read (W w : World) (L : List Atom) (v : Value) (b : List UInt8) (hs : Sat W w L) (hin : ∀ y, Sat W y L → Reads y v b.length (bts b)) (hl : b.length < 1000000) (hcap : ∀ a n c, v = .slice a n c → n ≤ c) :
    Calls Try.prog 40 #[v] w fun r w' => ∃ bv R, r = .returned (.tuple #[pcV (readP b) bv, .bool (readB b).isSome]) ∧ RowA 5 1 bv (readP b).data.length (bts (readP b).data) R ∧ Sat W w' (R ++ L) := by
  obtain ⟨av, nv, cv, rfl⟩ : ∃ a n c, v = .slice a n c := by
    obtain ⟨a, c, h⟩ := reads_shape (hin w hs)
    exact ⟨_, _, _, h⟩
  have HIN := Lib.hid hin
  have HCAP := Lib.hid hcap
  have HGOOD := Lib.hid (open_good b)
  have hol : (openB b).2.1.length ≤ 153 := open_len b
  clear hin hcap
  obtain ⟨p, hp⟩ : ∃ p, p = readP b := ⟨_, rfl⟩
  obtain ⟨is, hi⟩ : ∃ is, is = (readB b).isSome := ⟨_, rfl⟩
  rw [← hp, ← hi]
  have hrb : ∃ q, readB b = q ∧ p = q.getD pc0 ∧ is = q.isSome := ⟨_, rfl, hp, hi⟩
  clear hp hi
  obtain ⟨q, hq, hp, hi⟩ := hrb
  unfold readB at hq
  go_enter Try.func40, Try.ntmps40
  go_wp2_with fail
  refine (ref_open W _ _ _ b (hs.newCells #[.int .i64 0, .int .i64 0, .int .i64 0, .slice none 0 0] 45) (fun y hy => HIN.out y hy.tail) hl HCAP.out).mono ?_
  rintro r w2 ⟨bv, R, rfl, hbr, hs2⟩
  generalize openB b = ob at *
  obtain ⟨k, body, e⟩ := ob
  simp only at hq hbr HGOOD hol ⊢
  have HQ := Lib.hid hq
  have HP := Lib.hid hp
  have HI := Lib.hid hi
  clear hs hq hp hi
  obtain ⟨ab, cb, rfl⟩ := Ch.RowA.slice hbr
  generalize w.heap.size = z at *
  have hs2' : Sat W w2 (cellsA z #[.int .i64 0, .int .i64 0, .int .i64 0, .slice none 0 0] 45 :: (R ++ L)) := hs2.use (by intro x; simp only [cnt_append, cnt_cons, cnt_nil]; omega)
  have z0 : w2.cell? ⟨z, 0, none⟩ = some (.int .i64 0) := hs2'.cell m0 0
  have z1 : w2.cell? ⟨z, 1, none⟩ = some (.int .i64 0) := hs2'.cell m0 1
  have z2 : w2.cell? ⟨z, 2, none⟩ = some (.int .i64 0) := hs2'.cell m0 2
  have z3 : w2.cell? ⟨z, 3, none⟩ = some (.slice none 0 0) := hs2'.cell m0 3
  have f0 : w2.frozen? ⟨z, 0, none⟩ = false := hs2'.free m0 0
  have f1 : w2.frozen? ⟨z, 1, none⟩ = false := hs2'.free m0 1
  have f2 : w2.frozen? ⟨z, 2, none⟩ = false := hs2'.free m0 2
  have f3 : w2.frozen? ⟨z, 3, none⟩ = false := hs2'.free m0 3
  clear hs2
  by_cases he : e = 0
  case neg =>
    have hn : q = none := by rw [← HQ.out, if_neg (fun h => he h.1)]
    have q0 : (e != 0) = true := by simpa using he
    have HN := Lib.hid hn
    clear hn he
    go_wp2_with fail
    have hz3 := Sat.setCell (Sat.setCell (Sat.setCell (Sat.setCell hs2' 0 (.int .i64 0)) 1 (.int .i64 0)) 2 (.int .i64 0)) 3 (.slice none 0 0)
    refine bodyPost_ret (v := .tuple #[pcV pc0 (.slice none 0 0), .bool false]) (by simp [results, Try.results40, go_sem, pcV, pc0, *]) rfl ?_
    rw [HP.out, HI.out, HN.out]
    first
      | exact ⟨_, _, rfl, RowA.nil _ _, hz3.tail.use (by intro x; simp only [cnt_append, cnt_cons, cnt_nil]; omega)⟩
      | exact ⟨_, rfl, _, RowA.nil _ _, hz3.tail.use (by intro x; simp only [cnt_append, cnt_cons, cnt_nil]; omega)⟩
  case pos =>
  subst he
  by_cases hk : k = 1
  case neg =>
    have hn : q = none := by rw [← HQ.out, if_neg (fun h => hk h.2.1)]
    have q0 : (k != 1) = true := by simpa using hk
    have HN := Lib.hid hn
    clear hn hk
    go_wp2_with fail
    have hz3 := Sat.setCell (Sat.setCell (Sat.setCell (Sat.setCell hs2' 0 (.int .i64 0)) 1 (.int .i64 0)) 2 (.int .i64 0)) 3 (.slice none 0 0)
    refine bodyPost_ret (v := .tuple #[pcV pc0 (.slice none 0 0), .bool false]) (by simp [results, Try.results40, go_sem, pcV, pc0, *]) rfl ?_
    rw [HP.out, HI.out, HN.out]
    first
      | exact ⟨_, _, rfl, RowA.nil _ _, hz3.tail.use (by intro x; simp only [cnt_append, cnt_cons, cnt_nil]; omega)⟩
      | exact ⟨_, rfl, _, RowA.nil _ _, hz3.tail.use (by intro x; simp only [cnt_append, cnt_cons, cnt_nil]; omega)⟩
  case pos =>
  subst hk
  by_cases hlen : body.length < 8
  case pos =>
    have hn : q = none := by rw [← HQ.out, if_neg (fun h => by have := h.2.2; omega)]
    have q0 : (body.length : Int) < 8 := by omega
    have HN := Lib.hid hn
    clear hn hlen
    go_wp2_with fail
    have hz3 := Sat.setCell (Sat.setCell (Sat.setCell (Sat.setCell hs2' 0 (.int .i64 0)) 1 (.int .i64 0)) 2 (.int .i64 0)) 3 (.slice none 0 0)
    refine bodyPost_ret (v := .tuple #[pcV pc0 (.slice none 0 0), .bool false]) (by simp [results, Try.results40, go_sem, pcV, pc0, *]) rfl ?_
    rw [HP.out, HI.out, HN.out]
    first
      | exact ⟨_, _, rfl, RowA.nil _ _, hz3.tail.use (by intro x; simp only [cnt_append, cnt_cons, cnt_nil]; omega)⟩
      | exact ⟨_, rfl, _, RowA.nil _ _, hz3.tail.use (by intro x; simp only [cnt_append, cnt_cons, cnt_nil]; omega)⟩
  case neg =>
  have h8 : ¬ (body.length : Int) < 8 := by omega
  rcases hbr.2 with ⟨h1, h2, _⟩ | ⟨g, off, cap, h1, hc1, hc2, hR⟩
  · omega
  obtain ⟨rfl, rfl⟩ : ab = some ⟨g, off, none⟩ ∧ cap = cb := by
    cases h1
    exact ⟨rfl, rfl⟩
  have hcell : ∀ y, Sat W y (cellsA z #[.int .i64 0, .int .i64 0, .int .i64 0, .slice none 0 0] 45 :: (R ++ L)) → ∀ k u, body[k]? = some u → y.cell? ((⟨g, off, none⟩ : Addr).add k) = some (.int .u8 (u.toNat : Int)) := fun y hy k u hu => by
    rw [add_row, (hbr.cells hy.tail rfl k (by rw [bts_length]; exact (List.getElem?_eq_some_iff.1 hu).1)).1]
    exact bts_get hu
  have hPC := ref_piece g off cap body W w2 _ hs2' (by omega) (by omega) hc1 hcell
  have hback := piece_back body (by omega)
  have hgood := HGOOD.out rfl
  have hq2 : q = if rightP (pieceOf body) then some (pieceOf body) else none := by
    rw [← HQ.out]
    by_cases hr : rightP (pieceOf body)
    · rw [if_pos hr, if_pos]
      refine ⟨rfl, rfl, ?_⟩
      have h9 := hr.2.2.2.2.2.2
      rw [pieceOf] at h9
      simp only [List.length_drop] at h9
      omega
    · rw [if_neg hr]
      exact ite_self _
  have hlay : layB (pieceOf body) = b := by
    unfold layB
    rw [hback]
    exact hgood
  have HQ2 := Lib.hid hq2
  have HLAY := Lib.hid hlay
  clear hcell hR hc1 hc2 h1 hbr hback hgood hq2 hlay HQ HGOOD hlen hol
  obtain ⟨P, hP⟩ : ∃ P, P = pieceOf body := ⟨_, rfl⟩
  rw [← hP] at HQ2 HLAY hPC
  clear hP
  go_wp2_with fail
  refine hPC.mono ?_; rintro r w3 ⟨dv, R3, rfl, hr3, hs3⟩
  clear hPC z0 z1 z2 z3 f0 f1 f2 f3 hs2'
  obtain ⟨a3, c3, rfl⟩ := Ch.RowA.slice hr3
  have hbad := fun w L hs => ref_lay_bad P a3 c3 W w L hs
  have hgood := fun w L hs hin => ref_lay P a3 c3 W w L hs hin
  obtain ⟨s, n, i, d⟩ := P
  unfold pcV at *
  simp only at *
  have HBAD := Lib.hid hbad
  have HGD := Lib.hid hgood
  clear hbad hgood
  go_wp2_with fail
  have hs4 := Sat.use (M := cellsA z #[.int .i64 0, .int .i64 0, .int .i64 0, .slice none 0 0] 45 :: (cellsA w3.heap.size #[.int .i64 s, .int .i64 n, .int .i64 i, .slice a3 d.length c3] 45 :: (R3 ++ (R ++ L)))) (hs3.newCells #[.int .i64 s, .int .i64 n, .int .i64 i, .slice a3 d.length c3] 45) (by intro x; simp only [cnt_append, cnt_cons, cnt_nil]; omega)
  clear hs3
  by_cases hrp : rightP ⟨s, n, i, d⟩
  case neg =>
    have hn : q = none := by rw [HQ2.out, if_neg hrp]
    have HN := Lib.hid hn
    refine (HBAD.out _ _ hs4 hrp).mono ?_; rintro r w5 ⟨rfl, hs5⟩
    clear hn hrp hs4
    generalize w3.heap.size = z7 at *
    have z0 := hs5.cell m0 0
    have z1 := hs5.cell m0 1
    have z2 := hs5.cell m0 2
    have z3 := hs5.cell m0 3
    have f0 := hs5.free m0 0
    have f1 := hs5.free m0 1
    have f2 := hs5.free m0 2
    have f3 := hs5.free m0 3
    go_wp2_with fail
    have hz3 := Sat.setCell (Sat.setCell (Sat.setCell (Sat.setCell hs5 0 (.int .i64 0)) 1 (.int .i64 0)) 2 (.int .i64 0)) 3 (.slice none 0 0)
    refine bodyPost_ret (v := .tuple #[pcV pc0 (.slice none 0 0), .bool false]) (by simp [results, Try.results40, go_sem, pcV, pc0, *]) rfl ?_
    rw [HP.out, HI.out, HN.out]
    first
      | exact ⟨_, _, rfl, RowA.nil _ _, hz3.tail.use (by intro x; simp only [cnt_append, cnt_cons, cnt_nil]; omega)⟩
      | exact ⟨_, rfl, _, RowA.nil _ _, hz3.tail.use (by intro x; simp only [cnt_append, cnt_cons, cnt_nil]; omega)⟩
  case pos =>
    have hn : q = some ⟨s, n, i, d⟩ := by rw [HQ2.out, if_pos hrp]
    have HN := Lib.hid hn
    refine (HGD.out _ _ hs4 (fun y hy => hr3.reads hy.tail.tail) hrp).mono ?_; rintro r w5 ⟨v5, R5, rfl, hr5, hs5'⟩
    rw [HLAY.out] at hr5
    have hs5 := Sat.use (M := cellsA z #[.int .i64 0, .int .i64 0, .int .i64 0, .slice none 0 0] 45 :: (cellsA w3.heap.size #[.int .i64 s, .int .i64 n, .int .i64 i, .slice a3 d.length c3] 45 :: (R5 ++ (R3 ++ (R ++ L))))) hs5' (by intro x; simp only [cnt_append, cnt_cons, cnt_nil]; omega)
    clear hn hrp hs4 hs5'
    generalize w3.heap.size = z7 at *
    have hc1 := str_of _ b w5 (hr5.reads hs5.tail.tail)
    have hc2 := str_of _ b w5 (HIN.out w5 hs5.tail.tail.right.right.right)
    have z0 := hs5.cell m0 0
    have z1 := hs5.cell m0 1
    have z2 := hs5.cell m0 2
    have z3 := hs5.cell m0 3
    have f0 := hs5.free m0 0
    have f1 := hs5.free m0 1
    have f2 := hs5.free m0 2
    have f3 := hs5.free m0 3
    have g0 := hs5.cell m1 0
    have g1 := hs5.cell m1 1
    have g2 := hs5.cell m1 2
    have g3 := hs5.cell m1 3
    go_wp2_with fail
    have hz3 := Sat.setCell (Sat.setCell (Sat.setCell (Sat.setCell hs5 0 (.int .i64 s)) 1 (.int .i64 n)) 2 (.int .i64 i)) 3 (.slice a3 d.length c3)
    refine bodyPost_ret (v := .tuple #[pcV ⟨s, n, i, d⟩ (.slice a3 d.length c3), .bool true]) (by simp [results, Try.results40, go_sem, pcV, pc0, *]) rfl ?_
    rw [HP.out, HI.out, HN.out]
    first
      | exact ⟨_, _, rfl, hr3, hz3.tail.tail.use (by intro x; simp only [cnt_append, cnt_cons, cnt_nil]; omega)⟩
      | exact ⟨_, rfl, _, hr3, hz3.tail.tail.use (by intro x; simp only [cnt_append, cnt_cons, cnt_nil]; omega)⟩
end Go.Proofs.Ytdkhgkkdnjejmaa.Ch
