/-
  Laws of blocks and pieces: what is laid is read.
-/
import Derived.Test.YtdkhgkkdnjejmaaChU
namespace Go.Proofs.Ytdkhgkkdnjejmaa.Ch
set_option linter.unusedSimpArgs false
open Go Go.RowKit Go.Sl Go.BigFrame
set_option linter.unusedVariables false

theorem foldl_num (l : List UInt8) : ∀ n : Int, l.foldl numStep n = n * 256 ^ l.length + numB l := by
  induction l with
  | nil => intro n; simp [numB]
  | cons d l ih =>
    intro n
    have h0 : numB (d :: l) = l.foldl numStep (numStep 0 d) := rfl
    rw [List.foldl_cons, ih, h0, ih, List.length_cons, Int.pow_succ]
    unfold numStep
    generalize (256 : Int) ^ l.length = P
    generalize numB l = N
    rw [Int.add_mul, Int.zero_mul, Int.zero_add, Int.mul_assoc n 256 P, Int.mul_comm 256 P]
    omega
theorem numB_cons (c : UInt8) (l : List UInt8) : numB (c :: l) = c.toNat * 256 ^ l.length + numB l := by
  have h0 : numB (c :: l) = l.foldl numStep (numStep 0 c) := rfl
  rw [h0, foldl_num]
  unfold numStep
  simp
theorem num_bytes (m : Nat) : ∀ k, numB (bytesB (m : Int) k) = ((m % 256 ^ k : Nat) : Int)
  | 0 => by
    simp only [bytesB, Nat.pow_zero, Nat.mod_one]
    rfl
  | k + 1 => by
    rw [bytesB, numB_cons, bytesB_length, byteAt_val, num_bytes m k, Nat.pow_succ, Nat.mod_mul]
    have e2 : (256 : Int) ^ k = ((256 ^ k : Nat) : Int) := (Int.natCast_pow 256 k).symm
    have e : (2 : Int) ^ (8 * k) = ((256 ^ k : Nat) : Int) := by
      rw [Int.pow_mul, ← e2]
      rfl
    rw [e, e2]
    generalize (256 ^ k : Nat) = P
    have e3 : ((m / P % 256 : Nat) : Int) = (m : Int) / P % 256 := by rw [Int.natCast_emod, Int.natCast_ediv]; rfl
    rw [← e3, Int.natCast_add, Int.natCast_mul, Int.mul_comm, Int.add_comm]
theorem num_bytes_of (n : Int) (k : Nat) (h0 : 0 ≤ n) (h1 : n < 256 ^ k) : numB (bytesB n k) = n := by
  obtain ⟨m, rfl⟩ : ∃ m : Nat, n = m := ⟨n.toNat, by omega⟩
  rw [num_bytes, Nat.mod_eq_of_lt]
  have e2 : (256 : Int) ^ k = ((256 ^ k : Nat) : Int) := (Int.natCast_pow 256 k).symm
  rw [e2] at h1
  exact Int.ofNat_lt.1 h1

theorem open_seal (kind : Int) (body : List UInt8) (h0 : 1 ≤ kind) (h1 : kind ≤ 255) (hb : body.length ≤ 153) : openB (sealB kind body) = (kind, body, 0) := by
  have hl := sealB_length kind body hb
  have hh := headB_length kind body hb
  have ht : (sealB kind body).take 156 = headB kind body := by unfold sealB; rw [List.take_append_of_le_length (by omega), List.take_of_length_le (by omega)]
  have hd : (sealB kind body).drop 156 = bytesB (sumB (headB kind body)) 4 := by unfold sealB; rw [List.drop_append_of_le_length (by omega), List.drop_of_length_le (by omega)]; rfl
  obtain ⟨q1, q2⟩ := sumB_bounds (headB kind body)
  have hn : numB (bytesB (sumB (headB kind body)) 4) = sumB (headB kind body) := num_bytes_of _ _ q1 (by
    have : (256 : Int) ^ 4 = 4294967296 := by decide
    omega)
  have g0 : (sealB kind body).getD 0 0 = byteAt kind 0 := rfl
  have g1 : (sealB kind body).getD 1 0 = byteAt body.length 1 := rfl
  have g2 : (sealB kind body).getD 2 0 = byteAt body.length 0 := rfl
  have hm0 : (byteAt (body.length : Int) 0 : UInt8).toNat = body.length := by
    have := byteAt_val (body.length : Int) 0
    omega
  have hm1 : (byteAt (body.length : Int) 1 : UInt8).toNat = 0 := by
    have := byteAt_val (body.length : Int) 1
    omega
  have hk0 : ((byteAt kind 0).toNat : Int) = kind := by
    have := byteAt_val kind 0
    omega
  have hbd : ((sealB kind body).drop 3).take body.length = body := by
    have : (sealB kind body).drop 3 = body ++ (List.replicate (153 - body.length) 0 ++ bytesB (sumB (headB kind body)) 4) := by
      unfold sealB headB
      simp
    rw [this, List.take_append_of_le_length (Nat.le_refl _), List.take_of_length_le (Nat.le_refl _)]
  unfold openB
  rw [if_neg (by omega), ht, hd, hn, if_neg (by simp), g0, g1, g2, hm0, hm1, hk0, Nat.zero_mul, Nat.zero_add, Nat.min_eq_left hb]
  dsimp only
  rw [hbd, if_neg]
  rintro (h | h)
  · omega
  · exact h rfl

theorem pieceOf_piece (p : Pc) (h : rightP p) : pieceOf (pieceB p) = p := by
  obtain ⟨s, g, i, d⟩ := p
  obtain ⟨h1, h2, h3, h4, h5, h6, h7⟩ := h
  simp only at h1 h2 h3 h4 h5 h6 h7
  have e1 : bytesB s 1 = [byteAt s 0] := rfl
  have e2 : bytesB i 1 = [byteAt i 0] := rfl
  have l6 := bytesB_length g 6
  have hp : pieceB ⟨s, g, i, d⟩ = byteAt s 0 :: (bytesB g 6 ++ (byteAt i 0 :: d)) := by
    unfold pieceB
    rw [e1, e2]
    simp
  have hs0 : ((byteAt s 0).toNat : Int) = s := by
    have := byteAt_val s 0
    omega
  have hi0 : ((byteAt i 0).toNat : Int) = i := by
    have := byteAt_val i 0
    omega
  have hg : numB (bytesB g 6) = g := num_bytes_of _ _ (by omega) (by
    have : (256 : Int) ^ 6 = 281474976710656 := by decide
    omega)
  have k7 : (byteAt s 0 :: (bytesB g 6 ++ (byteAt i 0 :: d))).getD 7 0 = byteAt i 0 := by
    simp [List.getD, List.getElem?_append_right, l6]
  have k8 : (byteAt s 0 :: (bytesB g 6 ++ (byteAt i 0 :: d))).drop 8 = d := by
    rw [List.drop_succ_cons, List.drop_append, l6, List.drop_of_length_le (by omega)]
    rfl
  have k1 : ((byteAt s 0 :: (bytesB g 6 ++ (byteAt i 0 :: d))).drop 1).take 6 = bytesB g 6 := by
    rw [List.drop_succ_cons, List.drop_zero, List.take_append_of_le_length (by omega), List.take_of_length_le (by omega)]
  unfold pieceOf
  rw [hp, k1, k7, k8, hg]
  simp only [List.getD_cons_zero, hs0, hi0]
theorem read_lay (p : Pc) (h : rightP p) : readB (layB p) = some p := by
  have hl := pieceB_length p
  have h32 := h.2.2.2.2.2.2
  have ho : openB (layB p) = (1, pieceB p, 0) := open_seal 1 (pieceB p) (by omega) (by omega) (by omega)
  unfold readB
  rw [ho, pieceOf_piece p h, if_pos ⟨rfl, rfl, by simp only; omega⟩, if_pos h]

/-- Nothing is read of a blank block. -/
theorem sum_blank : sumB (List.replicate 156 0) ≠ 0 := by decide +kernel
theorem read_zero : readB zero160 = none := by
  have hl : zero160.length = 160 := by simp [zero160]
  have ht : zero160.take 156 = List.replicate 156 0 := by simp [zero160]
  have hd : zero160.drop 156 = List.replicate 4 0 := by simp [zero160]
  have ho : openB zero160 = (0, [], 3) := by
    unfold openB
    rw [if_neg (by omega), ht, hd, if_pos]
    exact sum_blank
  unfold readB
  rw [ho, if_neg (fun h => absurd h.1 (by decide))]
end Go.Proofs.Ytdkhgkkdnjejmaa.Ch
