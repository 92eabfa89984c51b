/-
  node.Do at Log, Intents, Release, and where it is refused; what chapter 10's longer example wants of plain lists.
-/
import Derived.Test.YtdkhgkkdnjejmaaNdL
namespace Go.Proofs.Ytdkhgkkdnjejmaa.Ch
set_option linter.unusedSimpArgs false
open Go Go.RowKit Go.Sl Go.BigFrame
set_option linter.unusedVariables false

theorem do_none (b : Nat) (n : Nd) (A : List Atom) (k s g i : Int) (da : Option Addr) (dn dc : Nat) (W w : World) (L : List Atom) (hn : NodA b n A) (hs : Sat W w (A ++ L)) (hk : k < 1 ∨ 6 < k) :
    Calls Try.prog 53 #[.pointer (some ⟨b, 0, none⟩), .agg #[.int .i64 k, .int .i64 s, .int .i64 g, .int .i64 i, .slice da dn dc]] w fun e w' => ∃ A', e = .returned (repV 1 n.boot (.slice none 0 0) (.slice none 0 0)) ∧ NodA b n A' ∧ Sat W w' (A' ++ L) := by
  refine (do_of (T := fun code pv iv n' R => code = 1 ∧ pv = .slice none 0 0 ∧ iv = .slice none 0 0 ∧ n' = n ∧ R = []) b A k s g i da dn dc W w L hs (fun M w hM hs => ?_)).mono ?_
  · refine (did_none b k s g i da dn dc W w (A ++ M) hs hk).mono ?_
    rintro e w' ⟨rfl, hs'⟩
    exact ⟨1, none, 0, 0, none, 0, 0, n, A, [], rfl, ⟨rfl, rfl, rfl, rfl, rfl⟩, hn, hs'⟩
  · rintro e w' ⟨code, pa, pn, pc, ia, im, ic, n', A', R, rfl, ⟨rfl, h1, h2, rfl, rfl⟩, hA', hs'⟩
    rw [h1, h2]
    exact ⟨A', rfl, hA', hs'⟩
theorem do_get_bad (b : Nat) (n : Nd) (A : List Atom) (s g i : Int) (da : Option Addr) (dn dc : Nat) (W w : World) (L : List Atom) (hn : NodA b n A) (hs : Sat W w (A ++ L)) (hk : 40 ≤ s) :
    Calls Try.prog 53 #[.pointer (some ⟨b, 0, none⟩), .agg #[.int .i64 1, .int .i64 s, .int .i64 g, .int .i64 i, .slice da dn dc]] w fun e w' => ∃ A', e = .returned (repV 1 n.boot (.slice none 0 0) (.slice none 0 0)) ∧ NodA b n A' ∧ Sat W w' (A' ++ L) := by
  refine (do_of (T := fun code pv iv n' R => code = 1 ∧ pv = .slice none 0 0 ∧ iv = .slice none 0 0 ∧ n' = n ∧ R = []) b A 1 s g i da dn dc W w L hs (fun M w hM hs => ?_)).mono ?_
  · refine (did_get_bad b s g i da dn dc W w (A ++ M) hs hk).mono ?_
    rintro e w' ⟨rfl, hs'⟩
    exact ⟨1, none, 0, 0, none, 0, 0, n, A, [], rfl, ⟨rfl, rfl, rfl, rfl, rfl⟩, hn, hs'⟩
  · rintro e w' ⟨code, pa, pn, pc, ia, im, ic, n', A', R, rfl, ⟨rfl, h1, h2, rfl, rfl⟩, hA', hs'⟩
    rw [h1, h2]
    exact ⟨A', rfl, hA', hs'⟩
theorem do_put_bad (b : Nat) (n : Nd) (A : List Atom) (p : Pc) (da : Option Addr) (dc : Nat) (W w : World) (L : List Atom) (hn : NodA b n A) (hs : Sat W w (A ++ L)) (hp : ¬ rightP p) :
    Calls Try.prog 53 #[.pointer (some ⟨b, 0, none⟩), .agg #[.int .i64 2, .int .i64 p.stripe, .int .i64 p.gen, .int .i64 p.index, .slice da p.data.length dc]] w fun e w' => ∃ A', e = .returned (repV 1 n.boot (.slice none 0 0) (.slice none 0 0)) ∧ NodA b n A' ∧ Sat W w' (A' ++ L) := by
  refine (do_of (T := fun code pv iv n' R => code = 1 ∧ pv = .slice none 0 0 ∧ iv = .slice none 0 0 ∧ n' = n ∧ R = []) b A 2 p.stripe p.gen p.index da p.data.length dc W w L hs (fun M w hM hs => ?_)).mono ?_
  · refine (did_put_bad b n A p da dc W w M hn hs hp).mono ?_
    rintro e w' ⟨rfl, hs'⟩
    exact ⟨1, none, 0, 0, none, 0, 0, n, A, [], rfl, ⟨rfl, rfl, rfl, rfl, rfl⟩, hn, hs'⟩
  · rintro e w' ⟨code, pa, pn, pc, ia, im, ic, n', A', R, rfl, ⟨rfl, h1, h2, rfl, rfl⟩, hA', hs'⟩
    rw [h1, h2]
    exact ⟨A', rfl, hA', hs'⟩
theorem do_log_ok (b k m : Nat) (n : Nd) (A : List Atom) (i : It) (ix : Int) (da : Option Addr) (dc : Nat) (W w : World) (L : List Atom) (hn : NodA b n A) (hs : Sat W w (A ++ L)) (hin : ∀ y, Sat W y L → Reads y (.slice da i.data.length dc) i.data.length (bts i.data)) (hp : rightI i)
    (hl : n.g.slots.length = 16) (hsm : ∀ x ∈ n.g.slots, x.i.data.length < 1000000) (hnl : ¬ ∃ x ∈ n.g.slots, x.live = true ∧ x.i = i) (hk : freeS n.g.slots 0 = k) (hk16 : k < 16) (n0 : 0 ≤ n.g.next) (n1 : n.g.next < 281474976710656) (hok : NdOk n m) (hm : m < 900000) :
    Calls Try.prog 53 #[.pointer (some ⟨b, 0, none⟩), .agg #[.int .i64 3, .int .i64 i.stripe, .int .i64 i.gen, .int .i64 ix, .slice da i.data.length dc]] w fun e w' => ∃ A', e = .returned (repV 0 n.boot (.slice none 0 0) (.slice none 0 0)) ∧ NodA b ⟨n.q.wr (80 + k) (layI n.g.next i), ⟨n.g.slots.set k ⟨true, n.g.next, i⟩, n.g.next + 1⟩, n.boot⟩ A' ∧ Sat W w' (A' ++ L) := by
  refine (do_of (T := fun code pv iv n' R => code = 0 ∧ pv = .slice none 0 0 ∧ iv = .slice none 0 0 ∧ n' = ⟨n.q.wr (80 + k) (layI n.g.next i), ⟨n.g.slots.set k ⟨true, n.g.next, i⟩, n.g.next + 1⟩, n.boot⟩ ∧ R = []) b A 3 i.stripe i.gen ix da i.data.length dc W w L hs (fun M w hM hs => ?_)).mono ?_
  · refine (did_log_ok b k n A i ix da dc W w M hn hs (fun y hy => hin y (hM y hy)) hp hl hsm hnl hk hk16 n0 n1 hok.len (by have := hok.pend; omega) hok.w0 (by have := hok.w1; omega)).mono ?_
    rintro e w' ⟨A', rfl, hA', hs'⟩
    exact ⟨0, none, 0, 0, none, 0, 0, _, A', [], rfl, ⟨rfl, rfl, rfl, rfl, rfl⟩, hA', hs'⟩
  · rintro e w' ⟨code, pa, pn, pc, ia, im, ic, n', A', R, rfl, ⟨rfl, h1, h2, rfl, rfl⟩, hA', hs'⟩
    rw [h1, h2]
    exact ⟨A', rfl, hA', hs'⟩
theorem do_rel (b : Nat) (n : Nd) (A : List Atom) (s g i : Int) (da : Option Addr) (dn dc : Nat) (W w : World) (L : List Atom) (hn : NodA b n A) (hs : Sat W w (A ++ L)) (hl : n.g.slots.length = 16) :
    Calls Try.prog 53 #[.pointer (some ⟨b, 0, none⟩), .agg #[.int .i64 6, .int .i64 s, .int .i64 g, .int .i64 i, .slice da dn dc]] w fun e w' => ∃ A', e = .returned (repV 0 n.boot (.slice none 0 0) (.slice none 0 0)) ∧ NodA b ⟨n.q, ⟨relS n.g.slots s g, n.g.next⟩, n.boot⟩ A' ∧ Sat W w' (A' ++ L) := by
  refine (do_of (T := fun code pv iv n' R => code = 0 ∧ pv = .slice none 0 0 ∧ iv = .slice none 0 0 ∧ n' = ⟨n.q, ⟨relS n.g.slots s g, n.g.next⟩, n.boot⟩ ∧ R = []) b A 6 s g i da dn dc W w L hs (fun M w hM hs => ?_)).mono ?_
  · refine (did_rel b n A s g i da dn dc W w M hn hs hl).mono ?_
    rintro e w' ⟨A', rfl, hA', hs'⟩
    exact ⟨0, none, 0, 0, none, 0, 0, _, A', [], rfl, ⟨rfl, rfl, rfl, rfl, rfl⟩, hA', hs'⟩
  · rintro e w' ⟨code, pa, pn, pc, ia, im, ic, n', A', R, rfl, ⟨rfl, h1, h2, rfl, rfl⟩, hA', hs'⟩
    rw [h1, h2]
    exact ⟨A', rfl, hA', hs'⟩
theorem do_live (b : Nat) (n : Nd) (A : List Atom) (s g i : Int) (da : Option Addr) (dn dc : Nat) (W w : World) (L : List Atom) (hn : NodA b n A) (hs : Sat W w (A ++ L)) (hl : n.g.slots.length = 16) (hsm : ∀ x ∈ n.g.slots, x.i.data.length < 1000000) (c : Nat) (hc : (liveS n.g.slots).length = c) (h1 : c ≤ 1) :
    Calls Try.prog 53 #[.pointer (some ⟨b, 0, none⟩), .agg #[.int .i64 5, .int .i64 s, .int .i64 g, .int .i64 i, .slice da dn dc]] w fun e w' => ∃ A' ia ic R, e = .returned (repV 0 n.boot (.slice none 0 0) (.slice ia c ic)) ∧ NodA b n A' ∧ Sat W w' (A' ++ (R ++ L)) := by
  refine (do_of (T := fun code pv iv n' R => code = 0 ∧ pv = .slice none 0 0 ∧ (∃ ia ic, iv = .slice ia c ic) ∧ n' = n) b A 5 s g i da dn dc W w L hs (fun M w hM hs => ?_)).mono ?_
  · refine (did_live b n A s g i da dn dc W w M hn hs hl hsm (by omega)).mono ?_
    rintro e w' ⟨ia, ic, R, rfl, hs'⟩
    rw [hc]
    exact ⟨0, none, 0, 0, ia, c, ic, n, A, R, rfl, ⟨rfl, rfl, ⟨ia, ic, rfl⟩, rfl⟩, hn, hs'⟩
  · rintro e w' ⟨code, pa, pn, pc, ia, im, ic, n', A', R, rfl, ⟨rfl, h1, ⟨ia', ic', h2⟩, rfl⟩, hA', hs'⟩
    rw [h1, h2]
    exact ⟨A', ia', ic', R, rfl, hA', hs'⟩

/-! The example's rings. -/
theorem readI_zero : readI zero160 = sl0 := by
  have h : openB zero160 = (0, [], 3) := by
    have e1 : zero160.length = 160 := by unfold zero160; exact List.length_replicate
    have e2 : zero160.take 156 = List.replicate 156 0 := by unfold zero160; rw [List.take_replicate]; rfl
    have e3 : zero160.drop 156 = List.replicate 4 0 := by unfold zero160; rw [List.drop_replicate]
    have e4 : numB (List.replicate 4 0) = 0 := by decide
    unfold openB
    rw [if_neg (by omega), e2, e3, e4, if_pos sum_blank]
  unfold readI
  rw [h, if_neg (fun h => absurd h.1 (by decide))]
theorem readI_lay (no : Int) (i : It) (hp : rightI i) (h0 : 1 ≤ no) (h1 : no < 281474976710656) : readI (layI no i) = ⟨true, no, i⟩ := by
  obtain ⟨s, g, d⟩ := i
  obtain ⟨p1, p2, p3, p4, p5⟩ := hp
  simp only at p1 p2 p3 p4 p5
  have hl := intB_length no ⟨s, g, d⟩
  simp only at hl
  have ho : openB (layI no ⟨s, g, d⟩) = (2, intB no ⟨s, g, d⟩, 0) := open_seal 2 _ (by omega) (by omega) (by omega)
  have l6 : (bytesB no 6).length = 6 := bytesB_length _ _
  have g6 : (bytesB g 6).length = 6 := bytesB_length _ _
  have t6 : (intB no ⟨s, g, d⟩).take 6 = bytesB no 6 := by
    unfold intB
    rw [List.take_append_of_le_length (by omega), List.take_of_length_le (by omega)]
  have hn : numB (bytesB no 6) = no := num_bytes_of no 6 (by omega) (by omega)
  have hs0 : ((byteAt s 0).toNat : Int) = s := by
    have := byteAt_val s 0
    omega
  have d6 : (intB no ⟨s, g, d⟩).drop 6 = byteAt s 0 :: (bytesB g 6 ++ d) := by
    unfold intB
    rw [List.drop_append_of_le_length (by omega), List.drop_of_length_le (by omega)]
    rfl
  have hit : itOf (intB no ⟨s, g, d⟩) = ⟨s, g, d⟩ := by
    unfold itOf
    have e0 : (intB no ⟨s, g, d⟩)[6]? = some (byteAt s 0) := by
      have : ((intB no ⟨s, g, d⟩).drop 6)[0]? = some (byteAt s 0) := by rw [d6]; rfl
      rw [List.getElem?_drop] at this
      exact this
    have e7 : (intB no ⟨s, g, d⟩).drop 7 = bytesB g 6 ++ d := by
      have : ((intB no ⟨s, g, d⟩).drop 6).drop 1 = bytesB g 6 ++ d := by rw [d6]; rfl
      rw [List.drop_drop] at this
      exact this
    have e13 : (intB no ⟨s, g, d⟩).drop 13 = d := by
      have : ((intB no ⟨s, g, d⟩).drop 7).drop 6 = d := by
        rw [e7, List.drop_append_of_le_length (by omega), List.drop_of_length_le (by omega)]
        rfl
      rw [List.drop_drop] at this
      exact this
    rw [getD_of e0, e7, e13, List.take_append_of_le_length (by omega), List.take_of_length_le (by omega), hs0, num_bytes_of g 6 (by omega) (by omega)]
  unfold readI
  rw [ho]
  simp only
  rw [if_pos ⟨trivial, trivial, by omega⟩, t6, hn, hit, if_pos ⟨by omega, p1, p2, p3, p4, p5⟩]
end Go.Proofs.Ytdkhgkkdnjejmaa.Ch
