/-
  node.Do at Put, Get, Flush; node.Boot; chapter 10's example.
-/
import Derived.Test.YtdkhgkkdnjejmaaNdE
namespace Go.Proofs.Ytdkhgkkdnjejmaa.Ch
set_option linter.unusedSimpArgs false
open Go Go.RowKit Go.Sl Go.BigFrame
set_option linter.unusedVariables false

theorem NdOk.mono {n : Nd} {i j : Nat} (h : NdOk n i) (hij : i ≤ j) : NdOk n j := ⟨h.len, h.dlen, h.small, h.dsmall, Nat.le_trans h.pend hij, h.pok, h.w0, by have := h.w1; omega, h.b0, by have := h.b1; omega⟩
theorem NdOk.wr {n : Nd} {i : Nat} (h : NdOk n i) (k : Nat) (l : List UInt8) (hk : k < 96) (hl : l.length < 1000000) : NdOk ⟨n.q.wr k l, n.g, n.boot⟩ (i + 1) := by
  refine ⟨?_, h.dlen, fun x hx => ?_, h.dsmall, ?_, fun x hx => ?_, ?_, ?_, h.b0, by have := h.b1; show n.boot ≤ ((i + 1 : Nat) : Int) + 1; omega⟩
  · show (n.q.now.set k l).length = 96
    rw [List.length_set, h.len]
  · rcases List.mem_or_eq_of_mem_set hx with h1 | h1
    · exact h.small x h1
    · rw [h1]; exact hl
  · show (n.q.pend ++ [(k, l)]).length ≤ i + 1
    have := h.pend
    simp
    omega
  · have hx : x ∈ n.q.pend ++ [(k, l)] := hx
    rcases List.mem_append.1 hx with hx | hx
    · exact h.pok x hx
    · rw [List.mem_singleton] at hx
      rw [hx]
      exact ⟨hk, hl⟩
  · show 0 ≤ n.q.writes + 1
    have := h.w0
    omega
  · show n.q.writes + 1 ≤ ((i + 1 : Nat) : Int)
    have := h.w1
    omega
theorem NdOk.fl {n : Nd} {i : Nat} (h : NdOk n i) : NdOk ⟨n.q.fl, n.g, n.boot⟩ i := ⟨h.len, h.len, h.small, h.small, Nat.zero_le _, fun x hx => by simp [Pt.fl] at hx, h.w0, h.w1, h.b0, h.b1⟩
theorem NdOk.crash {n : Nd} {i : Nat} (h : NdOk n i) (keep : List Int) : NdOk (n.crash keep) (i + 1) := by
  have hs := crash_small10 (keep := keep) h.dsmall (fun x hx => (h.pok x hx).2) n.q.pend.length
  have hl : (crashTo keep n.q.done n.q.pend n.q.pend.length).length = 96 := by rw [crashTo_length, h.dlen]
  have b0 := h.b0
  have b1 := h.b1
  have w1 := h.w1
  exact ⟨hl, hl, hs, hs, Nat.zero_le _, fun x hx => by simp [Nd.crash, Pt.crash] at hx, h.w0, by show n.q.writes ≤ ((i + 1 : Nat) : Int); omega, by show 1 ≤ n.boot + 1; omega, by show n.boot + 1 ≤ ((i + 1 : Nat) : Int) + 1; omega⟩
theorem NdOk.lose {n : Nd} {i : Nat} (h : NdOk n i) : NdOk n.lose (i + 1) := by
  have hz : ∀ l ∈ List.replicate n.q.now.length zero160, l.length < 1000000 := fun l hl => by
    rw [(List.mem_replicate.1 hl).2]
    simp [zero160]
  have hl : (List.replicate n.q.now.length zero160).length = 96 := by rw [List.length_replicate, h.len]
  have b0 := h.b0
  have b1 := h.b1
  have w1 := h.w1
  exact ⟨hl, hl, hz, hz, Nat.zero_le _, fun x hx => by simp [Nd.lose, Pt.wipe] at hx, h.w0, by show n.q.writes ≤ ((i + 1 : Nat) : Int); omega, by show 1 ≤ n.boot + 1; omega, by show n.boot + 1 ≤ ((i + 1 : Nat) : Int) + 1; omega⟩
noncomputable def nd0 : Nd := ⟨q0, openRg q0, 1⟩
theorem NdOk.start : NdOk nd0 0 := ⟨(qk_facts 0).1, by simp [nd0, q0], (qk_facts 0).2.2.2, (qk_facts 0).2.2.2, Nat.le_refl _, fun x hx => by simp [nd0, q0] at hx, by decide, by decide, by decide, by decide⟩

theorem node_boot (b : Nat) (n : Nd) (A : List Atom) (W w : World) (L : List Atom) (hn : NodA b n A) (hs : Sat W w (A ++ L)) :
    Calls Try.prog 59 #[.pointer (some ⟨b, 0, none⟩)] w fun e w' => e = .returned (.int .i64 n.boot) ∧ w = w' := by
  obtain ⟨bp, br, Aq, Ag, hq, hg, rfl⟩ := hn
  have e0 : w.cell? ⟨b, 2, none⟩ = some (.int .i64 n.boot) := hs.cell m0 2
  clear hs
  go_enter Try.func59, Try.ntmps59
  go_wp2_with fail
  go_ret
  exact ⟨rfl, rfl⟩

theorem do_put (b m : Nat) (n : Nd) (A : List Atom) (p : Pc) (da : Option Addr) (dc : Nat) (W w : World) (L : List Atom) (hn : NodA b n A) (hs : Sat W w (A ++ L)) (hin : ∀ y, Sat W y L → Reads y (.slice da p.data.length dc) p.data.length (bts p.data)) (hp : rightP p) (hok : NdOk n m) (hm : m < 900000) :
    Calls Try.prog 53 #[.pointer (some ⟨b, 0, none⟩), .agg #[.int .i64 2, .int .i64 p.stripe, .int .i64 p.gen, .int .i64 p.index, .slice da p.data.length dc]] w fun e w' => ∃ A', e = .returned (repV 0 n.boot (.slice none 0 0) (.slice none 0 0)) ∧ NodA b ⟨n.q.wr (placeN p.stripe p.gen) (layB p), n.g, n.boot⟩ A' ∧ Sat W w' (A' ++ L) := by
  refine (do_of (T := fun code pv iv n' R => code = 0 ∧ pv = .slice none 0 0 ∧ iv = .slice none 0 0 ∧ n' = ⟨n.q.wr (placeN p.stripe p.gen) (layB p), n.g, n.boot⟩ ∧ R = []) b A 2 p.stripe p.gen p.index da p.data.length dc W w L hs (fun M w hM hs => ?_)).mono ?_
  · refine (did_put b n A p da dc W w M hn hs (fun y hy => hin y (hM y hy)) hp (by rw [hok.len]; decide) (by have := hok.pend; omega) hok.w0 (by have := hok.w1; omega)).mono ?_
    rintro e w' ⟨A', rfl, hA', hs'⟩
    exact ⟨0, none, 0, 0, none, 0, 0, _, A', [], rfl, ⟨rfl, rfl, rfl, rfl, rfl⟩, hA', hs'⟩
  · rintro e w' ⟨code, pa, pn, pc, ia, im, ic, n', A', R, rfl, ⟨rfl, h1, h2, rfl, rfl⟩, hA', hs'⟩
    rw [h1, h2]
    exact ⟨A', rfl, hA', hs'⟩
theorem do_flush (b m : Nat) (n : Nd) (A : List Atom) (s g i : Int) (da : Option Addr) (dn dc : Nat) (W w : World) (L : List Atom) (hn : NodA b n A) (hs : Sat W w (A ++ L)) (hok : NdOk n m) :
    Calls Try.prog 53 #[.pointer (some ⟨b, 0, none⟩), .agg #[.int .i64 4, .int .i64 s, .int .i64 g, .int .i64 i, .slice da dn dc]] w fun e w' => ∃ A', e = .returned (repV 0 n.boot (.slice none 0 0) (.slice none 0 0)) ∧ NodA b ⟨n.q.fl, n.g, n.boot⟩ A' ∧ Sat W w' (A' ++ L) := by
  refine (do_of (T := fun code pv iv n' R => code = 0 ∧ pv = .slice none 0 0 ∧ iv = .slice none 0 0 ∧ n' = ⟨n.q.fl, n.g, n.boot⟩ ∧ R = []) b A 4 s g i da dn dc W w L hs (fun M w hM hs => ?_)).mono ?_
  · refine (did_flush b n A s g i da dn dc W w M hn hs (by rw [hok.len]; decide)).mono ?_
    rintro e w' ⟨A', rfl, hA', hs'⟩
    exact ⟨0, none, 0, 0, none, 0, 0, _, A', [], rfl, ⟨rfl, rfl, rfl, rfl, rfl⟩, hA', hs'⟩
  · rintro e w' ⟨code, pa, pn, pc, ia, im, ic, n', A', R, rfl, ⟨rfl, h1, h2, rfl, rfl⟩, hA', hs'⟩
    rw [h1, h2]
    exact ⟨A', rfl, hA', hs'⟩
theorem do_get (b m : Nat) (n : Nd) (A : List Atom) (s g i : Int) (da : Option Addr) (dn dc : Nat) (W w : World) (L : List Atom) (hn : NodA b n A) (hs : Sat W w (A ++ L)) (h0 : 0 ≤ s) (h1 : s < 40) (hok : NdOk n m) :
    Calls Try.prog 53 #[.pointer (some ⟨b, 0, none⟩), .agg #[.int .i64 1, .int .i64 s, .int .i64 g, .int .i64 i, .slice da dn dc]] w fun e w' => ∃ pa pc xs R B A', e = .returned (repV 0 n.boot (.slice pa xs.length pc) (.slice none 0 0)) ∧ RowA 45 4 (.slice pa xs.length pc) xs.length (pcsC xs) R ∧ xs.map Prod.fst = getL n.q s ∧ PcBl B xs ∧ NodA b n A' ∧ Sat W w' (A' ++ (R ++ (B ++ L))) := by
  refine (do_of (T := fun code pv iv n' R0 => code = 0 ∧ iv = .slice none 0 0 ∧ n' = n ∧ ∃ pa pc xs R B, pv = .slice pa xs.length pc ∧ RowA 45 4 (.slice pa xs.length pc) xs.length (pcsC xs) R ∧ xs.map Prod.fst = getL n.q s ∧ PcBl B xs ∧ R0 = R ++ B) b A 1 s g i da dn dc W w L hs (fun M w hM hs => ?_)).mono ?_
  · refine (did_get b n A s g i da dn dc W w M hn hs h0 h1 (by rw [hok.len]; decide) hok.small).mono ?_
    rintro e w' ⟨pa, pc, xs, R, B, rfl, hr, hx, hb, hs'⟩
    exact ⟨0, pa, xs.length, pc, none, 0, 0, n, A, R ++ B, rfl, ⟨rfl, rfl, rfl, pa, pc, xs, R, B, rfl, hr, hx, hb, rfl⟩, hn, hs'.use (by intro x; simp only [cnt_append, cnt_cons, cnt_nil]; omega)⟩
  · rintro e w' ⟨code, pa, pn, pc, ia, im, ic, n', A', R0, rfl, ⟨rfl, h2, rfl, pa', pc', xs, R, B, h3, hr, hx, hb, rfl⟩, hA', hs'⟩
    rw [h2, h3]
    exact ⟨pa', pc', xs, R, B, A', rfl, hr, hx, hb, hA', hs'.use (by intro x; simp only [cnt_append, cnt_cons, cnt_nil]; omega)⟩

theorem getL_len2 {q : Pt} {s : Int} {x y : Option Pc} (h0 : getAt q s (placeN s (0 : Nat)) = x) (h1 : getAt q s (placeN s (1 : Nat)) = y) : getL q s = srt (x.toList ++ y.toList) := by
  unfold getL
  rw [getN_succ, getN_succ, h0, h1]
  simp [getN]
def pK : Pc := ⟨2, 1, 3, bytesOf 1 32⟩
theorem pK_right : rightP pK := ⟨by show (0 : Int) ≤ 2; omega, by show (2 : Int) < 40; omega, by show (1 : Int) ≤ 1; omega, by show (1 : Int) ≤ 1099511627776; omega, by show (0 : Int) ≤ 3; omega, by show (3 : Int) < 6; omega, bytesOf_length 1 32⟩
theorem kn10_get : getL (q0.wr (placeN pK.stripe pK.gen) (layB pK)) 2 = [pK] := by
  have hp : placeN pK.stripe pK.gen = 5 := by decide
  have h0 : getAt (q0.wr (placeN pK.stripe pK.gen) (layB pK)) 2 (placeN 2 ((0 : Nat) : Int)) = none := by
    rw [hp, getAt_wr_ne _ _ _ (by decide)]
    exact getAt_blank _ _ _ _ _ _
  have h1 : getAt (q0.wr (placeN pK.stripe pK.gen) (layB pK)) 2 (placeN 2 ((1 : Nat) : Int)) = some pK := by
    have h := getAt_wr_same q0 pK pK_right (k := placeN pK.stripe pK.gen) rfl (by rw [hp]; simp [q0])
    exact h
  rw [getL_len2 h0 h1]
  rfl
theorem kn10_none (l : List UInt8) (k : Nat) : getL ((q0.wr k l).crash []) 2 = [] := by
  have e : ((q0.wr k l).crash []).now = List.replicate 96 zero160 := by
    simp [Pt.crash, crashTo, q0, Pt.wr]
  have h : ∀ j, getAt ((q0.wr k l).crash []) 2 j = none := fun j => by
    have h2 := getAt_blank 96 [] [] 0 2 j
    unfold getAt at *
    rw [e]
    exact h2
  rw [getL_len2 (h _) (h _)]
  rfl

theorem rep_f0 (code boot : Int) (pv iv : Value) (w : World) : (Instr.field 80 (.agg #[.int .i64 code, .int .i64 boot, pv, iv]) 0).run Try.prog w = .ok (.int .i64 code) w := by kernel_rfl
theorem rep_f2 (code boot : Int) (pv iv : Value) (w : World) : (Instr.field 80 (.agg #[.int .i64 code, .int .i64 boot, pv, iv]) 2).run Try.prog w = .ok pv w := by kernel_rfl
theorem rep_f3 (code boot : Int) (pv iv : Value) (w : World) : (Instr.field 80 (.agg #[.int .i64 code, .int .i64 boot, pv, iv]) 3).run Try.prog w = .ok iv w := by kernel_rfl
set_option maxRecDepth 100000 in
set_option maxHeartbeats 4000000 in
theorem known10_any (W w : World) (L : List Atom) (hs : Sat W w L) :
    Calls Try.prog 52 #[] w fun e w' => e = .returned (.bool true) ∧ Sat W w' L := by
  have HN := Lib.hid (node_new W w L hs)
  clear hs
  have hf0 := rep_f0
  have hf2 := rep_f2
  go_enter Try.func52, Try.ntmps52
  go_wp2_with fail
  refine HN.out.mono ?_; rintro r w1 ⟨b, A, rfl, hA, hs1⟩
  have HB := Lib.hid (node_boot b _ A W w1 L hA hs1)
  have HBY := Lib.hid (bytes_of 1 32 W w1 _ (by omega) hs1)
  have HA := Lib.hid hA
  clear hs1 hA HN
  go_wp2_with fail
  refine HB.out.mono ?_; rintro r w2 ⟨rfl, rfl⟩
  simp only []
  go_wp2_with fail
  refine HBY.out.mono ?_; rintro r w3 ⟨v3, R3, rfl, hr3, hs3⟩
  have hr3' : RowA 5 1 v3 pK.data.length (bts pK.data) R3 := by
    rw [show pK.data.length = 32 from bytesOf_length 1 32]; exact hr3
  obtain ⟨a3, c3, rfl⟩ := Ch.RowA.slice hr3
  have hpu := do_put b 0 nd0 A pK a3 c3 W w3 (R3 ++ L) HA.out (hs3.use (by intro x; simp only [cnt_append, cnt_cons, cnt_nil]; omega)) (fun y hy => by have h := hr3'.reads hy; rw [show pK.data.length = 32 from bytesOf_length 1 32] at h ⊢; exact h) pK_right NdOk.start (by omega)
  rw [show pK.data.length = 32 from bytesOf_length 1 32, show pK.stripe = 2 from rfl, show pK.gen = 1 from rfl, show pK.index = 3 from rfl] at hpu
  have HPU := Lib.hid hpu
  clear hpu hs3 HBY HB
  go_wp2_with fail
  refine HPU.out.mono ?_; rintro r w4 ⟨A4, rfl, hA4, hs4⟩
  have hok := NdOk.start.wr (placeN 2 1) (layB pK) (by decide) (by rw [layB_length _ pK_right.2.2.2.2.2.2]; omega)
  have hgt := do_get b 1 _ A4 2 0 0 none 0 0 W w4 (R3 ++ L) hA4 hs4 (by omega) (by omega) hok
  have hkl : ∀ xs : List (Pc × Value), xs.map Prod.fst = getL (q0.wr (placeN 2 1) (layB pK)) 2 → xs.length = 1 := fun xs hx => by
    have h := congrArg List.length (hx.trans kn10_get)
    simpa using h
  have HOK := Lib.hid hok
  have HKL := Lib.hid hkl
  have HGT := Lib.hid hgt
  clear hok hkl hgt hs4 hA4 HPU
  unfold repV
  go_wp2_with fail
  refine HGT.out.mono ?_; rintro r w5 ⟨pa, pc, xs, R5, B5, A5, rfl, hr5, hx5, hb5, hA5, hs5⟩
  have hxl := HKL.out xs hx5
  rw [hxl]
  have hcr := node_crash b 1 _ A5 (.slice none 0 0) [] W w5 (R5 ++ (B5 ++ (R3 ++ L))) hA5 hs5 (fun y hy => .inl ⟨rfl, rfl, rfl⟩) (by decide) HOK.out (by omega)
  have HCR := Lib.hid hcr
  clear hcr hs5 hA5 hr5 hx5 hb5 HGT HKL hxl
  unfold repV
  go_wp2_with fail
  refine HCR.out.mono ?_; rintro r w6 ⟨A6, rfl, hA6, hs6⟩
  have hgt := do_get b 2 _ A6 2 0 0 none 0 0 W w6 (R5 ++ (B5 ++ (R3 ++ L))) hA6 hs6 (by omega) (by omega) (HOK.out.crash [])
  have hkl : ∀ ys : List (Pc × Value), ys.map Prod.fst = getL ((q0.wr (placeN 2 1) (layB pK)).crash []) 2 → ys.length = 0 := fun ys hy => by
    have h := congrArg List.length (hy.trans (kn10_none _ _))
    simpa using h
  have HGT := Lib.hid hgt
  have HKL := Lib.hid hkl
  clear hgt hkl hs6 hA6 HCR
  go_wp2_with fail
  refine HGT.out.mono ?_; rintro r w7 ⟨pa7, pc7, ys, R7, B7, A7, rfl, hr7, hx7, hb7, hA7, hs7⟩
  have hyl := HKL.out ys hx7
  rw [hyl]
  clear HGT HKL hr7 hx7 hb7 hA7 hyl
  unfold repV
  rw [show (Nd.crash _ _).boot = (2 : Int) from rfl]
  go_wp2_with fail
  go_ret
  exact ⟨rfl, Sat.alloc (hs7.use (by intro x; simp only [cnt_append, cnt_cons, cnt_nil]; omega)) _⟩
end Go.Proofs.Ytdkhgkkdnjejmaa.Ch
