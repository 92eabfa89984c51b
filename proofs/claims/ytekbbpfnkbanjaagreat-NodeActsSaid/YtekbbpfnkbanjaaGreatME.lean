
/-
  The ring: Same, the searches.
  The ring: is it there already; Release.
  The ring: Log.
  The ring: Release.
  The ring: Live, where at most one is live.
-/
import Derived.Test.YtekbbpfnkbanjaaGreatMD
import Derived.Test.YtekbbpfnkbanjaaGreatMS
import Derived.Deep.DeepCutAuto
import Derived.Deep.CutBlock
import Derived.Deep.MidRow
namespace Go.Proofs.YtekbbpfnkbanjaaGreat.Ch
set_option linter.unusedSimpArgs false
open Go Go.RowKit Go.Sl Go.BigFrame
set_option linter.unusedVariables false

noncomputable instance : DecidableEq It := fun _ _ => Classical.propDecidable _
set_option maxRecDepth 100000 in
theorem isame_any (p q : It) (v v2 : Value) (W w : World) (L : List Atom) (hs : Sat W w L) (h1 : ∀ y, Sat W y L → Reads y v p.data.length (bts p.data)) (h2 : ∀ y, Sat W y L → Reads y v2 q.data.length (bts q.data)) (hl : p.data.length < 1000000) (hl2 : q.data.length < 1000000) :
    Calls Tryz.prog 79 #[itV p v, itV q v2] w fun e w' => e = .returned (.bool (decide (p = q))) ∧ Sat W w' L := by
  obtain ⟨s, g, d⟩ := p
  obtain ⟨s2, g2, d2⟩ := q
  obtain ⟨av, cv, rfl⟩ := reads_shape (h1 w hs)
  obtain ⟨av2, cv2, rfl⟩ := reads_shape (h2 w hs)
  simp only at h1 h2 hl hl2
  unfold itV
  simp only []
  by_cases e1 : s = s2
  case neg =>
    have hne : ¬ (⟨s, g, d⟩ : It) = ⟨s2, g2, d2⟩ := fun h => e1 (by injection h)
    have q0 : (s == s2) = false := by simpa using e1
    rw [decide_eq_false hne]
    clear hne
    have hs2 : Sat W _ L := (hs.alloc (.cells #[.int .i64 s, .int .i64 g, .slice av d.length cv] 77)).alloc (.cells #[.int .i64 s2, .int .i64 g2, .slice av2 d2.length cv2] 77)
    go_enter Tryz.func79, Tryz.ntmps79
    go_wp2_with fail
    go_ret
    exact ⟨rfl, hs2⟩
  case pos =>
  subst e1
  by_cases e2 : g = g2
  case neg =>
    have hne : ¬ (⟨s, g, d⟩ : It) = ⟨s, g2, d2⟩ := fun h => e2 (by injection h)
    have q0 : (g == g2) = false := by simpa using e2
    rw [decide_eq_false hne]
    clear hne
    have hs2 : Sat W _ L := (hs.alloc (.cells #[.int .i64 s, .int .i64 g, .slice av d.length cv] 77)).alloc (.cells #[.int .i64 s, .int .i64 g2, .slice av2 d2.length cv2] 77)
    go_enter Tryz.func79, Tryz.ntmps79
    go_wp2_with fail
    go_ret
    exact ⟨rfl, hs2⟩
  case pos =>
  subst e2
  have hs2 : Sat W _ L := (hs.alloc (.cells #[.int .i64 s, .int .i64 g, .slice av d.length cv] 77)).alloc (.cells #[.int .i64 s, .int .i64 g, .slice av2 d2.length cv2] 77)
  have heq := equal_any W _ L _ _ d d2 hs2 (h1 _ hs2) (h2 _ hs2) hl hl2
  have he : decide ((⟨s, g, d⟩ : It) = ⟨s, g, d2⟩) = decide (d = d2) := decide_eq_decide.2 ⟨fun h => by injection h, fun h => by rw [h]⟩
  rw [he]
  have HEQ := Lib.hid heq
  clear heq he h1 h2
  go_enter Tryz.func79, Tryz.ntmps79
  go_wp2_with fail
  refine HEQ.out.mono ?_; rintro r w5 ⟨rfl, hs5, _⟩
  go_wp2_with fail
  go_ret
  exact ⟨rfl, hs5⟩

set_option maxRecDepth 100000 in
theorem log2_any (s : Sl5) (v : Value) (hv : ∃ a n c, v = .slice a n c) (w : World) :
    Calls Tryz.prog 81 #[slV s v] w fun e w' => e = .returned (.bool (!s.live)) ∧ Ext w w' := by
  obtain ⟨a, n, c, rfl⟩ := hv
  unfold slV
  go_enter Tryz.func81, Tryz.ntmps81
  go_wp2_with fail
  go_ret
  exact ⟨rfl, Ext.alloc _ _⟩

theorem ring_of {b bp : Nat} {xs : List (Sl5 × Value)} {nx : Int} {W w : World} {F : List Atom} (hs : Sat W w (cellsA b (ringC bp xs nx) 120 :: F)) {k : Nat} {s : Sl5} {v : Value} (h : xs[k]? = some (s, v)) :
    w.cell? ⟨b, 1 + k * 5, none⟩ = some (.bool s.live) ∧ w.cell? ⟨b, 1 + k * 5 + 1, none⟩ = some (.int .i64 s.num) ∧ w.cell? ⟨b, 1 + k * 5 + 2, none⟩ = some (.int .i64 s.i.stripe) ∧ w.cell? ⟨b, 1 + k * 5 + 3, none⟩ = some (.int .i64 s.i.gen) ∧ w.cell? ⟨b, 1 + k * 5 + 4, none⟩ = some v :=
  ⟨by rw [hs.cell m0]; exact ring_get h 0 _ rfl, by rw [hs.cell m0]; exact ring_get h 1 _ rfl, by rw [hs.cell m0]; exact ring_get h 2 _ rfl, by rw [hs.cell m0]; exact ring_get h 3 _ rfl, by rw [hs.cell m0]; exact ring_get h 4 _ rfl⟩
/-- The first that is free, or -1. -/
def freeI : List (Sl5 × Value) → Int → Int
  | [], _ => -1
  | x :: xs, k => if x.1.live then freeI xs (k + 1) else k
theorem freeI_step (xs : List (Sl5 × Value)) (k : Nat) (x : Sl5 × Value) (h : xs[k]? = some x) (d : Int) : freeI (xs.drop k) d = if x.1.live then freeI (xs.drop (k + 1)) (d + 1) else d := by
  have e : xs.drop k = x :: xs.drop (k + 1) := by
    have := List.drop_eq_getElem_cons (List.getElem?_eq_some_iff.1 h).1
    rw [this, (List.getElem?_eq_some_iff.1 h).2]
  rw [e]
  rfl

set_option maxRecDepth 100000 in
set_option maxHeartbeats 4000000 in
theorem index_free (b bp : Nat) (xs : List (Sl5 × Value)) (nx : Int) (W w : World) (F : List Atom) (hs : Sat W w (cellsA b (ringC bp xs nx) 120 :: F)) (hl : xs.length = 16) (hsh : ∀ x ∈ xs, ∃ a n c, x.2 = .slice a n c) :
    Calls Tryz.prog 80 #[.slice (some ⟨b, 1, none⟩) 16 16, .func (.func 81) #[] #[]] w fun e w' => e = .returned (.int .i64 (freeI xs 0)) ∧ Sat W w' (cellsA b (ringC bp xs nx) 120 :: F) := by
  go_enter Tryz.func80, Tryz.ntmps80
  go_wp2_with fail
  go_loopw [8] (fun kv wr => ∃ k : Nat, kv = .int .i64 k ∧ k ≤ 16 ∧ freeI xs 0 = freeI (xs.drop k) k ∧ Sat W wr (cellsA b (ringC bp xs nx) 120 :: F)) (fun kv _ => (16 - (intOf kv).toNat))
  case atStart => exact ⟨0, rfl, by omega, rfl, hs⟩
  case round =>
    clear hs
    obtain ⟨k, rfl, hk, hf, hs⟩ := hrel
    have HF := Lib.hid hf
    have k0 : (0 : Int) ≤ k := by omega
    clear hf
    by_cases hkn : k < 16
    · have k1 : (k : Int) < 16 := by omega
      obtain ⟨⟨⟨sl, sn, ⟨ss, sg, sd⟩⟩, v⟩, hx⟩ : ∃ x, xs[k]? = some x := ⟨_, List.getElem?_eq_getElem (by omega)⟩
      obtain ⟨c0, c1, c2, c3, c4⟩ := ring_of hs hx
      obtain ⟨va, vn, vc, hv⟩ := hsh _ (List.mem_of_getElem? hx)
      try simp only at hv
      subst hv
      have hst := freeI_step xs k _ hx k
      have HST := Lib.hid hst
      have hlg := fun w => log2_any ⟨sl, sn, ⟨ss, sg, sd⟩⟩ (.slice va vn vc) ⟨_, _, _, rfl⟩ w
      unfold slV at hlg
      simp only at hlg
      have HLG := Lib.hid hlg
      clear hst hlg hx
      go_wp2_with fail
      refine (HLG.out _).mono ?_; rintro r w2 ⟨rfl, hx2⟩
      have hs2 := hs.below hx2
      clear hx2 c0 c1 c2 c3 c4
      cases sl
      · go_wp2_with fail
        go_ret
        refine ⟨?_, hs2⟩
        rw [HF.out, HST.out]
        rfl
      · go_wp2_with fail
        refine ⟨⟨k + 1, by simp, by omega, ?_, hs2⟩, ?_⟩
        · rw [HF.out, HST.out]
          rfl
        · simp [intOf]
          omega
    · have e : k = 16 := by omega
      subst e
      go_wp2_with fail
      go_ret
      refine ⟨?_, hs⟩
      rw [HF.out, List.drop_eq_nil_of_le (by omega)]
      rfl
end Go.Proofs.YtekbbpfnkbanjaaGreat.Ch

namespace Go.Proofs.YtekbbpfnkbanjaaGreat.Ch
set_option linter.unusedSimpArgs false
open Go Go.RowKit Go.Sl Go.BigFrame
set_option linter.unusedVariables false

set_option maxRecDepth 100000 in
theorem log1_any (z : Nat) (i0 : It) (v0 : Value) (s : Sl5) (v : Value) (W w : World) (L : List Atom) (hs : Sat W w L) (hm : cellsA z #[.int .i64 i0.stripe, .int .i64 i0.gen, v0] 77 ∈ L)
    (h0 : ∀ y, Sat W y L → Reads y v0 i0.data.length (bts i0.data)) (h1 : ∀ y, Sat W y L → Reads y v s.i.data.length (bts s.i.data)) (hl0 : i0.data.length < 1000000) (hl : s.i.data.length < 1000000) :
    Calls Tryz.prog 78 #[slV s v, .pointer (some ⟨z, 0, none⟩)] w fun e w' => e = .returned (.bool (decide (s.live = true ∧ s.i = i0))) ∧ Sat W w' L := by
  obtain ⟨av0, cv0, rfl⟩ := reads_shape (h0 w hs)
  obtain ⟨av, cv, rfl⟩ := reads_shape (h1 w hs)
  obtain ⟨sl, sn, ⟨ss, sg, sd⟩⟩ := s
  obtain ⟨i0s, i0g, i0d⟩ := i0
  simp only at h0 h1 hl0 hl hm
  unfold slV
  simp only []
  have hs2 := hs.newCells #[.bool sl, .int .i64 sn, .int .i64 ss, .int .i64 sg, .slice av sd.length cv] 117
  cases sl
  · rw [decide_eq_false (fun h => absurd h.1 (by decide))]
    clear hm h0 h1
    go_enter Tryz.func78, Tryz.ntmps78
    go_wp2_with fail
    go_ret
    exact ⟨rfl, hs2.tail⟩
  · rw [show decide (true = true ∧ (⟨ss, sg, sd⟩ : It) = ⟨i0s, i0g, i0d⟩) = decide ((⟨ss, sg, sd⟩ : It) = ⟨i0s, i0g, i0d⟩) from decide_eq_decide.2 ⟨fun h => h.2, fun h => ⟨rfl, h⟩⟩]
    have e0 : w.cell? ⟨z, 0, none⟩ = some (.int .i64 i0s) := hs.cell hm 0
    have e1 : w.cell? ⟨z, 1, none⟩ = some (.int .i64 i0g) := hs.cell hm 1
    have e2 : w.cell? ⟨z, 2, none⟩ = some (.slice av0 i0d.length cv0) := hs.cell hm 2
    have hzw : z < w.heap.size := hs.lt hm
    have hsm := isame_any ⟨ss, sg, sd⟩ ⟨i0s, i0g, i0d⟩ _ _ W _ L hs2.tail h1 h0 hl hl0
    generalize decide ((⟨ss, sg, sd⟩ : It) = ⟨i0s, i0g, i0d⟩) = dd at *
    unfold itV at hsm
    simp only at hsm
    have HSM := Lib.hid hsm
    clear hsm hs hs2 h0 h1 hm
    go_enter Tryz.func78, Tryz.ntmps78
    go_wp2_with fail
    refine HSM.out.mono ?_; rintro r w5 ⟨rfl, hs5⟩
    go_wp2_with fail
    go_ret
    exact ⟨rfl, hs5⟩

/-- Is the intent live among them? -/
def liveIn (xs : List (Sl5 × Value)) (i0 : It) : Prop := ∃ x ∈ xs, x.1.live = true ∧ x.1.i = i0
set_option maxRecDepth 100000 in
set_option maxHeartbeats 4000000 in
theorem contains_same (b bp z : Nat) (i0 : It) (v0 : Value) (xs : List (Sl5 × Value)) (nx : Int) (W w : World) (F : List Atom) (hs : Sat W w (cellsA b (ringC bp xs nx) 120 :: F)) (hl : xs.length = 16) (hm : cellsA z #[.int .i64 i0.stripe, .int .i64 i0.gen, v0] 77 ∈ F)
    (h0 : ∀ y, Sat W y F → Reads y v0 i0.data.length (bts i0.data)) (h1 : ∀ y, Sat W y F → ∀ x ∈ xs, Reads y x.2 x.1.i.data.length (bts x.1.i.data)) (hl0 : i0.data.length < 1000000) (hl1 : ∀ x ∈ xs, x.1.i.data.length < 1000000) :
    Calls Tryz.prog 77 #[.slice (some ⟨b, 1, none⟩) 16 16, .func (.func 78) #[] #[.pointer (some ⟨z, 0, none⟩)]] w fun e w' => ∃ c : Bool, (c = true ↔ liveIn xs i0) ∧ e = .returned (.bool c) ∧ Sat W w' (cellsA b (ringC bp xs nx) 120 :: F) := by
  have hix : Calls Tryz.prog 80 #[.slice (some ⟨b, 1, none⟩) 16 16, .func (.func 78) #[] #[.pointer (some ⟨z, 0, none⟩)]] w fun e w' => ∃ k : Int, (0 ≤ k ↔ liveIn xs i0) ∧ e = .returned (.int .i64 k) ∧ Sat W w' (cellsA b (ringC bp xs nx) 120 :: F) := by
    go_enter Tryz.func80, Tryz.ntmps80
    go_wp2_with fail
    go_loopw [8] (fun kv wr => ∃ k : Nat, kv = .int .i64 k ∧ k ≤ 16 ∧ (∀ x ∈ xs.take k, ¬ (x.1.live = true ∧ x.1.i = i0)) ∧ Sat W wr (cellsA b (ringC bp xs nx) 120 :: F)) (fun kv _ => (16 - (intOf kv).toNat))
    case atStart => exact ⟨0, rfl, by omega, (fun x hx => by simp at hx), hs⟩
    case round =>
      clear hs
      obtain ⟨k, rfl, hk, hf, hs⟩ := hrel
      have HF := Lib.hid hf
      have k0 : (0 : Int) ≤ k := by omega
      clear hf
      by_cases hkn : k < 16
      · have k1 : (k : Int) < 16 := by omega
        obtain ⟨⟨⟨sl, sn, ⟨ss, sg, sd⟩⟩, v⟩, hx⟩ : ∃ x, xs[k]? = some x := ⟨_, List.getElem?_eq_getElem (by omega)⟩
        obtain ⟨c0, c1, c2, c3, c4⟩ := ring_of hs hx
        have hmx := List.mem_of_getElem? hx
        have hrx := fun y hy => h1 y hy _ hmx
        have hlx := hl1 _ hmx
        simp only at hrx hlx
        obtain ⟨va, vc, rfl⟩ := reads_shape (hrx wr hs.tail)
        have hlg := log1_any z i0 v0 ⟨sl, sn, ⟨ss, sg, sd⟩⟩ (.slice va sd.length vc) W wr _ hs (.tail _ hm) (fun y hy => h0 y hy.tail) (fun y hy => hrx y hy.tail) hl0 hlx
        unfold slV at hlg
        simp only at hlg
        have HLG := Lib.hid hlg
        have HX := Lib.hid hx
        have H0 := Lib.hid h0
        have H1 := Lib.hid h1
        have HM := Lib.hid hm
        clear hlg hx h0 h1 hm hrx
        go_wp2_with fail
        refine HLG.out.mono ?_; rintro r w2 ⟨rfl, hs2⟩
        clear c0 c1 c2 c3 c4 hs
        by_cases hq : sl = true ∧ (⟨ss, sg, sd⟩ : It) = i0
        · rw [decide_eq_true hq]
          have HQ := Lib.hid hq
          clear hq
          go_wp2_with fail
          go_ret
          refine ⟨k, ⟨fun _ => ⟨_, hmx, HQ.out⟩, fun _ => k0⟩, rfl, hs2⟩
        · rw [decide_eq_false hq]
          have HQ := Lib.hid hq
          clear hq
          go_wp2_with fail
          refine ⟨⟨k + 1, by simp, by omega, ?_, hs2⟩, ?_⟩
          · intro x hx
            rw [take_snoc HX.out, List.mem_append, List.mem_singleton] at hx
            rcases hx with hx | rfl
            · exact HF.out x hx
            · exact HQ.out
          · simp [intOf]
            omega
      · have e : k = 16 := by omega
        subst e
        go_wp2_with fail
        go_ret
        have h := HF.out
        rw [List.take_of_length_le (by omega)] at h
        exact ⟨-1, ⟨fun h2 => absurd h2 (by decide), fun ⟨x, hx, hq⟩ => absurd hq (h x hx)⟩, rfl, hs⟩
  have HIX := Lib.hid hix
  clear hix hs h0 h1 hm
  go_enter Tryz.func77, Tryz.ntmps77
  go_wp2_with fail
  refine HIX.out.mono ?_; rintro r w2 ⟨k, hk, rfl, hs2⟩
  go_wp2_with fail
  go_ret
  exact ⟨decide (0 ≤ k), by simpa using hk, rfl, hs2⟩
end Go.Proofs.YtekbbpfnkbanjaaGreat.Ch

namespace Go.Proofs.YtekbbpfnkbanjaaGreat.Ch
set_option linter.unusedSimpArgs false
open Go Go.RowKit Go.Sl Go.BigFrame
set_option linter.unusedVariables false

def intB (no : Int) (i : It) : List UInt8 := bytesB no 6 ++ ([byteAt i.stripe 0] ++ (bytesB i.gen 6 ++ i.data))
def layI (no : Int) (i : It) : List UInt8 := sealB 2 (intB no i)
theorem intB_length (no : Int) (i : It) : (intB no i).length = 13 + i.data.length := by
  simp only [intB, List.length_append, bytesB_length, List.length_cons, List.length_nil]
  omega
theorem layI_length (no : Int) (i : It) (h : i.data.length = 128) : (layI no i).length = 160 := sealB_length _ _ (by rw [intB_length]; omega)

set_option maxRecDepth 100000 in
theorem log_bad (b bp : Nat) (i : It) (da : Option Addr) (dc : Nat) (w : World) (hp : ¬ rightI i) :
    Calls Tryz.prog 54 #[.pointer (some ⟨b, 0, none⟩), itV i (.slice da i.data.length dc)] w fun e w' => e = .returned (.int .i64 1) ∧ Ext w w' := by
  have hr := iright_any i da dc
  rw [decide_eq_false hp] at hr
  obtain ⟨s, g, d⟩ := i
  unfold itV at *
  simp only at *
  have HR := Lib.hid hr
  clear hr
  go_enter Tryz.func54, Tryz.ntmps54
  go_wp2_with fail
  refine (HR.out _).mono ?_; rintro r w2 ⟨rfl, hx⟩
  go_wp2_with fail
  go_ret
  exact ⟨rfl, (Ext.alloc _ _).trans hx⟩

set_option maxRecDepth 100000 in
set_option maxHeartbeats 16000000 in
theorem log_ok (b bp k : Nat) (q : Pt) (Aq : List Atom) (xs : List (Sl5 × Value)) (nx : Int) (B : List Atom) (i : It) (da : Option Addr) (dc : Nat) (W w : World) (L : List Atom) (hq : PtA bp q Aq) (hri : RowsIn B xs) (hxl : xs.length = 16) (hsm : ∀ x ∈ xs, x.1.i.data.length < 1000000)
    (hs : Sat W w (cellsA b (ringC bp xs nx) 120 :: (B ++ (Aq ++ L)))) (hin : ∀ y, Sat W y L → Reads y (.slice da i.data.length dc) i.data.length (bts i.data)) (hp : rightI i) (hnl : ¬ liveIn xs i) (hk : freeI xs 0 = k) (hk16 : k < 16) (n0 : 0 ≤ nx) (n1 : nx < 281474976710656) (hlen : q.now.length = 96) (hpl : q.pend.length < 900000) (hw0 : 0 ≤ q.writes) (hw1 : q.writes < 1000000000) :
    Calls Tryz.prog 54 #[.pointer (some ⟨b, 0, none⟩), itV i (.slice da i.data.length dc)] w fun e w' => ∃ Aq' B' v', e = .returned (.int .i64 0) ∧ PtA bp (q.wr (80 + k) (layI nx i)) Aq' ∧ RowsIn B' (xs.set k (⟨true, nx, i⟩, v')) ∧ Sat W w' (cellsA b (ringC bp (xs.set k (⟨true, nx, i⟩, v')) (nx + 1)) 120 :: (B' ++ (Aq' ++ L))) := by
  have hr := iright_any i da dc
  rw [decide_eq_true hp] at hr
  obtain ⟨s, g, d⟩ := i
  obtain ⟨p1, p2, p3, p4, p5⟩ := hp
  unfold itV at *
  simp only at *
  have hs0 : ((byteAt s 0).toNat : Int) = s := by
    have := byteAt_val s 0
    omega
  have hs1 := hs.newCells #[.int .i64 s, .int .i64 g, .slice da d.length dc] 77
  have hs2 := Sat.use (M := cellsA b (ringC bp xs nx) 120 :: (cellsA w.heap.size #[.int .i64 s, .int .i64 g, .slice da d.length dc] 77 :: (B ++ (Aq ++ L)))) hs1 (by intro x; simp only [cnt_append, cnt_cons, cnt_nil]; omega)
  have HR := Lib.hid hr
  have HIN := Lib.hid (show ∀ y, Sat W y (cellsA b (ringC bp xs nx) 120 :: (cellsA w.heap.size #[.int .i64 s, .int .i64 g, .slice da d.length dc] 77 :: (B ++ (Aq ++ L)))) → Reads y (.slice da d.length dc) d.length (bts d) from fun y hy => hin y hy.tail.tail.right.right)
  have HCT := Lib.hid (fun w2 hs => contains_same b bp w.heap.size ⟨s, g, d⟩ (.slice da d.length dc) xs nx W w2 (cellsA w.heap.size #[.int .i64 s, .int .i64 g, .slice da d.length dc] 77 :: (B ++ (Aq ++ L))) hs hxl m0 (fun y hy => hin y hy.tail.right.right) (fun y hy x hx => (hri x hx).reads hy (fun z hz => .tail _ (List.mem_append_left _ hz))) (by show d.length < 1000000; omega) hsm)
  have HIN0 := Lib.hid hin
  have HIX := Lib.hid (fun w2 hs => index_free b bp xs nx W w2 (cellsA w.heap.size #[.int .i64 s, .int .i64 g, .slice da d.length dc] 77 :: (B ++ (Aq ++ L))) hs hxl (fun x hx => by obtain ⟨a, c, h⟩ := (hri x hx).shape; exact ⟨_, _, _, h⟩))
  rw [hk] at HIX
  have HRI := Lib.hid hri
  have HXL := Lib.hid hxl
  have HS0 := Lib.hid hs0
  have HQ := Lib.hid hq
  have HNL := Lib.hid hnl
  have HP5 := Lib.hid p5
  clear hr hs hs0 hs1 hin hri hsm hq hnl hk p5 hxl
  have k0 : (0 : Int) ≤ k := by omega
  have k1 : (k : Int) < 16 := by omega
  go_enter Tryz.func54, Tryz.ntmps54
  go_wp2_with fail
  refine (HR.out _).mono ?_; rintro r w2 ⟨rfl, hx⟩
  have hs3 := hs2.below hx
  clear hs2 hx HR
  go_wp2_with fail
  refine (HCT.out w2 hs3).mono ?_; rintro r w3 ⟨cb, hcb, rfl, hs4⟩
  obtain rfl : cb = false := by
    cases cb
    · rfl
    · exact absurd (hcb.1 rfl) HNL.out
  clear hs3 HCT hcb
  go_wp2_with fail
  refine (HIX.out w3 hs4).mono ?_; rintro r w4 ⟨rfl, hs5⟩
  clear hs4 HIX
  have e81 : w4.cell? ⟨b, 81, none⟩ = some (.int .i64 nx) := by rw [hs5.cell m0]; exact ring_next HXL.out
  generalize w.heap.size = z at *
  obtain ⟨LL, hLL⟩ : ∃ LL, LL = cellsA b (ringC bp xs nx) 120 :: (cellsA z #[.int .i64 s, .int .i64 g, .slice da d.length dc] 77 :: (B ++ (Aq ++ L))) := ⟨_, rfl⟩
  rw [← hLL] at hs5 HIN
  have hnb : ¬ 281474976710655 < nx := by omega
  have c81 : ∀ y : Of W LL, y.v.cell? ⟨b, 81, none⟩ = some (.int .i64 nx) := fun y => by
    have h := y.s
    have h2 := (congrArg (Sat W y.v) hLL).mp h
    rw [h2.cell m0]; exact ring_next HXL.out
  have hmz : cellsA z #[.int .i64 s, .int .i64 g, .slice da d.length dc] 77 ∈ LL := by rw [hLL]; exact m1
  have d0 : ∀ y : Of W LL, y.v.cell? ⟨z, 0, none⟩ = some (.int .i64 s) := fun y => y.s.cell hmz 0
  have d1 : ∀ y : Of W LL, y.v.cell? ⟨z, 1, none⟩ = some (.int .i64 g) := fun y => y.s.cell hmz 1
  have d2 : ∀ y : Of W LL, y.v.cell? ⟨z, 2, none⟩ = some (.slice da d.length dc) := fun y => y.s.cell hmz 2
  have g1 : s % 256 = s := by omega
  have HLL := Lib.hid hLL
  have HMZ := Lib.hid hmz
  clear hLL hmz
  go_upto_region 8 with fail
  go_cut [6, 7] (fun v6 v7 wx => ∃ (a5 : Option Addr) (c5 : Nat) (R5 : List Atom), v6 = .slice a5 (layI nx ⟨s, g, d⟩).length c5 ∧ RowA 5 1 (.slice a5 (layI nx ⟨s, g, d⟩).length c5) (layI nx ⟨s, g, d⟩).length (bts (layI nx ⟨s, g, d⟩)) R5 ∧ Sat W wx (R5 ++ LL))
  case first =>
    refine wp_region_plan [4, 8, 11, 14, 15, 16] [0, 1, 2, 3, 5, 6, 7, 9, 10, 12, 13] [0, 1, 2, 5, 7, 9, 12] [4, 8, 11] [0, 1, 2, 3, 5, 6, 7, 9, 10, 12, 13] (.two [4] (.two [8, 11, 14, 15, 16, 17, 18, 19, 20, 21] .nil [11, 8, 14, 15, 16, 17, 18, 19, 20, 21] .nil) [8, 4, 11, 14, 15, 16, 17, 18, 19, 20, 21] .nil) (Held W LL) (by kernel_rfl) (by kernel_rfl) ?_ ?_
    · exact Held.mk hs5.drew
    have hne : Nonempty (Of W LL) := ⟨⟨_, hs5⟩⟩
    have hsT := hs5.drew
    repeat (first | (refine can_pu1 rfl rfl rfl rfl rfl rfl (fun K hK => ?_); go_big_quiet_op; refine hK _ ?_; clear hK K) | (refine can_st1 rfl rfl rfl rfl rfl rfl (fun K hK => ?_); go_big_quiet_op; refine hK _ ?_; clear hK K) | (refine can_early1 rfl rfl rfl rfl rfl (fun K hK => ?_); go_big_quiet_op; refine hK _ ?_; clear hK K) | (refine can_skip rfl rfl rfl ?_; simp only [Act.put, List.setIfInBounds_toArray, List.set_cons_zero, List.set_cons_succ]))
    clear c81 d0 d1 d2 hne hs5 e81
    refine with_sat hsT ?_
    clear hsT
    intro wt hsT
    refine can_two ?_ ?_
    · skip
      refine can_actS rfl rfl rfl rfl (fun K hK => ?_)
      go_wp2_with fail
      refine (ibytes_any nx W _ _ n0 (by omega) hsT).mono ?_; rintro r wa ⟨v1, R1, rfl, hr1, hsA⟩
      apply hK
      refine ⟨Held.mk hsA.right, ?_⟩
      clear hK
      obtain ⟨a1, k1, rfl⟩ := Ch.RowA.slice hr1
      refine can_two ?_ ?_
      · skip
        refine can_actS rfl rfl rfl rfl (fun K hK => ?_)
        go_wp2_with fail
        have hsB := Sat.newCells hsA #[.int .u8 s] 5
        refine ⟨Held.mk hsB.tail.right, ?_⟩
        generalize (wa).heap.size = z8 at *
        refine with_sat hsB ?_
        clear hsB
        intro wb hsB
        refine can_actS rfl rfl rfl rfl (fun K hK => ?_)
        go_wp2_with fail
        refine (ibytes_any g W _ _ (by omega) (by omega) hsB).mono ?_; rintro r wc ⟨v2, R2, rfl, hr2, hsC⟩
        apply hK
        refine ⟨Held.mk hsC.right.tail.right, ?_⟩
        clear hK
        obtain ⟨a2, k2, rfl⟩ := Ch.RowA.slice hr2
        have hsD := Sat.use (M := cellsA z8 #[.int .u8 s] 5 :: (R2 ++ (R1 ++ LL))) hsC (by intro x; simp only [cnt_append, cnt_cons, cnt_nil]; omega)
        refine can_actF rfl rfl rfl rfl (fun K hK => ?_)
        go_wp2_with fail
        have hsE := hsD.newCells #[.slice a1 (bytesB nx 6).length k1, .slice (some ⟨z8, 0, none⟩) 1 1, .slice a2 (bytesB g 6).length k2, .slice da d.length dc] 35
        refine can_actF rfl rfl rfl rfl (fun K hK => ?_)
        go_wp2_with fail
        refine (concat_any W _ _ _ [.slice a1 (bytesB nx 6).length k1, .slice (some ⟨z8, 0, none⟩) 1 1, .slice a2 (bytesB g 6).length k2, .slice da d.length dc] [bytesB nx 6, [byteAt s 0], bytesB g 6, d] hsE (fun y hy => reads_cells hy m0 _ _ _ rfl) (fun y hy => ?_) (by have := HP5.out; simp [bytesB_length]; omega) (by simp)).mono ?_
        · have hy2 := hy.tail
          exact ⟨hr1.reads hy2.tail.right, reads_cells hy2 m0 1 1 (bts [byteAt s 0]) (by simp [bts]; exact HS0.out.symm), hr2.reads hy2.tail, HIN.out y hy2.tail.right.right, trivial⟩
        rintro r wd ⟨v4, R4, rfl, hr4, hsF⟩
        have hcat : [bytesB nx 6, [byteAt s 0], bytesB g 6, d].flatten = intB nx ⟨s, g, d⟩ := by simp [intB]
        rw [hcat] at hr4
        have hlen := intB_length nx ⟨s, g, d⟩
        simp only at hlen
        rw [HP5.out] at hlen
        generalize hib : intB nx ⟨s, g, d⟩ = M at *
        clear hsD hsE hcat
        go_wp2_with fail
        refine can_actF rfl rfl rfl rfl (fun K hK => ?_)
        go_wp2_with fail
        refine (seal_any 2 v4 M W _ _ (by omega) (by omega) (by omega) (hr4.reads hsF) hsF).mono ?_
        rintro r we ⟨v5, R5, rfl, hr5, hsG⟩
        have hlay : sealB 2 M = layI nx ⟨s, g, d⟩ := by rw [← hib]; rfl
        rw [hlay] at hr5
        obtain ⟨a5, c5, rfl⟩ := Ch.RowA.slice hr5
        clear hlen hib hlay hsF
        go_wp2_with fail
        repeat (first | (refine can_pu1 rfl rfl rfl rfl rfl rfl (fun K hK => ?_); go_big_quiet_op; refine hK _ ?_; clear hK K) | (refine can_st1 rfl rfl rfl rfl rfl rfl (fun K hK => ?_); go_big_quiet_op; refine hK _ ?_; clear hK K) | (refine can_early1 rfl rfl rfl rfl rfl (fun K hK => ?_); go_big_quiet_op; refine hK _ ?_; clear hK K) | (refine can_skip rfl rfl rfl ?_; simp only [Act.put, List.setIfInBounds_toArray, List.set_cons_zero, List.set_cons_succ]))
        refine can_end1 ?_; (try simp only [Exit.then])
        go_wp2_with fail
        go_meet
        exact ⟨a5, c5, R5, rfl, hr5, hsG.use (by intro x; simp only [cnt_append, cnt_cons, cnt_nil]; omega)⟩
      · skip
        refine can_actS rfl rfl rfl rfl (fun K hK => ?_)
        go_wp2_with fail
        refine (ibytes_any g W _ _ (by omega) (by omega) hsA).mono ?_; rintro r wc ⟨v2, R2, rfl, hr2, hsC⟩
        apply hK
        refine ⟨Held.mk hsC.right.right, ?_⟩
        clear hK
        obtain ⟨a2, k2, rfl⟩ := Ch.RowA.slice hr2
        refine can_actS rfl rfl rfl rfl (fun K hK => ?_)
        go_wp2_with fail
        have hsB := Sat.newCells hsC #[.int .u8 s] 5
        refine ⟨Held.mk hsB.tail.right.right, ?_⟩
        generalize (wc).heap.size = z8 at *
        refine with_sat hsB ?_
        clear hsB
        intro wb hsB
        have hsD := Sat.use (M := cellsA z8 #[.int .u8 s] 5 :: (R2 ++ (R1 ++ LL))) hsB (by intro x; simp only [cnt_append, cnt_cons, cnt_nil]; omega)
        refine can_actF rfl rfl rfl rfl (fun K hK => ?_)
        go_wp2_with fail
        have hsE := hsD.newCells #[.slice a1 (bytesB nx 6).length k1, .slice (some ⟨z8, 0, none⟩) 1 1, .slice a2 (bytesB g 6).length k2, .slice da d.length dc] 35
        refine can_actF rfl rfl rfl rfl (fun K hK => ?_)
        go_wp2_with fail
        refine (concat_any W _ _ _ [.slice a1 (bytesB nx 6).length k1, .slice (some ⟨z8, 0, none⟩) 1 1, .slice a2 (bytesB g 6).length k2, .slice da d.length dc] [bytesB nx 6, [byteAt s 0], bytesB g 6, d] hsE (fun y hy => reads_cells hy m0 _ _ _ rfl) (fun y hy => ?_) (by have := HP5.out; simp [bytesB_length]; omega) (by simp)).mono ?_
        · have hy2 := hy.tail
          exact ⟨hr1.reads hy2.tail.right, reads_cells hy2 m0 1 1 (bts [byteAt s 0]) (by simp [bts]; exact HS0.out.symm), hr2.reads hy2.tail, HIN.out y hy2.tail.right.right, trivial⟩
        rintro r wd ⟨v4, R4, rfl, hr4, hsF⟩
        have hcat : [bytesB nx 6, [byteAt s 0], bytesB g 6, d].flatten = intB nx ⟨s, g, d⟩ := by simp [intB]
        rw [hcat] at hr4
        have hlen := intB_length nx ⟨s, g, d⟩
        simp only at hlen
        rw [HP5.out] at hlen
        generalize hib : intB nx ⟨s, g, d⟩ = M at *
        clear hsD hsE hcat
        go_wp2_with fail
        refine can_actF rfl rfl rfl rfl (fun K hK => ?_)
        go_wp2_with fail
        refine (seal_any 2 v4 M W _ _ (by omega) (by omega) (by omega) (hr4.reads hsF) hsF).mono ?_
        rintro r we ⟨v5, R5, rfl, hr5, hsG⟩
        have hlay : sealB 2 M = layI nx ⟨s, g, d⟩ := by rw [← hib]; rfl
        rw [hlay] at hr5
        obtain ⟨a5, c5, rfl⟩ := Ch.RowA.slice hr5
        clear hlen hib hlay hsF
        go_wp2_with fail
        repeat (first | (refine can_pu1 rfl rfl rfl rfl rfl rfl (fun K hK => ?_); go_big_quiet_op; refine hK _ ?_; clear hK K) | (refine can_st1 rfl rfl rfl rfl rfl rfl (fun K hK => ?_); go_big_quiet_op; refine hK _ ?_; clear hK K) | (refine can_early1 rfl rfl rfl rfl rfl (fun K hK => ?_); go_big_quiet_op; refine hK _ ?_; clear hK K) | (refine can_skip rfl rfl rfl ?_; simp only [Act.put, List.setIfInBounds_toArray, List.set_cons_zero, List.set_cons_succ]))
        refine can_end1 ?_; (try simp only [Exit.then])
        go_wp2_with fail
        go_meet
        exact ⟨a5, c5, R5, rfl, hr5, hsG.use (by intro x; simp only [cnt_append, cnt_cons, cnt_nil]; omega)⟩
    · skip
      refine can_actS rfl rfl rfl rfl (fun K hK => ?_)
      go_wp2_with fail
      have hsB := Sat.newCells hsT #[.int .u8 s] 5
      refine ⟨Held.mk hsB.tail, ?_⟩
      generalize (wt).heap.size = z8 at *
      refine with_sat hsB ?_
      clear hsB
      intro wb hsB
      refine can_actS rfl rfl rfl rfl (fun K hK => ?_)
      go_wp2_with fail
      refine (ibytes_any nx W _ _ n0 (by omega) hsB).mono ?_; rintro r wa ⟨v1, R1, rfl, hr1, hsA⟩
      apply hK
      refine ⟨Held.mk hsA.right.tail, ?_⟩
      clear hK
      obtain ⟨a1, k1, rfl⟩ := Ch.RowA.slice hr1
      refine can_actS rfl rfl rfl rfl (fun K hK => ?_)
      go_wp2_with fail
      refine (ibytes_any g W _ _ (by omega) (by omega) hsA).mono ?_; rintro r wc ⟨v2, R2, rfl, hr2, hsC⟩
      apply hK
      refine ⟨Held.mk hsC.right.right.tail, ?_⟩
      clear hK
      obtain ⟨a2, k2, rfl⟩ := Ch.RowA.slice hr2
      have hsD := Sat.use (M := cellsA z8 #[.int .u8 s] 5 :: (R2 ++ (R1 ++ LL))) hsC (by intro x; simp only [cnt_append, cnt_cons, cnt_nil]; omega)
      refine can_actF rfl rfl rfl rfl (fun K hK => ?_)
      go_wp2_with fail
      have hsE := hsD.newCells #[.slice a1 (bytesB nx 6).length k1, .slice (some ⟨z8, 0, none⟩) 1 1, .slice a2 (bytesB g 6).length k2, .slice da d.length dc] 35
      refine can_actF rfl rfl rfl rfl (fun K hK => ?_)
      go_wp2_with fail
      refine (concat_any W _ _ _ [.slice a1 (bytesB nx 6).length k1, .slice (some ⟨z8, 0, none⟩) 1 1, .slice a2 (bytesB g 6).length k2, .slice da d.length dc] [bytesB nx 6, [byteAt s 0], bytesB g 6, d] hsE (fun y hy => reads_cells hy m0 _ _ _ rfl) (fun y hy => ?_) (by have := HP5.out; simp [bytesB_length]; omega) (by simp)).mono ?_
      · have hy2 := hy.tail
        exact ⟨hr1.reads hy2.tail.right, reads_cells hy2 m0 1 1 (bts [byteAt s 0]) (by simp [bts]; exact HS0.out.symm), hr2.reads hy2.tail, HIN.out y hy2.tail.right.right, trivial⟩
      rintro r wd ⟨v4, R4, rfl, hr4, hsF⟩
      have hcat : [bytesB nx 6, [byteAt s 0], bytesB g 6, d].flatten = intB nx ⟨s, g, d⟩ := by simp [intB]
      rw [hcat] at hr4
      have hlen := intB_length nx ⟨s, g, d⟩
      simp only at hlen
      rw [HP5.out] at hlen
      generalize hib : intB nx ⟨s, g, d⟩ = M at *
      clear hsD hsE hcat
      go_wp2_with fail
      refine can_actF rfl rfl rfl rfl (fun K hK => ?_)
      go_wp2_with fail
      refine (seal_any 2 v4 M W _ _ (by omega) (by omega) (by omega) (hr4.reads hsF) hsF).mono ?_
      rintro r we ⟨v5, R5, rfl, hr5, hsG⟩
      have hlay : sealB 2 M = layI nx ⟨s, g, d⟩ := by rw [← hib]; rfl
      rw [hlay] at hr5
      obtain ⟨a5, c5, rfl⟩ := Ch.RowA.slice hr5
      clear hlen hib hlay hsF
      go_wp2_with fail
      repeat (first | (refine can_pu1 rfl rfl rfl rfl rfl rfl (fun K hK => ?_); go_big_quiet_op; refine hK _ ?_; clear hK K) | (refine can_st1 rfl rfl rfl rfl rfl rfl (fun K hK => ?_); go_big_quiet_op; refine hK _ ?_; clear hK K) | (refine can_early1 rfl rfl rfl rfl rfl (fun K hK => ?_); go_big_quiet_op; refine hK _ ?_; clear hK K) | (refine can_skip rfl rfl rfl ?_; simp only [Act.put, List.setIfInBounds_toArray, List.set_cons_zero, List.set_cons_succ]))
      refine can_end1 ?_; (try simp only [Exit.then])
      go_wp2_with fail
      go_meet
      exact ⟨a5, c5, R5, rfl, hr5, hsG.use (by intro x; simp only [cnt_append, cnt_cons, cnt_nil]; omega)⟩
  case rest =>
    clear hs5 c81 d0 d1 d2 e81
    obtain ⟨a5, c5, R5, rfl, hr5, hs6⟩ := hcut
    have hl160 := layI_length nx ⟨s, g, d⟩ HP5.out
    rw [HLL.out] at hs6
    generalize hY : layI nx ⟨s, g, d⟩ = Y at *
    have HYE := Lib.hid hY
    clear hY
    have hbk := fun w => iblock_any (k : Int) w k0 (by omega)
    have hs7 := Sat.use (M := Aq ++ (R5 ++ (cellsA b (ringC bp xs nx) 120 :: (cellsA z #[.int .i64 s, .int .i64 g, .slice da d.length dc] 77 :: (B ++ L))))) hs6 (by intro x; simp only [cnt_append, cnt_cons, cnt_nil]; omega)
    obtain ⟨L9, hL9⟩ : ∃ L9, L9 = Aq ++ (R5 ++ (cellsA b (ringC bp xs nx) 120 :: (cellsA z #[.int .i64 s, .int .i64 g, .slice da d.length dc] 77 :: (B ++ L)))) := ⟨_, rfl⟩
    have hmr : cellsA b (ringC bp xs nx) 120 ∈ L9 := by rw [hL9]; exact List.mem_append_right _ (List.mem_append_right _ m0)
    have c0 : ∀ y : Of W L9, y.v.cell? ⟨b, 0, none⟩ = some (.pointer (some ⟨bp, 0, none⟩)) := fun y => y.s.cell hmr 0
    have hwr := fun w (h : Sat W w L9) => write_in bp q Aq (80 + k) (.slice a5 Y.length c5) Y W w (R5 ++ (cellsA b (ringC bp xs nx) 120 :: (cellsA z #[.int .i64 s, .int .i64 g, .slice da d.length dc] 77 :: (B ++ L)))) HQ.out (by rw [hL9] at h; exact h) (by omega) hl160 (hr5.reads (F := Aq ++ (cellsA b (ringC bp xs nx) 120 :: (cellsA z #[.int .i64 s, .int .i64 g, .slice da d.length dc] 77 :: (B ++ L)))) (by rw [hL9] at h; exact h.use (by intro x; simp only [cnt_append, cnt_cons, cnt_nil]; omega))) hpl hw0 hw1
    rw [show (((80 + k : Nat)) : Int) = 80 + (k : Int) by omega] at hwr
    rw [← hL9] at hs7
    have HWR := Lib.hid hwr
    have HBK := Lib.hid hbk
    have HL9 := Lib.hid hL9
    have HR5 := Lib.hid hr5
    clear hwr hbk hL9 hs6 hl160 hmr hr5
    go_wp2_with fail
    refine wp_region_held1 [5, 7] [0, 1, 2, 3, 6] [0, 1, 2, 6] [5] [0, 1, 2, 3, 4, 6, 5, 7] (Held W L9) (by kernel_rfl) (by kernel_rfl) ?_ ?_
    · exact Held.mk hs7.drew
    have hne : Nonempty (Of W L9) := ⟨⟨_, hs7⟩⟩
    have hsT := hs7.drew
    have e0 := c0 ⟨_, hs7⟩
    repeat (first | (refine can_pu1 rfl rfl rfl rfl rfl rfl (fun K hK => ?_); go_big_quiet_op; refine hK _ ?_; clear hK K) | (refine can_st1 rfl rfl rfl rfl rfl rfl (fun K hK => ?_); go_big_quiet_op; refine hK _ ?_; clear hK K) | (refine can_early1 rfl rfl rfl rfl rfl (fun K hK => ?_); go_big_quiet_op; refine hK _ ?_; clear hK K) | (refine can_skip rfl rfl rfl ?_; simp only [Act.put, List.setIfInBounds_toArray, List.set_cons_zero, List.set_cons_succ]))
    refine can_actS rfl rfl rfl rfl (fun K hK => ?_)
    go_wp2_with fail
    refine (HBK.out _).mono ?_; rintro r wa ⟨rfl, rfl⟩
    apply hK
    refine ⟨Held.mk hsT, ?_⟩
    clear hK e0 hne hs7
    repeat (first | (refine can_pu1 rfl rfl rfl rfl rfl rfl (fun K hK => ?_); go_big_quiet_op; refine hK _ ?_; clear hK K) | (refine can_st1 rfl rfl rfl rfl rfl rfl (fun K hK => ?_); go_big_quiet_op; refine hK _ ?_; clear hK K) | (refine can_early1 rfl rfl rfl rfl rfl (fun K hK => ?_); go_big_quiet_op; refine hK _ ?_; clear hK K) | (refine can_skip rfl rfl rfl ?_; simp only [Act.put, List.setIfInBounds_toArray, List.set_cons_zero, List.set_cons_succ]))
    refine can_actF rfl rfl rfl rfl (fun K hK => ?_)
    go_wp2_with fail
    refine (HWR.out _ hsT).mono ?_; rintro r wb ⟨Aq', rfl, hAq', hs8⟩
    apply hK
    clear hK hsT c0
    repeat (first | (refine can_pu1 rfl rfl rfl rfl rfl rfl (fun K hK => ?_); go_big_quiet_op; refine hK _ ?_; clear hK K) | (refine can_st1 rfl rfl rfl rfl rfl rfl (fun K hK => ?_); go_big_quiet_op; refine hK _ ?_; clear hK K) | (refine can_early1 rfl rfl rfl rfl rfl (fun K hK => ?_); go_big_quiet_op; refine hK _ ?_; clear hK K) | (refine can_skip rfl rfl rfl ?_; simp only [Act.put, List.setIfInBounds_toArray, List.set_cons_zero, List.set_cons_succ]))
    refine can_end1 ?_; (try simp only [Exit.then])
    have hs9 := Sat.use (M := cellsA z #[.int .i64 s, .int .i64 g, .slice da d.length dc] 77 :: (cellsA b (ringC bp xs nx) 120 :: (B ++ (Aq' ++ L)))) hs8 (by intro x; simp only [cnt_append, cnt_cons, cnt_nil]; omega)
    clear hs8
    have e2 : wb.cell? ⟨z, 2, none⟩ = some (.slice da d.length dc) := hs9.cell m0 2
    have hcl := clone_any (.slice da d.length dc) d W wb _ (HIN0.out wb hs9.tail.tail.right.right) (by rw [HP5.out]; decide) hs9
    have HCL := Lib.hid hcl
    clear hcl hs9
    go_wp2_with fail
    refine HCL.out.mono ?_; rintro r wc ⟨v6, R6, rfl, hr6, hs10⟩
    obtain ⟨a6, c6, rfl⟩ := Ch.RowA.slice hr6
    have hs11 := Sat.use (M := cellsA z #[.int .i64 s, .int .i64 g, .slice da d.length dc] 77 :: (cellsA b (ringC bp xs nx) 120 :: (R6 ++ (B ++ (Aq' ++ L))))) hs10 (by intro x; simp only [cnt_append, cnt_cons, cnt_nil]; omega)
    clear hs10 HCL e2
    have e2 := hs11.cell m0 2
    have f2 := hs11.free m0 2
    have hs12 := Sat.setCell hs11 2 (.slice a6 d.length c6)
    simp only [List.setIfInBounds_toArray, List.set_cons_zero, List.set_cons_succ] at hs12
    go_upto_region 11 with fail
    refine with_sat hs12 ?_
    clear hs12 hs11 e2 f2
    intro wd hs12
    have t0 : wd.cell? ⟨z, 0, none⟩ = some (.int .i64 s) := hs12.cell m0 0
    have t1 : wd.cell? ⟨z, 1, none⟩ = some (.int .i64 g) := hs12.cell m0 1
    have t2 : wd.cell? ⟨z, 2, none⟩ = some (.slice a6 d.length c6) := hs12.cell m0 2
    have hs13 := Sat.use (M := cellsA b (ringC bp xs nx) 120 :: ((R6 ++ B) ++ (Aq' ++ L))) hs12 (by intro x; simp only [cnt_append, cnt_cons, cnt_nil]; omega)
    obtain ⟨⟨⟨ol, on, ⟨os, og, od⟩⟩, ov⟩, hxk⟩ : ∃ y, xs[k]? = some y := ⟨_, List.getElem?_eq_getElem (by rw [HXL.out]; exact hk16)⟩
    obtain ⟨e0, e1, e2, e3, e4⟩ := ring_of hs13 hxk
    have f0 := hs13.free m0 (1 + k * 5)
    have f1 := hs13.free m0 (1 + k * 5 + 1)
    have f2 := hs13.free m0 (1 + k * 5 + 2)
    have f3 := hs13.free m0 (1 + k * 5 + 3)
    have f4 := hs13.free m0 (1 + k * 5 + 4)
    have e81 : wd.cell? ⟨b, 81, none⟩ = some (.int .i64 nx) := by rw [hs13.cell m0]; exact ring_next HXL.out
    have hz := Sat.setCell (Sat.setCell (Sat.setCell (Sat.setCell (Sat.setCell hs13 (1 + k * 5) (.bool true)) (1 + k * 5 + 1) (.int .i64 nx)) (1 + k * 5 + 2) (.int .i64 s)) (1 + k * 5 + 3) (.int .i64 g)) (1 + k * 5 + 4) (.slice a6 d.length c6)
    rw [ring_set (xs := xs) ⟨true, nx, ⟨s, g, d⟩⟩ (.slice a6 d.length c6) (by rw [HXL.out]; exact hk16)] at hz
    have HZ := Lib.hid hz
    have hsd := hs12.drew
    clear hz hs12 hs13 hxk
    refine wp_region_one [11] [] [] [] [0, 1, 2, 3, 4, 5, 6, 7, 8, 9, 10, 11] (by kernel_rfl) (by kernel_rfl) ?_
    repeat (first | (refine can_pu1 rfl rfl rfl rfl rfl rfl (fun K hK => ?_); go_big_quiet_op; refine hK _ ?_; clear hK K) | (refine can_st1 rfl rfl rfl rfl rfl rfl (fun K hK => ?_); go_big_quiet_op; refine hK _ ?_; clear hK K) | (refine can_early1 rfl rfl rfl rfl rfl (fun K hK => ?_); go_big_quiet_op; refine hK _ ?_; clear hK K) | (refine can_skip rfl rfl rfl ?_; simp only [Act.put, List.setIfInBounds_toArray, List.set_cons_zero, List.set_cons_succ]))
    refine can_act1 rfl rfl rfl (fun K hK => ?_)
    go_wp2_with fail
    refine can_end1 ?_; (try simp only [Exit.then])
    go_upto_region 12 with fail
    refine with_sat HZ.out.drew ?_
    clear HZ e0 e1 e2 e3 e4 f0 f1 f2 f3 f4 e81 t0 t1 t2 hsd
    intro we hs14
    have hxl2 : (xs.set k (⟨true, nx, ⟨s, g, d⟩⟩, .slice a6 d.length c6)).length = 16 := by rw [List.length_set, HXL.out]
    have e0 : we.cell? ⟨b, 81, none⟩ = some (.int .i64 nx) := by rw [hs14.cell m0]; exact ring_next hxl2
    have f0 := hs14.free m0 81
    have hs15 := Sat.setCell hs14 81 (.int .i64 (nx + 1))
    rw [ring_setn _ hxl2] at hs15
    clear hs14 hxl2
    go_wp2_with fail
    go_ret
    have hri2 := (HRI.out.mono (B' := R6 ++ B) (fun x hx => List.mem_append_right R6 hx)).set k (s := ⟨true, nx, ⟨s, g, d⟩⟩) (v := .slice a6 d.length c6) ⟨R6, hr6, fun x hx => List.mem_append_left _ hx⟩
    rw [← HYE.out] at hAq'
    exact ⟨Aq', R6 ++ B, .slice a6 d.length c6, rfl, hAq', hri2, hs15.use (by intro x; simp only [cnt_append, cnt_cons, cnt_nil]; omega)⟩
end Go.Proofs.YtekbbpfnkbanjaaGreat.Ch

namespace Go.Proofs.YtekbbpfnkbanjaaGreat.Ch
set_option linter.unusedSimpArgs false
open Go Go.RowKit Go.Sl Go.BigFrame
set_option linter.unusedVariables false

/-- The slots, those of an intent made free. -/
noncomputable def relX (xs : List (Sl5 × Value)) (s g : Int) : Nat → List (Sl5 × Value)
  | 0 => xs
  | k + 1 => match xs[k]? with
    | some x => if x.1.live = true ∧ x.1.i.stripe = s ∧ x.1.i.gen = g then (relX xs s g k).set k (sl0, .slice none 0 0) else relX xs s g k
    | none => relX xs s g k
theorem relX_length (xs : List (Sl5 × Value)) (s g : Int) : ∀ k, (relX xs s g k).length = xs.length
  | 0 => rfl
  | k + 1 => by
    unfold relX
    split
    · split
      · rw [List.length_set, relX_length xs s g k]
      · exact relX_length xs s g k
    · exact relX_length xs s g k
theorem relX_rows {B : List Atom} {xs : List (Sl5 × Value)} (h : RowsIn B xs) (s g : Int) : ∀ k, RowsIn B (relX xs s g k)
  | 0 => h
  | k + 1 => by
    unfold relX
    split
    · split
      · exact (relX_rows h s g k).set k (RowIn.nil _)
      · exact relX_rows h s g k
    · exact relX_rows h s g k

theorem slots_range {b bp : Nat} {xs : List (Sl5 × Value)} {nx : Int} {W w : World} {F : List Atom} (hs : Sat W w (cellsA b (ringC bp xs nx) 120 :: F)) : w.rangeAt b 1 (slotsC xs) := fun j v hv => by
  rw [hs.cell m0]
  unfold ringC
  rw [List.getElem?_toArray, show 1 + j = j + 1 by omega, List.getElem?_cons_succ, List.getElem?_append_left (List.getElem?_eq_some_iff.1 hv).1]
  exact hv
theorem infoSlots : (Tryz.prog.info? 118).map (·.size) = some 80 := by kernel_rfl
theorem slots_extract {xs : List (Sl5 × Value)} : ∀ {k : Nat} {s : Sl5} {v : Value}, xs[k]? = some (s, v) → (slotsC xs).toArray.extract (k * 5) (k * 5 + 5) = (slCells s v).toArray := by
  intro k s v h
  have hk := (List.getElem?_eq_some_iff.1 h).1
  have hl := slotsC_length xs
  apply Array.ext_getElem?
  intro i
  by_cases hi : i < 5
  · have h1 : ∃ u, (slCells s v)[i]? = some u := ⟨_, List.getElem?_eq_getElem (by exact hi)⟩
    obtain ⟨u, hu⟩ := h1
    have hg := List.getElem?_eq_some_iff.1 (slotsC_get h i u hu)
    rw [Array.getElem?_extract_of_lt (by simp; omega), List.getElem?_toArray, hu]
    congr 1
    simpa using hg.2
  · rw [Array.getElem?_eq_none (by simp; omega), List.getElem?_toArray, List.getElem?_eq_none (by show 5 ≤ i; omega)]
theorem slot_index {xs : List (Sl5 × Value)} {k : Nat} {s : Sl5} {v : Value} (h : xs[k]? = some (s, v)) (hk : k < 16) (w : World) : (Instr.index 118 (.agg (slotsC xs).toArray) (.int .i64 k)).run Tryz.prog w = .ok (slV s v) w := by
  have hx := slots_extract h
  have hs5 : (sizeOf 117).run Tryz.prog w = .ok 5 w := by kernel_rfl
  have hag : (isAgg 117).run Tryz.prog w = .ok true w := by kernel_rfl
  have k0 : (0 : Int) ≤ k ∧ (k : Int) < 16 := by omega
  have hpt : (part 117 (slotsC xs).toArray (k * 5)).run Tryz.prog w = .ok (slV s v) w := by
    unfold part
    rw [Sem.run_bind, hag]
    simp only [Result.andThen_ok, if_true]
    rw [Sem.run_bind, hs5]
    simp only [Result.andThen_ok]
    rw [hx]
    rfl
  have e : ((k : Int)).toNat = k := by omega
  simp only [Instr.index, asIntOf, Sem.run_bind, Sem.run_pure, Result.andThen_ok, run_underlying Tryz.underlying118]
  rw [if_pos (show (0 : Int) ≤ k ∧ (k : Int) < ((16 : Nat) : Int) by omega)]
  rw [Sem.run_bind, hs5]
  simp only [Result.andThen_ok]
  rw [e]
  exact hpt

set_option maxRecDepth 100000 in
set_option maxHeartbeats 4000000 in
theorem release_any (b bp : Nat) (xs : List (Sl5 × Value)) (nx : Int) (B : List Atom) (s g : Int) (W w : World) (L : List Atom) (hri : RowsIn B xs) (hxl : xs.length = 16) (hs : Sat W w (cellsA b (ringC bp xs nx) 120 :: (B ++ L))) :
    Calls Tryz.prog 57 #[.pointer (some ⟨b, 0, none⟩), .int .i64 s, .int .i64 g] w fun e w' => ∃ n : Int, e = .returned (.int .i64 n) ∧ Sat W w' (cellsA b (ringC bp (relX xs s g 16) nx) 120 :: (B ++ L)) := by
  have HRI := Lib.hid hri
  have HXL := Lib.hid hxl
  clear hri hxl
  go_enter Tryz.func57, Tryz.ntmps57
  go_wp2_with fail
  refine wp_load_mid 118 _ rfl b 1 rfl (slotsC xs) _ (slots_range hs) Tryz.underlying118 rfl (by rw [slotsC_length, HXL.out]; exact infoSlots) ?_
  simp only [Act.put, List.setIfInBounds_toArray, List.set_cons_zero, List.set_cons_succ]
  generalize hav : (Value.agg (slotsC xs).toArray) = av at *
  have HAV := Lib.hid hav
  clear hav
  go_wp2_with fail
  go_loopw [14, 7] (fun kv nv wr => ∃ (k : Nat) (n : Int), kv = .int .i64 k ∧ nv = .int .i64 n ∧ 0 ≤ n ∧ n ≤ k ∧ k ≤ 16 ∧ Sat W wr (cellsA b (ringC bp (relX xs s g k) nx) 120 :: (B ++ L))) (fun kv _ _ => (16 - (intOf kv).toNat))
  case atStart => exact ⟨0, 0, rfl, rfl, by omega, by omega, by omega, hs⟩
  case round =>
    clear hs
    obtain ⟨k, n, rfl, rfl, n0, nk, hk, hs⟩ := hrel
    have k0 : (0 : Int) ≤ k := by omega
    by_cases hkn : k < 16
    · have k1 : (k : Int) < 16 := by omega
      obtain ⟨⟨⟨sl, sn, ⟨ss, sg, sd⟩⟩, v⟩, hx⟩ : ∃ x, xs[k]? = some x := ⟨_, List.getElem?_eq_getElem (by have := HXL.out; omega)⟩
      obtain ⟨va, vc, hv⟩ := (HRI.out _ (List.mem_of_getElem? hx)).shape
      try simp only at hv
      subst hv
      have hix := slot_index hx hkn
      rw [HAV.out] at hix
      unfold slV at hix
      simp only at hix
      have hrx : relX xs s g (k + 1) = if sl = true ∧ ss = s ∧ sg = g then (relX xs s g k).set k (sl0, .slice none 0 0) else relX xs s g k := by
        rw [relX, hx]
      have HRX := Lib.hid hrx
      have hrl : (relX xs s g k).length = 16 := by rw [relX_length, HXL.out]
      have HRL := Lib.hid hrl
      clear hrx hx hrl
      by_cases hq : sl = true ∧ ss = s ∧ sg = g
      · rw [if_pos hq] at HRX
        obtain ⟨rfl, rfl, rfl⟩ := hq
        obtain ⟨⟨⟨ol, on, ⟨os, og, od⟩⟩, ov⟩, hxk⟩ : ∃ y, (relX xs ss sg k)[k]? = some y := ⟨_, List.getElem?_eq_getElem (by rw [HRL.out]; exact hkn)⟩
        have hsn := Sat.use (M := cellsA b (ringC bp (relX xs ss sg k) nx) 120 :: (B ++ L)) (hs.newCells #[.bool true, .int .i64 sn, .int .i64 ss, .int .i64 sg, .slice va sd.length vc] 117) (by intro x; simp only [cnt_append, cnt_cons, cnt_nil]; omega)
        obtain ⟨e0, e1, e2, e3, e4⟩ := ring_of hsn hxk
        have f0 := hsn.free m0 (1 + k * 5)
        have f1 := hsn.free m0 (1 + k * 5 + 1)
        have f2 := hsn.free m0 (1 + k * 5 + 2)
        have f3 := hsn.free m0 (1 + k * 5 + 3)
        have f4 := hsn.free m0 (1 + k * 5 + 4)
        have hz := Sat.setCell (Sat.setCell (Sat.setCell (Sat.setCell (Sat.setCell hsn (1 + k * 5) (.bool false)) (1 + k * 5 + 1) (.int .i64 0)) (1 + k * 5 + 2) (.int .i64 0)) (1 + k * 5 + 3) (.int .i64 0)) (1 + k * 5 + 4) (.slice none 0 0)
        have hrs : (((((ringC bp (relX xs ss sg k) nx).setIfInBounds (1 + k * 5) (.bool false)).setIfInBounds (1 + k * 5 + 1) (.int .i64 0)).setIfInBounds (1 + k * 5 + 2) (.int .i64 0)).setIfInBounds (1 + k * 5 + 3) (.int .i64 0)).setIfInBounds (1 + k * 5 + 4) (.slice none 0 0) = ringC bp ((relX xs ss sg k).set k (sl0, .slice none 0 0)) nx := ring_set sl0 (.slice none 0 0) (by rw [HRL.out]; exact hkn)
        rw [hrs, ← HRX.out] at hz
        clear hrs
        clear hs hsn hxk
        go_wp2_with fail
        refine ⟨⟨k + 1, n + 1, by simp, rfl, by omega, by omega, by omega, hz⟩, ?_⟩
        simp [intOf]
        omega
      · rw [if_neg hq] at HRX
        have hsn := hs.alloc (.cells #[.bool sl, .int .i64 sn, .int .i64 ss, .int .i64 sg, .slice va sd.length vc] 117)
        rw [← HRX.out] at hsn
        clear hs
        cases sl
        · go_wp2_with fail
          refine ⟨⟨k + 1, n, by simp, rfl, by omega, by omega, by omega, hsn⟩, ?_⟩
          simp [intOf]
          omega
        · by_cases h1 : ss = s
          · subst h1
            have h2 : (sg == g) = false := by
              have : ¬ sg = g := fun h => hq ⟨rfl, rfl, h⟩
              simpa using this
            clear hq
            go_wp2_with fail
            refine ⟨⟨k + 1, n, by simp, rfl, by omega, by omega, by omega, hsn⟩, ?_⟩
            simp [intOf]
            omega
          · have h2 : (ss == s) = false := by simpa using h1
            clear hq h1
            go_wp2_with fail
            refine ⟨⟨k + 1, n, by simp, rfl, by omega, by omega, by omega, hsn⟩, ?_⟩
            simp [intOf]
            omega
    · have e : k = 16 := by omega
      subst e
      go_wp2_with fail
      go_ret
      exact ⟨n, rfl, hs⟩
end Go.Proofs.YtekbbpfnkbanjaaGreat.Ch

namespace Go.Proofs.YtekbbpfnkbanjaaGreat.Ch
set_option linter.unusedSimpArgs false
open Go Go.RowKit Go.Sl Go.BigFrame
set_option linter.unusedVariables false

theorem infoSl : (Tryz.prog.info? 117).map (fun i => (i.zero, i.size, i.bytes)) = some (some (.agg #[.bool false, .int .i64 0, .int .i64 0, .int .i64 0, .slice none 0 0]), 5, 56) := by kernel_rfl
theorem infoIt : (Tryz.prog.info? 77).map (fun i => (i.zero, i.size, i.bytes)) = some (some (.agg #[.int .i64 0, .int .i64 0, .slice none 0 0]), 3, 40) := by kernel_rfl

theorem insI_small (v : Value) (n : Nat) (hn : n ≤ 1) (w : World) :
    Calls Tryz.prog 111 #[v, .int .i64 0, .int .i64 n, .func (.func 86) #[] #[]] w fun e w' => e = .returned (.tuple #[]) ∧ w = w' := by
  obtain ⟨x, hx⟩ : ∃ x : Int, x = n := ⟨_, rfl⟩
  have h1 : ¬ (1 : Int) < x := by omega
  rw [← hx]
  clear hx hn
  go_enter Tryz.func111, Tryz.ntmps111
  go_wp2_with fail
  refine wp_loop_rounds 1 ?_
  rw [rounds_succ]
  go_wp2_with fail
  go_end0
  exact ⟨rfl, rfl⟩
theorem sortI_small (a : Option Addr) (c n : Nat) (hn : n ≤ 1) (w : World) :
    Calls Tryz.prog 85 #[.slice a n c, .func (.func 86) #[] #[]] w fun e w' => e = .returned (.tuple #[]) ∧ w = w' := by
  have hst : Calls Tryz.prog 100 #[.slice a n c, .int .i64 n, .func (.func 86) #[] #[]] w fun e w' => e = .returned (.tuple #[]) ∧ w = w' := by
    have hi := insI_small (.slice a n c) n hn w
    obtain ⟨x, hx⟩ : ∃ x : Int, x = n := ⟨_, rfl⟩
    have h1 : ¬ (20 : Int) ≤ x := by omega
    have h2 : ¬ (20 : Int) < x := by omega
    rw [← hx] at hi ⊢
    have HI := Lib.hid hi
    clear hx hn hi
    go_enter Tryz.func100, Tryz.ntmps100
    go_wp2_with fail
    refine wp_loop_rounds 1 ?_
    rw [rounds_succ]
    go_wp2_with fail
    refine HI.out.mono ?_; rintro r w2 ⟨rfl, rfl⟩
    go_wp2_with fail
    refine wp_loop_rounds 1 ?_
    rw [rounds_succ]
    go_wp2_with fail
    go_end0
    exact ⟨rfl, rfl⟩
  have HST := Lib.hid hst
  clear hst hn
  go_enter Tryz.func85, Tryz.ntmps85
  go_wp2_with fail
  refine HST.out.mono ?_; rintro r w2 ⟨rfl, rfl⟩
  go_wp2_with fail
  go_end0
  exact ⟨rfl, rfl⟩
theorem slotsC_append (xs ys : List (Sl5 × Value)) : slotsC (xs ++ ys) = slotsC xs ++ slotsC ys := by simp [slotsC]
def liveOf (xs : List (Sl5 × Value)) : List (Sl5 × Value) := xs.filter fun x => x.1.live
theorem liveOf_snoc {xs : List (Sl5 × Value)} {k : Nat} {x : Sl5 × Value} (h : xs[k]? = some x) : liveOf (xs.take (k + 1)) = if x.1.live then liveOf (xs.take k) ++ [x] else liveOf (xs.take k) := by
  rw [take_snoc h]
  unfold liveOf
  rw [List.filter_append]
  split
  · rename_i hl
    rw [List.filter_cons_of_pos (by simpa using hl), List.filter_nil]
  · rename_i hl
    rw [List.filter_cons_of_neg (by simpa using hl), List.filter_nil, List.append_nil]
def itsC (xs : List (It × Value)) : List Value := (xs.map fun x => [Value.int .i64 x.1.stripe, .int .i64 x.1.gen, x.2]).flatten
theorem itsC_append (xs ys : List (It × Value)) : itsC (xs ++ ys) = itsC xs ++ itsC ys := by simp [itsC]

set_option maxRecDepth 100000 in
set_option maxHeartbeats 8000000 in
theorem live_small (b bp : Nat) (xs : List (Sl5 × Value)) (nx : Int) (B : List Atom) (W w : World) (L : List Atom) (hri : RowsIn B xs) (hxl : xs.length = 16) (hsm : ∀ x ∈ xs, x.1.i.data.length < 1000000) (h1 : (liveOf xs).length ≤ 1) (hs : Sat W w (cellsA b (ringC bp xs nx) 120 :: (B ++ L))) :
    Calls Tryz.prog 56 #[.pointer (some ⟨b, 0, none⟩)] w fun e w' => ∃ v ys R C, e = .returned v ∧ RowA 77 3 v ys.length (itsC ys) R ∧ ys.map Prod.fst = (liveOf xs).map (fun x => x.1.i) ∧ Sat W w' (R ++ (C ++ (cellsA b (ringC bp xs nx) 120 :: (B ++ L)))) := by
  have HRI := Lib.hid hri
  have HXL := Lib.hid hxl
  have HSM := Lib.hid hsm
  have H1 := Lib.hid h1
  clear hri hxl hsm h1
  go_enter Tryz.func56, Tryz.ntmps56
  go_wp2_with fail
  refine wp_load_mid 118 _ rfl b 1 rfl (slotsC xs) _ (slots_range hs) Tryz.underlying118 rfl (by rw [slotsC_length, HXL.out]; exact infoSlots) ?_
  simp only [Act.put, List.setIfInBounds_toArray, List.set_cons_zero, List.set_cons_succ]
  generalize hav : (Value.agg (slotsC xs).toArray) = av at *
  have HAV := Lib.hid hav
  clear hav
  go_wp2_with fail
  go_loopw [13, 3] (fun kv lv wr => ∃ (k : Nat) (R : List Atom), kv = .int .i64 k ∧ k ≤ 16 ∧ RowA 117 5 lv (liveOf (xs.take k)).length (slotsC (liveOf (xs.take k))) R ∧ Sat W wr (R ++ (cellsA b (ringC bp xs nx) 120 :: (B ++ L)))) (fun kv _ _ => (16 - (intOf kv).toNat))
  case atStart => exact ⟨0, [], rfl, by omega, RowA.nil _ _, hs⟩
  case round =>
    clear hs
    obtain ⟨k, R, rfl, hk, hr, hs⟩ := hrel
    have k0 : (0 : Int) ≤ k := by omega
    have HLS := Lib.hid (show (liveOf (xs.take k)).length ≤ 16 from Nat.le_trans (List.length_filter_le _ _) (by rw [List.length_take]; omega))
    generalize hls : liveOf (xs.take k) = ls at *
    have HLE := Lib.hid hls
    clear hls
    obtain ⟨al, cl, rfl⟩ := Ch.RowA.slice hr
    by_cases hkn : k < 16
    · have k1 : (k : Int) < 16 := by omega
      obtain ⟨⟨⟨sl, sn, ⟨ss, sg, sd⟩⟩, v⟩, hx⟩ : ∃ x, xs[k]? = some x := ⟨_, List.getElem?_eq_getElem (by have := HXL.out; omega)⟩
      obtain ⟨va, vc, hv⟩ := (HRI.out _ (List.mem_of_getElem? hx)).shape
      try simp only at hv
      subst hv
      have hix := slot_index hx hkn
      rw [HAV.out] at hix
      unfold slV at hix
      simp only at hix
      have hlv := liveOf_snoc hx
      rw [HLE.out] at hlv
      have HLV := Lib.hid hlv
      clear hx hlv
      have hs1 := hs.newCells #[.bool sl, .int .i64 sn, .int .i64 ss, .int .i64 sg, .slice va sd.length vc] 117
      cases sl
      · clear hs
        go_wp2_with fail
        refine ⟨⟨k + 1, R, by simp, by omega, ?_, hs1.tail⟩, ?_⟩
        · rw [HLV.out]
          exact hr
        · simp [intOf]
          omega
      · have hs2 := hs1.newCells #[.bool true, .int .i64 sn, .int .i64 ss, .int .i64 sg, .slice va sd.length vc] 117
        have hsz : (wr.alloc (.cells #[.bool true, .int .i64 sn, .int .i64 ss, .int .i64 sg, .slice va sd.length vc] 117)).heap.size = wr.heap.size + 1 := by simp
        have hsrc := reads_cells hs2 m0 1 1 (slCells ⟨true, sn, ⟨ss, sg, sd⟩⟩ (.slice va sd.length vc)) rfl
        rw [hsz] at hs2 hsrc
        have hs3 := Sat.use (M := R ++ (cellsA b (ringC bp xs nx) 120 :: (B ++ L))) hs2 (by intro x; simp only [cnt_append, cnt_cons, cnt_nil]; omega)
        clear hs hs1 hs2 hsz
        go_wp2_with (at_builtin; go_loud (refine wpList_plain rfl (fun K hK => ?_); refine wp_append_g Tryz.underlying132 infoSl rfl (by decide) (by decide) rfl rfl rfl hr hs3 hsrc rfl (by intro u hu; simp only [slCells, List.mem_cons, List.not_mem_nil, or_false] at hu; rcases hu with rfl | rfl | rfl | rfl | rfl <;> rfl) (by have := HLS.out; omega) (fun v2 w7 R2 hr2 hs10 => ?_); refine hK _ _ ?_; simp only [Act.put, List.setIfInBounds_toArray, List.set_cons_zero, List.set_cons_succ]; clear hK))
        refine ⟨⟨k + 1, R2, by simp, by omega, ?_, hs10⟩, ?_⟩
        · rw [HLV.out]
          simp only [if_true]
          rw [slotsC_append]
          simp only [List.length_append, List.length_cons, List.length_nil]
          exact hr2
        · simp [intOf]
          omega
    · have e : k = 16 := by omega
      subst e
      rw [List.take_of_length_le (by rw [HXL.out]; omega)] at HLE
      have hl1 : ls.length ≤ 1 := by rw [← HLE.out]; exact H1.out
      have hso := fun w => sortI_small al cl ls.length hl1 w
      have HSO := Lib.hid hso
      clear hso
      go_wp2_with fail
      refine (HSO.out _).mono ?_; rintro r w2 ⟨rfl, rfl⟩
      go_wp2_with fail
      have HIT := Lib.hid (show ∀ x ∈ ls, RowIn B x.2 x.1.i.data ∧ x.1.i.data.length < 1000000 from fun x hx => by
        rw [← HLE.out] at hx
        have hx2 := (List.mem_filter.1 hx).1
        exact ⟨HRI.out x hx2, HSM.out x hx2⟩)
      have HR := Lib.hid hr
      obtain ⟨N, hN⟩ : ∃ N, N = ls.length := ⟨_, rfl⟩
      have HN := Lib.hid hN
      rw [← hN] at hl1 hr ⊢
      clear hN HSO HLS HAV HSM HRI H1
      go_loopw [27, 6] (fun kv ov wr => ∃ (j : Nat) (ys : List (It × Value)) (R2 C : List Atom), kv = .int .i64 j ∧ j ≤ N ∧ ys.length = j ∧ ys.map Prod.fst = (ls.take j).map (fun x => x.1.i) ∧ RowA 77 3 ov ys.length (itsC ys) R2 ∧ Sat W wr (R2 ++ (C ++ (R ++ (cellsA b (ringC bp xs nx) 120 :: (B ++ L)))))) (fun kv _ _ => (N - (intOf kv).toNat))
      case atStart => exact ⟨0, [], [], [], rfl, Nat.zero_le _, rfl, rfl, RowA.nil _ _, hs⟩
      case round =>
        clear hs
        obtain ⟨j, ys, R2, C, rfl, hj, hyl, hym, hr2, hs⟩ := hrel
        have j0 : (0 : Int) ≤ j := by omega
        have HYM := Lib.hid hym
        have HYL := Lib.hid hyl
        clear hym hyl
        obtain ⟨ao, co, rfl⟩ := Ch.RowA.slice hr2
        by_cases hjn : j < N
        · have j1 : (j : Int) < N := by omega
          have j2 : (j : Int) < 1000000 := by omega
          obtain ⟨⟨⟨sl, sn, ⟨ss, sg, sd⟩⟩, v⟩, hx⟩ : ∃ x, ls[j]? = some x := ⟨_, List.getElem?_eq_getElem (by have := HN.out; omega)⟩
          obtain ⟨hri, hsd⟩ := HIT.out _ (List.mem_of_getElem? hx)
          simp only at hri hsd
          have hri2 := hri
          obtain ⟨va, vc, rfl⟩ := hri2.shape
          obtain ⟨gl, ol, kl, he, _, _, hR⟩ := Ch.RowA.some_of hr (by omega)
          obtain ⟨rfl, rfl⟩ : al = some ⟨gl, ol, none⟩ ∧ cl = kl := by cases he; exact ⟨rfl, rfl⟩
          have hsr := Sat.use (M := R ++ (R2 ++ (C ++ (cellsA b (ringC bp xs nx) 120 :: (B ++ L))))) hs (by intro x; simp only [cnt_append, cnt_cons, cnt_nil]; omega)
          have hc := fun f u (hu : (slCells ⟨sl, sn, ⟨ss, sg, sd⟩⟩ (.slice va sd.length vc))[f]? = some u) => (hr.cells hsr rfl (j * 5 + f) (List.getElem?_eq_some_iff.1 (slotsC_get hx f u hu)).1).1.trans (slotsC_get hx f u hu)
          have c0 : wr.cell? ⟨gl, ol + j * 5, none⟩ = some (.bool sl) := hc 0 _ rfl
          have c1 : wr.cell? ⟨gl, ol + j * 5 + 1, none⟩ = some (.int .i64 sn) := by rw [Nat.add_assoc]; exact hc 1 _ rfl
          have c2 : wr.cell? ⟨gl, ol + j * 5 + 2, none⟩ = some (.int .i64 ss) := by rw [Nat.add_assoc]; exact hc 2 _ rfl
          have c3 : wr.cell? ⟨gl, ol + j * 5 + 3, none⟩ = some (.int .i64 sg) := by rw [Nat.add_assoc]; exact hc 3 _ rfl
          have c4 : wr.cell? ⟨gl, ol + j * 5 + 4, none⟩ = some (.slice va sd.length vc) := by rw [Nat.add_assoc]; exact hc 4 _ rfl
          have hs1 := hs.newCells #[.bool sl, .int .i64 sn, .int .i64 ss, .int .i64 sg, .slice va sd.length vc] 117
          have hcl := clone_any (.slice va sd.length vc) sd W _ _ (hri.reads hs1 (fun x hx => .tail _ (List.mem_append_right _ (List.mem_append_right _ (List.mem_append_right _ (.tail _ (List.mem_append_left _ hx))))))) hsd hs1
          have htk : (ls.take (j + 1)).map (fun x => x.1.i) = (ls.take j).map (fun x => x.1.i) ++ [⟨ss, sg, sd⟩] := by
            rw [take_snoc hx, List.map_append]
            rfl
          have HTK := Lib.hid htk
          have HCL := Lib.hid hcl
          clear hcl hs hsr hs1 hx hc hri hri2 he hR htk
          go_wp2_with fail
          refine HCL.out.mono ?_; rintro r w3 ⟨v3, R3, rfl, hr3, hs3⟩
          obtain ⟨a3, c3', rfl⟩ := Ch.RowA.slice hr3
          generalize wr.heap.size = z8 at *
          have hs4 := Sat.use (M := cellsA z8 #[.bool sl, .int .i64 sn, .int .i64 ss, .int .i64 sg, .slice va sd.length vc] 117 :: (R3 ++ (R2 ++ (C ++ (R ++ (cellsA b (ringC bp xs nx) 120 :: (B ++ L))))))) hs3 (by intro x; simp only [cnt_append, cnt_cons, cnt_nil]; omega)
          have e4 := hs4.cell m0 4
          have f4 := hs4.free m0 4
          have hs5 := Sat.setCell hs4 4 (.slice a3 sd.length c3')
          simp only [List.setIfInBounds_toArray, List.set_cons_zero, List.set_cons_succ] at hs5
          clear hs3 hs4 c0 c1 c2 c3 c4 HCL
          go_upto_region 14 with fail
          refine with_sat hs5 ?_
          clear hs5 e4 f4
          intro w5 hs5
          have e2 : w5.cell? ⟨z8, 2, none⟩ = some (.int .i64 ss) := hs5.cell m0 2
          have e3 : w5.cell? ⟨z8, 3, none⟩ = some (.int .i64 sg) := hs5.cell m0 3
          have e4 : w5.cell? ⟨z8, 4, none⟩ = some (.slice a3 sd.length c3') := hs5.cell m0 4
          have hs6 := hs5.newCells #[.int .i64 ss, .int .i64 sg, .slice a3 sd.length c3'] 77
          have hsrc := reads_cells hs6 m0 1 1 [.int .i64 ss, .int .i64 sg, .slice a3 sd.length c3'] rfl
          have hs7 := Sat.use (M := R2 ++ ((R3 ++ C) ++ (R ++ (cellsA b (ringC bp xs nx) 120 :: (B ++ L))))) hs6 (by intro x; simp only [cnt_append, cnt_cons, cnt_nil]; omega)
          clear hs5 hs6
          go_wp2_with (at_builtin; go_loud (refine wpList_plain rfl (fun K hK => ?_); refine wp_append_g Tryz.underlying42 infoIt rfl (by decide) (by decide) rfl rfl rfl hr2 hs7 hsrc rfl (by intro u hu; simp at hu; rcases hu with rfl | rfl | rfl <;> rfl) (by have := HYL.out; omega) (fun v8 w8 R8 hr8 hs8 => ?_); refine hK _ _ ?_; simp only [Act.put, List.setIfInBounds_toArray, List.set_cons_zero, List.set_cons_succ]; clear hK))
          refine ⟨⟨j + 1, ys ++ [(⟨ss, sg, sd⟩, .slice a3 sd.length c3')], R8, R3 ++ C, by simp, by omega, by rw [List.length_append, HYL.out]; rfl, ?_, ?_, hs8⟩, ?_⟩
          · rw [HTK.out, List.map_append, HYM.out]
            rfl
          · rw [itsC_append]
            simp only [List.length_append, List.length_cons, List.length_nil]
            exact hr8
          · simp [intOf]
            omega
        · have e : N = j := by omega
          subst e
          go_wp2_with fail
          go_ret
          refine ⟨_, ys, R2, C ++ R, rfl, hr2, ?_, hs.use (by intro x; simp only [cnt_append, cnt_cons, cnt_nil]; omega)⟩
          rw [HYM.out, HN.out, List.take_length, HLE.out]
end Go.Proofs.YtekbbpfnkbanjaaGreat.Ch
