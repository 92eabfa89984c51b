
/-
  CacheSpreads: the example; what the law begins with.
-/
import Derived.Test.YtekbbpfnkbanjaaKcI
import Derived.Test.YtekbbpfnkbanjaaLrA
namespace Go.Proofs.Ytekbbpfnkbanjaa.Ch
open Go Go.RowKit Go.Sl Go.BigFrame
set_option linter.unusedVariables false
set_option linter.unusedSimpArgs false

theorem one21 (n : Int) (W w : World) (L : List Atom) (hs : Sat W w L) :
    Calls Try.prog 8 #[.int .i64 n] w fun e w' => ∃ v R, e = .returned v ∧ RowA 5 1 v 16 (bts (bytesOf n 16)) R ∧ (bytesOf n 16).length = 16 ∧ Sat W w' (R ++ L) := by
  go_enter Try.func8, Try.ntmps8
  go_wp2_with fail
  refine (bytes_of n 16 W w L (by decide) hs).mono ?_; rintro r w2 ⟨v, R, rfl, hr, hs2⟩
  go_wp2_with fail
  go_ret
  exact ⟨v, R, rfl, hr, bytesOf_length _ _, hs2⟩

theorem one_name {m : Mo} (h : MoOk m) {a : ByteArray} (hn : ∀ p ∈ m, p.1 = a) {E : List Int} (hE : ∀ x, x ∈ E ↔ x ∈ m.keys a) : m.count = (dd E).length ∧ m.spread = (dd (extN E)).length := by
  have he : outK Prod.fst a m = [] := by
    apply List.eq_nil_iff_forall_not_mem.2
    intro p hp
    obtain ⟨h1, h2⟩ := mem_outK.1 hp
    exact h2 (hn p h1)
  constructor
  · rw [count_out h a, he]
    have := dd_len hE (h.get_nodup a)
    rw [this]
    simp [Mo.count, Mo.keys]
  · rw [spread_out h a, he]
    have := (dd_congr (E := extN E) (E' := extN (m.keys a)) (fun k => by
      simp only [extN, List.mem_map]
      constructor
      · rintro ⟨x, hx, rfl⟩; exact ⟨x, (hE x).1 hx, rfl⟩
      · rintro ⟨x, hx, rfl⟩; exact ⟨x, (hE x).2 hx, rfl⟩)).length_eq
    rw [this]
    simp [Mo.spread]
abbrev nA : ByteArray := ⟨#[97]⟩
abbrev nB : ByteArray := ⟨#[98]⟩

theorem same_nil (v : Value) (w : World) (h1 : Reads w v 0 []) :
    Calls Try.prog 14 #[v, .slice none 0 0] w fun e w' => e = .returned (.bool true) ∧ w = w' := by
  obtain ⟨a1, c1, rfl⟩ := reads_shape h1
  clear h1
  go_enter Try.func14, Try.ntmps14
  go_wp2_with fail
  go_loopw [5] (fun kv wr => kv = .int .i64 0 ∧ w = wr) (fun kv _ => 0)
  case atStart => exact ⟨rfl, rfl⟩
  case round =>
    obtain ⟨rfl, rfl⟩ := hrel
    go_wp2_with fail
    go_ret
    exact ⟨rfl, rfl⟩

set_option maxHeartbeats 2000000 in
theorem known21 (W w : World) (L : List Atom) (hs : Sat W w L) :
    Calls Try.prog 5 #[] w fun e w' => e = .returned (.bool true) ∧ Sat W w' L := by
  have HN := Lib.hid (fun W w L hs => cache_new W w L hs)
  go_enter Try.func5, Try.ntmps5
  go_wp2_with fail
  refine (HN.out W _ _ hs).mono ?_; rintro r w1 ⟨bc, A0, rfl, hA0, hs1⟩
  clear hs HN
  have hput : ∀ (m : Mo) (A : List Atom) (k n : Int) (v : Value) (R : List Atom) (w : World), CaA bc m A → RowA 5 1 v 16 (bts (bytesOf n 16)) R → (bytesOf n 16).length = 16 → 0 ≤ k → k < 1000 → Sat W w (R ++ (A ++ L)) →
      Calls Try.prog 7 #[.pointer (some ⟨bc, 0, none⟩), .string nA, .int .i64 k, v] w fun e w' => ∃ A', e = .returned (.bool true) ∧ CaA bc (m.put nA k (bytesOf n 16)) A' ∧ Sat W w' (A' ++ L) := by
    intro m A k n v R w hA hr hl h0 h1 hs
    have hs2 : Sat W w (A ++ (R ++ L)) := hs.use (by intro x; simp only [cnt_append, cnt_cons, cnt_nil]; omega)
    refine (cache_put bc m A nA k (bytesOf n 16) v W w (R ++ L) hA hs2 h0 (by omega) hl (fun y hy => by rw [hl]; exact hr.reads hy)).mono ?_
    rintro e w' ⟨A', rfl, hA', hs3⟩
    exact ⟨A', rfl, hA', hs3.use (by intro x; simp only [cnt_append, cnt_cons, cnt_nil]; omega)⟩
  have HPUT := Lib.hid hput
  clear hput
  go_wp2_with fail
  refine (one21 1 W _ _ hs1).mono ?_; rintro r w2 ⟨v, R, rfl, hr, hl, hs2⟩
  have HP := Lib.hid (HPUT.out _ _ 0 1 v R w2 hA0 hr hl (by omega) (by omega) hs2)
  clear hr hl hs1 hs2
  go_wp2_with fail
  refine HP.out.mono ?_; rintro r w3 ⟨A1, rfl, hA1, hs3⟩
  clear HP
  go_wp2_with fail
  refine (one21 2 W _ _ hs3).mono ?_; rintro r w4 ⟨v2, R2, rfl, hr, hl, hs2⟩
  have HP := Lib.hid (HPUT.out _ _ 7 2 v2 R2 w4 hA1 hr hl (by omega) (by omega) hs2)
  clear hr hl hs3 hs2
  go_wp2_with fail
  refine HP.out.mono ?_; rintro r w5 ⟨A2, rfl, hA2, hs5⟩
  clear HP
  go_wp2_with fail
  refine (one21 3 W _ _ hs5).mono ?_; rintro r w6 ⟨v3, R3, rfl, hr, hl, hs2⟩
  have HP := Lib.hid (HPUT.out _ _ 8 3 v3 R3 w6 hA2 hr hl (by omega) (by omega) hs2)
  clear hr hl hs5 hs2
  go_wp2_with fail
  refine HP.out.mono ?_; rintro r w7 ⟨A3, rfl, hA3, hs7⟩
  clear HP
  obtain ⟨m, hm⟩ : ∃ m, m = Mo.put (Mo.put (Mo.put [] nA 0 (bytesOf 1 16)) nA 7 (bytesOf 2 16)) nA 8 (bytesOf 3 16) := ⟨_, rfl⟩
  rw [← hm] at hA3
  have hcs : m.count = 3 ∧ m.spread = 2 := by
    have hE : ∀ x, x ∈ ([8, 7, 0] : List Int) ↔ x ∈ m.keys nA := fun x => by
      rw [hm, keys_put_same, keys_put_same, keys_put_same]
      simp [Mo.keys, Mo.get, getK]
    have := one_name hA3.ok (a := nA) (fun p hp => by
      rw [hm] at hp
      rcases put_names hp with h | hp
      · exact h
      rcases put_names hp with h | hp
      · exact h
      rcases put_names hp with h | hp
      · exact h
      · cases hp) hE
    rw [this.1, this.2]
    exact ⟨by simp [dd], by simp [dd, extN]⟩
  obtain ⟨hc, hsp⟩ := hcs
  have HS := Lib.hid (cache_spread bc m A3 W w7 L hA3 hs7 (by omega))
  have HC := Lib.hid (fun w (h : Sat W w (A3 ++ L)) => cache_count bc m A3 W w L hA3 h (by omega))
  rw [hsp] at HS
  rw [hc] at HC
  clear hs7 hsp hc hm hA0 hA1 hA2 hA3 HPUT
  go_wp2_with fail
  refine HS.out.mono ?_; rintro r w8 ⟨rfl, hs8⟩
  go_wp2_with fail
  refine (HC.out _ hs8).mono ?_; rintro r w9 ⟨rfl, hs9⟩
  go_wp2_with fail
  go_ret
  exact ⟨rfl, hs9.use (by intro x; simp only [cnt_append, cnt_cons, cnt_nil]; omega)⟩

end Go.Proofs.Ytekbbpfnkbanjaa.Ch
