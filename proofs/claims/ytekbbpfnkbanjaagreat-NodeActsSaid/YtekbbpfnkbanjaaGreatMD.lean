
/-
  The ring of intents: small functions (Right, block, number, bytes).
  intent.read.
  The ring of intents in memory; intent.Open.
  platter.Wipe; a node in memory; node.New, start, Crash, Lose.
  node.did at Put, Get, Flush; node.Do.
  node.Do at Put, Get, Flush; node.Boot; chapter 10's example.
-/
import Derived.Test.YtekbbpfnkbanjaaGreatMC
namespace Go.Proofs.YtekbbpfnkbanjaaGreat.Ch
set_option linter.unusedSimpArgs false
open Go Go.RowKit Go.Sl Go.BigFrame
set_option linter.unusedVariables false

/-- An intent. -/
structure It where
  stripe : Int
  gen : Int
  data : List UInt8
def itV (i : It) (v : Value) : Value := .agg #[.int .i64 i.stripe, .int .i64 i.gen, v]
def rightI (i : It) : Prop := 0 ≤ i.stripe ∧ i.stripe < 40 ∧ 1 ≤ i.gen ∧ i.gen ≤ 1099511627776 ∧ i.data.length = 128
noncomputable instance (i : It) : Decidable (rightI i) := Classical.propDecidable _
theorem iright_any (p : It) (a : Option Addr) (c : Nat) (w : World) :
    Calls Tryz.prog 76 #[itV p (.slice a p.data.length c)] w fun e w' => e = .returned (.bool (decide (rightI p))) ∧ Ext w w' := by
  obtain ⟨s, g, d⟩ := p
  unfold itV
  simp only []
  by_cases hr : rightI ⟨s, g, d⟩
  · rw [decide_eq_true hr]
    obtain ⟨h1, h2, h3, h4, h7⟩ := hr
    simp only at h1 h2 h3 h4 h7
    rw [h7]
    go_enter Tryz.func76, Tryz.ntmps76
    go_wp2_with fail
    go_ret
    refine ⟨?_, ?_⟩
    · rfl
    · exact Ext.alloc _ _
  · rw [decide_eq_false hr]
    have HR := Lib.hid hr
    clear hr
    by_cases h1 : 0 ≤ s
    case neg =>
      go_enter Tryz.func76, Tryz.ntmps76
      go_wp2_with fail
      go_ret
      refine ⟨?_, ?_⟩
      · rfl
      · exact Ext.alloc _ _
    by_cases h2 : s < 40
    case neg =>
      go_enter Tryz.func76, Tryz.ntmps76
      go_wp2_with fail
      go_ret
      refine ⟨?_, ?_⟩
      · rfl
      · exact Ext.alloc _ _
    by_cases h3 : 1 ≤ g
    case neg =>
      go_enter Tryz.func76, Tryz.ntmps76
      go_wp2_with fail
      go_ret
      refine ⟨?_, ?_⟩
      · rfl
      · exact Ext.alloc _ _
    by_cases h4 : g ≤ 1099511627776
    case neg =>
      go_enter Tryz.func76, Tryz.ntmps76
      go_wp2_with fail
      go_ret
      refine ⟨?_, ?_⟩
      · rfl
      · exact Ext.alloc _ _
    have h7 : ¬ (d.length : Int) = 128 := fun h => HR.out ⟨h1, h2, h3, h4, by simpa using (by omega : d.length = 128)⟩
    have h8 : ((d.length : Int) == 128) = false := by simpa using h7
    go_enter Tryz.func76, Tryz.ntmps76
    go_wp2_with fail
    go_ret
    refine ⟨?_, ?_⟩
    · rfl
    · exact Ext.alloc _ _
theorem iblock_any (k : Int) (w : World) (h0 : 0 ≤ k) (h1 : k < 1000) :
    Calls Tryz.prog 65 #[.int .i64 k] w fun e w' => e = .returned (.int .i64 (80 + k)) ∧ w = w' := by
  go_enter Tryz.func65, Tryz.ntmps65
  go_wp2_with fail
  go_ret
  exact ⟨rfl, rfl⟩

set_option maxRecDepth 100000 in
theorem inum_any (v : Value) (l : List UInt8) (w : World) (hr : Reads w v l.length (bts l)) (hl : l.length ≤ 6) :
    Calls Tryz.prog 91 #[v] w fun e w' => e = .returned (.int .i64 (numB l)) ∧ w = w' := by
  obtain ⟨av, cv, rfl⟩ : ∃ a c, v = .slice a l.length c := by
    rcases hr with ⟨h1, h2, _⟩ | ⟨a, c, h1, _⟩
    · exact ⟨_, _, by rw [h1, h2]⟩
    · exact ⟨_, _, h1⟩
  go_enter Tryz.func91, Tryz.ntmps91
  go_wp2_with fail
  go_loop [8, 3] (fun kv hv => ∃ k : Nat, kv = .int .i64 k ∧ k ≤ l.length ∧ hv = .int .i64 (numB (l.take k))) (fun kv _ => (l.length - (intOf kv).toNat))
  case atStart => exact ⟨0, rfl, Nat.zero_le _, rfl⟩
  case round =>
    obtain ⟨k, rfl, hk, rfl⟩ := hrel
    have k0 : (0 : Int) ≤ k := by omega
    by_cases hkl : k < l.length
    · have k1 : (k : Int) < l.length := by omega
      have k2 : (k : Int) < 6 := by omega
      obtain ⟨c, hc⟩ : ∃ c, l[k]? = some c := ⟨_, List.getElem?_eq_getElem hkl⟩
      rcases hr with ⟨_, hz, _⟩ | ⟨a, c', e1, hcell⟩
      · omega
      cases e1
      have d0 : w.cell? (a.add k) = some (.int .u8 (c.toNat : Int)) := hcell k _ (bts_get hc)
      have hst : numB (l.take (k + 1)) = numB (l.take k) * 256 + c.toNat := by rw [take_snoc hc, numB_snoc]
      obtain ⟨s1, s2⟩ := numB_bounds (l.take k) k (by simp; omega)
      have s3 : numB (l.take k) < 1099511627776 := by
        have : (256 : Int) ^ k ≤ 256 ^ 5 := by
          have : (256 : Nat) ^ k ≤ 256 ^ 5 := Nat.pow_le_pow_right (by decide) (by omega)
          exact_mod_cast this
        have e : (256 : Int) ^ 5 = 1099511627776 := by decide
        omega
      have c1 := u8_lt c
      have c0 : (0 : Int) ≤ c.toNat := by omega
      have HST := Lib.hid hst
      clear hst hc hcell s2
      generalize numB (l.take k) = s at *
      have hor : bits .or .i64 (s * 256) c.toNat = s * 256 + c.toNat := by
        have h := or_low 8 s.toNat c.toNat (by have := c.toNat_lt; omega) (by omega) (by decide)
        rw [show ((s.toNat * 2 ^ 8 : Nat) : Int) = s * 256 by omega, show ((s.toNat * 2 ^ 8 + c.toNat : Nat) : Int) = s * 256 + c.toNat by omega] at h
        exact h
      have HOR := Lib.hid hor
      clear hor
      go_wp2_with fail
      refine ⟨⟨k + 1, by simp, by omega, by rw [HST.out, HOR.out]⟩, ?_⟩
      simp [intOf]
      omega
    · obtain rfl : k = l.length := by omega
      rw [List.take_length]
      go_wp2_with fail
      go_ret
      exact ⟨rfl, rfl⟩

set_option maxHeartbeats 2000000 in
theorem ibytes_any (n : Int) (W w : World) (L : List Atom) (hn : 0 ≤ n) (hn2 : n < 9223372036854775808) (hs : Sat W w L) :
    Calls Tryz.prog 84 #[.int .i64 n] w fun e w' => ∃ v R, e = .returned v ∧ RowA 5 1 v (bytesB n 6).length (bts (bytesB n 6)) R ∧ Sat W w' (R ++ L) := by
  go_enter Tryz.func84, Tryz.ntmps84
  go_wp2_with fail
  go_loopw [3, 4] (fun ov iv wr => ∃ (k : Nat) (l : List UInt8) (R : List Atom), k ≤ 6 ∧ iv = .int .i64 ((k : Int) - 1) ∧ l ++ bytesB n k = bytesB n 6 ∧ RowA 5 1 ov l.length (bts l) R ∧ Sat W wr (R ++ L)) (fun _ iv _ => (intOf iv + 1).toNat)
  case atStart => exact ⟨6, [], [], Nat.le_refl _, rfl, rfl, RowA.nil _ _, hs⟩
  case round =>
    clear hs
    obtain ⟨k, l, R, hk, rfl, hl, hr, hs⟩ := hrel
    have HL := Lib.hid hl
    have hll : l.length ≤ 6 := by
      have h := congrArg List.length hl
      rw [List.length_append, bytesB_length, bytesB_length] at h
      omega
    clear hl
    obtain ⟨aL, cL, rfl⟩ := Ch.RowA.slice hr
    cases k with
    | zero =>
      go_wp2_with fail
      go_ret
      have h := HL.out
      rw [bytesB, List.append_nil] at h
      exact ⟨_, R, rfl, by rw [← h]; exact hr, hs⟩
    | succ k =>
      have e1 : (((k + 1 : Nat) : Int) - 1) = k := by omega
      rw [e1]
      have k0 : (0 : Int) ≤ k := by omega
      have k1 : (k : Int) ≤ 5 := by omega
      go_wp2_with (at_builtin; refine wpList_plain rfl (fun K hK => ?_); refine wp_append_u8 rfl l [byteAt n k] rfl rfl hr (sat_new hs) (reads_new wr _ _ _ _ _ (by simp [bts, byteAt_val])) (by simp <;> omega) (fun v2 w2 R2 hr2 hs2 => ?_); refine hK _ _ ?_; simp only [Act.put, List.setIfInBounds_toArray, List.set_cons_zero, List.set_cons_succ]; clear hK)
      refine ⟨⟨k, l ++ [byteAt n k], R2, by omega, rfl, ?_, hr2, hs2.use (by intro x; simp only [cnt_append, cnt_cons, cnt_nil]; omega)⟩, ?_⟩
      · rw [← HL.out, bytesB, List.append_assoc]; rfl
      · simp [intOf]
end Go.Proofs.YtekbbpfnkbanjaaGreat.Ch

namespace Go.Proofs.YtekbbpfnkbanjaaGreat.Ch
set_option linter.unusedSimpArgs false
open Go Go.RowKit Go.Sl Go.BigFrame
set_option linter.unusedVariables false

/-- A slot of the ring. -/
structure Sl5 where
  live : Bool
  num : Int
  i : It
def sl0 : Sl5 := ⟨false, 0, ⟨0, 0, []⟩⟩
def slV (s : Sl5) (v : Value) : Value := .agg #[.bool s.live, .int .i64 s.num, .int .i64 s.i.stripe, .int .i64 s.i.gen, v]
def slCells (s : Sl5) (v : Value) : List Value := [.bool s.live, .int .i64 s.num, .int .i64 s.i.stripe, .int .i64 s.i.gen, v]
def itOf (b : List UInt8) : It := ⟨(b.getD 6 0).toNat, numB ((b.drop 7).take 6), b.drop 13⟩
noncomputable def readI (b : List UInt8) : Sl5 :=
  if (openB b).2.2 = 0 ∧ (openB b).1 = 2 ∧ (openB b).2.1.length = 141 then
    if 0 < numB ((openB b).2.1.take 6) ∧ rightI (itOf (openB b).2.1) then ⟨true, numB ((openB b).2.1.take 6), itOf (openB b).2.1⟩ else sl0
  else sl0

set_option maxRecDepth 100000 in
set_option maxHeartbeats 4000000 in
theorem iread_any (W w : World) (L : List Atom) (v : Value) (b : List UInt8) (hs : Sat W w L) (hin : ∀ y, Sat W y L → Reads y v b.length (bts b)) (hl : b.length < 1000000) (hcap : ∀ a n c, v = .slice a n c → n ≤ c) :
    Calls Tryz.prog 66 #[v] w fun r w' => ∃ bv R, r = .returned (slV (readI b) bv) ∧ RowA 5 1 bv (readI b).i.data.length (bts (readI b).i.data) R ∧ Sat W w' (R ++ L) := by
  obtain ⟨av, nv, cv, rfl⟩ : ∃ a n c, v = .slice a n c := by
    obtain ⟨a, c, h⟩ := reads_shape (hin w hs)
    exact ⟨_, _, _, h⟩
  have HIN := Lib.hid hin
  have HCAP := Lib.hid hcap
  clear hin hcap
  obtain ⟨p, hq⟩ : ∃ p, readI b = p := ⟨_, rfl⟩
  rw [hq]
  unfold readI at hq
  go_enter Tryz.func66, Tryz.ntmps66
  go_wp2_with fail
  refine (open_any W _ _ _ b (hs.newCells #[.bool false, .int .i64 0, .int .i64 0, .int .i64 0, .slice none 0 0] 117) (fun y hy => HIN.out y hy.tail) hl HCAP.out).mono ?_
  rintro r w2 ⟨bv, R, rfl, hbr, hs2⟩
  generalize openB b = ob at *
  obtain ⟨k, body, e⟩ := ob
  simp only at hq hbr ⊢
  have HQ := Lib.hid hq
  clear hs hq
  obtain ⟨ab, cb, rfl⟩ := Ch.RowA.slice hbr
  generalize w.heap.size = z at *
  have hs2' : Sat W w2 (cellsA z #[.bool false, .int .i64 0, .int .i64 0, .int .i64 0, .slice none 0 0] 117 :: (R ++ L)) := hs2.use (by intro x; simp only [cnt_append, cnt_cons, cnt_nil]; omega)
  have z0 : w2.cell? ⟨z, 0, none⟩ = some (.bool false) := hs2'.cell m0 0
  have z1 : w2.cell? ⟨z, 1, none⟩ = some (.int .i64 0) := hs2'.cell m0 1
  have z2 : w2.cell? ⟨z, 2, none⟩ = some (.int .i64 0) := hs2'.cell m0 2
  have z3 : w2.cell? ⟨z, 3, none⟩ = some (.int .i64 0) := hs2'.cell m0 3
  have z4 : w2.cell? ⟨z, 4, none⟩ = some (.slice none 0 0) := hs2'.cell m0 4
  have f0 : w2.frozen? ⟨z, 0, none⟩ = false := hs2'.free m0 0
  have f1 : w2.frozen? ⟨z, 1, none⟩ = false := hs2'.free m0 1
  have f2 : w2.frozen? ⟨z, 2, none⟩ = false := hs2'.free m0 2
  have f3 : w2.frozen? ⟨z, 3, none⟩ = false := hs2'.free m0 3
  have f4 : w2.frozen? ⟨z, 4, none⟩ = false := hs2'.free m0 4
  clear hs2
  by_cases he : e = 0
  case neg =>
    have hn : p = sl0 := by rw [← HQ.out, if_neg (fun h => he h.1)]
    have q0 : (e != 0) = true := by simpa using he
    have HN := Lib.hid hn
    clear hn he
    go_wp2_with fail
    have hz3 := Sat.setCell (Sat.setCell (Sat.setCell (Sat.setCell (Sat.setCell hs2' 0 (.bool false)) 1 (.int .i64 0)) 2 (.int .i64 0)) 3 (.int .i64 0)) 4 (.slice none 0 0)
    refine bodyPost_ret (v := slV sl0 (.slice none 0 0)) (by simp [results, Tryz.results66, go_sem, slV, sl0, *]) rfl ?_
    rw [HN.out]
    first
      | exact ⟨_, _, rfl, RowA.nil _ _, hz3.tail.right⟩
      | exact ⟨_, rfl, _, RowA.nil _ _, hz3.tail.right⟩
  case pos =>
  subst he
  by_cases hk : k = 2
  case neg =>
    have hn : p = sl0 := by rw [← HQ.out, if_neg (fun h => hk h.2.1)]
    have q0 : (k != 2) = true := by simpa using hk
    have HN := Lib.hid hn
    clear hn hk
    go_wp2_with fail
    have hz3 := Sat.setCell (Sat.setCell (Sat.setCell (Sat.setCell (Sat.setCell hs2' 0 (.bool false)) 1 (.int .i64 0)) 2 (.int .i64 0)) 3 (.int .i64 0)) 4 (.slice none 0 0)
    refine bodyPost_ret (v := slV sl0 (.slice none 0 0)) (by simp [results, Tryz.results66, go_sem, slV, sl0, *]) rfl ?_
    rw [HN.out]
    first
      | exact ⟨_, _, rfl, RowA.nil _ _, hz3.tail.right⟩
      | exact ⟨_, rfl, _, RowA.nil _ _, hz3.tail.right⟩
  case pos =>
  subst hk
  by_cases hlen : body.length = 141
  case neg =>
    have hn : p = sl0 := by rw [← HQ.out, if_neg (fun h => hlen h.2.2)]
    have q0 : ((body.length : Int) != 141) = true := by simp; omega
    have HN := Lib.hid hn
    clear hn hlen
    go_wp2_with fail
    have hz3 := Sat.setCell (Sat.setCell (Sat.setCell (Sat.setCell (Sat.setCell hs2' 0 (.bool false)) 1 (.int .i64 0)) 2 (.int .i64 0)) 3 (.int .i64 0)) 4 (.slice none 0 0)
    refine bodyPost_ret (v := slV sl0 (.slice none 0 0)) (by simp [results, Tryz.results66, go_sem, slV, sl0, *]) rfl ?_
    rw [HN.out]
    first
      | exact ⟨_, _, rfl, RowA.nil _ _, hz3.tail.right⟩
      | exact ⟨_, rfl, _, RowA.nil _ _, hz3.tail.right⟩
  case pos =>
  have hq2 : (if 0 < numB (body.take 6) ∧ rightI (itOf body) then (⟨true, numB (body.take 6), itOf body⟩ : Sl5) else sl0) = p := by
    have h := HQ.out
    rw [if_pos (⟨rfl, rfl, hlen⟩ : (0 : Int) = 0 ∧ (2 : Int) = 2 ∧ body.length = 141)] at h
    exact h
  clear HQ
  rcases hbr.2 with ⟨h1, h2, _⟩ | ⟨g, off, cap, h1, hc1, hc2, hR⟩
  · omega
  obtain ⟨rfl, rfl⟩ : ab = some ⟨g, off, none⟩ ∧ cap = cb := by
    cases h1
    exact ⟨rfl, rfl⟩
  obtain ⟨LL, hLL⟩ : ∃ LL, LL = cellsA z #[.bool false, .int .i64 0, .int .i64 0, .int .i64 0, .slice none 0 0] 117 :: (R ++ L) := ⟨_, rfl⟩
  have hcell : ∀ y, Sat W y LL → ∀ k u, body[k]? = some u → y.cell? ((⟨g, off, none⟩ : Addr).add k) = some (.int .u8 (u.toNat : Int)) := fun y hy k u hu => by
    rw [hLL] at hy
    rw [add_row, (hbr.cells hy.tail rfl k (by rw [bts_length]; exact (List.getElem?_eq_some_iff.1 hu).1)).1]
    exact bts_get hu
  rw [← hLL] at hs2'
  clear h1
  obtain ⟨u6, hu6⟩ : ∃ c, body[6]? = some c := ⟨_, List.getElem?_eq_getElem (by omega)⟩
  have e6 : ∀ y : Of W LL, y.v.cell? ⟨g, off + 6, none⟩ = some (.int .u8 (u6.toNat : Int)) := fun y => hcell y.v y.s 6 _ hu6
  have v6 := u8_lt u6
  have x6 : (0 : Int) ≤ u6.toNat := by omega
  have hcp : (141 : Int) ≤ cap := by omega
  have hcp2 : (13 : Int) ≤ cap := by omega
  have hcp3 : (6 : Int) ≤ cap := by omega
  have hpo : itOf body = ⟨u6.toNat, numB ((body.drop 7).take 6), (body.drop 13).take 128⟩ := by
    unfold itOf
    have e8 : (body.drop 13).take 128 = body.drop 13 := List.take_of_length_le (by simp; omega)
    rw [getD_of hu6, e8]
  have HLL := Lib.hid hLL
  have HLEN := Lib.hid hlen
  have hl1 : ((body.drop 7).take 6).length ≤ 6 := by simp; omega
  have hlN : (body.take 6).length ≤ 6 := by simp; omega
  have hl3 : ((body.drop 13).take 128).length = 128 := by simp; omega
  have hnum : ∀ y, Sat W y LL → ∀ c', Reads y (.slice (some ⟨g, off + 7, none⟩) 6 c') ((body.drop 7).take 6).length (bts ((body.drop 7).take 6)) := fun y hy c' => reads_sub (hcell y hy) 7 6 c' (by omega) (add_off g off 7 none (by omega))
  have hdat : ∀ y, Sat W y LL → ∀ c', Reads y (.slice (some ⟨g, off + 13, none⟩) 128 c') ((body.drop 13).take 128).length (bts ((body.drop 13).take 128)) := fun y hy c' => reads_sub (hcell y hy) 13 128 c' (by omega) (add_off g off 13 none (by omega))
  have hnn : ∀ y, Sat W y LL → ∀ c', Reads y (.slice (some ⟨g, off, none⟩) 6 c') (body.take 6).length (bts (body.take 6)) := fun y hy c' => by
    refine .inr ⟨_, _, by rw [List.length_take, hlen]; rfl, fun j u hu => ?_⟩
    rw [bts, List.getElem?_map, List.getElem?_take] at hu
    split at hu
    · obtain ⟨q, hq, rfl⟩ := Option.map_eq_some_iff.1 hu
      exact hcell y hy j q hq
    · simp at hu
  rw [hpo] at hq2
  generalize (body.drop 7).take 6 = M6 at *
  generalize body.take 6 = MN at *
  generalize (body.drop 13).take 128 = D at *
  have HQ2 := Lib.hid hq2
  have HNUM := Lib.hid hnum
  have HNN := Lib.hid hnn
  have HDAT := Lib.hid hdat
  have HL3 := Lib.hid hl3
  rw [hlen]
  clear hl3 hnum hdat hpo hcell hLL hu6 hbr hR hc1 hc2 hlen hq2 hnn
  go_wp2_with fail
  refine wp_region_plan [6, 9, 11, 12] [0, 1, 2, 3, 4, 5, 7, 8, 10] [0, 1, 3, 4, 5, 7, 8, 10] [6, 9, 11] [0, 1, 2, 3, 4, 5, 7, 8] (.two [6] (.two [9, 10, 11, 12] .nil [11, 9, 10, 12] .nil) [11, 6, 9, 10, 12] .nil) (Held W LL) (by kernel_rfl) (by kernel_rfl) ?_ ?_
  · exact Held.mk hs2'.drew
  have hne : Nonempty (Of W LL) := ⟨⟨_, hs2'⟩⟩
  have hsT : Sat W w2.drew LL := hs2'.drew
  repeat (first | (refine can_pu1 rfl rfl rfl rfl rfl rfl (fun K hK => ?_); go_big_quiet_op; refine hK _ ?_; clear hK K) | (refine can_st1 rfl rfl rfl rfl rfl rfl (fun K hK => ?_); go_big_quiet_op; refine hK _ ?_; clear hK K) | (refine can_early1 rfl rfl rfl rfl rfl (fun K hK => ?_); go_big_quiet_op; refine hK _ ?_; clear hK K) | (refine can_skip rfl rfl rfl ?_; simp only [Act.put, List.setIfInBounds_toArray, List.set_cons_zero, List.set_cons_succ]))
  clear e6 hne
  refine with_sat hsT ?_
  clear hsT hs2' z0 z1 z2 z3 z4 f0 f1 f2 f3 f4
  intro wt hsT
  refine can_two ?_ ?_
  · skip
    refine can_actS rfl rfl rfl rfl (fun K hK => ?_)
    go_wp2_with fail
    refine (inum_any _ M6 _ (HNUM.out _ hsT _) hl1).mono ?_; rintro r w4 ⟨rfl, rfl⟩
    apply hK
    refine ⟨Held.mk hsT, ?_⟩
    clear hK
    refine can_two ?_ ?_
    · skip
      refine can_actS rfl rfl rfl rfl (fun K hK => ?_)
      go_wp2_with fail
      refine (clone_any _ D W _ LL (HDAT.out _ hsT _) (by rw [HL3.out]; omega) hsT).mono ?_; rintro r w5 ⟨v5, R5, rfl, hr5, hs5⟩
      apply hK
      refine ⟨Held.mk hs5.right, ?_⟩
      clear hK
      obtain ⟨a5, c5, rfl⟩ := Ch.RowA.slice hr5
      repeat (first | (refine can_pu1 rfl rfl rfl rfl rfl rfl (fun K hK => ?_); go_big_quiet_op; refine hK _ ?_; clear hK K) | (refine can_st1 rfl rfl rfl rfl rfl rfl (fun K hK => ?_); go_big_quiet_op; refine hK _ ?_; clear hK K) | (refine can_early1 rfl rfl rfl rfl rfl (fun K hK => ?_); go_big_quiet_op; refine hK _ ?_; clear hK K) | (refine can_skip rfl rfl rfl ?_; simp only [Act.put, List.setIfInBounds_toArray, List.set_cons_zero, List.set_cons_succ]))
      refine can_actS rfl rfl rfl rfl (fun K hK => ?_)
      go_wp2_with fail
      refine ⟨Held.mk (Sat.alloc hs5.right _), ?_⟩
      have hs6 := Sat.newCells hs5 #[.int .i64 0, .int .i64 0, .slice none 0 0] 77
      generalize (w5).heap.size = z7 at *
      refine with_sat hs6 ?_
      clear hs6
      intro w6 hs6
      have hsF := hs6
      have g0 := hsF.cell m0 0
      have g1 := hsF.cell m0 1
      have g2 := hsF.cell m0 2
      have j0 := hsF.free m0 0
      have j1 := hsF.free m0 1
      have j2 := hsF.free m0 2
      refine can_actF rfl rfl rfl rfl (fun K hK => ?_)
      go_wp2_with fail
      have hz := Sat.setCell (Sat.setCell (Sat.setCell hsF 0 (.int .i64 u6.toNat)) 1 (.int .i64 (numB M6))) 2 (.slice a5 D.length c5)
      simp only [List.setIfInBounds_toArray, List.set_cons_zero, List.set_cons_succ] at hz
      refine can_end1 ?_; (try simp only [Exit.then])
      refine with_sat hz ?_
      clear hz hsF g0 g1 g2 j0 j1 j2
      intro w9 hs9
      have g0 := hs9.cell m0 0
      have g1 := hs9.cell m0 1
      have g2 := hs9.cell m0 2
      have hrt := iright_any ⟨u6.toNat, numB M6, D⟩ a5 c5 w9
      unfold itV at hrt
      simp only at hrt
      have HRT0 := Lib.hid hrt
      clear hrt
      go_wp2_with fail
      refine (inum_any _ MN w9 (HNN.out _ hs9.tail.right _) hlN).mono ?_; rintro r w10 ⟨rfl, rfl⟩
      have hrt := HRT0.out
      have hq3 := HQ2.out
      generalize numB MN = nn at *
      by_cases hpos : 0 < nn
      · by_cases hrp : rightI ⟨u6.toNat, numB M6, D⟩
        · rw [if_pos ⟨hpos, hrp⟩] at hq3
          rw [decide_eq_true hrp] at hrt
          have HRT := Lib.hid hrt
          have HN := Lib.hid hq3
          clear hrt hq3 hrp
          go_wp2_with fail
          refine HRT.out.mono ?_; rintro r w10 ⟨rfl, hx⟩
          have hs10 := hs9.below hx
          rw [HLL.out] at hs10
          have hs11 := Sat.use (M := cellsA z #[.bool false, .int .i64 0, .int .i64 0, .int .i64 0, .slice none 0 0] 117 :: (cellsA z7 #[.int .i64 u6.toNat, .int .i64 (numB M6), .slice a5 D.length c5] 77 :: (R5 ++ (R ++ L)))) hs10 (by intro x; simp only [cnt_append, cnt_cons, cnt_nil]; omega)
          clear hs10 hs9 hx g0 g1 g2
          have z0 := hs11.cell m0 0
          have f0 := hs11.free m0 0
          have f1 := hs11.free m0 1
          have f2 := hs11.free m0 2
          have f3 := hs11.free m0 3
          have f4 := hs11.free m0 4
          have z1 := hs11.cell m0 1
          have z2 := hs11.cell m0 2
          have z3 := hs11.cell m0 3
          have z4 := hs11.cell m0 4
          have g0 := hs11.cell m1 0
          have g1 := hs11.cell m1 1
          have g2 := hs11.cell m1 2
          have hz3 := Sat.setCell (Sat.setCell (Sat.setCell (Sat.setCell (Sat.setCell hs11 0 (.bool true)) 1 (.int .i64 nn)) 2 (.int .i64 u6.toNat)) 3 (.int .i64 (numB M6))) 4 (.slice a5 D.length c5)
          go_wp2_with fail
          refine bodyPost_ret (v := slV ⟨true, nn, ⟨u6.toNat, numB M6, D⟩⟩ (.slice a5 D.length c5)) (by simp [results, Tryz.results66, go_sem, slV, *]) rfl ?_
          rw [← HN.out]
          first
            | exact ⟨_, _, rfl, hr5, hz3.tail.tail.use (by intro x; simp only [cnt_append, cnt_cons, cnt_nil]; omega)⟩
            | exact ⟨_, rfl, _, hr5, hz3.tail.tail.use (by intro x; simp only [cnt_append, cnt_cons, cnt_nil]; omega)⟩
        · rw [if_neg (fun h => hrp h.2)] at hq3
          rw [decide_eq_false hrp] at hrt
          have HRT := Lib.hid hrt
          have HN := Lib.hid hq3
          clear hrt hq3 hrp
          go_wp2_with fail
          refine HRT.out.mono ?_; rintro r w10 ⟨rfl, hx⟩
          have hs10 := hs9.below hx
          rw [HLL.out] at hs10
          have hs11 := Sat.use (M := cellsA z #[.bool false, .int .i64 0, .int .i64 0, .int .i64 0, .slice none 0 0] 117 :: L) hs10 (by intro x; simp only [cnt_append, cnt_cons, cnt_nil]; omega)
          clear hs10
          have z0 := hs11.cell m0 0
          have f0 := hs11.free m0 0
          have f1 := hs11.free m0 1
          have f2 := hs11.free m0 2
          have f3 := hs11.free m0 3
          have f4 := hs11.free m0 4
          have z1 := hs11.cell m0 1
          have z2 := hs11.cell m0 2
          have z3 := hs11.cell m0 3
          have z4 := hs11.cell m0 4
          have hz3 := Sat.setCell (Sat.setCell (Sat.setCell (Sat.setCell (Sat.setCell hs11 0 (.bool false)) 1 (.int .i64 0)) 2 (.int .i64 0)) 3 (.int .i64 0)) 4 (.slice none 0 0)
          go_wp2_with fail
          refine bodyPost_ret (v := slV sl0 (.slice none 0 0)) (by simp [results, Tryz.results66, go_sem, slV, sl0, *]) rfl ?_
          rw [← HN.out]
          first
            | exact ⟨_, _, rfl, RowA.nil _ _, hz3.tail⟩
            | exact ⟨_, rfl, _, RowA.nil _ _, hz3.tail⟩
      · rw [if_neg (fun h => hpos h.1)] at hq3
        have HN := Lib.hid hq3
        have hs10 := hs9
        clear hrt hq3
        rw [HLL.out] at hs10
        have hs11 := Sat.use (M := cellsA z #[.bool false, .int .i64 0, .int .i64 0, .int .i64 0, .slice none 0 0] 117 :: L) hs10 (by intro x; simp only [cnt_append, cnt_cons, cnt_nil]; omega)
        clear hs10
        have z0 := hs11.cell m0 0
        have f0 := hs11.free m0 0
        have f1 := hs11.free m0 1
        have f2 := hs11.free m0 2
        have f3 := hs11.free m0 3
        have f4 := hs11.free m0 4
        have z1 := hs11.cell m0 1
        have z2 := hs11.cell m0 2
        have z3 := hs11.cell m0 3
        have z4 := hs11.cell m0 4
        have hz3 := Sat.setCell (Sat.setCell (Sat.setCell (Sat.setCell (Sat.setCell hs11 0 (.bool false)) 1 (.int .i64 0)) 2 (.int .i64 0)) 3 (.int .i64 0)) 4 (.slice none 0 0)
        go_wp2_with fail
        refine bodyPost_ret (v := slV sl0 (.slice none 0 0)) (by simp [results, Tryz.results66, go_sem, slV, sl0, *]) rfl ?_
        rw [← HN.out]
        first
          | exact ⟨_, _, rfl, RowA.nil _ _, hz3.tail⟩
          | exact ⟨_, rfl, _, RowA.nil _ _, hz3.tail⟩
    · skip
      refine can_actS rfl rfl rfl rfl (fun K hK => ?_)
      go_wp2_with fail
      refine ⟨Held.mk (Sat.alloc hsT _), ?_⟩
      have hs6 := Sat.newCells hsT #[.int .i64 0, .int .i64 0, .slice none 0 0] 77
      generalize (wt).heap.size = z7 at *
      refine with_sat hs6 ?_
      clear hs6
      intro w6 hs6
      refine can_actS rfl rfl rfl rfl (fun K hK => ?_)
      go_wp2_with fail
      refine (clone_any _ D W _ _ (HDAT.out _ hs6.tail _) (by rw [HL3.out]; omega) hs6).mono ?_; rintro r w5 ⟨v5, R5, rfl, hr5, hs5⟩
      apply hK
      refine ⟨Held.mk hs5.right.tail, ?_⟩
      clear hK
      obtain ⟨a5, c5, rfl⟩ := Ch.RowA.slice hr5
      repeat (first | (refine can_pu1 rfl rfl rfl rfl rfl rfl (fun K hK => ?_); go_big_quiet_op; refine hK _ ?_; clear hK K) | (refine can_st1 rfl rfl rfl rfl rfl rfl (fun K hK => ?_); go_big_quiet_op; refine hK _ ?_; clear hK K) | (refine can_early1 rfl rfl rfl rfl rfl (fun K hK => ?_); go_big_quiet_op; refine hK _ ?_; clear hK K) | (refine can_skip rfl rfl rfl ?_; simp only [Act.put, List.setIfInBounds_toArray, List.set_cons_zero, List.set_cons_succ]))
      have hsF := Sat.use (M := cellsA z7 #[.int .i64 0, .int .i64 0, .slice none 0 0] 77 :: (R5 ++ LL)) hs5 (by intro x; simp only [cnt_append, cnt_cons, cnt_nil]; omega)
      have g0 := hsF.cell m0 0
      have g1 := hsF.cell m0 1
      have g2 := hsF.cell m0 2
      have j0 := hsF.free m0 0
      have j1 := hsF.free m0 1
      have j2 := hsF.free m0 2
      refine can_actF rfl rfl rfl rfl (fun K hK => ?_)
      go_wp2_with fail
      have hz := Sat.setCell (Sat.setCell (Sat.setCell hsF 0 (.int .i64 u6.toNat)) 1 (.int .i64 (numB M6))) 2 (.slice a5 D.length c5)
      simp only [List.setIfInBounds_toArray, List.set_cons_zero, List.set_cons_succ] at hz
      refine can_end1 ?_; (try simp only [Exit.then])
      refine with_sat hz ?_
      clear hz hsF g0 g1 g2 j0 j1 j2
      intro w9 hs9
      have g0 := hs9.cell m0 0
      have g1 := hs9.cell m0 1
      have g2 := hs9.cell m0 2
      have hrt := iright_any ⟨u6.toNat, numB M6, D⟩ a5 c5 w9
      unfold itV at hrt
      simp only at hrt
      have HRT0 := Lib.hid hrt
      clear hrt
      go_wp2_with fail
      refine (inum_any _ MN w9 (HNN.out _ hs9.tail.right _) hlN).mono ?_; rintro r w10 ⟨rfl, rfl⟩
      have hrt := HRT0.out
      have hq3 := HQ2.out
      generalize numB MN = nn at *
      by_cases hpos : 0 < nn
      · by_cases hrp : rightI ⟨u6.toNat, numB M6, D⟩
        · rw [if_pos ⟨hpos, hrp⟩] at hq3
          rw [decide_eq_true hrp] at hrt
          have HRT := Lib.hid hrt
          have HN := Lib.hid hq3
          clear hrt hq3 hrp
          go_wp2_with fail
          refine HRT.out.mono ?_; rintro r w10 ⟨rfl, hx⟩
          have hs10 := hs9.below hx
          rw [HLL.out] at hs10
          have hs11 := Sat.use (M := cellsA z #[.bool false, .int .i64 0, .int .i64 0, .int .i64 0, .slice none 0 0] 117 :: (cellsA z7 #[.int .i64 u6.toNat, .int .i64 (numB M6), .slice a5 D.length c5] 77 :: (R5 ++ (R ++ L)))) hs10 (by intro x; simp only [cnt_append, cnt_cons, cnt_nil]; omega)
          clear hs10 hs9 hx g0 g1 g2
          have z0 := hs11.cell m0 0
          have f0 := hs11.free m0 0
          have f1 := hs11.free m0 1
          have f2 := hs11.free m0 2
          have f3 := hs11.free m0 3
          have f4 := hs11.free m0 4
          have z1 := hs11.cell m0 1
          have z2 := hs11.cell m0 2
          have z3 := hs11.cell m0 3
          have z4 := hs11.cell m0 4
          have g0 := hs11.cell m1 0
          have g1 := hs11.cell m1 1
          have g2 := hs11.cell m1 2
          have hz3 := Sat.setCell (Sat.setCell (Sat.setCell (Sat.setCell (Sat.setCell hs11 0 (.bool true)) 1 (.int .i64 nn)) 2 (.int .i64 u6.toNat)) 3 (.int .i64 (numB M6))) 4 (.slice a5 D.length c5)
          go_wp2_with fail
          refine bodyPost_ret (v := slV ⟨true, nn, ⟨u6.toNat, numB M6, D⟩⟩ (.slice a5 D.length c5)) (by simp [results, Tryz.results66, go_sem, slV, *]) rfl ?_
          rw [← HN.out]
          first
            | exact ⟨_, _, rfl, hr5, hz3.tail.tail.use (by intro x; simp only [cnt_append, cnt_cons, cnt_nil]; omega)⟩
            | exact ⟨_, rfl, _, hr5, hz3.tail.tail.use (by intro x; simp only [cnt_append, cnt_cons, cnt_nil]; omega)⟩
        · rw [if_neg (fun h => hrp h.2)] at hq3
          rw [decide_eq_false hrp] at hrt
          have HRT := Lib.hid hrt
          have HN := Lib.hid hq3
          clear hrt hq3 hrp
          go_wp2_with fail
          refine HRT.out.mono ?_; rintro r w10 ⟨rfl, hx⟩
          have hs10 := hs9.below hx
          rw [HLL.out] at hs10
          have hs11 := Sat.use (M := cellsA z #[.bool false, .int .i64 0, .int .i64 0, .int .i64 0, .slice none 0 0] 117 :: L) hs10 (by intro x; simp only [cnt_append, cnt_cons, cnt_nil]; omega)
          clear hs10
          have z0 := hs11.cell m0 0
          have f0 := hs11.free m0 0
          have f1 := hs11.free m0 1
          have f2 := hs11.free m0 2
          have f3 := hs11.free m0 3
          have f4 := hs11.free m0 4
          have z1 := hs11.cell m0 1
          have z2 := hs11.cell m0 2
          have z3 := hs11.cell m0 3
          have z4 := hs11.cell m0 4
          have hz3 := Sat.setCell (Sat.setCell (Sat.setCell (Sat.setCell (Sat.setCell hs11 0 (.bool false)) 1 (.int .i64 0)) 2 (.int .i64 0)) 3 (.int .i64 0)) 4 (.slice none 0 0)
          go_wp2_with fail
          refine bodyPost_ret (v := slV sl0 (.slice none 0 0)) (by simp [results, Tryz.results66, go_sem, slV, sl0, *]) rfl ?_
          rw [← HN.out]
          first
            | exact ⟨_, _, rfl, RowA.nil _ _, hz3.tail⟩
            | exact ⟨_, rfl, _, RowA.nil _ _, hz3.tail⟩
      · rw [if_neg (fun h => hpos h.1)] at hq3
        have HN := Lib.hid hq3
        have hs10 := hs9
        clear hrt hq3
        rw [HLL.out] at hs10
        have hs11 := Sat.use (M := cellsA z #[.bool false, .int .i64 0, .int .i64 0, .int .i64 0, .slice none 0 0] 117 :: L) hs10 (by intro x; simp only [cnt_append, cnt_cons, cnt_nil]; omega)
        clear hs10
        have z0 := hs11.cell m0 0
        have f0 := hs11.free m0 0
        have f1 := hs11.free m0 1
        have f2 := hs11.free m0 2
        have f3 := hs11.free m0 3
        have f4 := hs11.free m0 4
        have z1 := hs11.cell m0 1
        have z2 := hs11.cell m0 2
        have z3 := hs11.cell m0 3
        have z4 := hs11.cell m0 4
        have hz3 := Sat.setCell (Sat.setCell (Sat.setCell (Sat.setCell (Sat.setCell hs11 0 (.bool false)) 1 (.int .i64 0)) 2 (.int .i64 0)) 3 (.int .i64 0)) 4 (.slice none 0 0)
        go_wp2_with fail
        refine bodyPost_ret (v := slV sl0 (.slice none 0 0)) (by simp [results, Tryz.results66, go_sem, slV, sl0, *]) rfl ?_
        rw [← HN.out]
        first
          | exact ⟨_, _, rfl, RowA.nil _ _, hz3.tail⟩
          | exact ⟨_, rfl, _, RowA.nil _ _, hz3.tail⟩
  · skip
    refine can_actS rfl rfl rfl rfl (fun K hK => ?_)
    go_wp2_with fail
    refine ⟨Held.mk (Sat.alloc hsT _), ?_⟩
    have hs6 := Sat.newCells hsT #[.int .i64 0, .int .i64 0, .slice none 0 0] 77
    generalize (wt).heap.size = z7 at *
    refine with_sat hs6 ?_
    clear hs6
    intro w6 hs6
    refine can_actS rfl rfl rfl rfl (fun K hK => ?_)
    go_wp2_with fail
    refine (inum_any _ M6 _ (HNUM.out _ hs6.tail _) hl1).mono ?_; rintro r w4 ⟨rfl, rfl⟩
    apply hK
    refine ⟨Held.mk hs6.tail, ?_⟩
    clear hK
    refine can_actS rfl rfl rfl rfl (fun K hK => ?_)
    go_wp2_with fail
    refine (clone_any _ D W _ _ (HDAT.out _ hs6.tail _) (by rw [HL3.out]; omega) hs6).mono ?_; rintro r w5 ⟨v5, R5, rfl, hr5, hs5⟩
    apply hK
    refine ⟨Held.mk hs5.right.tail, ?_⟩
    clear hK
    obtain ⟨a5, c5, rfl⟩ := Ch.RowA.slice hr5
    repeat (first | (refine can_pu1 rfl rfl rfl rfl rfl rfl (fun K hK => ?_); go_big_quiet_op; refine hK _ ?_; clear hK K) | (refine can_st1 rfl rfl rfl rfl rfl rfl (fun K hK => ?_); go_big_quiet_op; refine hK _ ?_; clear hK K) | (refine can_early1 rfl rfl rfl rfl rfl (fun K hK => ?_); go_big_quiet_op; refine hK _ ?_; clear hK K) | (refine can_skip rfl rfl rfl ?_; simp only [Act.put, List.setIfInBounds_toArray, List.set_cons_zero, List.set_cons_succ]))
    have hsF := Sat.use (M := cellsA z7 #[.int .i64 0, .int .i64 0, .slice none 0 0] 77 :: (R5 ++ LL)) hs5 (by intro x; simp only [cnt_append, cnt_cons, cnt_nil]; omega)
    have g0 := hsF.cell m0 0
    have g1 := hsF.cell m0 1
    have g2 := hsF.cell m0 2
    have j0 := hsF.free m0 0
    have j1 := hsF.free m0 1
    have j2 := hsF.free m0 2
    refine can_actF rfl rfl rfl rfl (fun K hK => ?_)
    go_wp2_with fail
    have hz := Sat.setCell (Sat.setCell (Sat.setCell hsF 0 (.int .i64 u6.toNat)) 1 (.int .i64 (numB M6))) 2 (.slice a5 D.length c5)
    simp only [List.setIfInBounds_toArray, List.set_cons_zero, List.set_cons_succ] at hz
    refine can_end1 ?_; (try simp only [Exit.then])
    refine with_sat hz ?_
    clear hz hsF g0 g1 g2 j0 j1 j2
    intro w9 hs9
    have g0 := hs9.cell m0 0
    have g1 := hs9.cell m0 1
    have g2 := hs9.cell m0 2
    have hrt := iright_any ⟨u6.toNat, numB M6, D⟩ a5 c5 w9
    unfold itV at hrt
    simp only at hrt
    have HRT0 := Lib.hid hrt
    clear hrt
    go_wp2_with fail
    refine (inum_any _ MN w9 (HNN.out _ hs9.tail.right _) hlN).mono ?_; rintro r w10 ⟨rfl, rfl⟩
    have hrt := HRT0.out
    have hq3 := HQ2.out
    generalize numB MN = nn at *
    by_cases hpos : 0 < nn
    · by_cases hrp : rightI ⟨u6.toNat, numB M6, D⟩
      · rw [if_pos ⟨hpos, hrp⟩] at hq3
        rw [decide_eq_true hrp] at hrt
        have HRT := Lib.hid hrt
        have HN := Lib.hid hq3
        clear hrt hq3 hrp
        go_wp2_with fail
        refine HRT.out.mono ?_; rintro r w10 ⟨rfl, hx⟩
        have hs10 := hs9.below hx
        rw [HLL.out] at hs10
        have hs11 := Sat.use (M := cellsA z #[.bool false, .int .i64 0, .int .i64 0, .int .i64 0, .slice none 0 0] 117 :: (cellsA z7 #[.int .i64 u6.toNat, .int .i64 (numB M6), .slice a5 D.length c5] 77 :: (R5 ++ (R ++ L)))) hs10 (by intro x; simp only [cnt_append, cnt_cons, cnt_nil]; omega)
        clear hs10 hs9 hx g0 g1 g2
        have z0 := hs11.cell m0 0
        have f0 := hs11.free m0 0
        have f1 := hs11.free m0 1
        have f2 := hs11.free m0 2
        have f3 := hs11.free m0 3
        have f4 := hs11.free m0 4
        have z1 := hs11.cell m0 1
        have z2 := hs11.cell m0 2
        have z3 := hs11.cell m0 3
        have z4 := hs11.cell m0 4
        have g0 := hs11.cell m1 0
        have g1 := hs11.cell m1 1
        have g2 := hs11.cell m1 2
        have hz3 := Sat.setCell (Sat.setCell (Sat.setCell (Sat.setCell (Sat.setCell hs11 0 (.bool true)) 1 (.int .i64 nn)) 2 (.int .i64 u6.toNat)) 3 (.int .i64 (numB M6))) 4 (.slice a5 D.length c5)
        go_wp2_with fail
        refine bodyPost_ret (v := slV ⟨true, nn, ⟨u6.toNat, numB M6, D⟩⟩ (.slice a5 D.length c5)) (by simp [results, Tryz.results66, go_sem, slV, *]) rfl ?_
        rw [← HN.out]
        first
          | exact ⟨_, _, rfl, hr5, hz3.tail.tail.use (by intro x; simp only [cnt_append, cnt_cons, cnt_nil]; omega)⟩
          | exact ⟨_, rfl, _, hr5, hz3.tail.tail.use (by intro x; simp only [cnt_append, cnt_cons, cnt_nil]; omega)⟩
      · rw [if_neg (fun h => hrp h.2)] at hq3
        rw [decide_eq_false hrp] at hrt
        have HRT := Lib.hid hrt
        have HN := Lib.hid hq3
        clear hrt hq3 hrp
        go_wp2_with fail
        refine HRT.out.mono ?_; rintro r w10 ⟨rfl, hx⟩
        have hs10 := hs9.below hx
        rw [HLL.out] at hs10
        have hs11 := Sat.use (M := cellsA z #[.bool false, .int .i64 0, .int .i64 0, .int .i64 0, .slice none 0 0] 117 :: L) hs10 (by intro x; simp only [cnt_append, cnt_cons, cnt_nil]; omega)
        clear hs10
        have z0 := hs11.cell m0 0
        have f0 := hs11.free m0 0
        have f1 := hs11.free m0 1
        have f2 := hs11.free m0 2
        have f3 := hs11.free m0 3
        have f4 := hs11.free m0 4
        have z1 := hs11.cell m0 1
        have z2 := hs11.cell m0 2
        have z3 := hs11.cell m0 3
        have z4 := hs11.cell m0 4
        have hz3 := Sat.setCell (Sat.setCell (Sat.setCell (Sat.setCell (Sat.setCell hs11 0 (.bool false)) 1 (.int .i64 0)) 2 (.int .i64 0)) 3 (.int .i64 0)) 4 (.slice none 0 0)
        go_wp2_with fail
        refine bodyPost_ret (v := slV sl0 (.slice none 0 0)) (by simp [results, Tryz.results66, go_sem, slV, sl0, *]) rfl ?_
        rw [← HN.out]
        first
          | exact ⟨_, _, rfl, RowA.nil _ _, hz3.tail⟩
          | exact ⟨_, rfl, _, RowA.nil _ _, hz3.tail⟩
    · rw [if_neg (fun h => hpos h.1)] at hq3
      have HN := Lib.hid hq3
      have hs10 := hs9
      clear hrt hq3
      rw [HLL.out] at hs10
      have hs11 := Sat.use (M := cellsA z #[.bool false, .int .i64 0, .int .i64 0, .int .i64 0, .slice none 0 0] 117 :: L) hs10 (by intro x; simp only [cnt_append, cnt_cons, cnt_nil]; omega)
      clear hs10
      have z0 := hs11.cell m0 0
      have f0 := hs11.free m0 0
      have f1 := hs11.free m0 1
      have f2 := hs11.free m0 2
      have f3 := hs11.free m0 3
      have f4 := hs11.free m0 4
      have z1 := hs11.cell m0 1
      have z2 := hs11.cell m0 2
      have z3 := hs11.cell m0 3
      have z4 := hs11.cell m0 4
      have hz3 := Sat.setCell (Sat.setCell (Sat.setCell (Sat.setCell (Sat.setCell hs11 0 (.bool false)) 1 (.int .i64 0)) 2 (.int .i64 0)) 3 (.int .i64 0)) 4 (.slice none 0 0)
      go_wp2_with fail
      refine bodyPost_ret (v := slV sl0 (.slice none 0 0)) (by simp [results, Tryz.results66, go_sem, slV, sl0, *]) rfl ?_
      rw [← HN.out]
      first
        | exact ⟨_, _, rfl, RowA.nil _ _, hz3.tail⟩
        | exact ⟨_, rfl, _, RowA.nil _ _, hz3.tail⟩
end Go.Proofs.YtekbbpfnkbanjaaGreat.Ch

namespace Go.Proofs.YtekbbpfnkbanjaaGreat.Ch
set_option linter.unusedSimpArgs false
open Go Go.RowKit Go.Sl Go.BigFrame
set_option linter.unusedVariables false

def slotsC (xs : List (Sl5 × Value)) : List Value := (xs.map fun x => slCells x.1 x.2).flatten
theorem slotsC_length (xs : List (Sl5 × Value)) : (slotsC xs).length = xs.length * 5 := by
  induction xs with
  | nil => rfl
  | cons x xs ih =>
    simp only [slotsC, List.map_cons, List.flatten_cons, List.length_append, List.length_cons] at *
    rw [ih]
    simp [slCells]
    omega
theorem slotsC_get {xs : List (Sl5 × Value)} : ∀ {i : Nat} {p : Sl5} {v : Value}, xs[i]? = some (p, v) → ∀ f u, (slCells p v)[f]? = some u → (slotsC xs)[i * 5 + f]? = some u := by
  induction xs with
  | nil => intro i p v h; simp at h
  | cons x xs ih =>
    intro i p v h f u hu
    have hc : slotsC (x :: xs) = slCells x.1 x.2 ++ slotsC xs := rfl
    have hf : f < 5 := (List.getElem?_eq_some_iff.1 hu).1
    rw [hc]
    cases i with
    | zero =>
      simp only [List.getElem?_cons_zero, Option.some.injEq] at h
      rw [h, Nat.zero_mul, Nat.zero_add, List.getElem?_append_left (by exact hf)]
      exact hu
    | succ i =>
      have h2 : xs[i]? = some (p, v) := by simpa using h
      rw [List.getElem?_append_right (by show 5 ≤ _; omega)]
      have := ih h2 f u hu
      rw [show (i + 1) * 5 + f - (slCells x.1 x.2).length = i * 5 + f by show (i + 1) * 5 + f - 5 = _; omega]
      exact this
theorem slotsC_set {xs : List (Sl5 × Value)} : ∀ {i : Nat} (p : Sl5) (v : Value), i < xs.length → (((((slotsC xs).set (i * 5) (.bool p.live)).set (i * 5 + 1) (.int .i64 p.num)).set (i * 5 + 2) (.int .i64 p.i.stripe)).set (i * 5 + 3) (.int .i64 p.i.gen)).set (i * 5 + 4) v = slotsC (xs.set i (p, v)) := by
  induction xs with
  | nil => intro i p v h; simp at h
  | cons x xs ih =>
    intro i p v h
    obtain ⟨⟨s, g, ⟨ix, ig, d⟩⟩, u⟩ := x
    have hc : ∀ (p : Sl5) (v : Value) (ys : List (Sl5 × Value)), slotsC ((p, v) :: ys) = .bool p.live :: .int .i64 p.num :: .int .i64 p.i.stripe :: .int .i64 p.i.gen :: v :: slotsC ys := fun p v ys => rfl
    cases i with
    | zero =>
      rfl
    | succ i =>
      have h2 := ih p v (by simpa using h)
      rw [hc, List.set_cons_succ, hc, ← h2]
      have e0 : (i + 1) * 5 = i * 5 + 5 := by omega
      rw [e0]
      rfl

/-- The ring's cells. -/
def ringC (bp : Nat) (xs : List (Sl5 × Value)) (nx : Int) : Array Value := (.pointer (some ⟨bp, 0, none⟩) :: (slotsC xs ++ [.int .i64 nx])).toArray
theorem ring_get {bp : Nat} {xs : List (Sl5 × Value)} {nx : Int} {i : Nat} {p : Sl5} {v : Value} (h : xs[i]? = some (p, v)) (f : Nat) (u : Value) (hu : (slCells p v)[f]? = some u) : (ringC bp xs nx)[1 + i * 5 + f]? = some u := by
  have h1 := slotsC_get h f u hu
  have h2 := (List.getElem?_eq_some_iff.1 h1).1
  unfold ringC
  rw [List.getElem?_toArray, show 1 + i * 5 + f = (i * 5 + f) + 1 by omega, List.getElem?_cons_succ, List.getElem?_append_left h2]
  exact h1
theorem ring_next {bp : Nat} {xs : List (Sl5 × Value)} {nx : Int} (h : xs.length = 16) : (ringC bp xs nx)[81]? = some (.int .i64 nx) := by
  unfold ringC
  rw [List.getElem?_toArray, List.getElem?_cons_succ, List.getElem?_append_right (by rw [slotsC_length, h]; decide), slotsC_length, h]
  rfl
theorem ring_set {bp : Nat} {xs : List (Sl5 × Value)} {nx : Int} {i : Nat} (p : Sl5) (v : Value) (h : i < xs.length) :
    (((((ringC bp xs nx).setIfInBounds (1 + i * 5) (.bool p.live)).setIfInBounds (1 + i * 5 + 1) (.int .i64 p.num)).setIfInBounds (1 + i * 5 + 2) (.int .i64 p.i.stripe)).setIfInBounds (1 + i * 5 + 3) (.int .i64 p.i.gen)).setIfInBounds (1 + i * 5 + 4) v = ringC bp (xs.set i (p, v)) nx := by
  have hl := slotsC_length xs
  unfold ringC
  simp only [List.setIfInBounds_toArray]
  rw [show 1 + i * 5 = i * 5 + 1 by omega, show i * 5 + 1 + 1 = (i * 5 + 1) + 1 by omega, show i * 5 + 1 + 2 = (i * 5 + 2) + 1 by omega, show i * 5 + 1 + 3 = (i * 5 + 3) + 1 by omega, show i * 5 + 1 + 4 = (i * 5 + 4) + 1 by omega]
  simp only [List.set_cons_succ]
  rw [List.set_append_left (i * 5) _ (by omega), List.set_append_left (i * 5 + 1) _ (by rw [List.length_set]; omega), List.set_append_left (i * 5 + 2) _ (by rw [List.length_set, List.length_set]; omega), List.set_append_left (i * 5 + 3) _ (by rw [List.length_set, List.length_set, List.length_set]; omega), List.set_append_left (i * 5 + 4) _ (by rw [List.length_set, List.length_set, List.length_set, List.length_set]; omega), slotsC_set p v h]
theorem ring_setn {bp : Nat} {xs : List (Sl5 × Value)} {nx : Int} (n' : Int) (h : xs.length = 16) : (ringC bp xs nx).setIfInBounds 81 (.int .i64 n') = ringC bp xs n' := by
  unfold ringC
  rw [List.setIfInBounds_toArray, List.set_cons_succ, List.set_append_right _ _ (by rw [slotsC_length, h]; decide), slotsC_length, h]
  rfl

/-- The value is a row among B with bytes l, or nothing. -/
def RowIn (B : List Atom) (v : Value) (l : List UInt8) : Prop := ∃ R, RowA 5 1 v l.length (bts l) R ∧ ∀ x ∈ R, x ∈ B
theorem RowIn.mono {B B' : List Atom} {v : Value} {l : List UInt8} (h : RowIn B v l) (hs : ∀ x ∈ B, x ∈ B') : RowIn B' v l := by
  obtain ⟨R, h1, h2⟩ := h
  exact ⟨R, h1, fun x hx => hs x (h2 x hx)⟩
theorem RowIn.nil (B : List Atom) : RowIn B (.slice none 0 0) [] := ⟨[], RowA.nil _ _, fun x hx => by simp at hx⟩
theorem RowIn.shape {B : List Atom} {v : Value} {l : List UInt8} (h : RowIn B v l) : ∃ a c, v = .slice a l.length c := by
  obtain ⟨R, h1, _⟩ := h
  exact Ch.RowA.slice h1
theorem RowIn.reads {W y : World} {B L : List Atom} {v : Value} {l : List UInt8} (h : RowIn B v l) (hs : Sat W y L) (hb : ∀ x ∈ B, x ∈ L) : Reads y v l.length (bts l) := by
  obtain ⟨R, h1, h2⟩ := h
  rcases h1.2 with ⟨e1, e2, e3⟩ | ⟨g, off, cap, e1, e2, e3, rfl⟩
  · exact .inl ⟨e1, e2, by rw [List.length_eq_zero_iff.1 e2]; rfl⟩
  · obtain ⟨o, ho, hp⟩ := hs.get (hb _ (h2 _ (List.mem_singleton.2 rfl)))
    refine .inr ⟨_, _, e1, fun j u hu => ?_⟩
    rw [add_row, (hp.cell ho j (List.getElem?_eq_some_iff.1 hu).1).1, hu]
def RowsIn (B : List Atom) (xs : List (Sl5 × Value)) : Prop := ∀ x ∈ xs, RowIn B x.2 x.1.i.data
theorem RowsIn.mono {B B' : List Atom} {xs : List (Sl5 × Value)} (h : RowsIn B xs) (hs : ∀ x ∈ B, x ∈ B') : RowsIn B' xs := fun x hx => (h x hx).mono hs
theorem RowsIn.set {B : List Atom} {xs : List (Sl5 × Value)} (h : RowsIn B xs) (k : Nat) {s : Sl5} {v : Value} (hv : RowIn B v s.i.data) : RowsIn B (xs.set k (s, v)) := fun x hx => by
  rcases List.mem_or_eq_of_mem_set hx with h1 | h1
  · exact h x h1
  · rw [h1]; exact hv

/-- A ring: its slots, the next number. -/
structure Rg where
  slots : List Sl5
  next : Int
def RgA (b bp : Nat) (g : Rg) (A : List Atom) : Prop := ∃ xs B, xs.map Prod.fst = g.slots ∧ RowsIn B xs ∧ A = cellsA b (ringC bp xs g.next) 120 :: B

/-- intent.Open. -/
noncomputable def blkI (q : Pt) (k : Nat) : Sl5 := readI (q.now.getD (80 + k) [])
noncomputable def opSl (q : Pt) : Nat → List Sl5
  | 0 => List.replicate 16 sl0
  | k + 1 => (opSl q k).set k (blkI q k)
noncomputable def opNx (q : Pt) : Nat → Int
  | 0 => 1
  | k + 1 => max (opNx q k) ((blkI q k).num + 1)
noncomputable def openRg (q : Pt) : Rg := ⟨opSl q 16, opNx q 16⟩
theorem opSl_length (q : Pt) : ∀ k, (opSl q k).length = 16
  | 0 => rfl
  | k + 1 => by rw [opSl, List.length_set, opSl_length q k]
theorem readI_num (b : List UInt8) : 0 ≤ (readI b).num ∧ (readI b).num < 281474976710656 := by
  unfold readI
  split
  · split
    · rename_i h
      obtain ⟨h1, h2⟩ := numB_bounds ((openB b).2.1.take 6) 6 (by simp; omega)
      exact ⟨h1, by simpa using h2⟩
    · exact ⟨Int.le_refl _, by decide⟩
  · exact ⟨Int.le_refl _, by decide⟩
theorem opNx_bounds (q : Pt) : ∀ k, 1 ≤ opNx q k ∧ opNx q k ≤ 281474976710656
  | 0 => by unfold opNx; omega
  | k + 1 => by
    have h := opNx_bounds q k
    have h2 := readI_num (q.now.getD (80 + k) [])
    unfold opNx blkI
    omega

set_option maxRecDepth 100000 in
theorem iopen_bad (b : Nat) (q : Pt) (A : List Atom) (W w : World) (L : List Atom) (hq : PtA b q A) (hs : Sat W w (A ++ L)) (hn : q.now.length ≠ 96) :
    Calls Tryz.prog 44 #[.pointer (some ⟨b, 0, none⟩)] w fun e w' => e = .returned (.tuple #[.pointer none, .int .i64 1]) ∧ w = w' := by
  have q0 : ((q.now.length : Int) != 96) = true := by simp; omega
  have hb := blocks_any b q A W w L hq hs
  clear hs
  go_enter Tryz.func44, Tryz.ntmps44
  go_wp2_with fail
  refine hb.mono ?_; rintro r w2 ⟨rfl, rfl⟩
  go_wp2_with fail
  go_ret2
  exact ⟨rfl, rfl⟩

set_option maxRecDepth 100000 in
set_option maxHeartbeats 4000000 in
theorem iopen_any (bp : Nat) (q : Pt) (A : List Atom) (W w : World) (L : List Atom) (hq : PtA bp q A) (hs : Sat W w (A ++ L)) (hn : q.now.length = 96) (hl : ∀ l ∈ q.now, l.length < 1000000) :
    Calls Tryz.prog 44 #[.pointer (some ⟨bp, 0, none⟩)] w fun e w' => ∃ b A', e = .returned (.tuple #[.pointer (some ⟨b, 0, none⟩), .int .i64 0]) ∧ RgA b bp (openRg q) A' ∧ Sat W w' (A' ++ (A ++ L)) := by
  have q0 : ((q.now.length : Int) != 96) = false := by simp; omega
  have hb := blocks_any bp q A W w L hq hs
  have hs1 := hs.newCells (ringC bp (List.replicate 16 (sl0, .slice none 0 0)) 1) 120
  have HQ := Lib.hid hq
  have HN := Lib.hid hn
  have HL := Lib.hid hl
  clear hs hq hn hl
  go_enter Tryz.func44, Tryz.ntmps44
  go_wp2_with fail
  refine hb.mono ?_; rintro r w2 ⟨rfl, rfl⟩
  clear hb
  go_wp2_with fail
  generalize w.heap.size = z at *
  refine with_sat hs1 ?_
  clear hs1
  intro w0 hs1
  go_loopw [18] (fun kv wr => ∃ (k : Nat) (xs : List (Sl5 × Value)) (B : List Atom), kv = .int .i64 k ∧ k ≤ 16 ∧ xs.map Prod.fst = opSl q k ∧ RowsIn B xs ∧ Sat W wr (cellsA z (ringC bp xs (opNx q k)) 120 :: (B ++ (A ++ L)))) (fun kv _ => (16 - (intOf kv).toNat))
  case atStart => exact ⟨0, _, [], rfl, by omega, rfl, (fun x hx => by rw [(List.mem_replicate.1 hx).2]; exact RowIn.nil _), hs1⟩
  case round =>
    clear hs1
    obtain ⟨k, xs, B, rfl, hk, hxs, hri, hs⟩ := hrel
    have k0 : (0 : Int) ≤ k := by omega
    have hxl : xs.length = 16 := by have := congrArg List.length hxs; rw [List.length_map, opSl_length] at this; exact this
    have HXL := Lib.hid hxl
    have HXS := Lib.hid hxs
    have HRI := Lib.hid hri
    clear hxs hri hxl
    by_cases hkn : k < 16
    · have k1 : (k : Int) < 16 := by omega
      obtain ⟨l, hl⟩ : ∃ l, q.now[80 + k]? = some l := ⟨_, List.getElem?_eq_getElem (by have := HN.out; omega)⟩
      have hll := HL.out l (List.mem_of_getElem? hl)
      have hbk : blkI q k = readI l := by unfold blkI; rw [List.getD_eq_getElem?_getD, hl]; rfl
      have hrd := read_in bp q A (80 + k) l W wr (cellsA z (ringC bp xs (opNx q k)) 120 :: (B ++ L)) HQ.out (hs.use (by intro x; simp only [cnt_append, cnt_cons, cnt_nil]; omega)) hl hll
      rw [show (((80 + k : Nat)) : Int) = 80 + (k : Int) by omega] at hrd
      have hbl := fun w => iblock_any (k : Int) w k0 (by omega)
      have HRD := Lib.hid hrd
      have HBL := Lib.hid hbl
      have HBK := Lib.hid hbk
      clear hrd hbl hbk hl hs
      go_wp2_with fail
      refine (HBL.out _).mono ?_; rintro r w3 ⟨rfl, rfl⟩
      go_wp2_with fail
      refine HRD.out.mono ?_; rintro r w4 ⟨v4, R4, rfl, hr4, hs4⟩
      have hcap4 : ∀ a n c, v4 = .slice a n c → n ≤ c := fun a n c h => by
        rcases hr4.2 with ⟨h1, h2, _⟩ | ⟨g, off, cap, h1, h2, _⟩
        · rw [h1] at h; cases h; exact Nat.le_refl _
        · rw [h1] at h; cases h; exact h2
      have hrb := iread_any W w4.drew _ v4 l hs4.drew (fun y hy => hr4.reads hy) hll hcap4
      rw [← HBK.out] at hrb
      have hnum := readI_num l
      rw [← HBK.out] at hnum
      obtain ⟨a4, c4, rfl⟩ := Ch.RowA.slice hr4
      have HRB := Lib.hid hrb
      clear hrb hcap4 HRD
      obtain ⟨S, hS⟩ : ∃ S, S = blkI q k := ⟨_, rfl⟩
      rw [← hS] at hnum HRB
      have HS := Lib.hid hS
      clear hS HBK
      obtain ⟨sl, sn, ⟨ss, sg, sd⟩⟩ := S
      have nb := opNx_bounds q k
      have hnx : opNx q (k + 1) = max (opNx q k) (sn + 1) := by rw [opNx, ← HS.out]
      have hsx : opSl q (k + 1) = (opSl q k).set k ⟨sl, sn, ⟨ss, sg, sd⟩⟩ := by rw [opSl, ← HS.out]
      have HNX := Lib.hid hnx
      have HSX := Lib.hid hsx
      clear hnx hsx
      generalize opNx q k = nx at *
      go_wp2_with fail
      refine wp_region_one [3, 7] [0, 1, 4, 5] [0, 1, 4, 5] [] [0, 1, 2, 4, 5, 3, 6, 7] (by kernel_rfl) (by kernel_rfl) ?_
      repeat (first | (refine can_pu1 rfl rfl rfl rfl rfl rfl (fun K hK => ?_); go_big_quiet_op; refine hK _ ?_; clear hK K) | (refine can_st1 rfl rfl rfl rfl rfl rfl (fun K hK => ?_); go_big_quiet_op; refine hK _ ?_; clear hK K) | (refine can_early1 rfl rfl rfl rfl rfl (fun K hK => ?_); go_big_quiet_op; refine hK _ ?_; clear hK K) | (refine can_skip rfl rfl rfl ?_; simp only [Act.put, List.setIfInBounds_toArray, List.set_cons_zero, List.set_cons_succ]))
      refine can_act1 rfl rfl rfl (fun K hK => ?_)
      go_wp2_with fail
      refine HRB.out.mono ?_; rintro r w5 ⟨v5, R5, rfl, hr5, hs5'⟩
      apply hK
      clear hK HRB
      unfold slV
      simp only at hr5 hnum ⊢
      obtain ⟨a5, c5, rfl⟩ := Ch.RowA.slice hr5
      repeat (first | (refine can_pu1 rfl rfl rfl rfl rfl rfl (fun K hK => ?_); go_big_quiet_op; refine hK _ ?_; clear hK K) | (refine can_st1 rfl rfl rfl rfl rfl rfl (fun K hK => ?_); go_big_quiet_op; refine hK _ ?_; clear hK K) | (refine can_early1 rfl rfl rfl rfl rfl (fun K hK => ?_); go_big_quiet_op; refine hK _ ?_; clear hK K) | (refine can_skip rfl rfl rfl ?_; simp only [Act.put, List.setIfInBounds_toArray, List.set_cons_zero, List.set_cons_succ]))
      have hs5 := Sat.use (M := cellsA z (ringC bp xs nx) 120 :: (R5 ++ (B ++ (A ++ L)))) hs5' (by intro x; simp only [cnt_append, cnt_cons, cnt_nil]; omega)
      obtain ⟨⟨⟨ol, on, ⟨os, og, od⟩⟩, ov⟩, hxk⟩ : ∃ y, xs[k]? = some y := ⟨_, List.getElem?_eq_getElem (by rw [HXL.out]; exact hkn)⟩
      have e0 : w5.cell? ⟨z, 1 + k * 5, none⟩ = some (.bool ol) := by rw [hs5.cell m0]; exact ring_get hxk 0 _ rfl
      have e1 : w5.cell? ⟨z, 1 + k * 5 + 1, none⟩ = some (.int .i64 on) := by rw [hs5.cell m0]; exact ring_get hxk 1 _ rfl
      have e2 : w5.cell? ⟨z, 1 + k * 5 + 2, none⟩ = some (.int .i64 os) := by rw [hs5.cell m0]; exact ring_get hxk 2 _ rfl
      have e3 : w5.cell? ⟨z, 1 + k * 5 + 3, none⟩ = some (.int .i64 og) := by rw [hs5.cell m0]; exact ring_get hxk 3 _ rfl
      have e4 : w5.cell? ⟨z, 1 + k * 5 + 4, none⟩ = some ov := by rw [hs5.cell m0]; exact ring_get hxk 4 _ rfl
      have f0 := hs5.free m0 (1 + k * 5)
      have f1 := hs5.free m0 (1 + k * 5 + 1)
      have f2 := hs5.free m0 (1 + k * 5 + 2)
      have f3 := hs5.free m0 (1 + k * 5 + 3)
      have f4 := hs5.free m0 (1 + k * 5 + 4)
      refine can_act1 rfl rfl rfl (fun K hK => ?_)
      go_wp2_with fail
      refine can_end1 ?_; (try simp only [Exit.then])
      have hz := Sat.setCell (Sat.setCell (Sat.setCell (Sat.setCell (Sat.setCell hs5 (1 + k * 5) (.bool sl)) (1 + k * 5 + 1) (.int .i64 sn)) (1 + k * 5 + 2) (.int .i64 ss)) (1 + k * 5 + 3) (.int .i64 sg)) (1 + k * 5 + 4) (.slice a5 sd.length c5)
      rw [ring_set (xs := xs) ⟨sl, sn, ⟨ss, sg, sd⟩⟩ (.slice a5 sd.length c5) (by rw [HXL.out]; exact hkn)] at hz
      clear e0 e1 e2 e3 e4 f0 f1 f2 f3 f4 hs5 hs5'
      refine with_sat hz ?_
      clear hz
      intro w6 hs6
      have hxl2 : (xs.set k (⟨sl, sn, ⟨ss, sg, sd⟩⟩, .slice a5 sd.length c5)).length = 16 := by rw [List.length_set, HXL.out]
      have hxk2 : (xs.set k (⟨sl, sn, ⟨ss, sg, sd⟩⟩, .slice a5 sd.length c5))[k]? = some (⟨sl, sn, ⟨ss, sg, sd⟩⟩, .slice a5 sd.length c5) := List.getElem?_set_self (by rw [HXL.out]; exact hkn)
      have e0 : w6.cell? ⟨z, 81, none⟩ = some (.int .i64 nx) := by rw [hs6.cell m0]; exact ring_next hxl2
      have e1 : w6.cell? ⟨z, 1 + k * 5 + 1, none⟩ = some (.int .i64 sn) := by rw [hs6.cell m0]; exact ring_get hxk2 1 _ rfl
      have f0 := hs6.free m0 81
      obtain ⟨mx, hmx⟩ : ∃ mx, mx = max nx (sn + 1) := ⟨_, rfl⟩
      have HMX := Lib.hid hmx
      have hz := Sat.setCell hs6 81 (.int .i64 mx)
      rw [ring_setn mx hxl2] at hz
      have HZ := Lib.hid hz
      clear hz hxl2 hxk2 hs6 hmx
      by_cases hlt : nx < sn + 1
      · obtain rfl : mx = sn + 1 := by rw [HMX.out]; omega
        go_wp2_with fail
        refine wp_region_one [16] [] [] [] [0, 1, 2, 3, 4, 5, 6, 7, 8, 9, 10, 11, 12, 13, 14, 15, 16] (by kernel_rfl) (by kernel_rfl) ?_
        repeat (first | (refine can_pu1 rfl rfl rfl rfl rfl rfl (fun K hK => ?_); go_big_quiet_op; refine hK _ ?_; clear hK K) | (refine can_st1 rfl rfl rfl rfl rfl rfl (fun K hK => ?_); go_big_quiet_op; refine hK _ ?_; clear hK K) | (refine can_early1 rfl rfl rfl rfl rfl (fun K hK => ?_); go_big_quiet_op; refine hK _ ?_; clear hK K) | (refine can_skip rfl rfl rfl ?_; simp only [Act.put, List.setIfInBounds_toArray, List.set_cons_zero, List.set_cons_succ]))
        refine can_act1 rfl rfl rfl (fun K hK => ?_)
        go_wp2_with fail
        refine can_end1 ?_; (try simp only [Exit.then])
        go_wp2_with fail
        refine ⟨⟨k + 1, _, R5 ++ B, by simp, by omega, ?_, (HRI.out.mono (fun x hx => List.mem_append_right R5 hx)).set k (s := ⟨sl, sn, ⟨ss, sg, sd⟩⟩) (v := .slice a5 sd.length c5) ⟨R5, hr5, fun x hx => List.mem_append_left _ hx⟩, ?_⟩, ?_⟩
        · rw [HSX.out, List.map_set, HXS.out]
        · rw [HNX.out, ← HMX.out]
          exact HZ.out.drew.use (by intro x; simp only [cnt_append, cnt_cons, cnt_nil]; omega)
        · simp [intOf]
          omega
      · obtain rfl : mx = nx := by rw [HMX.out]; omega
        go_wp2_with fail
        refine wp_region_one [16] [] [] [] [0, 1, 2, 3, 4, 5, 6, 7, 8, 9, 10, 11, 12, 13, 14, 15, 16] (by kernel_rfl) (by kernel_rfl) ?_
        repeat (first | (refine can_pu1 rfl rfl rfl rfl rfl rfl (fun K hK => ?_); go_big_quiet_op; refine hK _ ?_; clear hK K) | (refine can_st1 rfl rfl rfl rfl rfl rfl (fun K hK => ?_); go_big_quiet_op; refine hK _ ?_; clear hK K) | (refine can_early1 rfl rfl rfl rfl rfl (fun K hK => ?_); go_big_quiet_op; refine hK _ ?_; clear hK K) | (refine can_skip rfl rfl rfl ?_; simp only [Act.put, List.setIfInBounds_toArray, List.set_cons_zero, List.set_cons_succ]))
        refine can_act1 rfl rfl rfl (fun K hK => ?_)
        go_wp2_with fail
        refine can_end1 ?_; (try simp only [Exit.then])
        go_wp2_with fail
        refine ⟨⟨k + 1, _, R5 ++ B, by simp, by omega, ?_, (HRI.out.mono (fun x hx => List.mem_append_right R5 hx)).set k (s := ⟨sl, sn, ⟨ss, sg, sd⟩⟩) (v := .slice a5 sd.length c5) ⟨R5, hr5, fun x hx => List.mem_append_left _ hx⟩, ?_⟩, ?_⟩
        · rw [HSX.out, List.map_set, HXS.out]
        · rw [HNX.out, ← HMX.out]
          exact HZ.out.drew.use (by intro x; simp only [cnt_append, cnt_cons, cnt_nil]; omega)
        · simp [intOf]
          omega
    · have e : k = 16 := by omega
      subst e
      go_wp2_with fail
      go_ret2
      exact ⟨z, _, rfl, ⟨xs, B, HXS.out, HRI.out, rfl⟩, hs⟩
end Go.Proofs.YtekbbpfnkbanjaaGreat.Ch

namespace Go.Proofs.YtekbbpfnkbanjaaGreat.Ch
set_option linter.unusedSimpArgs false
open Go Go.RowKit Go.Sl Go.BigFrame
set_option linter.unusedVariables false

def Pt.wipe (p : Pt) : Pt := ⟨List.replicate p.now.length zero160, List.replicate p.now.length zero160, [], p.writes⟩
theorem crash_small10 {keep : List Int} {d : List (List UInt8)} {pend : List (Nat × List UInt8)} (hd : ∀ l ∈ d, l.length < 1000000) (hp : ∀ x ∈ pend, x.2.length < 1000000) : ∀ k, ∀ l ∈ crashTo keep d pend k, l.length < 1000000
  | 0, l, h => hd l h
  | k + 1, l, h => by
    unfold crashTo at h
    split at h
    · rename_i x hx
      split at h
      · rcases List.mem_or_eq_of_mem_set h with h | h
        · exact crash_small10 hd hp k l h
        · rw [h]; exact hp x (List.mem_of_getElem? hx)
      · exact crash_small10 hd hp k l h
    · exact crash_small10 hd hp k l h
/-- A node. -/
structure Nd where
  q : Pt
  g : Rg
  boot : Int
def NodA (b : Nat) (n : Nd) (A : List Atom) : Prop :=
  ∃ bp br Aq Ag, PtA bp n.q Aq ∧ RgA br bp n.g Ag ∧ A = cellsA b #[.pointer (some ⟨bp, 0, none⟩), .pointer (some ⟨br, 0, none⟩), .int .i64 n.boot] 64 :: (Aq ++ Ag)

set_option maxRecDepth 100000 in
set_option maxHeartbeats 4000000 in
theorem start_any (b bp : Nat) (rv : Option Addr) (boot : Int) (q : Pt) (A : List Atom) (W w : World) (L : List Atom) (hq : PtA bp q A) (hs : Sat W w (cellsA b #[.pointer (some ⟨bp, 0, none⟩), .pointer rv, .int .i64 boot] 64 :: (A ++ L))) (hn : q.now.length = 96) (hl : ∀ l ∈ q.now, l.length < 1000000) (hb0 : 0 ≤ boot) (hb1 : boot < 1000000000) :
    Calls Tryz.prog 22 #[.pointer (some ⟨b, 0, none⟩)] w fun e w' => ∃ A', e = .returned (.tuple #[]) ∧ NodA b ⟨q, openRg q, boot + 1⟩ A' ∧ Sat W w' (A' ++ L) := by
  have e0 : w.cell? ⟨b, 0, none⟩ = some (.pointer (some ⟨bp, 0, none⟩)) := hs.cell m0 0
  have hop := iopen_any bp q A W w (cellsA b #[.pointer (some ⟨bp, 0, none⟩), .pointer rv, .int .i64 boot] 64 :: L) hq (hs.use (by intro x; simp only [cnt_append, cnt_cons, cnt_nil]; omega)) hn hl
  have HOP := Lib.hid hop
  clear hop hs hn hl
  go_enter Tryz.func22, Tryz.ntmps22
  go_wp2_with fail
  refine HOP.out.mono ?_; rintro r w2 ⟨br, Ag, rfl, hg, hs2⟩
  have hs3 := Sat.use (M := cellsA b #[.pointer (some ⟨bp, 0, none⟩), .pointer rv, .int .i64 boot] 64 :: (A ++ (Ag ++ L))) hs2 (by intro x; simp only [cnt_append, cnt_cons, cnt_nil]; omega)
  clear hs2 e0
  have e1 := hs3.cell m0 1
  have f1 := hs3.free m0 1
  have hs4 := Sat.setCell hs3 1 (.pointer (some ⟨br, 0, none⟩))
  have e2 := hs4.cell m0 2
  have f2 := hs4.free m0 2
  have hs5 := Sat.setCell hs4 2 (.int .i64 (boot + 1))
  go_wp2_with fail
  go_end0
  simp only [List.setIfInBounds_toArray, List.set_cons_zero, List.set_cons_succ] at hs5
  refine ⟨_, rfl, ⟨bp, br, A, Ag, hq, hg, rfl⟩, hs5.use (by intro x; simp only [cnt_append, cnt_cons, cnt_nil]; omega)⟩

set_option maxRecDepth 100000 in
theorem node_new (W w : World) (L : List Atom) (hs : Sat W w L) :
    Calls Tryz.prog 4 #[] w fun e w' => ∃ b A, e = .returned (.pointer (some ⟨b, 0, none⟩)) ∧ NodA b ⟨q0, openRg q0, 1⟩ A ∧ Sat W w' (A ++ L) := by
  have HN := Lib.hid (platter_new 96 W w L (by omega) (by omega) hs)
  clear hs
  go_enter Tryz.func4, Tryz.ntmps4
  go_wp2_with fail
  refine HN.out.mono ?_; rintro r w2 ⟨bp, A, rfl, hA, hs2⟩
  have hs3 := hs2.newCells #[.pointer (some ⟨bp, 0, none⟩), .pointer none, .int .i64 0] 64
  have hst := start_any w2.heap.size bp none 0 q0 A W _ L hA hs3 (qk_facts 0).1 (qk_facts 0).2.2.2 (by decide) (by decide)
  have HST := Lib.hid hst
  clear hst hs3 hs2 HN
  go_wp2_with fail
  refine HST.out.mono ?_; rintro r w3 ⟨A', rfl, hA', hs4⟩
  go_wp2_with fail
  go_ret
  exact ⟨_, A', rfl, hA', hs4⟩

/-- What keeps a node's platter in bounds. -/
structure NdOk (n : Nd) (i : Nat) : Prop where
  len : n.q.now.length = 96
  dlen : n.q.done.length = 96
  small : ∀ l ∈ n.q.now, l.length < 1000000
  dsmall : ∀ l ∈ n.q.done, l.length < 1000000
  pend : n.q.pend.length ≤ i
  pok : ∀ x ∈ n.q.pend, x.1 < 96 ∧ x.2.length < 1000000
  w0 : 0 ≤ n.q.writes
  w1 : n.q.writes ≤ i
  b0 : 1 ≤ n.boot
  b1 : n.boot ≤ i + 1
noncomputable def Nd.crash (n : Nd) (keep : List Int) : Nd := ⟨n.q.crash keep, openRg (n.q.crash keep), n.boot + 1⟩
noncomputable def Nd.lose (n : Nd) : Nd := ⟨n.q.wipe, openRg n.q.wipe, n.boot + 1⟩

set_option maxRecDepth 100000 in
set_option maxHeartbeats 4000000 in
theorem node_crash (b i : Nat) (n : Nd) (A : List Atom) (kv : Value) (keep : List Int) (W w : World) (L : List Atom) (hn : NodA b n A) (hs : Sat W w (A ++ L)) (hin : ∀ y, Sat W y L → Reads y kv keep.length (intsC keep)) (hkl : keep.length < 9223372036854775808) (hok : NdOk n i) (hi : i < 900000) :
    Calls Tryz.prog 8 #[.pointer (some ⟨b, 0, none⟩), kv] w fun e w' => ∃ A', e = .returned (.tuple #[]) ∧ NodA b (n.crash keep) A' ∧ Sat W w' (A' ++ L) := by
  obtain ⟨ak, ck, rfl⟩ := reads_shape (hin w hs.right)
  obtain ⟨bp, br, Aq, Ag, hq, hg, rfl⟩ := hn
  have e0 : w.cell? ⟨b, 0, none⟩ = some (.pointer (some ⟨bp, 0, none⟩)) := hs.cell m0 0
  have hcr := crash_any bp n.q Aq (.slice ak keep.length ck) keep W w (cellsA b #[.pointer (some ⟨bp, 0, none⟩), .pointer (some ⟨br, 0, none⟩), .int .i64 n.boot] 64 :: L) hq (hs.use (by intro x; simp only [cnt_append, cnt_cons, cnt_nil]; omega)) (fun y hy => hin y hy.tail) hkl (by rw [hok.dlen]; decide) (by rw [hok.dlen]; decide) (by rw [hok.dlen]; exact fun x hx => (hok.pok x hx).1) (by have := hok.pend; omega)
  have HCR := Lib.hid hcr
  have HOK := Lib.hid hok
  clear hcr hs hin hok
  go_enter Tryz.func8, Tryz.ntmps8
  go_wp2_with fail
  refine HCR.out.mono ?_; rintro r w2 ⟨A', rfl, hA', hs2⟩
  have hl : (n.q.crash keep).now.length = 96 := by show (crashTo _ _ _ _).length = 96; rw [crashTo_length, HOK.out.dlen]
  have hsm := crash_small10 (keep := keep) HOK.out.dsmall (fun x hx => (HOK.out.pok x hx).2) n.q.pend.length
  have hst := start_any b bp (some ⟨br, 0, none⟩) n.boot (n.q.crash keep) A' W w2 L hA' (hs2.use (by intro x; simp only [cnt_append, cnt_cons, cnt_nil]; omega)) hl hsm (by have := HOK.out.b0; omega) (by have := HOK.out.b1; omega)
  have HST := Lib.hid hst
  clear hst hs2 hl hsm HCR
  go_wp2_with fail
  refine HST.out.mono ?_; rintro r w3 ⟨A2, rfl, hA2, hs4⟩
  go_wp2_with fail
  go_end0
  exact ⟨A2, rfl, hA2, hs4⟩

end Go.Proofs.YtekbbpfnkbanjaaGreat.Ch

namespace Go.Proofs.YtekbbpfnkbanjaaGreat.Ch
set_option linter.unusedSimpArgs false
open Go Go.RowKit Go.Sl Go.BigFrame
set_option linter.unusedVariables false

def repV (code boot : Int) (pv iv : Value) : Value := .agg #[.int .i64 code, .int .i64 boot, pv, iv]
def rep0 : Array Value := #[.int .i64 0, .int .i64 0, .slice none 0 0, .slice none 0 0]

set_option maxRecDepth 100000 in
set_option maxHeartbeats 4000000 in
theorem did_flush (b : Nat) (n : Nd) (A : List Atom) (s g i : Int) (da : Option Addr) (dn dc : Nat) (W w : World) (L : List Atom) (hn : NodA b n A) (hs : Sat W w (A ++ L)) (hl : n.q.now.length < 1000000) :
    Calls Tryz.prog 32 #[.pointer (some ⟨b, 0, none⟩), .agg #[.int .i64 4, .int .i64 s, .int .i64 g, .int .i64 i, .slice da dn dc]] w fun e w' => ∃ A', e = .returned (repV 0 0 (.slice none 0 0) (.slice none 0 0)) ∧ NodA b ⟨n.q.fl, n.g, n.boot⟩ A' ∧ Sat W w' (A' ++ L) := by
  obtain ⟨bp, br, Aq, Ag, hq, hg, rfl⟩ := hn
  have e0 : w.cell? ⟨b, 0, none⟩ = some (.pointer (some ⟨bp, 0, none⟩)) := hs.cell m0 0
  have hbw : b < w.heap.size := hs.lt m0
  have hsq := hs.newCells #[.int .i64 4, .int .i64 s, .int .i64 g, .int .i64 i, .slice da dn dc] 37
  have hsr := hsq.newCells #[.int .i64 0, .int .i64 0, .slice none 0 0, .slice none 0 0] 44
  have hsz : (w.alloc (.cells #[.int .i64 4, .int .i64 s, .int .i64 g, .int .i64 i, .slice da dn dc] 37)).heap.size = w.heap.size + 1 := by simp
  rw [hsz] at hsr
  clear hsz
  have hfl := flush_any bp n.q Aq W _ (cellsA (w.heap.size + 1) #[.int .i64 0, .int .i64 0, .slice none 0 0, .slice none 0 0] 44 :: (cellsA b #[.pointer (some ⟨bp, 0, none⟩), .pointer (some ⟨br, 0, none⟩), .int .i64 n.boot] 64 :: (Ag ++ L))) hq (hsr.use (by intro x; simp only [cnt_append, cnt_cons, cnt_nil]; omega)) hl
  have HFL := Lib.hid hfl
  clear hs hsq hsr hfl
  go_enter Tryz.func32, Tryz.ntmps32
  go_wp2_with fail
  refine HFL.out.mono ?_; rintro r w2 ⟨A', rfl, hA', hs2⟩
  have hs3 := Sat.use (M := cellsA (w.heap.size + 1) #[.int .i64 0, .int .i64 0, .slice none 0 0, .slice none 0 0] 44 :: (cellsA b #[.pointer (some ⟨bp, 0, none⟩), .pointer (some ⟨br, 0, none⟩), .int .i64 n.boot] 64 :: (A' ++ (Ag ++ L)))) hs2 (by intro x; simp only [cnt_append, cnt_cons, cnt_nil]; omega)
  clear hs2 e0
  have z0 : w2.cell? ⟨w.heap.size + 1, 0, none⟩ = some (.int .i64 0) := hs3.cell m0 0
  have z1 : w2.cell? ⟨w.heap.size + 1, 1, none⟩ = some (.int .i64 0) := hs3.cell m0 1
  have z2 : w2.cell? ⟨w.heap.size + 1, 2, none⟩ = some (.slice none 0 0) := hs3.cell m0 2
  have z3 : w2.cell? ⟨w.heap.size + 1, 3, none⟩ = some (.slice none 0 0) := hs3.cell m0 3
  have f0 := hs3.free m0 0
  have f1 := hs3.free m0 1
  have f2 := hs3.free m0 2
  have f3 := hs3.free m0 3
  have hz := Sat.setCell (Sat.setCell (Sat.setCell (Sat.setCell hs3 0 (.int .i64 0)) 1 (.int .i64 0)) 2 (.slice none 0 0)) 3 (.slice none 0 0)
  go_wp2_with fail
  refine bodyPost_ret (v := repV 0 0 (.slice none 0 0) (.slice none 0 0)) (by simp [results, Tryz.results32, go_sem, repV, *]) rfl ?_
  exact ⟨_, rfl, ⟨bp, br, A', Ag, hA', hg, rfl⟩, hz.tail.use (by intro x; simp only [cnt_append, cnt_cons, cnt_nil]; omega)⟩

set_option maxRecDepth 100000 in
set_option maxHeartbeats 4000000 in
theorem did_put (b : Nat) (n : Nd) (A : List Atom) (p : Pc) (da : Option Addr) (dc : Nat) (W w : World) (L : List Atom) (hn : NodA b n A) (hs : Sat W w (A ++ L)) (hin : ∀ y, Sat W y L → Reads y (.slice da p.data.length dc) p.data.length (bts p.data)) (hp : rightP p) (h80 : 80 ≤ n.q.now.length) (hpl : n.q.pend.length < 900000) (hw0 : 0 ≤ n.q.writes) (hw1 : n.q.writes < 1000000000) :
    Calls Tryz.prog 32 #[.pointer (some ⟨b, 0, none⟩), .agg #[.int .i64 2, .int .i64 p.stripe, .int .i64 p.gen, .int .i64 p.index, .slice da p.data.length dc]] w fun e w' => ∃ A', e = .returned (repV 0 0 (.slice none 0 0) (.slice none 0 0)) ∧ NodA b ⟨n.q.wr (placeN p.stripe p.gen) (layB p), n.g, n.boot⟩ A' ∧ Sat W w' (A' ++ L) := by
  obtain ⟨bp, br, Aq, Ag, hq, hg, rfl⟩ := hn
  obtain ⟨s, g, i, d⟩ := p
  simp only at hin ⊢
  obtain ⟨dn, hdn⟩ : ∃ dn, dn = d.length := ⟨_, rfl⟩
  have e0 : w.cell? ⟨b, 0, none⟩ = some (.pointer (some ⟨bp, 0, none⟩)) := hs.cell m0 0
  have hbw : b < w.heap.size := hs.lt m0
  rw [← hdn]
  have hsq := hs.newCells #[.int .i64 2, .int .i64 s, .int .i64 g, .int .i64 i, .slice da dn dc] 37
  have hsr := hsq.newCells #[.int .i64 0, .int .i64 0, .slice none 0 0, .slice none 0 0] 44
  have hsz : (w.alloc (.cells #[.int .i64 2, .int .i64 s, .int .i64 g, .int .i64 i, .slice da dn dc] 37)).heap.size = w.heap.size + 1 := by simp
  rw [hsz] at hsr
  clear hsz
  have hpu := put_any bp n.q Aq ⟨s, g, i, d⟩ da dc W _ (cellsA (w.heap.size + 1) #[.int .i64 0, .int .i64 0, .slice none 0 0, .slice none 0 0] 44 :: (cellsA b #[.pointer (some ⟨bp, 0, none⟩), .pointer (some ⟨br, 0, none⟩), .int .i64 n.boot] 64 :: (Ag ++ L))) hq (Sat.drew (hsr.use (by intro x; simp only [cnt_append, cnt_cons, cnt_nil]; omega))) (fun y hy => hin y hy.right.tail.tail.right) hp h80 hpl hw0 hw1
  unfold pcV at hpu
  simp only at hpu
  generalize hl : layB ⟨s, g, i, d⟩ = l at *
  rw [← hdn] at hpu
  have HPU := Lib.hid hpu
  clear hs hsq hsr hpu hin hdn hp
  go_enter Tryz.func32, Tryz.ntmps32
  go_wp2_with fail
  refine wp_region_one [13, 15] [] [] [] [0, 1, 2, 3, 4, 5, 6, 7, 8, 9, 10, 11, 12, 13, 14, 15] (by kernel_rfl) (by kernel_rfl) ?_
  repeat (first | (refine can_pu1 rfl rfl rfl rfl rfl rfl (fun K hK => ?_); go_big_quiet_op; refine hK _ ?_; clear hK K) | (refine can_st1 rfl rfl rfl rfl rfl rfl (fun K hK => ?_); go_big_quiet_op; refine hK _ ?_; clear hK K) | (refine can_early1 rfl rfl rfl rfl rfl (fun K hK => ?_); go_big_quiet_op; refine hK _ ?_; clear hK K) | (refine can_skip rfl rfl rfl ?_; simp only [Act.put, List.setIfInBounds_toArray, List.set_cons_zero, List.set_cons_succ]))
  refine can_act1 rfl rfl rfl (fun K hK => ?_)
  go_wp2_with fail
  refine HPU.out.mono ?_; rintro r w2 ⟨A', rfl, hA', hs2⟩
  apply hK
  clear hK HPU
  have hs3 := Sat.use (M := cellsA (w.heap.size + 1) #[.int .i64 0, .int .i64 0, .slice none 0 0, .slice none 0 0] 44 :: (cellsA b #[.pointer (some ⟨bp, 0, none⟩), .pointer (some ⟨br, 0, none⟩), .int .i64 n.boot] 64 :: (A' ++ (Ag ++ L)))) hs2 (by intro x; simp only [cnt_append, cnt_cons, cnt_nil]; omega)
  clear hs2 e0
  have z0 : w2.cell? ⟨w.heap.size + 1, 0, none⟩ = some (.int .i64 0) := hs3.cell m0 0
  have z1 : w2.cell? ⟨w.heap.size + 1, 1, none⟩ = some (.int .i64 0) := hs3.cell m0 1
  have z2 : w2.cell? ⟨w.heap.size + 1, 2, none⟩ = some (.slice none 0 0) := hs3.cell m0 2
  have z3 : w2.cell? ⟨w.heap.size + 1, 3, none⟩ = some (.slice none 0 0) := hs3.cell m0 3
  have f0 := hs3.free m0 0
  have f1 := hs3.free m0 1
  have f2 := hs3.free m0 2
  have f3 := hs3.free m0 3
  have hz := Sat.setCell (Sat.setCell (Sat.setCell (Sat.setCell hs3 0 (.int .i64 0)) 1 (.int .i64 0)) 2 (.slice none 0 0)) 3 (.slice none 0 0)
  repeat (first | (refine can_pu1 rfl rfl rfl rfl rfl rfl (fun K hK => ?_); go_big_quiet_op; refine hK _ ?_; clear hK K) | (refine can_st1 rfl rfl rfl rfl rfl rfl (fun K hK => ?_); go_big_quiet_op; refine hK _ ?_; clear hK K) | (refine can_early1 rfl rfl rfl rfl rfl (fun K hK => ?_); go_big_quiet_op; refine hK _ ?_; clear hK K) | (refine can_skip rfl rfl rfl ?_; simp only [Act.put, List.setIfInBounds_toArray, List.set_cons_zero, List.set_cons_succ]))
  refine can_act1 rfl rfl rfl (fun K hK => ?_)
  go_wp2_with fail
  refine can_end1 ?_; (try simp only [Exit.then])
  go_wp2_with fail
  refine bodyPost_ret (v := repV 0 0 (.slice none 0 0) (.slice none 0 0)) (by simp [results, Tryz.results32, go_sem, repV, *]) rfl ?_
  exact ⟨_, rfl, ⟨bp, br, A', Ag, hA', hg, rfl⟩, hz.tail.use (by intro x; simp only [cnt_append, cnt_cons, cnt_nil]; omega)⟩

set_option maxRecDepth 100000 in
set_option maxHeartbeats 4000000 in
theorem did_get (b : Nat) (n : Nd) (A : List Atom) (s g i : Int) (da : Option Addr) (dn dc : Nat) (W w : World) (L : List Atom) (hn : NodA b n A) (hs : Sat W w (A ++ L)) (h0 : 0 ≤ s) (h1 : s < 40) (h80 : 80 ≤ n.q.now.length) (hl : ∀ l ∈ n.q.now, l.length < 1000000) :
    Calls Tryz.prog 32 #[.pointer (some ⟨b, 0, none⟩), .agg #[.int .i64 1, .int .i64 s, .int .i64 g, .int .i64 i, .slice da dn dc]] w fun e w' => ∃ pa pc xs R B, e = .returned (repV 0 0 (.slice pa xs.length pc) (.slice none 0 0)) ∧ RowA 72 4 (.slice pa xs.length pc) xs.length (pcsC xs) R ∧ xs.map Prod.fst = getL n.q s ∧ PcBl B xs ∧ Sat W w' (R ++ (B ++ (A ++ L))) := by
  obtain ⟨bp, br, Aq, Ag, hq, hg, rfl⟩ := hn
  have e0 : w.cell? ⟨b, 0, none⟩ = some (.pointer (some ⟨bp, 0, none⟩)) := hs.cell m0 0
  have hbw : b < w.heap.size := hs.lt m0
  have hsq := hs.newCells #[.int .i64 1, .int .i64 s, .int .i64 g, .int .i64 i, .slice da dn dc] 37
  have hsr := hsq.newCells #[.int .i64 0, .int .i64 0, .slice none 0 0, .slice none 0 0] 44
  have hsz : (w.alloc (.cells #[.int .i64 1, .int .i64 s, .int .i64 g, .int .i64 i, .slice da dn dc] 37)).heap.size = w.heap.size + 1 := by simp
  rw [hsz] at hsr
  clear hsz
  have hgt := get_any bp n.q Aq s W _ (cellsA (w.heap.size + 1) #[.int .i64 0, .int .i64 0, .slice none 0 0, .slice none 0 0] 44 :: (cellsA b #[.pointer (some ⟨bp, 0, none⟩), .pointer (some ⟨br, 0, none⟩), .int .i64 n.boot] 64 :: (Ag ++ L))) hq (Sat.drew (hsr.use (by intro x; simp only [cnt_append, cnt_cons, cnt_nil]; omega))) h0 h1 h80 hl
  have HGT := Lib.hid hgt
  have n0 : ¬ s < 0 := by omega
  have n1 : ¬ 40 ≤ s := by omega
  clear hs hsq hsr hgt hl h80
  go_enter Tryz.func32, Tryz.ntmps32
  go_wp2_with fail
  refine wp_region_one [6, 8] [] [] [] [0, 1, 2, 3, 4, 5, 6, 7, 8] (by kernel_rfl) (by kernel_rfl) ?_
  repeat (first | (refine can_pu1 rfl rfl rfl rfl rfl rfl (fun K hK => ?_); go_big_quiet_op; refine hK _ ?_; clear hK K) | (refine can_st1 rfl rfl rfl rfl rfl rfl (fun K hK => ?_); go_big_quiet_op; refine hK _ ?_; clear hK K) | (refine can_early1 rfl rfl rfl rfl rfl (fun K hK => ?_); go_big_quiet_op; refine hK _ ?_; clear hK K) | (refine can_skip rfl rfl rfl ?_; simp only [Act.put, List.setIfInBounds_toArray, List.set_cons_zero, List.set_cons_succ]))
  refine can_act1 rfl rfl rfl (fun K hK => ?_)
  go_wp2_with fail
  refine HGT.out.mono ?_; rintro r w2 ⟨v, xs, R, B, rfl, hr, hx, hb, hs2⟩
  obtain ⟨pa, pc, rfl⟩ := Ch.RowA.slice hr
  apply hK
  clear hK HGT
  have hs3 := Sat.use (M := cellsA (w.heap.size + 1) #[.int .i64 0, .int .i64 0, .slice none 0 0, .slice none 0 0] 44 :: (R ++ (B ++ (cellsA b #[.pointer (some ⟨bp, 0, none⟩), .pointer (some ⟨br, 0, none⟩), .int .i64 n.boot] 64 :: (Aq ++ (Ag ++ L)))))) hs2 (by intro x; simp only [cnt_append, cnt_cons, cnt_nil]; omega)
  clear hs2 e0
  have z0 : w2.cell? ⟨w.heap.size + 1, 0, none⟩ = some (.int .i64 0) := hs3.cell m0 0
  have z1 : w2.cell? ⟨w.heap.size + 1, 1, none⟩ = some (.int .i64 0) := hs3.cell m0 1
  have z2 : w2.cell? ⟨w.heap.size + 1, 2, none⟩ = some (.slice none 0 0) := hs3.cell m0 2
  have z3 : w2.cell? ⟨w.heap.size + 1, 3, none⟩ = some (.slice none 0 0) := hs3.cell m0 3
  have f0 := hs3.free m0 0
  have f1 := hs3.free m0 1
  have f2 := hs3.free m0 2
  have f3 := hs3.free m0 3
  have hz := Sat.setCell (Sat.setCell (Sat.setCell (Sat.setCell hs3 0 (.int .i64 0)) 1 (.int .i64 0)) 2 (.slice pa xs.length pc)) 3 (.slice none 0 0)
  repeat (first | (refine can_pu1 rfl rfl rfl rfl rfl rfl (fun K hK => ?_); go_big_quiet_op; refine hK _ ?_; clear hK K) | (refine can_st1 rfl rfl rfl rfl rfl rfl (fun K hK => ?_); go_big_quiet_op; refine hK _ ?_; clear hK K) | (refine can_early1 rfl rfl rfl rfl rfl (fun K hK => ?_); go_big_quiet_op; refine hK _ ?_; clear hK K) | (refine can_skip rfl rfl rfl ?_; simp only [Act.put, List.setIfInBounds_toArray, List.set_cons_zero, List.set_cons_succ]))
  refine can_act1 rfl rfl rfl (fun K hK => ?_)
  go_wp2_with fail
  refine can_end1 ?_; (try simp only [Exit.then])
  go_wp2_with fail
  refine bodyPost_ret (v := repV 0 0 (.slice pa xs.length pc) (.slice none 0 0)) (by simp [results, Tryz.results32, go_sem, repV, *]) rfl ?_
  exact ⟨pa, pc, xs, R, B, rfl, hr, hx, hb, hz.tail.use (by intro x; simp only [cnt_append, cnt_cons, cnt_nil]; omega)⟩

set_option maxRecDepth 100000 in
set_option maxHeartbeats 4000000 in
theorem do_of {T : Int → Value → Value → Nd → List Atom → Prop} (b : Nat) (A : List Atom) (k s g i : Int) (da : Option Addr) (dn dc : Nat) (W w : World) (L : List Atom) (hs : Sat W w (A ++ L)) (hd : ∀ M w, (∀ y, Sat W y M → Sat W y L) → Sat W w (A ++ M) → Calls Tryz.prog 32 #[.pointer (some ⟨b, 0, none⟩), .agg #[.int .i64 k, .int .i64 s, .int .i64 g, .int .i64 i, .slice da dn dc]] w fun e w' => ∃ code pa pn pc ia im ic n A' R, e = .returned (repV code 0 (.slice pa pn pc) (.slice ia im ic)) ∧ T code (.slice pa pn pc) (.slice ia im ic) n R ∧ NodA b n A' ∧ Sat W w' (A' ++ (R ++ M))) :
    Calls Tryz.prog 14 #[.pointer (some ⟨b, 0, none⟩), .agg #[.int .i64 k, .int .i64 s, .int .i64 g, .int .i64 i, .slice da dn dc]] w fun e w' => ∃ code pa pn pc ia im ic n A' R, e = .returned (repV code n.boot (.slice pa pn pc) (.slice ia im ic)) ∧ T code (.slice pa pn pc) (.slice ia im ic) n R ∧ NodA b n A' ∧ Sat W w' (A' ++ (R ++ L)) := by
  have hsq := hs.newCells #[.int .i64 k, .int .i64 s, .int .i64 g, .int .i64 i, .slice da dn dc] 37
  have hsr := hsq.newCells #[.int .i64 0, .int .i64 0, .slice none 0 0, .slice none 0 0] 44
  have hsz : (w.alloc (.cells #[.int .i64 k, .int .i64 s, .int .i64 g, .int .i64 i, .slice da dn dc] 37)).heap.size = w.heap.size + 1 := by simp
  rw [hsz] at hsr
  clear hsz
  have hd1 := hd (cellsA (w.heap.size + 1) #[.int .i64 0, .int .i64 0, .slice none 0 0, .slice none 0 0] 44 :: L) _ (fun y hy => hy.tail) (hsr.use (by intro x; simp only [cnt_append, cnt_cons, cnt_nil]; omega))
  have HD := Lib.hid hd1
  clear hs hsq hsr hd hd1
  go_enter Tryz.func14, Tryz.ntmps14
  go_wp2_with fail
  refine HD.out.mono ?_; rintro r w2 ⟨code, pa, pn, pc, ia, im, ic, n, A', R, rfl, hT, ⟨bp, br, Aq, Ag, hq, hg, rfl⟩, hs2⟩
  unfold repV
  have HT := Lib.hid hT
  clear HD hT
  have hs3 := hs2.newCells #[.int .i64 code, .int .i64 n.boot, .slice pa pn pc, .slice ia im ic] 44
  have hbw : b < w2.heap.size := hs2.lt m0
  have e2 : w2.cell? ⟨b, 2, none⟩ = some (.int .i64 n.boot) := hs2.cell m0 2
  have hs5 := Sat.use (M := cellsA (w.heap.size + 1) #[.int .i64 0, .int .i64 0, .slice none 0 0, .slice none 0 0] 44 :: (cellsA b #[.pointer (some ⟨bp, 0, none⟩), .pointer (some ⟨br, 0, none⟩), .int .i64 n.boot] 64 :: (Aq ++ (Ag ++ (R ++ L))))) hs3 (by intro x; simp only [cnt_append, cnt_cons, cnt_nil]; omega)
  clear hs2 hs3
  have z0 : (w2.alloc (.cells #[.int .i64 code, .int .i64 n.boot, .slice pa pn pc, .slice ia im ic] 44)).cell? ⟨w.heap.size + 1, 0, none⟩ = some (.int .i64 0) := hs5.cell m0 0
  have f0 := hs5.free m0 0
  have z1 : (w2.alloc (.cells #[.int .i64 code, .int .i64 n.boot, .slice pa pn pc, .slice ia im ic] 44)).cell? ⟨w.heap.size + 1, 1, none⟩ = some (.int .i64 0) := hs5.cell m0 1
  have f1 := hs5.free m0 1
  have z2 : (w2.alloc (.cells #[.int .i64 code, .int .i64 n.boot, .slice pa pn pc, .slice ia im ic] 44)).cell? ⟨w.heap.size + 1, 2, none⟩ = some (.slice none 0 0) := hs5.cell m0 2
  have f2 := hs5.free m0 2
  have z3 : (w2.alloc (.cells #[.int .i64 code, .int .i64 n.boot, .slice pa pn pc, .slice ia im ic] 44)).cell? ⟨w.heap.size + 1, 3, none⟩ = some (.slice none 0 0) := hs5.cell m0 3
  have f3 := hs5.free m0 3
  have hz := Sat.setCell (Sat.setCell (Sat.setCell (Sat.setCell hs5 0 (.int .i64 code)) 1 (.int .i64 n.boot)) 2 (.slice pa pn pc)) 3 (.slice ia im ic)
  go_wp2_with fail
  refine bodyPost_ret (v := repV code n.boot (.slice pa pn pc) (.slice ia im ic)) (by simp [results, Tryz.results14, go_sem, repV, *]) rfl ?_
  exact ⟨code, pa, pn, pc, ia, im, ic, n, _, R, rfl, HT.out, ⟨bp, br, Aq, Ag, hq, hg, rfl⟩, hz.tail.use (by intro x; simp only [cnt_append, cnt_cons, cnt_nil]; omega)⟩
end Go.Proofs.YtekbbpfnkbanjaaGreat.Ch

namespace Go.Proofs.YtekbbpfnkbanjaaGreat.Ch
set_option linter.unusedSimpArgs false
open Go Go.RowKit Go.Sl Go.BigFrame
set_option linter.unusedVariables false

theorem NdOk.mono {n : Nd} {i j : Nat} (h : NdOk n i) (hij : i ≤ j) : NdOk n j := ⟨h.len, h.dlen, h.small, h.dsmall, Nat.le_trans h.pend hij, h.pok, h.w0, by have := h.w1; omega, h.b0, by have := h.b1; omega⟩
theorem NdOk.wr {n : Nd} {i : Nat} (h : NdOk n i) (k : Nat) (l : List UInt8) (hk : k < 96) (hl : l.length < 1000000) : NdOk ⟨n.q.wr k l, n.g, n.boot⟩ (i + 1) := by
  refine ⟨?_, h.dlen, fun x hx => ?_, h.dsmall, ?_, fun x hx => ?_, ?_, ?_, h.b0, by have := h.b1; show n.boot ≤ ((i + 1 : Nat) : Int) + 1; omega⟩
  · show (n.q.now.set k l).length = 96
    rw [List.length_set, h.len]
  · rcases List.mem_or_eq_of_mem_set hx with h1 | h1
    · exact h.small x h1
    · rw [h1]; exact hl
  · show (n.q.pend ++ [(k, l)]).length ≤ i + 1
    have := h.pend
    simp
    omega
  · have hx : x ∈ n.q.pend ++ [(k, l)] := hx
    rcases List.mem_append.1 hx with hx | hx
    · exact h.pok x hx
    · rw [List.mem_singleton] at hx
      rw [hx]
      exact ⟨hk, hl⟩
  · show 0 ≤ n.q.writes + 1
    have := h.w0
    omega
  · show n.q.writes + 1 ≤ ((i + 1 : Nat) : Int)
    have := h.w1
    omega
theorem NdOk.fl {n : Nd} {i : Nat} (h : NdOk n i) : NdOk ⟨n.q.fl, n.g, n.boot⟩ i := ⟨h.len, h.len, h.small, h.small, Nat.zero_le _, fun x hx => by simp [Pt.fl] at hx, h.w0, h.w1, h.b0, h.b1⟩
theorem NdOk.crash {n : Nd} {i : Nat} (h : NdOk n i) (keep : List Int) : NdOk (n.crash keep) (i + 1) := by
  have hs := crash_small10 (keep := keep) h.dsmall (fun x hx => (h.pok x hx).2) n.q.pend.length
  have hl : (crashTo keep n.q.done n.q.pend n.q.pend.length).length = 96 := by rw [crashTo_length, h.dlen]
  have b0 := h.b0
  have b1 := h.b1
  have w1 := h.w1
  exact ⟨hl, hl, hs, hs, Nat.zero_le _, fun x hx => by simp [Nd.crash, Pt.crash] at hx, h.w0, by show n.q.writes ≤ ((i + 1 : Nat) : Int); omega, by show 1 ≤ n.boot + 1; omega, by show n.boot + 1 ≤ ((i + 1 : Nat) : Int) + 1; omega⟩
theorem NdOk.lose {n : Nd} {i : Nat} (h : NdOk n i) : NdOk n.lose (i + 1) := by
  have hz : ∀ l ∈ List.replicate n.q.now.length zero160, l.length < 1000000 := fun l hl => by
    rw [(List.mem_replicate.1 hl).2]
    simp [zero160]
  have hl : (List.replicate n.q.now.length zero160).length = 96 := by rw [List.length_replicate, h.len]
  have b0 := h.b0
  have b1 := h.b1
  have w1 := h.w1
  exact ⟨hl, hl, hz, hz, Nat.zero_le _, fun x hx => by simp [Nd.lose, Pt.wipe] at hx, h.w0, by show n.q.writes ≤ ((i + 1 : Nat) : Int); omega, by show 1 ≤ n.boot + 1; omega, by show n.boot + 1 ≤ ((i + 1 : Nat) : Int) + 1; omega⟩
noncomputable def nd0 : Nd := ⟨q0, openRg q0, 1⟩
theorem NdOk.start : NdOk nd0 0 := ⟨(qk_facts 0).1, by simp [nd0, q0], (qk_facts 0).2.2.2, (qk_facts 0).2.2.2, Nat.le_refl _, fun x hx => by simp [nd0, q0] at hx, by decide, by decide, by decide, by decide⟩

theorem node_boot (b : Nat) (n : Nd) (A : List Atom) (W w : World) (L : List Atom) (hn : NodA b n A) (hs : Sat W w (A ++ L)) :
    Calls Tryz.prog 16 #[.pointer (some ⟨b, 0, none⟩)] w fun e w' => e = .returned (.int .i64 n.boot) ∧ w = w' := by
  obtain ⟨bp, br, Aq, Ag, hq, hg, rfl⟩ := hn
  have e0 : w.cell? ⟨b, 2, none⟩ = some (.int .i64 n.boot) := hs.cell m0 2
  clear hs
  go_enter Tryz.func16, Tryz.ntmps16
  go_wp2_with fail
  go_ret
  exact ⟨rfl, rfl⟩

theorem do_put (b m : Nat) (n : Nd) (A : List Atom) (p : Pc) (da : Option Addr) (dc : Nat) (W w : World) (L : List Atom) (hn : NodA b n A) (hs : Sat W w (A ++ L)) (hin : ∀ y, Sat W y L → Reads y (.slice da p.data.length dc) p.data.length (bts p.data)) (hp : rightP p) (hok : NdOk n m) (hm : m < 900000) :
    Calls Tryz.prog 14 #[.pointer (some ⟨b, 0, none⟩), .agg #[.int .i64 2, .int .i64 p.stripe, .int .i64 p.gen, .int .i64 p.index, .slice da p.data.length dc]] w fun e w' => ∃ A', e = .returned (repV 0 n.boot (.slice none 0 0) (.slice none 0 0)) ∧ NodA b ⟨n.q.wr (placeN p.stripe p.gen) (layB p), n.g, n.boot⟩ A' ∧ Sat W w' (A' ++ L) := by
  refine (do_of (T := fun code pv iv n' R => code = 0 ∧ pv = .slice none 0 0 ∧ iv = .slice none 0 0 ∧ n' = ⟨n.q.wr (placeN p.stripe p.gen) (layB p), n.g, n.boot⟩ ∧ R = []) b A 2 p.stripe p.gen p.index da p.data.length dc W w L hs (fun M w hM hs => ?_)).mono ?_
  · refine (did_put b n A p da dc W w M hn hs (fun y hy => hin y (hM y hy)) hp (by rw [hok.len]; decide) (by have := hok.pend; omega) hok.w0 (by have := hok.w1; omega)).mono ?_
    rintro e w' ⟨A', rfl, hA', hs'⟩
    exact ⟨0, none, 0, 0, none, 0, 0, _, A', [], rfl, ⟨rfl, rfl, rfl, rfl, rfl⟩, hA', hs'⟩
  · rintro e w' ⟨code, pa, pn, pc, ia, im, ic, n', A', R, rfl, ⟨rfl, h1, h2, rfl, rfl⟩, hA', hs'⟩
    rw [h1, h2]
    exact ⟨A', rfl, hA', hs'⟩
theorem do_flush (b m : Nat) (n : Nd) (A : List Atom) (s g i : Int) (da : Option Addr) (dn dc : Nat) (W w : World) (L : List Atom) (hn : NodA b n A) (hs : Sat W w (A ++ L)) (hok : NdOk n m) :
    Calls Tryz.prog 14 #[.pointer (some ⟨b, 0, none⟩), .agg #[.int .i64 4, .int .i64 s, .int .i64 g, .int .i64 i, .slice da dn dc]] w fun e w' => ∃ A', e = .returned (repV 0 n.boot (.slice none 0 0) (.slice none 0 0)) ∧ NodA b ⟨n.q.fl, n.g, n.boot⟩ A' ∧ Sat W w' (A' ++ L) := by
  refine (do_of (T := fun code pv iv n' R => code = 0 ∧ pv = .slice none 0 0 ∧ iv = .slice none 0 0 ∧ n' = ⟨n.q.fl, n.g, n.boot⟩ ∧ R = []) b A 4 s g i da dn dc W w L hs (fun M w hM hs => ?_)).mono ?_
  · refine (did_flush b n A s g i da dn dc W w M hn hs (by rw [hok.len]; decide)).mono ?_
    rintro e w' ⟨A', rfl, hA', hs'⟩
    exact ⟨0, none, 0, 0, none, 0, 0, _, A', [], rfl, ⟨rfl, rfl, rfl, rfl, rfl⟩, hA', hs'⟩
  · rintro e w' ⟨code, pa, pn, pc, ia, im, ic, n', A', R, rfl, ⟨rfl, h1, h2, rfl, rfl⟩, hA', hs'⟩
    rw [h1, h2]
    exact ⟨A', rfl, hA', hs'⟩
theorem do_get (b m : Nat) (n : Nd) (A : List Atom) (s g i : Int) (da : Option Addr) (dn dc : Nat) (W w : World) (L : List Atom) (hn : NodA b n A) (hs : Sat W w (A ++ L)) (h0 : 0 ≤ s) (h1 : s < 40) (hok : NdOk n m) :
    Calls Tryz.prog 14 #[.pointer (some ⟨b, 0, none⟩), .agg #[.int .i64 1, .int .i64 s, .int .i64 g, .int .i64 i, .slice da dn dc]] w fun e w' => ∃ pa pc xs R B A', e = .returned (repV 0 n.boot (.slice pa xs.length pc) (.slice none 0 0)) ∧ RowA 72 4 (.slice pa xs.length pc) xs.length (pcsC xs) R ∧ xs.map Prod.fst = getL n.q s ∧ PcBl B xs ∧ NodA b n A' ∧ Sat W w' (A' ++ (R ++ (B ++ L))) := by
  refine (do_of (T := fun code pv iv n' R0 => code = 0 ∧ iv = .slice none 0 0 ∧ n' = n ∧ ∃ pa pc xs R B, pv = .slice pa xs.length pc ∧ RowA 72 4 (.slice pa xs.length pc) xs.length (pcsC xs) R ∧ xs.map Prod.fst = getL n.q s ∧ PcBl B xs ∧ R0 = R ++ B) b A 1 s g i da dn dc W w L hs (fun M w hM hs => ?_)).mono ?_
  · refine (did_get b n A s g i da dn dc W w M hn hs h0 h1 (by rw [hok.len]; decide) hok.small).mono ?_
    rintro e w' ⟨pa, pc, xs, R, B, rfl, hr, hx, hb, hs'⟩
    exact ⟨0, pa, xs.length, pc, none, 0, 0, n, A, R ++ B, rfl, ⟨rfl, rfl, rfl, pa, pc, xs, R, B, rfl, hr, hx, hb, rfl⟩, hn, hs'.use (by intro x; simp only [cnt_append, cnt_cons, cnt_nil]; omega)⟩
  · rintro e w' ⟨code, pa, pn, pc, ia, im, ic, n', A', R0, rfl, ⟨rfl, h2, rfl, pa', pc', xs, R, B, h3, hr, hx, hb, rfl⟩, hA', hs'⟩
    rw [h2, h3]
    exact ⟨pa', pc', xs, R, B, A', rfl, hr, hx, hb, hA', hs'.use (by intro x; simp only [cnt_append, cnt_cons, cnt_nil]; omega)⟩

theorem getL_len2 {q : Pt} {s : Int} {x y : Option Pc} (h0 : getAt q s (placeN s (0 : Nat)) = x) (h1 : getAt q s (placeN s (1 : Nat)) = y) : getL q s = srt (x.toList ++ y.toList) := by
  unfold getL
  rw [getN_succ, getN_succ, h0, h1]
  simp [getN]
def pK : Pc := ⟨2, 1, 3, bytesOf 1 32⟩
theorem pK_right : rightP pK := ⟨by show (0 : Int) ≤ 2; omega, by show (2 : Int) < 40; omega, by show (1 : Int) ≤ 1; omega, by show (1 : Int) ≤ 1099511627776; omega, by show (0 : Int) ≤ 3; omega, by show (3 : Int) < 6; omega, bytesOf_length 1 32⟩
theorem kn10_get : getL (q0.wr (placeN pK.stripe pK.gen) (layB pK)) 2 = [pK] := by
  have hp : placeN pK.stripe pK.gen = 5 := by decide
  have h0 : getAt (q0.wr (placeN pK.stripe pK.gen) (layB pK)) 2 (placeN 2 ((0 : Nat) : Int)) = none := by
    rw [hp, getAt_wr_ne _ _ _ (by decide)]
    exact getAt_blank _ _ _ _ _ _
  have h1 : getAt (q0.wr (placeN pK.stripe pK.gen) (layB pK)) 2 (placeN 2 ((1 : Nat) : Int)) = some pK := by
    have h := getAt_wr_same q0 pK pK_right (k := placeN pK.stripe pK.gen) rfl (by rw [hp]; simp [q0])
    exact h
  rw [getL_len2 h0 h1]
  rfl
theorem kn10_none (l : List UInt8) (k : Nat) : getL ((q0.wr k l).crash []) 2 = [] := by
  have e : ((q0.wr k l).crash []).now = List.replicate 96 zero160 := by
    simp [Pt.crash, crashTo, q0, Pt.wr]
  have h : ∀ j, getAt ((q0.wr k l).crash []) 2 j = none := fun j => by
    have h2 := getAt_blank 96 [] [] 0 2 j
    unfold getAt at *
    rw [e]
    exact h2
  rw [getL_len2 (h _) (h _)]
  rfl

theorem rep_f0 (code boot : Int) (pv iv : Value) (w : World) : (Instr.field 44 (.agg #[.int .i64 code, .int .i64 boot, pv, iv]) 0).run Tryz.prog w = .ok (.int .i64 code) w := by kernel_rfl
theorem rep_f2 (code boot : Int) (pv iv : Value) (w : World) : (Instr.field 44 (.agg #[.int .i64 code, .int .i64 boot, pv, iv]) 2).run Tryz.prog w = .ok pv w := by kernel_rfl
theorem rep_f3 (code boot : Int) (pv iv : Value) (w : World) : (Instr.field 44 (.agg #[.int .i64 code, .int .i64 boot, pv, iv]) 3).run Tryz.prog w = .ok iv w := by kernel_rfl
set_option maxRecDepth 100000 in
set_option maxHeartbeats 4000000 in
theorem known10_any (W w : World) (L : List Atom) (hs : Sat W w L) :
    Calls Tryz.prog 5 #[] w fun e w' => e = .returned (.bool true) ∧ Sat W w' L := by
  have HN := Lib.hid (node_new W w L hs)
  clear hs
  have hf0 := rep_f0
  have hf2 := rep_f2
  go_enter Tryz.func5, Tryz.ntmps5
  go_wp2_with fail
  refine HN.out.mono ?_; rintro r w1 ⟨b, A, rfl, hA, hs1⟩
  have HB := Lib.hid (node_boot b _ A W w1 L hA hs1)
  have HBY := Lib.hid (bytes_of 1 32 W w1 _ (by omega) hs1)
  have HA := Lib.hid hA
  clear hs1 hA HN
  go_wp2_with fail
  refine HB.out.mono ?_; rintro r w2 ⟨rfl, rfl⟩
  simp only []
  go_wp2_with fail
  refine HBY.out.mono ?_; rintro r w3 ⟨v3, R3, rfl, hr3, hs3⟩
  have hr3' : RowA 5 1 v3 pK.data.length (bts pK.data) R3 := by
    rw [show pK.data.length = 32 from bytesOf_length 1 32]; exact hr3
  obtain ⟨a3, c3, rfl⟩ := Ch.RowA.slice hr3
  have hpu := do_put b 0 nd0 A pK a3 c3 W w3 (R3 ++ L) HA.out (hs3.use (by intro x; simp only [cnt_append, cnt_cons, cnt_nil]; omega)) (fun y hy => by have h := hr3'.reads hy; rw [show pK.data.length = 32 from bytesOf_length 1 32] at h ⊢; exact h) pK_right NdOk.start (by omega)
  rw [show pK.data.length = 32 from bytesOf_length 1 32, show pK.stripe = 2 from rfl, show pK.gen = 1 from rfl, show pK.index = 3 from rfl] at hpu
  have HPU := Lib.hid hpu
  clear hpu hs3 HBY HB
  go_wp2_with fail
  refine HPU.out.mono ?_; rintro r w4 ⟨A4, rfl, hA4, hs4⟩
  have hok := NdOk.start.wr (placeN 2 1) (layB pK) (by decide) (by rw [layB_length _ pK_right.2.2.2.2.2.2]; omega)
  have hgt := do_get b 1 _ A4 2 0 0 none 0 0 W w4 (R3 ++ L) hA4 hs4 (by omega) (by omega) hok
  have hkl : ∀ xs : List (Pc × Value), xs.map Prod.fst = getL (q0.wr (placeN 2 1) (layB pK)) 2 → xs.length = 1 := fun xs hx => by
    have h := congrArg List.length (hx.trans kn10_get)
    simpa using h
  have HOK := Lib.hid hok
  have HKL := Lib.hid hkl
  have HGT := Lib.hid hgt
  clear hok hkl hgt hs4 hA4 HPU
  unfold repV
  go_wp2_with fail
  refine HGT.out.mono ?_; rintro r w5 ⟨pa, pc, xs, R5, B5, A5, rfl, hr5, hx5, hb5, hA5, hs5⟩
  have hxl := HKL.out xs hx5
  rw [hxl]
  have hcr := node_crash b 1 _ A5 (.slice none 0 0) [] W w5 (R5 ++ (B5 ++ (R3 ++ L))) hA5 hs5 (fun y hy => .inl ⟨rfl, rfl, rfl⟩) (by decide) HOK.out (by omega)
  have HCR := Lib.hid hcr
  clear hcr hs5 hA5 hr5 hx5 hb5 HGT HKL hxl
  unfold repV
  go_wp2_with fail
  refine HCR.out.mono ?_; rintro r w6 ⟨A6, rfl, hA6, hs6⟩
  have hgt := do_get b 2 _ A6 2 0 0 none 0 0 W w6 (R5 ++ (B5 ++ (R3 ++ L))) hA6 hs6 (by omega) (by omega) (HOK.out.crash [])
  have hkl : ∀ ys : List (Pc × Value), ys.map Prod.fst = getL ((q0.wr (placeN 2 1) (layB pK)).crash []) 2 → ys.length = 0 := fun ys hy => by
    have h := congrArg List.length (hy.trans (kn10_none _ _))
    simpa using h
  have HGT := Lib.hid hgt
  have HKL := Lib.hid hkl
  clear hgt hkl hs6 hA6 HCR
  go_wp2_with fail
  refine HGT.out.mono ?_; rintro r w7 ⟨pa7, pc7, ys, R7, B7, A7, rfl, hr7, hx7, hb7, hA7, hs7⟩
  have hyl := HKL.out ys hx7
  rw [hyl]
  clear HGT HKL hr7 hx7 hb7 hA7 hyl
  unfold repV
  rw [show (Nd.crash _ _).boot = (2 : Int) from rfl]
  go_wp2_with fail
  go_ret
  exact ⟨rfl, Sat.alloc (hs7.use (by intro x; simp only [cnt_append, cnt_cons, cnt_nil]; omega)) _⟩
end Go.Proofs.YtekbbpfnkbanjaaGreat.Ch
