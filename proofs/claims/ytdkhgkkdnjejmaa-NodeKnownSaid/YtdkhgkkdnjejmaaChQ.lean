/-
  The platter: Flush; slices.Contains at ints.
-/
import Derived.Test.YtdkhgkkdnjejmaaChP
namespace Go.Proofs.Ytdkhgkkdnjejmaa.Ch
set_option linter.unusedSimpArgs false
open Go Go.RowKit Go.Sl Go.BigFrame
set_option linter.unusedVariables false

def Pt.fl (p : Pt) : Pt := ⟨p.now, p.now, [], p.writes⟩
set_option maxRecDepth 100000 in
set_option maxHeartbeats 4000000 in
theorem flush_any (b : Nat) (p : Pt) (A : List Atom) (W w : World) (L : List Atom) (hp : PtA b p A) (hs : Sat W w (A ++ L)) (hl : p.now.length < 1000000) :
    Calls Try.prog 43 #[.pointer (some ⟨b, 0, none⟩)] w fun e w' => ∃ A', e = .returned (.tuple #[]) ∧ PtA b p.fl A' ∧ Sat W w' (A' ++ L) := by
  obtain ⟨vd, vn, vp, Rd, Rn, Rp, B, cd, cn, cp, rfl, hr⟩ := hp
  obtain ⟨an, cn', rfl⟩ := Ch.RowA.slice hr.n
  obtain ⟨ad, cd', rfl⟩ := Ch.RowA.slice hr.d
  obtain ⟨ap, cp', rfl⟩ := Ch.RowA.slice hr.pr
  have hcnl : cn.length = p.now.length := by have := hr.n.1; omega
  have hsn : Sat W w (Rn ++ (cellsA b #[.slice ad p.done.length cd', .slice an p.now.length cn', .slice ap p.pend.length cp', .int .i64 p.writes] 107 :: (Rd ++ (Rp ++ (B ++ L))))) := hs.use (by intro x; simp only [cnt_append, cnt_cons, cnt_nil]; omega)
  have d1 : w.cell? ⟨b, 1, none⟩ = some (.slice an p.now.length cn') := hs.cell m0 1
  have hcl := clone_bl (.slice an p.now.length cn') cn W w _ (by rw [hcnl]; exact hr.n.reads hsn) hr.nb.one (by omega) hs
  have HCL := Lib.hid hcl
  have HR := Lib.hid hr
  have HCN := Lib.hid hcnl
  clear hs hsn hcl hr hcnl
  go_enter Try.func43, Try.ntmps43
  go_wp2_with fail
  refine HCL.out.mono ?_; rintro r w2 ⟨v, R, rfl, hv, hs2⟩
  obtain ⟨a2, c2, rfl⟩ := Ch.RowA.slice hv
  have hs3 := Sat.use (M := cellsA b #[.slice ad p.done.length cd', .slice an p.now.length cn', .slice ap p.pend.length cp', .int .i64 p.writes] 107 :: (R ++ (Rn ++ (B ++ L)))) hs2 (by intro x; simp only [cnt_append, cnt_cons, cnt_nil]; omega)
  have e0 := hs3.cell m0 0
  have e1 := hs3.free m0 0
  have hs4 := Sat.setCell hs3 0 (.slice a2 cn.length c2)
  have e2 := hs4.cell m0 2
  have e3 := hs4.free m0 2
  have hs5 := Sat.setCell hs4 2 (.slice none 0 0)
  clear hs2 hs3 hs4
  go_wp2_with fail
  go_end0
  simp only [List.setIfInBounds_toArray, List.set_cons_zero, List.set_cons_succ] at hs5
  have hr := HR.out
  rw [HCN.out] at hv hs5 ⊢
  have hs6 : Sat W _ (cellsA b #[.slice a2 p.now.length c2, .slice an p.now.length cn', .slice none 0 0, .int .i64 p.fl.writes] 107 :: (R ++ (Rn ++ (B ++ L)))) := hs5
  refine ⟨_, rfl, ⟨.slice a2 p.now.length c2, .slice an p.now.length cn', .slice none 0 0, R, Rn, [], B, cn, cn, [], rfl, ⟨hv, hr.nb, hr.n, hr.nb, RowA.nil _ _, Blks.nil _⟩⟩, hs6.use (by intro x; simp only [cnt_append, cnt_cons, cnt_nil]; omega)⟩

/-- Ints as cells. -/
def intsC (l : List Int) : List Value := l.map fun n => .int .i64 n
theorem intsC_length (l : List Int) : (intsC l).length = l.length := by simp [intsC]
theorem intsC_get {l : List Int} {k : Nat} {n : Int} (h : l[k]? = some n) : (intsC l)[k]? = some (.int .i64 n) := by rw [intsC, List.getElem?_map, h]; rfl
theorem intsC_one (l : List Int) : ∀ u ∈ intsC l, u.oneCell' = true := fun u hu => by obtain ⟨x, _, rfl⟩ := List.mem_map.1 hu; rfl
def idxI (l : List Int) (n : Int) : Int := if n ∈ l then (l.idxOf n : Int) else -1

set_option maxRecDepth 100000 in
theorem contains_ints (v : Value) (l : List Int) (n : Int) (w : World) (hr : Reads w v l.length (intsC l)) (hl : l.length < 9223372036854775808) :
    Calls Try.prog 82 #[v, .int .i64 n] w fun e w' => e = .returned (.bool (decide (n ∈ l))) ∧ w = w' := by
  obtain ⟨av, cv, rfl⟩ := reads_shape hr
  have hidx : Calls Try.prog 97 #[.slice av l.length cv, .int .i64 n] w fun e w' => ∃ i : Int, e = .returned (.int .i64 i) ∧ w = w' ∧ (0 ≤ i ↔ n ∈ l) := by
    go_enter Try.func97, Try.ntmps97
    go_wp2_with fail
    go_loop [8] (fun kv => ∃ k : Nat, kv = .int .i64 k ∧ k ≤ l.length ∧ n ∉ l.take k) (fun kv => (l.length - (intOf kv).toNat))
    case atStart => exact ⟨0, rfl, Nat.zero_le _, by simp⟩
    case round =>
      obtain ⟨k, rfl, hk, hnk⟩ := hrel
      have HNK := Lib.hid hnk
      clear hnk
      have k0 : (0 : Int) ≤ k := by omega
      by_cases hkl : k < l.length
      · have k1 : (k : Int) < l.length := by omega
        have k2 : (k : Int) < 9223372036854775807 := by omega
        obtain ⟨x, hx⟩ : ∃ x, l[k]? = some x := ⟨_, List.getElem?_eq_getElem hkl⟩
        rcases hr with ⟨_, hz, _⟩ | ⟨a, c', e1, hcell⟩
        · omega
        cases e1
        have d0 : w.cell? (a.add k) = some (.int .i64 x) := hcell k _ (intsC_get hx)
        have HX := Lib.hid hx
        clear hx hcell
        by_cases hnx : n = x
        · subst hnx
          go_wp2_with fail
          go_ret
          exact ⟨k, rfl, rfl, fun _ => List.mem_of_getElem? HX.out, fun _ => k0⟩
        · have q0 : (n == x) = false := by simpa using hnx
          go_wp2_with fail
          refine ⟨⟨k + 1, by simp, by omega, ?_⟩, ?_⟩
          · rw [take_snoc HX.out]
            simp only [List.mem_append, List.mem_singleton, not_or]
            exact ⟨HNK.out, hnx⟩
          · simp [intOf]
            omega
      · have e : k = l.length := by omega
        subst e
        go_wp2_with fail
        go_ret
        have h := HNK.out
        rw [List.take_length] at h
        exact ⟨-1, rfl, rfl, fun h0 => absurd h0 (by decide), fun h0 => absurd h0 h⟩
  have HI := Lib.hid hidx
  clear hidx hr
  go_enter Try.func82, Try.ntmps82
  go_wp2_with fail
  refine HI.out.mono ?_; rintro r w2 ⟨i, rfl, rfl, hi⟩
  go_wp2_with fail
  go_ret
  refine ⟨?_, rfl⟩
  simp [hi]
end Go.Proofs.Ytdkhgkkdnjejmaa.Ch
