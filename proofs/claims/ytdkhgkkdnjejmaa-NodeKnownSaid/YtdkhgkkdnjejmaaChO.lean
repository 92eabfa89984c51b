/-
  The platter: New, Blocks, Read, Write, Flush.
-/
import Derived.Test.YtdkhgkkdnjejmaaChN
namespace Go.Proofs.Ytdkhgkkdnjejmaa.Ch
set_option linter.unusedSimpArgs false
open Go Go.RowKit Go.Sl Go.BigFrame
set_option linter.unusedVariables false

/-- A platter: what is flushed, what is read, what pends, how many writes. -/
structure Pt where
  done : List (List UInt8)
  now : List (List UInt8)
  pend : List (Nat × List UInt8)
  writes : Int
def pendC : List Nat → List Value → List Value
  | k :: ks, v :: vs => .int .i64 k :: v :: pendC ks vs
  | _, _ => []
theorem pendC_length : ∀ (ks : List Nat) (vs : List Value), ks.length = vs.length → (pendC ks vs).length = ks.length * 2
  | [], [], _ => rfl
  | k :: ks, v :: vs, h => by
    simp only [pendC, List.length_cons] at *
    rw [pendC_length ks vs (by omega)]
    omega
  | [], _ :: _, h => by simp at h
  | _ :: _, [], h => by simp at h
theorem pendC_snoc : ∀ (ks : List Nat) (vs : List Value) (k : Nat) (v : Value), ks.length = vs.length → pendC ks vs ++ [.int .i64 k, v] = pendC (ks ++ [k]) (vs ++ [v])
  | [], [], _, _, _ => rfl
  | k :: ks, v :: vs, k', v', h => by
    simp only [pendC, List.cons_append]
    rw [pendC_snoc ks vs k' v' (by simpa using h)]
  | [], _ :: _, _, _, h => by simp at h
  | _ :: _, [], _, _, h => by simp at h
theorem pendC_get : ∀ (ks : List Nat) (vs : List Value) (j k : Nat) (v : Value), ks[j]? = some k → vs[j]? = some v → (pendC ks vs)[j * 2]? = some (.int .i64 k) ∧ (pendC ks vs)[j * 2 + 1]? = some v
  | k :: ks, v :: vs, 0, _, _, h1, h2 => by
    simp at h1 h2
    subst h1; subst h2
    exact ⟨rfl, rfl⟩
  | k :: ks, v :: vs, j + 1, k', v', h1, h2 => by
    have := pendC_get ks vs j k' v' (by simpa using h1) (by simpa using h2)
    rw [Nat.add_mul]
    exact this
  | [], _, _, _, _, h1, _ => by simp at h1
  | _ :: _, [], _, _, _, _, h2 => by simp at h2

structure PtR (p : Pt) (vd vn vp : Value) (Rd Rn Rp B : List Atom) (cd cn cp : List Value) : Prop where
  d : RowA 32 1 vd p.done.length cd Rd
  db : Blks B cd p.done
  n : RowA 32 1 vn p.now.length cn Rn
  nb : Blks B cn p.now
  pr : RowA 114 2 vp p.pend.length (pendC (p.pend.map Prod.fst) cp) Rp
  pb : Blks B cp (p.pend.map Prod.snd)
def PtA (b : Nat) (p : Pt) (A : List Atom) : Prop :=
  ∃ vd vn vp Rd Rn Rp B cd cn cp, A = cellsA b #[vd, vn, vp, .int .i64 p.writes] 107 :: (Rd ++ (Rn ++ (Rp ++ B))) ∧ PtR p vd vn vp Rd Rn Rp B cd cn cp

set_option maxRecDepth 100000 in
theorem platter_new (n : Nat) (W w : World) (L : List Atom) (h1 : 1 ≤ n) (h2 : n ≤ 1000) (hs : Sat W w L) :
    Calls Try.prog 24 #[.int .i64 n] w fun e w' => ∃ b A, e = .returned (.pointer (some ⟨b, 0, none⟩)) ∧ PtA b ⟨List.replicate n zero160, List.replicate n zero160, [], 0⟩ A ∧ Sat W w' (A ++ L) := by
  obtain ⟨x, hx⟩ : ∃ x : Int, x = n := ⟨_, rfl⟩
  have x1 : 1 ≤ x := by omega
  have x2 : x ≤ 1000 := by omega
  have hb := fun w L hs => blank_any n W w L h2 hs
  rw [← hx] at hb ⊢
  have HB := Lib.hid hb
  clear hx hb
  rcases (by omega : 1 < x ∨ x = 1) with hx1 | rfl
  · skip
    go_enter Try.func24, Try.ntmps24
    go_wp2_with fail
    refine (HB.out _ _ hs).mono ?_; rintro r w2 ⟨v, vs, R, B, rfl, hr, hbk, hs2⟩
    obtain ⟨a1, c1, rfl⟩ := Ch.RowA.slice hr
    go_wp2_with fail
    refine (HB.out _ _ hs2).mono ?_; rintro r w3 ⟨v2, vs2, R2, B2, rfl, hr2, hbk2, hs3⟩
    obtain ⟨a2, c2, rfl⟩ := Ch.RowA.slice hr2
    have hs4 := hs3.newCells #[.slice a1 n c1, .slice a2 n c2, .slice none 0 0, .int .i64 0] 107
    go_wp2_with fail
    go_ret
    refine ⟨_, _, rfl, ⟨.slice a1 n c1, .slice a2 n c2, .slice none 0 0, R, R2, [], B ++ B2, vs, vs2, [], rfl, ?_, ?_, ?_, ?_, RowA.nil _ _, Blks.nil _⟩, hs4.use (by intro x; simp only [cnt_append, cnt_cons, cnt_nil]; omega)⟩
    · rw [List.length_replicate]; exact hr
    · exact hbk.mono fun x hx => List.mem_append_left _ hx
    · rw [List.length_replicate]; exact hr2
    · exact hbk2.mono fun x hx => List.mem_append_right _ hx
  · skip
    go_enter Try.func24, Try.ntmps24
    go_wp2_with fail
    refine (HB.out _ _ hs).mono ?_; rintro r w2 ⟨v, vs, R, B, rfl, hr, hbk, hs2⟩
    obtain ⟨a1, c1, rfl⟩ := Ch.RowA.slice hr
    go_wp2_with fail
    refine (HB.out _ _ hs2).mono ?_; rintro r w3 ⟨v2, vs2, R2, B2, rfl, hr2, hbk2, hs3⟩
    obtain ⟨a2, c2, rfl⟩ := Ch.RowA.slice hr2
    have hs4 := hs3.newCells #[.slice a1 n c1, .slice a2 n c2, .slice none 0 0, .int .i64 0] 107
    go_wp2_with fail
    go_ret
    refine ⟨_, _, rfl, ⟨.slice a1 n c1, .slice a2 n c2, .slice none 0 0, R, R2, [], B ++ B2, vs, vs2, [], rfl, ?_, ?_, ?_, ?_, RowA.nil _ _, Blks.nil _⟩, hs4.use (by intro x; simp only [cnt_append, cnt_cons, cnt_nil]; omega)⟩
    · rw [List.length_replicate]; exact hr
    · exact hbk.mono fun x hx => List.mem_append_left _ hx
    · rw [List.length_replicate]; exact hr2
    · exact hbk2.mono fun x hx => List.mem_append_right _ hx

theorem blocks_any (b : Nat) (p : Pt) (A : List Atom) (W w : World) (L : List Atom) (hp : PtA b p A) (hs : Sat W w (A ++ L)) :
    Calls Try.prog 60 #[.pointer (some ⟨b, 0, none⟩)] w fun e w' => e = .returned (.int .i64 p.now.length) ∧ w = w' := by
  obtain ⟨vd, vn, vp, Rd, Rn, Rp, B, cd, cn, cp, rfl, hr⟩ := hp
  obtain ⟨a1, c1, rfl⟩ := Ch.RowA.slice hr.n
  have d1 : w.cell? ⟨b, 1, none⟩ = some (.slice a1 p.now.length c1) := hs.cell m0 1
  clear hs
  go_enter Try.func60, Try.ntmps60
  go_wp2_with fail
  go_ret
  exact ⟨rfl, rfl⟩

theorem has_any (b : Nat) (p : Pt) (A : List Atom) (k : Int) (W w : World) (L : List Atom) (hp : PtA b p A) (hs : Sat W w (A ++ L)) :
    Calls Try.prog 71 #[.pointer (some ⟨b, 0, none⟩), .int .i64 k] w fun e w' => e = .returned (.bool (decide (0 ≤ k ∧ k < p.now.length))) ∧ w = w' := by
  obtain ⟨vd, vn, vp, Rd, Rn, Rp, B, cd, cn, cp, rfl, hr⟩ := hp
  obtain ⟨a1, c1, rfl⟩ := Ch.RowA.slice hr.n
  have d1 : w.cell? ⟨b, 1, none⟩ = some (.slice a1 p.now.length c1) := hs.cell m0 1
  clear hs hr
  by_cases k0 : 0 ≤ k
  · by_cases k1 : k < p.now.length
    · rw [decide_eq_true ⟨k0, k1⟩]
      go_enter Try.func71, Try.ntmps71
      go_wp2_with fail
      go_ret
      exact ⟨rfl, rfl⟩
    · rw [decide_eq_false (fun h => k1 h.2)]
      go_enter Try.func71, Try.ntmps71
      go_wp2_with fail
      go_ret
      exact ⟨rfl, rfl⟩
  · rw [decide_eq_false (fun h => k0 h.1)]
    go_enter Try.func71, Try.ntmps71
    go_wp2_with fail
    go_ret
    exact ⟨rfl, rfl⟩
end Go.Proofs.Ytdkhgkkdnjejmaa.Ch
