
/-
  ChunkApart: what its array says of the platter.
-/
import Derived.Test.YtekbbpfnkbanjaaGreatLaA
import Derived.Test.YtekbbpfnkbanjaaGreatLkA
namespace Go.Proofs.YtekbbpfnkbanjaaGreat.Ch
set_option linter.unusedSimpArgs false
open Go Go.RowKit Go.Sl Go.BigFrame
set_option linter.unusedVariables false

theorem placeN_nat (s j : Nat) (hj : j < 2) : placeN (s : Int) (j : Int) = 2 * s + j := by
  unfold placeN placeI
  omega
structure Inv (q : Pt) (ns : List (Pc × Value)) (B : List Atom) : Prop where
  len : ns.length = 12
  at_ : ∀ (s j : Nat) (p : Pc) (v : Value), s < 6 → j < 2 → ns[2 * s + j]? = some (p, v) →
    (p = pc0 ∧ v = .slice none 0 0 ∧ getAt q s (2 * s + j) = none) ∨ (rightP p ∧ p.stripe = s ∧ p.gen % 2 = j ∧ BlkIn B v p.data ∧ getAt q s (2 * s + j) = some p)
theorem Inv.start : Inv q0 (List.replicate 12 (pc0, .slice none 0 0)) [] := by
  refine ⟨by simp, fun s j p v hs hj h => .inl ?_⟩
  rw [List.getElem?_replicate] at h
  split at h
  · cases h
    exact ⟨rfl, rfl, getAt_blank _ _ _ _ _ _⟩
  · cases h
theorem Inv.flush {q : Pt} {ns : List (Pc × Value)} {B : List Atom} (h : Inv q ns B) : Inv q.fl ns B := ⟨h.len, fun s j p v hs hj hn => h.at_ s j p v hs hj hn⟩
theorem getAt_wr_other (q : Pt) (s : Int) {k j : Nat} (l : List UInt8) (h : k ≠ j) : getAt (q.wr k l) s j = getAt q s j := getAt_wr_ne q s l h
theorem Inv.put {q : Pt} {ns : List (Pc × Value)} {B B' : List Atom} (h : Inv q ns B) {p : Pc} {v : Value} {s j : Nat} (hs : s < 6) (hj : j < 2) (hp : rightP p) (hps : p.stripe = s) (hpj : p.gen % 2 = j) (hb : BlkIn B' v p.data) (hB : ∀ x ∈ B, x ∈ B') (hq : 80 ≤ q.now.length) : Inv (q.wr (2 * s + j) (layB p)) (ns.set (2 * s + j) (p, v)) B' := by
  refine ⟨by rw [List.length_set, h.len], fun s' j' p' v' hs' hj' hn => ?_⟩
  by_cases e : 2 * s + j = 2 * s' + j'
  · obtain rfl : s = s' := by omega
    obtain rfl : j = j' := by omega
    rw [List.getElem?_set_self (by rw [h.len]; omega)] at hn
    cases hn
    refine .inr ⟨hp, hps, hpj, hb, ?_⟩
    rw [← hps]
    refine getAt_wr_same q p hp ?_ (by omega)
    unfold placeN placeI
    omega
  · rw [List.getElem?_set_ne e] at hn
    rw [getAt_wr_other _ _ _ e]
    exact (h.at_ s' j' p' v' hs' hj' hn).imp id fun ⟨a, b, c, d, f⟩ => ⟨a, b, c, d.mono hB, f⟩

theorem srt_length (l : List Pc) : (srt l).length = l.length := by
  rcases l with _ | ⟨x, _ | ⟨y, _ | ⟨z, l⟩⟩⟩ <;> simp only [srt]
  split <;> rfl
theorem srt_mem (l : List Pc) : ∀ x, x ∈ srt l → x ∈ l := by
  rcases l with _ | ⟨x, _ | ⟨y, _ | ⟨z, l⟩⟩⟩
  · exact fun x h => h
  · exact fun x h => h
  · intro z hz
    simp only [srt] at hz
    split at hz
    · simp at hz ⊢
      exact hz.symm
    · exact hz
  · exact fun x h => h
theorem srt_two {l : List Pc} {x y : Pc} (h : srt l = [x, y]) : ¬ x.gen < y.gen := by
  rcases l with _ | ⟨a, _ | ⟨b, _ | ⟨z, l⟩⟩⟩
  · simp [srt] at h
  · simp [srt] at h
  · simp only [srt] at h
    split at h
    · simp only [List.cons.injEq, and_true] at h
      obtain ⟨rfl, rfl⟩ := h
      omega
    · simp only [List.cons.injEq, and_true] at h
      obtain ⟨rfl, rfl⟩ := h
      assumption
  · simp [srt] at h
section
variable {q : Pt} {ns : List (Pc × Value)} {B : List Atom} (h : Inv q ns B) {s : Nat} (hs : s < 6)
include h hs
theorem Inv.some_at {j : Nat} (hj : j < 2) : ∃ p v, ns[2 * s + j]? = some (p, v) := by
  have : 2 * s + j < ns.length := by rw [h.len]; omega
  exact ⟨_, _, List.getElem?_eq_getElem this⟩
theorem Inv.count {k : Nat} (hk : k < 2) {p : Pc} {v : Value} (hn : ns[2 * s + k]? = some (p, v)) : (getN q s (k + 1)).length = (getN q s k).length + (if 0 < p.gen then 1 else 0) := by
  rw [getN_succ, placeN_nat s k hk, List.length_append]
  rcases h.at_ s k p v hs hk hn with ⟨h1, _, h3⟩ | ⟨h1, _, _, _, h5⟩
  · rw [h3, h1, if_neg (by show ¬ (0 : Int) < 0; omega)]; rfl
  · rw [h5, if_pos (by have := h1.2.2.1; omega)]; rfl
theorem Inv.get {p : Pc} (hp : p ∈ getL q s) : ∃ j v, j < 2 ∧ ns[2 * s + j]? = some (p, v) ∧ rightP p ∧ p.stripe = s ∧ p.gen % 2 = j ∧ BlkIn B v p.data := by
  have hm := srt_mem _ _ hp
  rw [getN_succ, getN_succ] at hm
  have key : ∀ j : Nat, j < 2 → p ∈ (getAt q s (placeN s (j : Int))).toList → ∃ j v, j < 2 ∧ ns[2 * s + j]? = some (p, v) ∧ rightP p ∧ p.stripe = s ∧ p.gen % 2 = j ∧ BlkIn B v p.data := fun j hj hm => by
    rw [placeN_nat s j hj, Option.mem_toList] at hm
    obtain ⟨p', v, hn⟩ := h.some_at hs hj
    rcases h.at_ s j p' v hs hj hn with ⟨_, _, h3⟩ | ⟨h1, h2, h3, h4, h5⟩
    · rw [h3] at hm; cases hm
    · rw [h5] at hm
      cases hm
      exact ⟨j, v, hj, hn, h1, h2, h3, h4⟩
  rcases List.mem_append.1 hm with hm | hm
  · rcases List.mem_append.1 hm with hm | hm
    · simp [getN] at hm
    · exact key 0 (by omega) hm
  · exact key 1 (by omega) hm
end
/-- The array's cells. -/
theorem pcsC_get {xs : List (Pc × Value)} : ∀ {i : Nat} {p : Pc} {v : Value}, xs[i]? = some (p, v) → ∀ f u, (pcCells p v)[f]? = some u → (pcsC xs)[i * 4 + f]? = some u := by
  induction xs with
  | nil => intro i p v h; simp at h
  | cons x xs ih =>
    intro i p v h f u hu
    have hc : pcsC (x :: xs) = pcCells x.1 x.2 ++ pcsC xs := rfl
    have hf : f < 4 := (List.getElem?_eq_some_iff.1 hu).1
    rw [hc]
    cases i with
    | zero =>
      simp only [List.getElem?_cons_zero, Option.some.injEq] at h
      rw [h, Nat.zero_mul, Nat.zero_add, List.getElem?_append_left (by exact hf)]
      exact hu
    | succ i =>
      have h2 : xs[i]? = some (p, v) := by simpa using h
      rw [List.getElem?_append_right (by show 4 ≤ _; omega)]
      have := ih h2 f u hu
      rw [show (i + 1) * 4 + f - (pcCells x.1 x.2).length = i * 4 + f by show (i + 1) * 4 + f - 4 = _; omega]
      exact this
theorem pcsC_set {xs : List (Pc × Value)} : ∀ {i : Nat} (p : Pc) (v : Value), i < xs.length → ((((pcsC xs).set (i * 4) (.int .i64 p.stripe)).set (i * 4 + 1) (.int .i64 p.gen)).set (i * 4 + 2) (.int .i64 p.index)).set (i * 4 + 3) v = pcsC (xs.set i (p, v)) := by
  induction xs with
  | nil => intro i p v h; simp at h
  | cons x xs ih =>
    intro i p v h
    obtain ⟨⟨s, g, ix, d⟩, u⟩ := x
    have hc : ∀ (p : Pc) (v : Value) (ys : List (Pc × Value)), pcsC ((p, v) :: ys) = .int .i64 p.stripe :: .int .i64 p.gen :: .int .i64 p.index :: v :: pcsC ys := fun p v ys => rfl
    cases i with
    | zero =>
      rfl
    | succ i =>
      have h2 := ih p v (by simpa using h)
      rw [hc, List.set_cons_succ, hc, ← h2]
      have e0 : (i + 1) * 4 = i * 4 + 4 := by omega
      rw [e0]
      rfl
end Go.Proofs.YtekbbpfnkbanjaaGreat.Ch
