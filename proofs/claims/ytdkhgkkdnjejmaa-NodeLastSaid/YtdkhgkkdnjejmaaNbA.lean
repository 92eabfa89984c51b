/-
  NodeBoots: the plain law, and the walk.
-/
import Derived.Test.YtdkhgkkdnjejmaaNdF
import Derived.Deep.DeepCutAuto
import Derived.Deep.CutBlock
namespace Go.Proofs.Ytdkhgkkdnjejmaa.Ch
set_option linter.unusedSimpArgs false
open Go Go.RowKit Go.Sl Go.BigFrame
set_option linter.unusedVariables false

/-- Of stripe s a piece is there whose generation is g or more. -/
def Has (q : Pt) (s g : Int) : Prop := ∃ (j : Nat) (p : Pc), j < 2 ∧ getAt q s (placeN s (j : Int)) = some p ∧ g ≤ p.gen
theorem getAt_now {q q' : Pt} (h : q.now = q'.now) (s : Int) (k : Nat) : getAt q s k = getAt q' s k := by
  unfold getAt
  rw [h]
theorem Has.congr {q q' : Pt} {s g : Int} (h : q.now = q'.now) (hh : Has q s g) : Has q' s g := by
  obtain ⟨j, p, hj, h1, h2⟩ := hh
  exact ⟨j, p, hj, by rw [← getAt_now h]; exact h1, h2⟩
theorem Has.head {q : Pt} {s g : Int} (hh : Has q s g) : ∃ x xs, getL q s = x :: xs ∧ g ≤ x.gen := by
  obtain ⟨j, p, hj, h1, h2⟩ := hh
  rcases (by omega : j = 0 ∨ j = 1) with rfl | rfl
  · rw [getL_len2 h1 rfl]
    cases getAt q s (placeN s ((1 : Nat) : Int)) with
    | none => exact ⟨p, [], rfl, h2⟩
    | some y =>
      show ∃ x xs, srt [p, y] = x :: xs ∧ g ≤ x.gen
      simp only [srt]
      split
      · exact ⟨y, [p], rfl, by omega⟩
      · exact ⟨p, [y], rfl, h2⟩
  · rw [getL_len2 rfl h1]
    cases getAt q s (placeN s ((0 : Nat) : Int)) with
    | none => exact ⟨p, [], rfl, h2⟩
    | some y =>
      show ∃ x xs, srt [y, p] = x :: xs ∧ g ≤ x.gen
      simp only [srt]
      split
      · exact ⟨p, [y], rfl, h2⟩
      · exact ⟨y, [p], rfl, by omega⟩
theorem placeN_mod (s g : Int) : ∃ j : Nat, j < 2 ∧ placeN s g = placeN s (j : Int) := by
  have b1 : 0 ≤ g % 2 := Int.emod_nonneg _ (by decide)
  have b2 : g % 2 < 2 := Int.emod_lt_of_pos _ (by decide)
  refine ⟨(g % 2).toNat, by omega, ?_⟩
  unfold placeN placeI
  omega
/-- A newer piece is laid: it is there, or what was there still is. -/
theorem Has.put {q : Pt} {p : Pc} {g : Int} (hp : rightP p) (hl : 80 ≤ q.now.length) (hg : g ≤ p.gen) : Has (q.wr (placeN p.stripe p.gen) (layB p)) p.stripe g := by
  obtain ⟨j, hj, e⟩ := placeN_mod p.stripe p.gen
  have hb := placeI_bounds p.stripe p.gen hp.1 hp.2.1
  refine ⟨j, p, hj, ?_, hg⟩
  rw [← e]
  exact getAt_wr_same q p hp rfl (by unfold placeN; omega)

structure Bt (s : Int) (n : Nd) (sure : Int) (i : Nat) : Prop where
  ok : NdOk n (3 * i)
  pend : n.q.pend = []
  same : n.q.now = n.q.done
  s0 : 0 ≤ sure
  s1 : sure ≤ i
  has : 0 < sure → Has n.q s sure
theorem crash_nil {q : Pt} (hp : q.pend = []) (hs : q.now = q.done) (keep : List Int) : (q.crash keep).now = q.now ∧ (q.crash keep).done = q.done := by
  have e : (q.crash keep).now = q.done := by simp [Pt.crash, hp, crashTo]
  exact ⟨e.trans hs.symm, e⟩
/-- One round, without the last fall. -/
theorem Bt.flush {n : Nd} {s sure : Int} {i : Nat} (h : Bt s n sure i) (p : Pc) (hp : rightP p) (hps : p.stripe = s) (hpg : p.gen = i + 1) : Bt s ⟨(n.q.wr (placeN p.stripe p.gen) (layB p)).fl, n.g, n.boot⟩ (i + 1) (i + 1) := by
  subst hps
  have hb := placeI_bounds p.stripe p.gen hp.1 hp.2.1
  have h1 := (h.ok.wr (placeN p.stripe p.gen) (layB p) (by unfold placeN; omega) (by rw [layB_length _ hp.2.2.2.2.2.2]; omega)).fl
  exact ⟨h1.mono (by omega), rfl, rfl, by omega, by omega, fun _ => (Has.put hp (by rw [h.ok.len]; decide) (by omega)).congr rfl⟩
theorem Bt.crash {n : Nd} {s sure : Int} {i : Nat} (h : Bt s n sure i) (p : Pc) (hp : rightP p) (hps : p.stripe = s) (hpg : p.gen = i + 1) (keep : List Int) : Bt s ⟨(Nd.crash ⟨n.q.wr (placeN p.stripe p.gen) (layB p), n.g, n.boot⟩ keep).q.fl, (Nd.crash ⟨n.q.wr (placeN p.stripe p.gen) (layB p), n.g, n.boot⟩ keep).g, n.boot + 1⟩ sure (i + 1) := by
  subst hps
  have hb := placeI_bounds p.stripe p.gen hp.1 hp.2.1
  have h1 := ((h.ok.wr (placeN p.stripe p.gen) (layB p) (by unfold placeN; omega) (by rw [layB_length _ hp.2.2.2.2.2.2]; omega)).crash keep).fl
  refine ⟨h1.mono (by omega), rfl, rfl, h.s0, by have := h.s1; omega, fun h0 => ?_⟩
  have e : ((n.q.wr (placeN p.stripe p.gen) (layB p)).crash keep).now = n.q.now ∨ ((n.q.wr (placeN p.stripe p.gen) (layB p)).crash keep).now = (n.q.wr (placeN p.stripe p.gen) (layB p)).now := by
    have hpd : (n.q.wr (placeN p.stripe p.gen) (layB p)).pend = [(placeN p.stripe p.gen, layB p)] := by show n.q.pend ++ _ = _; rw [h.pend]; rfl
    have e2 : ((n.q.wr (placeN p.stripe p.gen) (layB p)).crash keep).now = crashTo keep n.q.done [(placeN p.stripe p.gen, layB p)] 1 := by
      unfold Pt.crash
      rw [hpd]
      rfl
    rw [e2]
    simp only [crashTo, List.getElem?_cons_zero]
    split
    · exact .inr (by rw [← h.same]; rfl)
    · exact .inl h.same.symm
  rcases e with e | e
  · exact (h.has h0).congr e.symm
  · exact (Has.put (q := n.q) (g := sure) hp (by rw [h.ok.len]; decide) (by have := h.s1; omega)).congr e.symm
theorem Bt.fall {n : Nd} {s sure : Int} {i : Nat} (h : Bt s n sure (i + 1)) (h2 : NdOk n (3 * i + 2)) : Bt s (n.crash []) sure (i + 1) := by
  obtain ⟨e1, e2⟩ := crash_nil h.pend h.same []
  exact ⟨(h2.crash []).mono (by omega), rfl, by show (n.q.crash []).now = (n.q.crash []).done; rfl, h.s0, h.s1, fun h0 => (h.has h0).congr e1.symm⟩
theorem Bt.head2 {n : Nd} {s sure : Int} {i : Nat} (h : Bt s n sure i) (xs : List (Pc × Value)) (hx : xs.map Prod.fst = getL n.q s) (h0 : 0 < sure) : ∃ p v ys, xs = (p, v) :: ys ∧ sure ≤ p.gen := by
  obtain ⟨x, ys, h1, h2⟩ := (h.has h0).head
  rw [h1] at hx
  cases xs with
  | nil => simp at hx
  | cons y xs =>
    simp only [List.map_cons, List.cons.injEq] at hx
    exact ⟨y.1, y.2, xs, rfl, by rw [hx.1]; exact h2⟩
end Go.Proofs.Ytdkhgkkdnjejmaa.Ch
