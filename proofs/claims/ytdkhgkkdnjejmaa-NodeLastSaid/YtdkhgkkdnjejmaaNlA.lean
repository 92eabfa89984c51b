/-
  NodeLast: the plain law.
-/
import Derived.Test.YtdkhgkkdnjejmaaNbA
import Derived.Test.YtdkhgkkdnjejmaaSlMap
namespace Go.Proofs.Ytdkhgkkdnjejmaa.Ch
set_option linter.unusedSimpArgs false
open Go Go.RowKit Go.Sl Go.BigFrame
set_option linter.unusedVariables false

/-- What is known of stripe s: its last piece, if any, is the newest that is there. -/
def LastAt (q : Pt) (s : Int) (i : Nat) : Option Pc → Prop
  | none => getAt q s (placeN s ((0 : Nat) : Int)) = none ∧ getAt q s (placeN s ((1 : Nat) : Int)) = none
  | some p => rightP p ∧ p.stripe = s ∧ p.gen ≤ i ∧ ∃ j : Nat, j < 2 ∧ getAt q s (placeN s (j : Int)) = some p ∧ ∀ p', getAt q s (placeN s ((1 - j : Nat) : Int)) = some p' → p'.gen < p.gen
theorem LastAt.congr {q q' : Pt} {s : Int} {i : Nat} {o : Option Pc} (h : q.now = q'.now) (hh : LastAt q s i o) : LastAt q' s i o := by
  cases o with
  | none => exact ⟨by rw [← getAt_now h]; exact hh.1, by rw [← getAt_now h]; exact hh.2⟩
  | some p =>
    obtain ⟨h1, h2, h3, j, h4, h5, h6⟩ := hh
    exact ⟨h1, h2, h3, j, h4, by rw [← getAt_now h]; exact h5, fun p' hp' => h6 p' (by rw [getAt_now h]; exact hp')⟩
theorem LastAt.mono {q : Pt} {s : Int} {i k : Nat} {o : Option Pc} (hh : LastAt q s i o) (h : i ≤ k) : LastAt q s k o := by
  cases o with
  | none => exact hh
  | some p =>
    obtain ⟨h1, h2, h3, h4⟩ := hh
    exact ⟨h1, h2, by omega, h4⟩
theorem LastAt.none_get {q : Pt} {s : Int} {i : Nat} (h : LastAt q s i none) : getL q s = [] := by
  rw [getL_len2 h.1 h.2]
  rfl
theorem LastAt.some_get {q : Pt} {s : Int} {i : Nat} {p : Pc} (h : LastAt q s i (some p)) : ∃ ys, getL q s = p :: ys := by
  obtain ⟨h1, h2, h3, j, hj, h5, h6⟩ := h
  rcases (by omega : j = 0 ∨ j = 1) with rfl | rfl
  · rw [getL_len2 h5 rfl]
    cases hy : getAt q s (placeN s ((1 : Nat) : Int)) with
    | none => exact ⟨[], rfl⟩
    | some y =>
      have hlt := h6 y hy
      refine ⟨[y], ?_⟩
      show srt [p, y] = _
      simp only [srt]
      rw [if_neg (by omega)]
  · rw [getL_len2 rfl h5]
    cases hy : getAt q s (placeN s ((0 : Nat) : Int)) with
    | none => exact ⟨[], rfl⟩
    | some y =>
      have hlt := h6 y hy
      refine ⟨[y], ?_⟩
      show srt [y, p] = _
      simp only [srt]
      rw [if_pos hlt]
theorem LastAt.gens {q : Pt} {s : Int} {i : Nat} {o : Option Pc} (h : LastAt q s i o) (j : Nat) (hj : j < 2) (p' : Pc) (hp : getAt q s (placeN s (j : Int)) = some p') : p'.gen ≤ i := by
  cases o with
  | none =>
    rcases (by omega : j = 0 ∨ j = 1) with rfl | rfl
    · rw [h.1] at hp; cases hp
    · rw [h.2] at hp; cases hp
  | some p =>
    obtain ⟨h1, h2, h3, k, hk, h5, h6⟩ := h
    by_cases e : j = k
    · subst e
      rw [h5] at hp
      cases hp
      exact h3
    · have := h6 p' (by rw [show 1 - k = j by omega]; exact hp)
      omega
theorem placeN_ne {s t : Int} (hs : 0 ≤ s) (ht : 0 ≤ t) (h : s ≠ t) (g j : Int) : placeN s g ≠ placeN t j := by
  have b1 : 0 ≤ g % 2 := Int.emod_nonneg _ (by decide)
  have b2 : g % 2 < 2 := Int.emod_lt_of_pos _ (by decide)
  have b3 : 0 ≤ j % 2 := Int.emod_nonneg _ (by decide)
  have b4 : j % 2 < 2 := Int.emod_lt_of_pos _ (by decide)
  unfold placeN placeI
  omega
theorem placeN_two (s : Int) (hs : 0 ≤ s) (j : Nat) (hj : j < 2) : placeN s (j : Int) ≠ placeN s ((1 - j : Nat) : Int) := by
  rcases (by omega : j = 0 ∨ j = 1) with rfl | rfl <;> unfold placeN placeI <;> omega
theorem LastAt.other {q : Pt} {s : Int} {i : Nat} {o : Option Pc} (h : LastAt q s i o) {t g : Int} (l : List UInt8) (hs : 0 ≤ s) (ht : 0 ≤ t) (hne : t ≠ s) : LastAt (q.wr (placeN t g) l) s i o := by
  have e : ∀ j : Int, getAt (q.wr (placeN t g) l) s (placeN s j) = getAt q s (placeN s j) := fun j => getAt_wr_ne q s l (placeN_ne ht hs hne g j)
  cases o with
  | none => exact ⟨by rw [e]; exact h.1, by rw [e]; exact h.2⟩
  | some p =>
    obtain ⟨h1, h2, h3, j, h4, h5, h6⟩ := h
    exact ⟨h1, h2, h3, j, h4, by rw [e]; exact h5, fun p' hp' => h6 p' (by rw [e] at hp'; exact hp')⟩
theorem LastAt.put {q : Pt} {i : Nat} {o : Option Pc} {p : Pc} (h : LastAt q p.stripe i o) (hp : rightP p) (hg : p.gen = i + 1) (hl : 80 ≤ q.now.length) : LastAt (q.wr (placeN p.stripe p.gen) (layB p)) p.stripe (i + 1) (some p) := by
  obtain ⟨j, hj, e⟩ := placeN_mod p.stripe p.gen
  have hb := placeI_bounds p.stripe p.gen hp.1 hp.2.1
  refine ⟨hp, rfl, by omega, j, hj, ?_, fun p' hp' => ?_⟩
  · rw [← e]
    exact getAt_wr_same q p hp rfl (by unfold placeN; omega)
  · rw [e, getAt_wr_ne q _ _ (placeN_two p.stripe hp.1 j hj)] at hp'
    have := h.gens (1 - j) (by omega) p' hp'
    omega

structure Lst (n : Nd) (last : Int → Option Pc) (i : Nat) : Prop where
  ok : NdOk n (2 * i)
  pend : n.q.pend = []
  same : n.q.now = n.q.done
  at_ : ∀ s, 0 ≤ s → s < 5 → LastAt n.q s i (last s)
theorem Lst.start : Lst nd0 (fun _ => none) 0 := ⟨NdOk.start, rfl, rfl, fun s _ _ => ⟨getAt_blank _ _ _ _ _ _, getAt_blank _ _ _ _ _ _⟩⟩
noncomputable def updL (last : Int → Option Pc) (p : Pc) : Int → Option Pc := by classical exact fun s => if s = p.stripe then some p else last s
theorem updL_same (last : Int → Option Pc) (p : Pc) : updL last p p.stripe = some p := by simp [updL]
theorem updL_other (last : Int → Option Pc) (p : Pc) {s : Int} (h : s ≠ p.stripe) : updL last p s = last s := by simp [updL, h]
theorem Lst.flush {n : Nd} {last : Int → Option Pc} {i : Nat} (h : Lst n last i) (p : Pc) (hp : rightP p) (h5 : p.stripe < 5) (hg : p.gen = i + 1) : Lst ⟨(n.q.wr (placeN p.stripe p.gen) (layB p)).fl, n.g, n.boot⟩ (updL last p) (i + 1) := by
  have hb := placeI_bounds p.stripe p.gen hp.1 hp.2.1
  have h1 := (h.ok.wr (placeN p.stripe p.gen) (layB p) (by unfold placeN; omega) (by rw [layB_length _ hp.2.2.2.2.2.2]; omega)).fl
  refine ⟨h1.mono (by omega), rfl, rfl, fun s s0 s5 => ?_⟩
  by_cases e : s = p.stripe
  · subst e
    rw [updL_same]
    exact ((h.at_ _ s0 s5).put hp hg (by rw [h.ok.len]; decide)).congr rfl
  · rw [updL_other _ _ e]
    exact (((h.at_ s s0 s5).other (layB p) s0 hp.1 (fun h => e h.symm)).mono (Nat.le_succ i)).congr rfl
theorem Lst.fall {n : Nd} {last : Int → Option Pc} {i : Nat} (h : Lst n last i) (k : Nat) (l : List UInt8) (hk : k < 96) (hl : l.length < 1000000) : Lst (Nd.crash ⟨n.q.wr k l, n.g, n.boot⟩ []) last (i + 1) := by
  have e : ((n.q.wr k l).crash []).now = n.q.now := by
    have hpd : (n.q.wr k l).pend = [(k, l)] := by show n.q.pend ++ _ = _; rw [h.pend]; rfl
    simp [Pt.crash, hpd, crashTo]
    exact h.same.symm
  exact ⟨((h.ok.wr k l hk hl).crash []).mono (by omega), rfl, rfl, fun s s0 s5 => ((h.at_ s s0 s5).mono (Nat.le_succ i)).congr e.symm⟩
theorem Lst.crash {n : Nd} {last : Int → Option Pc} {i : Nat} (h : Lst n last i) (keep : List Int) : ∀ s, 0 ≤ s → s < 5 → LastAt (n.crash keep).q s i (last s) := fun s s0 s5 => (h.at_ s s0 s5).congr (crash_nil h.pend h.same keep).1.symm
theorem lose_get (n : Nd) (s : Int) : getL n.lose.q s = [] := by
  have h : ∀ j, getAt n.lose.q s j = none := fun j => getAt_blank n.q.now.length _ _ _ _ _
  rw [getL_len2 (h _) (h _)]
  rfl

/-- The map of the last pieces. -/
def MapRep (f : Value → Option Value) (last : Int → Option Pc) (B : List Atom) : Prop := ∀ s, 0 ≤ s → s < 5 → (last s = none ∧ f (.int .i64 s) = none) ∨ ∃ p v, last s = some p ∧ f (.int .i64 s) = some (pcV p v) ∧ BlkIn B v p.data
theorem MapRep.mono {f : Value → Option Value} {last : Int → Option Pc} {B B' : List Atom} (h : MapRep f last B) (hs : ∀ x ∈ B, x ∈ B') : MapRep f last B' := fun s s0 s5 => by
  rcases h s s0 s5 with h | ⟨p, v, h1, h2, h3⟩
  · exact .inl h
  · exact .inr ⟨p, v, h1, h2, h3.mono hs⟩
theorem MapRep.upd {f : Value → Option Value} {last : Int → Option Pc} {B : List Atom} (h : MapRep f last B) (p : Pc) (v : Value) (hv : BlkIn B v p.data) : MapRep (updV f (.int .i64 p.stripe) (pcV p v)) (updL last p) B := fun s s0 s5 => by
  by_cases e : s = p.stripe
  · subst e
    exact .inr ⟨p, v, updL_same _ _, updV_same _ _ _, hv⟩
  · rw [updL_other _ _ e, updV_other _ _ (fun h => e (by injection h))]
    exact h s s0 s5
end Go.Proofs.Ytdkhgkkdnjejmaa.Ch
