/-
  PickActs: the lists.
-/
import Derived.Test.YtelcaeapflhadaaPkQ
import Derived.Test.YtelcaeapflhadaaPkJ
import Derived.Deep.DeepCutAuto
import Derived.Deep.CutBlock
namespace Go.Proofs.Ytelcaeapflhadaa.Pk
set_option linter.unusedSimpArgs false
open Go Go.RowKit Go.Sl Go.BigFrame
set_option linter.unusedVariables false

/-- A row of acts, as far as a walk reads it. -/
def ActsAt (W : World) (v : Value) (xs : List (Int × Int × Int)) : Prop :=
  ∃ g c, v = .slice g xs.length c ∧ xs.length ≤ maxLen ∧
    ∀ w, Below W.heap.size W w → ∀ j, j < xs.length → ∃ b o, g = some ⟨b, o, none⟩ ∧ w.cell? ⟨b, o + j * 3, none⟩ = some (.int .i64 (xs.getD j default).1) ∧
      w.cell? ⟨b, o + j * 3 + 1, none⟩ = some (.int .i64 (xs.getD j default).2.1) ∧ w.cell? ⟨b, o + j * 3 + 2, none⟩ = some (.int .i64 (xs.getD j default).2.2)

/-- Each id once. -/
def Apart (S : List It) : Prop := S.Pairwise fun p q => p.1 ≠ q.1

/-- Where the id stands among the first k, or -1. -/
def atF (S : List It) (id : Int) : Nat → Int
  | 0 => -1
  | k + 1 => if (at_ S k).1 = id then k else atF S id k

theorem atF_find (S : List It) (id : Int) : ∀ k, (∀ j, j < k → (at_ S j).1 ≠ id) ∧ atF S id k = -1 ∨ ∃ j : Nat, j < k ∧ (at_ S j).1 = id ∧ atF S id k = (j : Int)
  | 0 => .inl ⟨fun j hj => absurd hj (Nat.not_lt_zero _), rfl⟩
  | k + 1 => by
    unfold atF
    by_cases h : (at_ S k).1 = id
    · rw [if_pos h]
      exact .inr ⟨k, by omega, h, rfl⟩
    · rw [if_neg h]
      rcases atF_find S id k with ⟨h1, h2⟩ | ⟨j, h1, h2, h3⟩
      · refine .inl ⟨fun j hj => ?_, h2⟩
        by_cases e : j = k
        · subst e; exact h
        · exact h1 j (by omega)
      · exact .inr ⟨j, by omega, h2, h3⟩

theorem get_at {S : List It} {j : Nat} (h : j < S.length) : S[j]? = some (at_ S j) := by
  unfold at_; rw [List.getD_eq_getElem?_getD, List.getElem?_eq_getElem h]; rfl

/-- What the loop over the items has found. -/
theorem at_cases (S : List It) (id : Int) : (S.any (fun q => q.1 == id) = false ∧ atF S id S.length = -1) ∨ ∃ (j : Nat) (k : Int), j < S.length ∧ S[j]? = some (id, k) ∧ S.any (fun q => q.1 == id) = true ∧ atF S id S.length = (j : Int) := by
  rcases atF_find S id S.length with ⟨h1, h2⟩ | ⟨j, h1, h2, h3⟩
  · refine .inl ⟨?_, h2⟩
    rw [List.any_eq_false]
    intro q hq
    obtain ⟨j, hj, rfl⟩ := List.getElem_of_mem hq
    have h4 := h1 j hj
    have h5 := get_at hj
    rw [List.getElem?_eq_getElem hj] at h5
    simp only [Option.some.injEq] at h5
    rw [h5]
    simpa using h4
  · refine .inr ⟨j, (at_ S j).2, h1, ?_, ?_, h3⟩
    · rw [get_at h1, ← h2]
    · rw [List.any_eq_true]
      exact ⟨at_ S j, List.mem_of_getElem? (get_at h1), by simpa using h2⟩

theorem apart_erase : ∀ {S : List It} {j : Nat} {id k : Int}, Apart S → S[j]? = some (id, k) → S.filter (fun q => q.1 != id) = S.eraseIdx j
  | [], j, id, k, _, h => by simp at h
  | q :: S, 0, id, k, ha, h => by
    obtain ⟨h1, h2⟩ := List.pairwise_cons.1 ha
    have : q = (id, k) := by simpa using h
    subst this
    simp only [List.eraseIdx_cons_zero]
    rw [List.filter_cons_of_neg (by simp), List.filter_eq_self]
    intro x hx
    have := h1 x hx
    simpa using fun e => this e.symm
  | q :: S, j + 1, id, k, ha, h => by
    obtain ⟨h1, h2⟩ := List.pairwise_cons.1 ha
    have h' : S[j]? = some (id, k) := by simpa using h
    have hne := h1 _ (List.mem_of_getElem? h')
    rw [List.filter_cons_of_pos (by simpa using hne), List.eraseIdx_cons_succ, apart_erase h2 h']
theorem apart_put {S : List It} (h : Apart S) (id k : Int) : Apart (putS S id k) := by
  unfold Apart putS
  refine ((ins_perm _ _).pairwise_iff (fun h => Ne.symm h)).2 (List.pairwise_cons.2 ⟨fun q hq => ?_, h.filter _⟩)
  have := (List.mem_filter.1 hq).2
  simpa using fun e => by simp [← e] at this
theorem apart_drop {S : List It} (h : Apart S) (id : Int) : Apart (dropS S id) := h.filter _
theorem len_drop (S : List It) (id : Int) : (dropS S id).length ≤ S.length := List.length_filter_le _ _
theorem nil_reads (w : World) (a : Addr) (n c : Nat) (l : List It) (hn : n = 0) (hl : l = []) : Reads w (.slice (some a) n c) l.length (flat l) := by
  subst hn; subst hl
  exact .inr ⟨a, c, rfl, fun j u hu => by simp [flat] at hu⟩

/-- A row without its first. -/
theorem row_tail {W w : World} {F : List Atom} {g off cap : Nat} {p : It} {S : List It} (hc : (p :: S).length ≤ cap) (hcm : cap ≤ maxLen) (hs : Sat W w ([(g, rowP 28 off (cap * 2) (flat (p :: S)))] ++ F)) :
    ∃ R', RowA 28 2 (.slice (if cap = 1 then some ⟨g, off, none⟩ else some ⟨g, off + 2, none⟩) S.length (cap - 1)) S.length (flat S) R' ∧ Sat W w (R' ++ F) := by
  simp only [List.length_cons] at hc
  have hs1 : Sat W w ((g, rowP 28 off (cap * 2) (flat (p :: S))) :: F) := hs
  obtain ⟨o, ho, cur, rfl, h1, h2, h3⟩ := hs1.head
  by_cases h : cap = 1
  · have hS : S = [] := List.eq_nil_of_length_eq_zero (by omega)
    subst hS
    rw [if_pos h, h]
    refine ⟨[(g, rowP 28 off (0 * 2) [])], ⟨rfl, .inr ⟨g, off, 0, rfl, Nat.le_refl _, Nat.zero_le _, rfl⟩⟩, ?_⟩
    exact hs1.turn (Inert.refl w) (fun _ _ _ => rfl) ⟨_, ho, cur, rfl, by omega, by simp, by simp⟩
  · rw [if_neg h]
    refine ⟨[(g, rowP 28 (off + 2) ((cap - 1) * 2) (flat S))], ⟨flat_length S, .inr ⟨g, off + 2, cap - 1, rfl, by omega, by omega, rfl⟩⟩, ?_⟩
    refine hs1.turn (Inert.refl w) (fun _ _ _ => rfl) ⟨_, ho, cur, rfl, by omega, by rw [flat_length]; omega, ?_⟩
    have h4 := congrArg (List.drop 2) h3
    rw [List.drop_take, List.drop_drop] at h4
    have h5 : (flat (p :: S)).length - 2 = (flat S).length := by rw [flat_length, flat_length]; simp; omega
    rw [h5] at h4
    rw [h4]
    simp [flat]

end Go.Proofs.Ytelcaeapflhadaa.Pk
