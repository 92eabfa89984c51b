/-
  Package refs: sorted lists of items by their members; nothing of the program.
-/
import Derived.Test.YtelcaeapflhadaaPkF
namespace Go.Proofs.Ytelcaeapflhadaa.Rf
set_option linter.unusedSimpArgs false
open Go Go.RowKit Go.Sl Go.Proofs.Ytelcaeapflhadaa.Pk
set_option linter.unusedVariables false

theorem lt_irrefl (p : It) : ¬ lt p p := by unfold lt; omega
theorem lt_asymm {p q : It} (h : lt p q) : ¬ lt q p := by unfold lt at *; omega
theorem lt_trans {p q r : It} (h : lt p q) (k : lt q r) : lt p r := by unfold lt at *; omega

/-- Sorted lists of the same members are one. -/
theorem srt_ext : ∀ {S T : List It}, Srt S → Srt T → (∀ q, q ∈ S ↔ q ∈ T) → S = T
  | [], [], _, _, _ => rfl
  | [], b :: T, _, _, h => by have := (h b).2 (List.mem_cons_self ..); cases this
  | a :: S, [], _, _, h => by have := (h a).1 (List.mem_cons_self ..); cases this
  | a :: S, b :: T, hs, ht, h => by
    obtain ⟨s1, s2⟩ := List.pairwise_cons.1 hs
    obtain ⟨t1, t2⟩ := List.pairwise_cons.1 ht
    have e : a = b := by
      rcases List.mem_cons.1 ((h a).1 (List.mem_cons_self ..)) with e | h1
      · exact e
      · rcases List.mem_cons.1 ((h b).2 (List.mem_cons_self ..)) with e | h2
        · exact e.symm
        · exact absurd (s1 b h2) (lt_asymm (t1 a h1))
    subst e
    congr 1
    refine srt_ext s2 t2 fun q => ⟨fun hq => ?_, fun hq => ?_⟩
    · rcases List.mem_cons.1 ((h q).1 (List.mem_cons_of_mem _ hq)) with e | h1
      · subst e; exact absurd (s1 q hq) (lt_irrefl q)
      · exact h1
    · rcases List.mem_cons.1 ((h q).2 (List.mem_cons_of_mem _ hq)) with e | h1
      · subst e; exact absurd (t1 q hq) (lt_irrefl q)
      · exact h1

theorem ins_last (p : It) : ∀ {S : List It}, (∀ q ∈ S, lt q p) → ins p S = S ++ [p]
  | [], _ => rfl
  | q :: S, h => by
    unfold ins
    rw [if_pos (h q (List.mem_cons_self ..)), ins_last p (fun r hr => h r (List.mem_cons_of_mem _ hr))]
    rfl

/-- The stripes from lo on, n of them, each an item of its own key. -/
def run (lo : Int) : Nat → List It
  | 0 => []
  | n + 1 => run lo n ++ [(lo + n, lo + n)]
theorem run_mem (lo : Int) : ∀ (n : Nat) (q : It), q ∈ run lo n ↔ ∃ a : Nat, a < n ∧ q = (lo + a, lo + a)
  | 0, q => by simp [run]
  | n + 1, q => by
    rw [run, List.mem_append, run_mem lo n q]
    constructor
    · rintro (⟨a, ha, e⟩ | h)
      · exact ⟨a, by omega, e⟩
      · exact ⟨n, by omega, by simpa using h⟩
    · rintro ⟨a, ha, e⟩
      by_cases h : a < n
      · exact .inl ⟨a, h, e⟩
      · have : a = n := by omega
        subst this
        exact .inr (by simpa using e)
theorem run_len (lo : Int) : ∀ n, (run lo n).length = n
  | 0 => rfl
  | n + 1 => by simp [run, run_len lo n]
theorem run_fresh (lo : Int) (n : Nat) : (run lo n).any (fun q => q.1 == lo + n) = false := by
  rw [List.any_eq_false]
  intro q hq
  obtain ⟨a, ha, rfl⟩ := (run_mem lo n q).1 hq
  simp
  omega
theorem run_put (lo : Int) (n : Nat) : putS (run lo n) (lo + n) (lo + n) = run lo (n + 1) := by
  unfold putS
  rw [filter_absent (run_fresh lo n), ins_last]
  · rfl
  · intro q hq
    obtain ⟨a, ha, rfl⟩ := (run_mem lo n q).1 hq
    unfold lt
    simp
    omega
theorem run_cons (lo : Int) : ∀ n, run lo (n + 1) = (lo, lo) :: run (lo + 1) n
  | 0 => by simp [run]
  | n + 1 => by
    rw [run, run_cons lo n, run]
    simp
    omega
end Go.Proofs.Ytelcaeapflhadaa.Rf
