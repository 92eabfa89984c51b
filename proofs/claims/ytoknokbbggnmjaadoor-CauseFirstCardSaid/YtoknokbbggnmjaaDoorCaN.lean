/-
  CauseFirst: what Join hands back of some errors, and what stands in it.
-/
import Derived.Test.YtoknokbbggnmjaaDoorCaL
import Derived.Test.YtoknokbbggnmjaaDoorCaM
namespace Go.Proofs.YtoknokbbggnmjaaDoor.Ca
set_option linter.unusedSimpArgs false
open Go Go.RowKit Go.Sl Go.Extern.Stop Go.Stop Go.Extern
set_option linter.unusedVariables false

/-- An Errno, or one on a node. -/
def One (c k : Int) (e : ET) : Prop := e = .code c ∨ ∃ b, e = .on b k (.code c)
theorem One.code1 {c k : Int} {e : ET} (h : One c k e) : Ca.code1 e = some c := by
  rcases h with rfl | ⟨b, rfl⟩ <;> rfl
theorem One.has {c k : Int} {e : ET} (h : One c k e) : hasC c e = true := by
  rcases h with rfl | ⟨b, rfl⟩
  · unfold hasC; simp
  · unfold hasC hasC; simp
theorem hasL_mem {m : Int} : ∀ {es : List ET} {e : ET}, e ∈ es → hasC m e = true → hasL m es = true
  | [], e, h, _ => by cases h
  | x :: es, e, h, hc => by
    unfold hasL
    rcases List.mem_cons.1 h with rfl | h
    · rw [hc, Bool.true_or]
    · rw [hasL_mem h hc, Bool.or_true]
theorem hasPL_mem {tb : Nat} : ∀ {es : List ET} {e : ET}, e ∈ es → hasP tb e = true → hasPL tb es = true
  | [], e, h, _ => by cases h
  | x :: es, e, h, hc => by
    unfold hasPL
    rcases List.mem_cons.1 h with rfl | h
    · rw [hc, Bool.true_or]
    · rw [hasPL_mem h hc, Bool.or_true]

/-- Join of some: what stands in it stood in one of them; its code is the first one's. -/
theorem join_first (W w : World) (L T : List Atom) (v : Value) (e0 : ET) (es : List ET) (hs : Sat W w L) (hrow : InRow L v ((e0 :: es).map val)) (hin : InL T (e0 :: es)) (c0 : Int) (h0 : code1 e0 = some c0) :
    Calls Tryd.prog 12 #[v] w fun r w' => ∃ e' N, r = .returned (val e') ∧ In (N ++ T) e' ∧ code1 e' = some c0 ∧ (∀ m, hasC m e' = hasL m (e0 :: es)) ∧ (∀ b, hasP b e' = hasPL b (e0 :: es)) ∧ Sat W w' (N ++ L) := by
  refine (join_any W w L v ((e0 :: es).map some) hs (by rw [map_some]; exact hrow)).mono ?_
  intro r w' h
  rw [filter_some] at h
  rcases es with _ | ⟨e2, es⟩
  · obtain ⟨h1, h2⟩ := h
    refine ⟨e0, [], h1, hin.mem e0 (List.mem_cons_self ..), h0, fun m => ?_, fun b => ?_, h2⟩
    · simp [hasL]
    · simp [hasPL]
  · obtain ⟨b, v', R, h1, h2, h3⟩ := h
    refine ⟨_, cellsA b #[v'] 60 :: R, h1, In.all' (List.mem_append_left _ (List.mem_cons_self ..)) ⟨by simpa using hrow.1, R, by simpa using h2, fun x hx => List.mem_append_left _ (List.mem_cons_of_mem _ hx)⟩ (hin.mono fun x hx => List.mem_append_right _ hx), ?_, fun m => by rw [hasC], fun b => by rw [hasP], h3⟩
    unfold code1 codeL
    rw [h0]
end Go.Proofs.YtoknokbbggnmjaaDoor.Ca
