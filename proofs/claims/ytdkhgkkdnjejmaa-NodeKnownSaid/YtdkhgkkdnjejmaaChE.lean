/-
  slices.Clone and slices.Equal at bytes.
-/
import Derived.Test.YtdkhgkkdnjejmaaChD
import Derived.Lib.SliceRun
namespace Go.Proofs.Ytdkhgkkdnjejmaa.Ch
set_option linter.unusedSimpArgs false
open Go Go.RowKit Go.Sl Go.BigFrame
set_option linter.unusedVariables false

theorem none_row (n : Nat) : RowA 5 1 (.slice (some ⟨n, 0, none⟩) 0 0) ([] : List UInt8).length (bts []) [(n, rowP 5 0 (0 * 1) [])] :=
  ⟨rfl, .inr ⟨_, _, _, rfl, Nat.le_refl _, Nat.zero_le _, rfl⟩⟩
theorem none_sat {W w : World} {L : List Atom} (hs : Sat W w L) : Sat W (w.alloc (.cells #[] 5)) ([(w.heap.size, rowP 5 0 (0 * 1) [])] ++ L) :=
  hs.new (.cells #[] 5) ⟨#[], rfl, by simp, by simp, by simp⟩

set_option maxRecDepth 100000 in
set_option maxHeartbeats 2000000 in
theorem clone_any (v : Value) (l : List UInt8) (W w : World) (L : List Atom) (hr : Reads w v l.length (bts l)) (hl : l.length < 1000000) (hs : Sat W w L) :
    Calls Try.prog 61 #[v] w fun e w' => ∃ v' R, e = .returned v' ∧ RowA 5 1 v' l.length (bts l) R ∧ Sat W w' (R ++ L) := by
  have q32 : ∀ (w : World) (a : Option Addr) (n c n' c' : Nat), (binOp .eql 32 (.slice a n c) (.slice none n' c')).run Try.prog w = .ok (.bool a.isNone) w := fun w a n c n' c' => Go.Lib.run_eql_slice_nil w _ _ a n c n' c' Try.underlying32
  rcases hr with ⟨rfl, h2, h3⟩ | ⟨a, c, rfl, hc⟩
  · have : l = [] := List.length_eq_zero_iff.1 h2
    subst this
    go_enter Try.func61, Try.ntmps61
    go_wp2_with fail
    go_ret
    exact ⟨_, _, rfl, RowA.nil _ _, hs⟩
  · have hr : Reads w (.slice (some a) l.length c) l.length (bts l) := .inr ⟨_, _, rfl, hc⟩
    have hr0 := hr.grown ((Below.refl _ w).alloc (Nat.le_refl _) (.cells #[] 5))
    clear hc hr
    go_enter Try.func61, Try.ntmps61
    go_wp2_with (at_builtin; refine wpList_plain rfl (fun K hK => ?_); refine wp_append_u8 rfl [] l rfl rfl (none_row _) (none_sat hs) hr0 (by simp; omega) (fun v2 w3 R2 hr2 hs3 => ?_); refine hK _ _ ?_; simp only [Act.put, List.setIfInBounds_toArray, List.set_cons_zero, List.set_cons_succ]; clear hK)
    go_ret
    exact ⟨v2, R2, rfl, hr2, hs3⟩
end Go.Proofs.Ytdkhgkkdnjejmaa.Ch
