/-
  cause.Stripe.
-/
import Derived.Test.YtoknokbbggnmjaaDoorCaH
namespace Go.Proofs.YtoknokbbggnmjaaDoor.Ca
set_option linter.unusedSimpArgs false
open Go Go.RowKit Go.Sl Go.Extern.Stop Go.Stop Go.Extern
set_option linter.unusedVariables false

def stripeN : Option (Nat × Int) → Int
  | none => 0
  | some p => p.2

set_option maxRecDepth 100000 in
theorem stripe_any (e : ET) (W w : World) (T F : List Atom) (hin : In T e) (hG : ErrT w) (hs : Sat W w (T ++ F)) :
    Calls Tryd.prog 13 #[val e] w fun r w' => r = .returned (.tuple #[.int .i64 (stripeN (of1 e)), .bool (of1 e).isSome]) ∧ Sat W w' (T ++ F) := by
  have u4 := val_nil e
  have u5 := guard_nil e
  have hs1 := hs.newCells #[.pointer none] 47
  have hG1 : ErrT (w.alloc (.cells #[.pointer none] 47)) := by
    unfold ErrT at hG ⊢
    exact cell?_alloc_some' _ hG
  clear hG hs
  go_enter Tryd.func13, Tryd.ntmps13
  go_wp2_with fail
  refine (As_of e W _ T F w.heap.size (.pointer none) hin hG1 hs1).mono ?_; rintro r w2 ⟨rfl, hs2⟩
  cases hc : of1 e with
  | none =>
    have HC := Lib.hid hc
    clear hc
    go_wp2_with fail
    go_ret2
    exact ⟨by simp [stripeN, HC.out], hs2.tail⟩
  | some p =>
    obtain ⟨b, s⟩ := p
    rw [hc] at hs2
    obtain ⟨v, hm⟩ := of1_in hin hc
    have c0 : w2.cell? ⟨w.heap.size, 0, none⟩ = some (.pointer (some ⟨b, 0, none⟩)) := hs2.cell m0 0
    have c1 : w2.cell? ⟨b, 0, none⟩ = some (.int .i64 s) := hs2.cell (List.mem_cons_of_mem _ (List.mem_append_left _ hm)) 0
    have HC := Lib.hid hc
    clear hc
    go_wp2_with fail
    go_ret2
    exact ⟨by simp [stripeN, HC.out], hs2.tail⟩
end Go.Proofs.YtoknokbbggnmjaaDoor.Ca
