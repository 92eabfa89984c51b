
/-
  Chapter 12's laws: what the rows share: errors.errorType as the text lays it.
-/
import Derived.Test.YtekbbpfnkbanjaaGreatDoorRows
import Derived.Test.YtekbbpfnkbanjaaGreatDoorMH
import Derived.Deep.Slices
import Derived.Deep.Fields
import Derived.ProofKit
import Derived.WalkKit
import Derived.ChangeSame
import Derived.ChangeVars
import Derived.JoinedOf
import Derived.RowKit
import Derived.RowKitTokens
import Derived.LaidLaws
import Derived.LaidHandle
import Derived.Stop.Joined
import Derived.SevenTiedAt
namespace Go.Proofs.YtekbbpfnkbanjaaGreatDoor.CaR
set_option linter.unusedSimpArgs false
open Go Go.ChangeShapes Go.WideShapes Go.ChangeAt Go.RowKit
set_option linter.unusedVariables false

theorem own : ownKnob Tryz.prog.godebug = none := by kernel_rfl
theorem laidOut : laidOutB Tryz.prog = true := by kernel_rfl
theorem et : Tryz.prog.globalNamed "errors.errorType" = some 0 := by kernel_rfl
theorem rt : (Tryz.prog.cutTypes.find? (·.1 == "internal/reflectlite.rtype")).map (·.2) = some 125 := by kernel_rfl
theorem oneRow : ((List.range 214).filter fun t => Tryz.prog.rowNamed t [101, 114, 114, 111, 114]) = [40] := by kernel_rfl
theorem size : Tryz.prog.types.size = 214 := by kernel_rfl
abbrev laidL : List (String × DataW Unit) := [("errors.errorType", Rows.laid_errors_errorType)]

theorem handle_of_laid {W : World} (h : laidMetH Tryz.prog laidL W) : Ca.ErrT W := by
  have h' : laidMet Tryz.prog [] W ∧ handlesMet Tryz.prog laidL W := h
  obtain ⟨name, u, ty, e1, e2, e3, e4, e5⟩ := h'.2 _ (List.mem_singleton.2 rfl)
  have en : name = [101, 114, 114, 111, 114] := (Option.some.inj e1).symm
  subst en
  obtain rfl := Option.some.inj (rt.symm.trans e2)
  have hm : ty ∈ (List.range 214).filter fun t => Tryz.prog.rowNamed t [101, 114, 114, 111, 114] := List.mem_filter.2 ⟨List.mem_range.2 (by rw [← size]; exact e3), e4⟩
  rw [oneRow] at hm
  obtain rfl := List.mem_singleton.1 hm
  have hc := World.var?_cell et e5 0
  unfold Ca.ErrT
  have hh : typeHandle Tryz.prog 40 = Ca.H 40 := rfl
  rw [hh] at hc
  simpa using hc

/-- A world that meets the condition: the settled one, the variable's cell laid. -/
noncomputable def laidWorld (os : Os) : World :=
  let w0 := World.holding Tryz.prog os ⟨#[], #[], []⟩
  { w0 with heap := w0.heap.modify 0 fun
      | .cells _ t frozen => .cells #[.iface 125 (.agg #[.pointer (some ⟨Ca.gsz, 40, none⟩)])] t frozen
      | o => o }
theorem laidWorld_met (os : Os) (args : Array Value) : laidMetH Tryz.prog laidL ((laidWorld os).forCall (fun _ _ => 0) ⟨#[], args, []⟩).memory :=
  laidMetH_of_parts (laidMet_nil _ _) (by kernel_rfl)
end Go.Proofs.YtekbbpfnkbanjaaGreatDoor.CaR
