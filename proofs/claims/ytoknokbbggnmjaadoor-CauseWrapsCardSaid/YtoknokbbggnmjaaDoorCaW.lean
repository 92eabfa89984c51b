/-
  Chapter 1's laws: the call of Error() of an error that is not known; Code of nil.
-/
import Derived.Test.YtoknokbbggnmjaaDoorCaT
import Derived.Test.YtoknokbbggnmjaaDoorCaE
namespace Go.Proofs.YtoknokbbggnmjaaDoor.Ca
set_option linter.unusedSimpArgs false
open Go Go.RowKit Go.Sl Go.Extern.Stop Go.Stop Go.Extern
set_option linter.unusedVariables false

theorem error_any (e : ET) (hd : Digs e) (hl : (textE e).length < 100000) (W w : World) (T F : List Atom) (hin : In T e) (hs : Sat W w (T ++ F)) :
    Calls Tryd.prog (errF e) #[recvE e] w fun r w' => r = .returned (str (textE e)) ∧ Sat W w' (T ++ F) :=
  error_step e.size (text_any e.size) e (by omega) hd hl W w T F hin hs

theorem call_code_error (v : Value) (w : World) : (callMethod (.iface 29 v) "Error" #[]).run Tryd.prog w = .ok (.enter 59 #[v]) w := by kernel_rfl
theorem call_other_error (v : Value) (w : World) : (callMethod (.iface 89 v) "Error" #[]).run Tryd.prog w = .ok (.enter 83 #[v]) w := by kernel_rfl
theorem call_on_error (v : Value) (w : World) : (callMethod (.iface 46 v) "Error" #[]).run Tryd.prog w = .ok (.enter 60 #[v]) w := by kernel_rfl
theorem call_of_error (v : Value) (w : World) : (callMethod (.iface 47 v) "Error" #[]).run Tryd.prog w = .ok (.enter 76 #[v]) w := by kernel_rfl
theorem call_all_error (v : Value) (w : World) : (callMethod (.iface 58 v) "Error" #[]).run Tryd.prog w = .ok (.enter 23 #[v]) w := by kernel_rfl
theorem exec_error (e : ET) {x : Operand} {o : Oper} {a : Act} {w : World} (ho : o.op = .call { callee := .invoke x "Error", args := #[], argTypes := #[] }) (hx : a.eval x = val e) :
    (execOp a.eval o).run Tryd.prog w = .ok (.enter (errF e) #[recvE e]) w := by
  have m1 := call_code_error
  have m2 := call_other_error
  have m3 := call_on_error
  have m4 := call_of_error
  have m5 := call_all_error
  cases e <;> simp [execOp, ho, resolve, invoke, hx, val, errF, recvE, m1, m2, m3, m4, m5]
theorem wp_error (e : ET) {x : Operand} {o : Oper} {a : Act} {w : World} {K : Act → World → Prop} {Q : Exit → Act → World → Prop} {X : World → Prop} (ho : o.op = .call { callee := .invoke x "Error", args := #[], argTypes := #[] }) (hx : a.eval x = val e)
    (hc : Calls Tryd.prog (errF e) #[recvE e] w fun r w' => r = .returned (str (textE e)) ∧ X w') (h : ∀ w', X w' → K (a.put o.dst (str (textE e))) w') : o.wp Tryd.prog a w K Q := by
  unfold Oper.wp
  rw [exec_error e ho hx]
  refine hc.mono ?_
  rintro r w' ⟨rfl, hX⟩
  exact h w' hX

theorem code_nil (w : World) : Calls Tryd.prog 16 #[.nilIface] w fun r w' => r = .returned (.int .i64 0) ∧ w = w' := by
  go_enter Tryd.func16, Tryd.ntmps16
  go_wp2_with fail
  go_ret
  exact ⟨rfl, rfl⟩
theorem at_nil (n : Int) (w : World) : Calls Tryd.prog 10 #[.int .i64 n, .nilIface] w fun r w' => r = .returned .nilIface ∧ w = w' := by
  go_enter Tryd.func10, Tryd.ntmps10
  go_wp2_with fail
  go_ret
  exact ⟨rfl, rfl⟩
theorem of_nil (n : Int) (w : World) : Calls Tryd.prog 11 #[.int .i64 n, .nilIface] w fun r w' => r = .returned .nilIface ∧ w = w' := by
  go_enter Tryd.func11, Tryd.ntmps11
  go_wp2_with fail
  go_ret
  exact ⟨rfl, rfl⟩
theorem val_cells (e : ET) : (val e).cells = #[val e] := by cases e <;> rfl
end Go.Proofs.YtoknokbbggnmjaaDoor.Ca
