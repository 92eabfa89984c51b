/-
  NARROWER THAN 'FOR EVERY INPUT', by the rows' own cells (each row's printed sentence says how): CauseNodes: laid · CauseFirst: laid · CauseWraps: laid · CauseKnown: laid · CauseTells: laid.
  DERIVED. THE GIVEN ROWS OF THIS SEAT. 5 by the template 'for every input the law returns true; each argument reads behind the call as it read before'; 0 by the template 'total and deterministic' (their statements: YtoknokbbggnmjaaDoorTotals.lean).
  GIVEN WITH THE SEED: the statements are not yours to turn. If you find one false, say at which input.
  Laid BY PROGRAM, IN A SANDBOX (cutbox-rows.mjs): the forced cells as the released guide's own fill.sh prints them over the translation c0b7f3b75dd0aa52… (all of the seat's roots in one cut). By AI agents, Wed Nov 11 2026. No macro, syntax, notation, axiom, sorry.
-/
import Derived.Test.YtoknokbbggnmjaaDoorChecked
import GoSem.Claim
import GoSem.ClaimJoined
import GoSem.ClaimMapViews
import Derived.JoinedTies
import Derived.KernelRfl
namespace Go.Proofs.YtoknokbbggnmjaaDoor
/- THE CELL 'sum', in the pinned program and in every row, IS THE sha256 OF THE DUMP (.gsa) THAT YtoknokbbggnmjaaDoorProg.lean LOADS. Nothing in Lean hashes anything: it is a label: what it is worth is what the hold of that sum in a sandbox is worth. -/
noncomputable def Tryd.pinned : Pinned := { name := "ytoknokbbggnmjaadoor", sum := "c0b7f3b75dd0aa522477bc9f21616328a567228aff3e544d27e84464eee24fdd", checked := Tryd.checked }
namespace Rows
def none {H : Type} : Left H := { results := [], args := [] }

/- WHAT THE LISTED PACKAGE-LEVEL VARIABLES READ AS WHEN THE CALL BEGINS. Each datum BY PROGRAM (the guide's laid-datum.mjs) off the statement by which the dump's own 'gosem.cut.vars' lays the variable. In a bare row this is a premise. The card (YtoknokbbggnmjaaDoorCards.lean) ties it to the program's text. -/
def laid_errors_errorType {H : Type} : DataW H := .iface "internal/reflectlite.rtype" (.agg [.ptr (.lit (.string [101, 114, 114, 111, 114]))])

/-- 'corbellaw1.CauseNodes': WHATEVER THE INPUT: true; the input reads as it did. -/
def causeNodesSpec : ChangeSpec := { name := "causeNodes", fn := fun _ => fun
  | [d1, d2, d3] => { results := [.lit (.bool true)], args := [d1, d2, d3] }
  | _ => none }
def causeNodesRow : OpenClaim := { program := "ytoknokbbggnmjaadoor", sum := "c0b7f3b75dd0aa522477bc9f21616328a567228aff3e544d27e84464eee24fdd", func := "corbel/corbellaw1.CauseNodes", spec := "causeNodes", inPlace := ["internal/reflectlite.ValueOf", "(internal/reflectlite.Value).Type", "(internal/reflectlite.Value).IsNil", "internal/reflectlite.TypeOf", "(internal/reflectlite.Value).Elem", "(internal/reflectlite.Value).Set"], unfollowed := true, recurses := true, named := ["errors.errorType"], apart := false, laid := [("errors.errorType", laid_errors_errorType)] }
def CauseNodesSaid : Prop := causeNodesRow.holds Tryd.pinned (OpenSpec.ofChange causeNodesSpec)

/-- ITS FALSE NEIGHBOUR: 'it returns false'. Refute it at one input. -/
def causeNodesWrong : ChangeSpec := { name := "causeNodes", fn := fun _ => fun
  | [d1, d2, d3] => { results := [.lit (.bool false)], args := [d1, d2, d3] }
  | _ => none }
def CauseNodesWrongFalsely : Prop := causeNodesRow.holds Tryd.pinned (OpenSpec.ofChange causeNodesWrong)

/-- 'corbellaw1.CauseFirst': WHATEVER THE INPUT: true; the input reads as it did. -/
def causeFirstSpec : ChangeSpec := { name := "causeFirst", fn := fun _ => fun
  | [d1, d2] => { results := [.lit (.bool true)], args := [d1, d2] }
  | _ => none }
def causeFirstRow : OpenClaim := { program := "ytoknokbbggnmjaadoor", sum := "c0b7f3b75dd0aa522477bc9f21616328a567228aff3e544d27e84464eee24fdd", func := "corbel/corbellaw1.CauseFirst", spec := "causeFirst", inPlace := ["internal/reflectlite.ValueOf", "(internal/reflectlite.Value).Type", "(internal/reflectlite.Value).IsNil", "internal/reflectlite.TypeOf", "(internal/reflectlite.Value).Elem", "(internal/reflectlite.Value).Set"], unfollowed := true, recurses := true, named := ["errors.errorType"], apart := false, laid := [("errors.errorType", laid_errors_errorType)] }
def CauseFirstSaid : Prop := causeFirstRow.holds Tryd.pinned (OpenSpec.ofChange causeFirstSpec)

/-- ITS FALSE NEIGHBOUR: 'it returns false'. Refute it at one input. -/
def causeFirstWrong : ChangeSpec := { name := "causeFirst", fn := fun _ => fun
  | [d1, d2] => { results := [.lit (.bool false)], args := [d1, d2] }
  | _ => none }
def CauseFirstWrongFalsely : Prop := causeFirstRow.holds Tryd.pinned (OpenSpec.ofChange causeFirstWrong)

/-- 'corbellaw1.CauseWraps': WHATEVER THE INPUT: true; the input reads as it did. -/
def causeWrapsSpec : ChangeSpec := { name := "causeWraps", fn := fun _ => fun
  | [d1, d2, d3] => { results := [.lit (.bool true)], args := [d1, d2, d3] }
  | _ => none }
def causeWrapsRow : OpenClaim := { program := "ytoknokbbggnmjaadoor", sum := "c0b7f3b75dd0aa522477bc9f21616328a567228aff3e544d27e84464eee24fdd", func := "corbel/corbellaw1.CauseWraps", spec := "causeWraps", inPlace := ["internal/reflectlite.ValueOf", "(internal/reflectlite.Value).Type", "(internal/reflectlite.Value).IsNil", "internal/reflectlite.TypeOf", "(internal/reflectlite.Value).Elem", "(internal/reflectlite.Value).Set"], unfollowed := true, recurses := true, named := ["errors.errorType"], apart := false, laid := [("errors.errorType", laid_errors_errorType)] }
def CauseWrapsSaid : Prop := causeWrapsRow.holds Tryd.pinned (OpenSpec.ofChange causeWrapsSpec)

/-- ITS FALSE NEIGHBOUR: 'it returns false'. Refute it at one input. -/
def causeWrapsWrong : ChangeSpec := { name := "causeWraps", fn := fun _ => fun
  | [d1, d2, d3] => { results := [.lit (.bool false)], args := [d1, d2, d3] }
  | _ => none }
def CauseWrapsWrongFalsely : Prop := causeWrapsRow.holds Tryd.pinned (OpenSpec.ofChange causeWrapsWrong)

/-- 'corbellaw1.CauseKnown': WHATEVER THE INPUT: true; the input reads as it did. -/
def causeKnownSpec : ChangeSpec := { name := "causeKnown", fn := fun _ => fun
  | [] => { results := [.lit (.bool true)], args := [] }
  | _ => none }
def causeKnownRow : OpenClaim := { program := "ytoknokbbggnmjaadoor", sum := "c0b7f3b75dd0aa522477bc9f21616328a567228aff3e544d27e84464eee24fdd", func := "corbel/corbellaw1.CauseKnown", spec := "causeKnown", inPlace := ["internal/reflectlite.ValueOf", "(internal/reflectlite.Value).Type", "(internal/reflectlite.Value).IsNil", "internal/reflectlite.TypeOf", "(internal/reflectlite.Value).Elem", "(internal/reflectlite.Value).Set", "internal/abi.NoEscape", "internal/bytealg.MakeNoZero"], unfollowed := true, recurses := true, named := ["errors.errorType"], apart := false, laid := [("errors.errorType", laid_errors_errorType)] }
def CauseKnownSaid : Prop := causeKnownRow.holds Tryd.pinned (OpenSpec.ofChange causeKnownSpec)

/-- ITS FALSE NEIGHBOUR: 'it returns false'. Refute it at one input. -/
def causeKnownWrong : ChangeSpec := { name := "causeKnown", fn := fun _ => fun
  | [] => { results := [.lit (.bool false)], args := [] }
  | _ => none }
def CauseKnownWrongFalsely : Prop := causeKnownRow.holds Tryd.pinned (OpenSpec.ofChange causeKnownWrong)

/-- 'corbellaw1.CauseTells': WHATEVER THE INPUT: true; the input reads as it did. -/
def causeTellsSpec : ChangeSpec := { name := "causeTells", fn := fun _ => fun
  | [d1, d2] => { results := [.lit (.bool true)], args := [d1, d2] }
  | _ => none }
def causeTellsRow : OpenClaim := { program := "ytoknokbbggnmjaadoor", sum := "c0b7f3b75dd0aa522477bc9f21616328a567228aff3e544d27e84464eee24fdd", func := "corbel/corbellaw1.CauseTells", spec := "causeTells", inPlace := ["internal/reflectlite.ValueOf", "(internal/reflectlite.Value).Type", "(internal/reflectlite.Value).IsNil", "internal/reflectlite.TypeOf", "(internal/reflectlite.Value).Elem", "(internal/reflectlite.Value).Set"], unfollowed := true, recurses := true, named := ["errors.errorType"], apart := false, laid := [("errors.errorType", laid_errors_errorType)] }
def CauseTellsSaid : Prop := causeTellsRow.holds Tryd.pinned (OpenSpec.ofChange causeTellsSpec)

/-- ITS FALSE NEIGHBOUR: 'it returns false'. Refute it at one input. -/
def causeTellsWrong : ChangeSpec := { name := "causeTells", fn := fun _ => fun
  | [d1, d2] => { results := [.lit (.bool false)], args := [d1, d2] }
  | _ => none }
def CauseTellsWrongFalsely : Prop := causeTellsRow.holds Tryd.pinned (OpenSpec.ofChange causeTellsWrong)

/- THE SECOND FORM. 'bulk': how many values and letters a reading holds, each counted each time it is reached (what is shared counts as often as it is met; a slice's spare places count too). A statement '..UptoSaid' is the law's where the arguments, and the package variables that the reading takes, are together of bulk at most 1048576: NARROWER than '..Said'. Prove '..Said' where nothing that the law and all that it calls make is longer than what came in: it says more and counts as full. Else prove '..UptoSaid'. A law counts once. -/
mutual
def uptoBulk {H : Type} : DataW H → Nat
  | .lit (.string bytes) => bytes.length + 1
  | .lit _ => 1
  | .nil => 1
  | .ptr d => uptoBulk d + 1
  | .slice elems spare => uptoBulkAll elems + uptoBulkAll spare + 1
  | .agg parts => uptoBulkAll parts + 1
  | .iface _ d => uptoBulk d + 1
  | .map entries => uptoBulkEntries entries + 1
  | .held _ => 1
def uptoBulkAll {H : Type} : List (DataW H) → Nat
  | [] => 0
  | d :: r => uptoBulk d + uptoBulkAll r
def uptoBulkEntries {H : Type} : List (Lit × DataW H) → Nat
  | [] => 0
  | x :: r => uptoBulkEntry x + uptoBulkEntries r
def uptoBulkEntry {H : Type} : Lit × DataW H → Nat
  | (.string bytes, d) => bytes.length + uptoBulk d + 1
  | (_, d) => uptoBulk d + 1
 end
def uptoSmall : (H : Type) → List (DataW H) → Bool := fun _ ds => decide (uptoBulkAll ds ≤ 1048576)
def OpenSpec.upto (s : _root_.Go.ChangeSpec) : _root_.Go.OpenSpec := { _root_.Go.OpenSpec.ofChange s with cond := some uptoSmall }

/-- 'corbellaw1.CauseNodes', WHERE WHAT IT READS IS OF BULK AT MOST 1048576: true; the input reads as it did. -/
def causeNodesUptoRow : OpenClaim := { program := "ytoknokbbggnmjaadoor", sum := "c0b7f3b75dd0aa522477bc9f21616328a567228aff3e544d27e84464eee24fdd", func := "corbel/corbellaw1.CauseNodes", spec := "causeNodes", inPlace := ["internal/reflectlite.ValueOf", "(internal/reflectlite.Value).Type", "(internal/reflectlite.Value).IsNil", "internal/reflectlite.TypeOf", "(internal/reflectlite.Value).Elem", "(internal/reflectlite.Value).Set"], unfollowed := true, recurses := true, named := ["errors.errorType"], apart := false, laid := [("errors.errorType", laid_errors_errorType)], narrowed := true }
def CauseNodesUptoSaid : Prop := causeNodesUptoRow.holds Tryd.pinned (OpenSpec.upto causeNodesSpec)

/-- 'corbellaw1.CauseFirst', WHERE WHAT IT READS IS OF BULK AT MOST 1048576: true; the input reads as it did. -/
def causeFirstUptoRow : OpenClaim := { program := "ytoknokbbggnmjaadoor", sum := "c0b7f3b75dd0aa522477bc9f21616328a567228aff3e544d27e84464eee24fdd", func := "corbel/corbellaw1.CauseFirst", spec := "causeFirst", inPlace := ["internal/reflectlite.ValueOf", "(internal/reflectlite.Value).Type", "(internal/reflectlite.Value).IsNil", "internal/reflectlite.TypeOf", "(internal/reflectlite.Value).Elem", "(internal/reflectlite.Value).Set"], unfollowed := true, recurses := true, named := ["errors.errorType"], apart := false, laid := [("errors.errorType", laid_errors_errorType)], narrowed := true }
def CauseFirstUptoSaid : Prop := causeFirstUptoRow.holds Tryd.pinned (OpenSpec.upto causeFirstSpec)

/-- 'corbellaw1.CauseWraps', WHERE WHAT IT READS IS OF BULK AT MOST 1048576: true; the input reads as it did. -/
def causeWrapsUptoRow : OpenClaim := { program := "ytoknokbbggnmjaadoor", sum := "c0b7f3b75dd0aa522477bc9f21616328a567228aff3e544d27e84464eee24fdd", func := "corbel/corbellaw1.CauseWraps", spec := "causeWraps", inPlace := ["internal/reflectlite.ValueOf", "(internal/reflectlite.Value).Type", "(internal/reflectlite.Value).IsNil", "internal/reflectlite.TypeOf", "(internal/reflectlite.Value).Elem", "(internal/reflectlite.Value).Set"], unfollowed := true, recurses := true, named := ["errors.errorType"], apart := false, laid := [("errors.errorType", laid_errors_errorType)], narrowed := true }
def CauseWrapsUptoSaid : Prop := causeWrapsUptoRow.holds Tryd.pinned (OpenSpec.upto causeWrapsSpec)

/-- 'corbellaw1.CauseKnown', WHERE WHAT IT READS IS OF BULK AT MOST 1048576: true; the input reads as it did. -/
def causeKnownUptoRow : OpenClaim := { program := "ytoknokbbggnmjaadoor", sum := "c0b7f3b75dd0aa522477bc9f21616328a567228aff3e544d27e84464eee24fdd", func := "corbel/corbellaw1.CauseKnown", spec := "causeKnown", inPlace := ["internal/reflectlite.ValueOf", "(internal/reflectlite.Value).Type", "(internal/reflectlite.Value).IsNil", "internal/reflectlite.TypeOf", "(internal/reflectlite.Value).Elem", "(internal/reflectlite.Value).Set", "internal/abi.NoEscape", "internal/bytealg.MakeNoZero"], unfollowed := true, recurses := true, named := ["errors.errorType"], apart := false, laid := [("errors.errorType", laid_errors_errorType)], narrowed := true }
def CauseKnownUptoSaid : Prop := causeKnownUptoRow.holds Tryd.pinned (OpenSpec.upto causeKnownSpec)

/-- 'corbellaw1.CauseTells', WHERE WHAT IT READS IS OF BULK AT MOST 1048576: true; the input reads as it did. -/
def causeTellsUptoRow : OpenClaim := { program := "ytoknokbbggnmjaadoor", sum := "c0b7f3b75dd0aa522477bc9f21616328a567228aff3e544d27e84464eee24fdd", func := "corbel/corbellaw1.CauseTells", spec := "causeTells", inPlace := ["internal/reflectlite.ValueOf", "(internal/reflectlite.Value).Type", "(internal/reflectlite.Value).IsNil", "internal/reflectlite.TypeOf", "(internal/reflectlite.Value).Elem", "(internal/reflectlite.Value).Set"], unfollowed := true, recurses := true, named := ["errors.errorType"], apart := false, laid := [("errors.errorType", laid_errors_errorType)], narrowed := true }
def CauseTellsUptoSaid : Prop := causeTellsUptoRow.holds Tryd.pinned (OpenSpec.upto causeTellsSpec)

end Rows
end Go.Proofs.YtoknokbbggnmjaaDoor
