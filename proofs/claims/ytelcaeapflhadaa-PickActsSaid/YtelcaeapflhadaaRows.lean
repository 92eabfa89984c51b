/-
  No cell of these rows narrows 'for every input' (looked for: loops, veiled, ifaces, maps, wideKeys, modest, calm, conditions, laid).
  DERIVED. THE GIVEN ROWS OF THIS SEAT. 8 by the template 'for every input the law returns true; each argument reads behind the call as it read before'; 0 by the template 'total and deterministic' (their statements: YtelcaeapflhadaaTotals.lean).
  GIVEN WITH THE SEED: the statements are not yours to turn. If you find one false, say at which input.
  Laid BY PROGRAM, IN A SANDBOX (cutbox-rows.mjs): the forced cells as the released guide's own fill.sh prints them over the translation 80c45db4dda2dd36… (all of the seat's roots in one cut). By AI agents, Wed Nov 11 2026. No macro, syntax, notation, axiom, sorry.
-/
import Derived.Test.YtelcaeapflhadaaChecked
import GoSem.Claim
import GoSem.ClaimJoined
import GoSem.ClaimMapViews
import Derived.JoinedTies
import Derived.KernelRfl
namespace Go.Proofs.Ytelcaeapflhadaa
/- THE CELL 'sum', in the pinned program and in every row, IS THE sha256 OF THE DUMP (.gsa) THAT YtelcaeapflhadaaProg.lean LOADS. Nothing in Lean hashes anything: it is a label: what it is worth is what the hold of that sum in a sandbox is worth. -/
noncomputable def Try.pinned : Pinned := { name := "ytelcaeapflhadaa", sum := "80c45db4dda2dd365b53a3f41249ba2cf9258b0463581d11a2601cf940892277", checked := Try.checked }
namespace Rows
def none {H : Type} : Left H := { results := [], args := [] }

/-- 'corbellaw2.PickDrains': WHATEVER THE INPUT: true; the input reads as it did. -/
def pickDrainsSpec : ChangeSpec := { name := "pickDrains", fn := fun _ => fun
  | [d] => { results := [.lit (.bool true)], args := [d] }
  | _ => none }
def pickDrainsRow : OpenClaim := { program := "ytelcaeapflhadaa", sum := "80c45db4dda2dd365b53a3f41249ba2cf9258b0463581d11a2601cf940892277", func := "corbel/corbellaw2.PickDrains", spec := "pickDrains", unfollowed := true, recurses := true, apart := false }
def PickDrainsSaid : Prop := pickDrainsRow.holds Try.pinned (OpenSpec.ofChange pickDrainsSpec)

/-- ITS FALSE NEIGHBOUR: 'it returns false'. Refute it at one input. -/
def pickDrainsWrong : ChangeSpec := { name := "pickDrains", fn := fun _ => fun
  | [d] => { results := [.lit (.bool false)], args := [d] }
  | _ => none }
def PickDrainsWrongFalsely : Prop := pickDrainsRow.holds Try.pinned (OpenSpec.ofChange pickDrainsWrong)

/-- 'corbellaw2.PickMixed': WHATEVER THE INPUT: true; the input reads as it did. -/
def pickMixedSpec : ChangeSpec := { name := "pickMixed", fn := fun _ => fun
  | [d] => { results := [.lit (.bool true)], args := [d] }
  | _ => none }
def pickMixedRow : OpenClaim := { program := "ytelcaeapflhadaa", sum := "80c45db4dda2dd365b53a3f41249ba2cf9258b0463581d11a2601cf940892277", func := "corbel/corbellaw2.PickMixed", spec := "pickMixed", unfollowed := true, recurses := true, apart := false }
def PickMixedSaid : Prop := pickMixedRow.holds Try.pinned (OpenSpec.ofChange pickMixedSpec)

/-- ITS FALSE NEIGHBOUR: 'it returns false'. Refute it at one input. -/
def pickMixedWrong : ChangeSpec := { name := "pickMixed", fn := fun _ => fun
  | [d] => { results := [.lit (.bool false)], args := [d] }
  | _ => none }
def PickMixedWrongFalsely : Prop := pickMixedRow.holds Try.pinned (OpenSpec.ofChange pickMixedWrong)

/-- 'corbellaw16.RefsLowest': WHATEVER THE INPUT: true; the input reads as it did. -/
def refsLowestSpec : ChangeSpec := { name := "refsLowest", fn := fun _ => fun
  | [d1, d2, d3] => { results := [.lit (.bool true)], args := [d1, d2, d3] }
  | _ => none }
def refsLowestRow : OpenClaim := { program := "ytelcaeapflhadaa", sum := "80c45db4dda2dd365b53a3f41249ba2cf9258b0463581d11a2601cf940892277", func := "corbel/corbellaw16.RefsLowest", spec := "refsLowest", unfollowed := true, recurses := true, apart := false }
def RefsLowestSaid : Prop := refsLowestRow.holds Try.pinned (OpenSpec.ofChange refsLowestSpec)

/-- ITS FALSE NEIGHBOUR: 'it returns false'. Refute it at one input. -/
def refsLowestWrong : ChangeSpec := { name := "refsLowest", fn := fun _ => fun
  | [d1, d2, d3] => { results := [.lit (.bool false)], args := [d1, d2, d3] }
  | _ => none }
def RefsLowestWrongFalsely : Prop := refsLowestRow.holds Try.pinned (OpenSpec.ofChange refsLowestWrong)

/-- 'corbellaw16.RefsKnown': WHATEVER THE INPUT: true; the input reads as it did. -/
def refsKnownSpec : ChangeSpec := { name := "refsKnown", fn := fun _ => fun
  | [] => { results := [.lit (.bool true)], args := [] }
  | _ => none }
def refsKnownRow : OpenClaim := { program := "ytelcaeapflhadaa", sum := "80c45db4dda2dd365b53a3f41249ba2cf9258b0463581d11a2601cf940892277", func := "corbel/corbellaw16.RefsKnown", spec := "refsKnown", unfollowed := true, recurses := true, apart := false }
def RefsKnownSaid : Prop := refsKnownRow.holds Try.pinned (OpenSpec.ofChange refsKnownSpec)

/-- ITS FALSE NEIGHBOUR: 'it returns false'. Refute it at one input. -/
def refsKnownWrong : ChangeSpec := { name := "refsKnown", fn := fun _ => fun
  | [] => { results := [.lit (.bool false)], args := [] }
  | _ => none }
def RefsKnownWrongFalsely : Prop := refsKnownRow.holds Try.pinned (OpenSpec.ofChange refsKnownWrong)

/-- 'corbellaw16.RefsCounts': WHATEVER THE INPUT: true; the input reads as it did. -/
def refsCountsSpec : ChangeSpec := { name := "refsCounts", fn := fun _ => fun
  | [d] => { results := [.lit (.bool true)], args := [d] }
  | _ => none }
def refsCountsRow : OpenClaim := { program := "ytelcaeapflhadaa", sum := "80c45db4dda2dd365b53a3f41249ba2cf9258b0463581d11a2601cf940892277", func := "corbel/corbellaw16.RefsCounts", spec := "refsCounts", unfollowed := true, recurses := true, apart := false }
def RefsCountsSaid : Prop := refsCountsRow.holds Try.pinned (OpenSpec.ofChange refsCountsSpec)

/-- ITS FALSE NEIGHBOUR: 'it returns false'. Refute it at one input. -/
def refsCountsWrong : ChangeSpec := { name := "refsCounts", fn := fun _ => fun
  | [d] => { results := [.lit (.bool false)], args := [d] }
  | _ => none }
def RefsCountsWrongFalsely : Prop := refsCountsRow.holds Try.pinned (OpenSpec.ofChange refsCountsWrong)

/-- 'corbellaw2.PickChanges': WHATEVER THE INPUT: true; the input reads as it did. -/
def pickChangesSpec : ChangeSpec := { name := "pickChanges", fn := fun _ => fun
  | [d1, d2, d3] => { results := [.lit (.bool true)], args := [d1, d2, d3] }
  | _ => none }
def pickChangesRow : OpenClaim := { program := "ytelcaeapflhadaa", sum := "80c45db4dda2dd365b53a3f41249ba2cf9258b0463581d11a2601cf940892277", func := "corbel/corbellaw2.PickChanges", spec := "pickChanges", unfollowed := true, recurses := true, apart := false }
def PickChangesSaid : Prop := pickChangesRow.holds Try.pinned (OpenSpec.ofChange pickChangesSpec)

/-- ITS FALSE NEIGHBOUR: 'it returns false'. Refute it at one input. -/
def pickChangesWrong : ChangeSpec := { name := "pickChanges", fn := fun _ => fun
  | [d1, d2, d3] => { results := [.lit (.bool false)], args := [d1, d2, d3] }
  | _ => none }
def PickChangesWrongFalsely : Prop := pickChangesRow.holds Try.pinned (OpenSpec.ofChange pickChangesWrong)

/-- 'corbellaw2.PickKnown': WHATEVER THE INPUT: true; the input reads as it did. -/
def pickKnownSpec : ChangeSpec := { name := "pickKnown", fn := fun _ => fun
  | [] => { results := [.lit (.bool true)], args := [] }
  | _ => none }
def pickKnownRow : OpenClaim := { program := "ytelcaeapflhadaa", sum := "80c45db4dda2dd365b53a3f41249ba2cf9258b0463581d11a2601cf940892277", func := "corbel/corbellaw2.PickKnown", spec := "pickKnown", unfollowed := true, recurses := true, apart := false }
def PickKnownSaid : Prop := pickKnownRow.holds Try.pinned (OpenSpec.ofChange pickKnownSpec)

/-- ITS FALSE NEIGHBOUR: 'it returns false'. Refute it at one input. -/
def pickKnownWrong : ChangeSpec := { name := "pickKnown", fn := fun _ => fun
  | [] => { results := [.lit (.bool false)], args := [] }
  | _ => none }
def PickKnownWrongFalsely : Prop := pickKnownRow.holds Try.pinned (OpenSpec.ofChange pickKnownWrong)

/-- 'corbellaw2.PickActs': WHATEVER THE INPUT: true; the input reads as it did. -/
def pickActsSpec : ChangeSpec := { name := "pickActs", fn := fun _ => fun
  | [d1, d2] => { results := [.lit (.bool true)], args := [d1, d2] }
  | _ => none }
def pickActsRow : OpenClaim := { program := "ytelcaeapflhadaa", sum := "80c45db4dda2dd365b53a3f41249ba2cf9258b0463581d11a2601cf940892277", func := "corbel/corbellaw2.PickActs", spec := "pickActs", unfollowed := true, recurses := true, apart := false }
def PickActsSaid : Prop := pickActsRow.holds Try.pinned (OpenSpec.ofChange pickActsSpec)

/-- ITS FALSE NEIGHBOUR: 'it returns false'. Refute it at one input. -/
def pickActsWrong : ChangeSpec := { name := "pickActs", fn := fun _ => fun
  | [d1, d2] => { results := [.lit (.bool false)], args := [d1, d2] }
  | _ => none }
def PickActsWrongFalsely : Prop := pickActsRow.holds Try.pinned (OpenSpec.ofChange pickActsWrong)

/- THE SECOND FORM. 'bulk': how many values and letters a reading holds, each counted each time it is reached (what is shared counts as often as it is met; a slice's spare places count too). A statement '..UptoSaid' is the law's where the arguments, and the package variables that the reading takes, are together of bulk at most 1048576: NARROWER than '..Said'. Prove '..Said' where nothing that the law and all that it calls make is longer than what came in: it says more and counts as full. Else prove '..UptoSaid'. A law counts once. -/
mutual
def uptoBulk {H : Type} : DataW H → Nat
  | .lit (.string bytes) => bytes.length + 1
  | .lit _ => 1
  | .nil => 1
  | .ptr d => uptoBulk d + 1
  | .slice elems spare => uptoBulkAll elems + uptoBulkAll spare + 1
  | .agg parts => uptoBulkAll parts + 1
  | .iface _ d => uptoBulk d + 1
  | .map entries => uptoBulkEntries entries + 1
  | .held _ => 1
def uptoBulkAll {H : Type} : List (DataW H) → Nat
  | [] => 0
  | d :: r => uptoBulk d + uptoBulkAll r
def uptoBulkEntries {H : Type} : List (Lit × DataW H) → Nat
  | [] => 0
  | x :: r => uptoBulkEntry x + uptoBulkEntries r
def uptoBulkEntry {H : Type} : Lit × DataW H → Nat
  | (.string bytes, d) => bytes.length + uptoBulk d + 1
  | (_, d) => uptoBulk d + 1
 end
def uptoSmall : (H : Type) → List (DataW H) → Bool := fun _ ds => decide (uptoBulkAll ds ≤ 1048576)
def OpenSpec.upto (s : _root_.Go.ChangeSpec) : _root_.Go.OpenSpec := { _root_.Go.OpenSpec.ofChange s with cond := some uptoSmall }

/-- 'corbellaw2.PickDrains', WHERE WHAT IT READS IS OF BULK AT MOST 1048576: true; the input reads as it did. -/
def pickDrainsUptoRow : OpenClaim := { program := "ytelcaeapflhadaa", sum := "80c45db4dda2dd365b53a3f41249ba2cf9258b0463581d11a2601cf940892277", func := "corbel/corbellaw2.PickDrains", spec := "pickDrains", unfollowed := true, recurses := true, apart := false, narrowed := true }
def PickDrainsUptoSaid : Prop := pickDrainsUptoRow.holds Try.pinned (OpenSpec.upto pickDrainsSpec)

/-- 'corbellaw2.PickMixed', WHERE WHAT IT READS IS OF BULK AT MOST 1048576: true; the input reads as it did. -/
def pickMixedUptoRow : OpenClaim := { program := "ytelcaeapflhadaa", sum := "80c45db4dda2dd365b53a3f41249ba2cf9258b0463581d11a2601cf940892277", func := "corbel/corbellaw2.PickMixed", spec := "pickMixed", unfollowed := true, recurses := true, apart := false, narrowed := true }
def PickMixedUptoSaid : Prop := pickMixedUptoRow.holds Try.pinned (OpenSpec.upto pickMixedSpec)

/-- 'corbellaw16.RefsLowest', WHERE WHAT IT READS IS OF BULK AT MOST 1048576: true; the input reads as it did. -/
def refsLowestUptoRow : OpenClaim := { program := "ytelcaeapflhadaa", sum := "80c45db4dda2dd365b53a3f41249ba2cf9258b0463581d11a2601cf940892277", func := "corbel/corbellaw16.RefsLowest", spec := "refsLowest", unfollowed := true, recurses := true, apart := false, narrowed := true }
def RefsLowestUptoSaid : Prop := refsLowestUptoRow.holds Try.pinned (OpenSpec.upto refsLowestSpec)

/-- 'corbellaw16.RefsKnown', WHERE WHAT IT READS IS OF BULK AT MOST 1048576: true; the input reads as it did. -/
def refsKnownUptoRow : OpenClaim := { program := "ytelcaeapflhadaa", sum := "80c45db4dda2dd365b53a3f41249ba2cf9258b0463581d11a2601cf940892277", func := "corbel/corbellaw16.RefsKnown", spec := "refsKnown", unfollowed := true, recurses := true, apart := false, narrowed := true }
def RefsKnownUptoSaid : Prop := refsKnownUptoRow.holds Try.pinned (OpenSpec.upto refsKnownSpec)

/-- 'corbellaw16.RefsCounts', WHERE WHAT IT READS IS OF BULK AT MOST 1048576: true; the input reads as it did. -/
def refsCountsUptoRow : OpenClaim := { program := "ytelcaeapflhadaa", sum := "80c45db4dda2dd365b53a3f41249ba2cf9258b0463581d11a2601cf940892277", func := "corbel/corbellaw16.RefsCounts", spec := "refsCounts", unfollowed := true, recurses := true, apart := false, narrowed := true }
def RefsCountsUptoSaid : Prop := refsCountsUptoRow.holds Try.pinned (OpenSpec.upto refsCountsSpec)

/-- 'corbellaw2.PickChanges', WHERE WHAT IT READS IS OF BULK AT MOST 1048576: true; the input reads as it did. -/
def pickChangesUptoRow : OpenClaim := { program := "ytelcaeapflhadaa", sum := "80c45db4dda2dd365b53a3f41249ba2cf9258b0463581d11a2601cf940892277", func := "corbel/corbellaw2.PickChanges", spec := "pickChanges", unfollowed := true, recurses := true, apart := false, narrowed := true }
def PickChangesUptoSaid : Prop := pickChangesUptoRow.holds Try.pinned (OpenSpec.upto pickChangesSpec)

/-- 'corbellaw2.PickKnown', WHERE WHAT IT READS IS OF BULK AT MOST 1048576: true; the input reads as it did. -/
def pickKnownUptoRow : OpenClaim := { program := "ytelcaeapflhadaa", sum := "80c45db4dda2dd365b53a3f41249ba2cf9258b0463581d11a2601cf940892277", func := "corbel/corbellaw2.PickKnown", spec := "pickKnown", unfollowed := true, recurses := true, apart := false, narrowed := true }
def PickKnownUptoSaid : Prop := pickKnownUptoRow.holds Try.pinned (OpenSpec.upto pickKnownSpec)

/-- 'corbellaw2.PickActs', WHERE WHAT IT READS IS OF BULK AT MOST 1048576: true; the input reads as it did. -/
def pickActsUptoRow : OpenClaim := { program := "ytelcaeapflhadaa", sum := "80c45db4dda2dd365b53a3f41249ba2cf9258b0463581d11a2601cf940892277", func := "corbel/corbellaw2.PickActs", spec := "pickActs", unfollowed := true, recurses := true, apart := false, narrowed := true }
def PickActsUptoSaid : Prop := pickActsUptoRow.holds Try.pinned (OpenSpec.upto pickActsSpec)

end Rows
end Go.Proofs.Ytelcaeapflhadaa
