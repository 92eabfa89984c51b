/-
  DERIVED. GIVEN WITH THE SEED: THE CARDS: each row of YtoknokbbggnmjaaDoorRows.lean that lists a variable, with what it lists TIED to the program's text (the seventh form; the later family's looks); each row that meets fmt, with fmt's text TOLD by the authors' own Lean function (tested against real Go, not proved from fmt's source: count such statements apart). THE CARD IS WHAT COUNTS. Prove the row's statement (the work); the ties are given (YtoknokbbggnmjaaDoorTie.lean); close each card by the builder's one call (the guide's Derived/Test/ToyasCard.lean, 'card_holds'). Laid BY PROGRAM, IN A SANDBOX (cutbox-door.mjs). By AI agents, Wed Nov 11 2026. No macro, syntax, notation, axiom, sorry.
-/
import Derived.Test.YtoknokbbggnmjaaDoorRows
import GoSem.ClaimSeven
namespace Go.Proofs.YtoknokbbggnmjaaDoor
namespace Rows

/-- THE TIED CARD OF 'corbellaw1.CauseNodes'. -/
def causeNodesCard : Claim7 := { stood := { row := causeNodesRow, standIns := [], harness := (true, "35d59f51da2d3670c2cb59156788d3c27b42a48b95c835906988ca99225aafb0"), looks := true }, kinds := [], alts := [], laidByText := true, laidKinds := [.handle], laidTests := true, laidLooks := .later }
def CauseNodesCardSaid : Prop := Claim7.holds Tryd.pinned (.plain (OpenSpec.ofChange causeNodesSpec)) causeNodesCard

/-- THE TIED CARD OF 'corbellaw1.CauseFirst'. -/
def causeFirstCard : Claim7 := { stood := { row := causeFirstRow, standIns := [], harness := (true, "35d59f51da2d3670c2cb59156788d3c27b42a48b95c835906988ca99225aafb0"), looks := true }, kinds := [], alts := [], laidByText := true, laidKinds := [.handle], laidTests := true, laidLooks := .later }
def CauseFirstCardSaid : Prop := Claim7.holds Tryd.pinned (.plain (OpenSpec.ofChange causeFirstSpec)) causeFirstCard

/-- THE TIED CARD OF 'corbellaw1.CauseWraps'. -/
def causeWrapsCard : Claim7 := { stood := { row := causeWrapsRow, standIns := [], harness := (true, "35d59f51da2d3670c2cb59156788d3c27b42a48b95c835906988ca99225aafb0"), looks := true }, kinds := [], alts := [], laidByText := true, laidKinds := [.handle], laidTests := true, laidLooks := .later }
def CauseWrapsCardSaid : Prop := Claim7.holds Tryd.pinned (.plain (OpenSpec.ofChange causeWrapsSpec)) causeWrapsCard

/-- THE TIED CARD OF 'corbellaw1.CauseKnown'. -/
def causeKnownCard : Claim7 := { stood := { row := causeKnownRow, standIns := [], harness := (true, "35d59f51da2d3670c2cb59156788d3c27b42a48b95c835906988ca99225aafb0"), looks := true }, kinds := [], alts := [], laidByText := true, laidKinds := [.handle], laidTests := true, laidLooks := .later }
def CauseKnownCardSaid : Prop := Claim7.holds Tryd.pinned (.plain (OpenSpec.ofChange causeKnownSpec)) causeKnownCard

/-- THE TIED CARD OF 'corbellaw1.CauseTells'. -/
def causeTellsCard : Claim7 := { stood := { row := causeTellsRow, standIns := [], harness := (true, "35d59f51da2d3670c2cb59156788d3c27b42a48b95c835906988ca99225aafb0"), looks := true }, kinds := [], alts := [], laidByText := true, laidKinds := [.handle], laidTests := true, laidLooks := .later }
def CauseTellsCardSaid : Prop := Claim7.holds Tryd.pinned (.plain (OpenSpec.ofChange causeTellsSpec)) causeTellsCard

/-- THE SECOND FORM's CARD OF 'corbellaw1.CauseNodes'. -/
def causeNodesUptoCard : Claim7 := { stood := { row := causeNodesUptoRow, standIns := [], harness := (true, "35d59f51da2d3670c2cb59156788d3c27b42a48b95c835906988ca99225aafb0"), looks := true }, kinds := [], alts := [], laidByText := true, laidKinds := [.handle], laidTests := true, laidLooks := .later }
def CauseNodesUptoCardSaid : Prop := Claim7.holds Tryd.pinned (.plain (OpenSpec.upto causeNodesSpec)) causeNodesUptoCard

/-- THE SECOND FORM's CARD OF 'corbellaw1.CauseFirst'. -/
def causeFirstUptoCard : Claim7 := { stood := { row := causeFirstUptoRow, standIns := [], harness := (true, "35d59f51da2d3670c2cb59156788d3c27b42a48b95c835906988ca99225aafb0"), looks := true }, kinds := [], alts := [], laidByText := true, laidKinds := [.handle], laidTests := true, laidLooks := .later }
def CauseFirstUptoCardSaid : Prop := Claim7.holds Tryd.pinned (.plain (OpenSpec.upto causeFirstSpec)) causeFirstUptoCard

/-- THE SECOND FORM's CARD OF 'corbellaw1.CauseWraps'. -/
def causeWrapsUptoCard : Claim7 := { stood := { row := causeWrapsUptoRow, standIns := [], harness := (true, "35d59f51da2d3670c2cb59156788d3c27b42a48b95c835906988ca99225aafb0"), looks := true }, kinds := [], alts := [], laidByText := true, laidKinds := [.handle], laidTests := true, laidLooks := .later }
def CauseWrapsUptoCardSaid : Prop := Claim7.holds Tryd.pinned (.plain (OpenSpec.upto causeWrapsSpec)) causeWrapsUptoCard

/-- THE SECOND FORM's CARD OF 'corbellaw1.CauseKnown'. -/
def causeKnownUptoCard : Claim7 := { stood := { row := causeKnownUptoRow, standIns := [], harness := (true, "35d59f51da2d3670c2cb59156788d3c27b42a48b95c835906988ca99225aafb0"), looks := true }, kinds := [], alts := [], laidByText := true, laidKinds := [.handle], laidTests := true, laidLooks := .later }
def CauseKnownUptoCardSaid : Prop := Claim7.holds Tryd.pinned (.plain (OpenSpec.upto causeKnownSpec)) causeKnownUptoCard

/-- THE SECOND FORM's CARD OF 'corbellaw1.CauseTells'. -/
def causeTellsUptoCard : Claim7 := { stood := { row := causeTellsUptoRow, standIns := [], harness := (true, "35d59f51da2d3670c2cb59156788d3c27b42a48b95c835906988ca99225aafb0"), looks := true }, kinds := [], alts := [], laidByText := true, laidKinds := [.handle], laidTests := true, laidLooks := .later }
def CauseTellsUptoCardSaid : Prop := Claim7.holds Tryd.pinned (.plain (OpenSpec.upto causeTellsSpec)) causeTellsUptoCard
end Rows
end Go.Proofs.YtoknokbbggnmjaaDoor
