/-
  DERIVED. GIVEN WITH THE SEED: THE CARDS: each row of YtekbbpfnkbanjaaGreatDoorRows.lean that lists a variable, with what it lists TIED to the program's text (the seventh form; the later family's looks); each row that meets fmt, with fmt's text TOLD by the authors' own Lean function (tested against real Go, not proved from fmt's source: count such statements apart). THE CARD IS WHAT COUNTS. Prove the row's statement (the work); the ties are given (YtekbbpfnkbanjaaGreatDoorTie.lean); close each card by the builder's one call (the guide's Derived/Test/ToyasCard.lean, 'card_holds'). Laid BY PROGRAM, IN A SANDBOX (cutbox-door.mjs). By AI agents, Wed Nov 11 2026. No macro, syntax, notation, axiom, sorry.
-/
import Derived.Test.YtekbbpfnkbanjaaGreatDoorRows
import GoSem.ClaimSeven
namespace Go.Proofs.YtekbbpfnkbanjaaGreatDoor
namespace Rows

/-- THE TIED CARD OF 'corbellaw12.WireTries'. -/
def wireTriesCard : Claim7 := { stood := { row := wireTriesRow, standIns := [], harness := (true, "0bac60a6cf1c43629eb4b0566b69dc7303cc9f1ad3e76f2652f638cd3497c29e"), looks := true }, kinds := [], alts := [], laidByText := true, laidKinds := [.handle], laidTests := true, laidLooks := .later }
def WireTriesCardSaid : Prop := Claim7.holds Tryz.pinned (.plain (OpenSpec.ofChange wireTriesSpec)) wireTriesCard

/-- THE TIED CARD OF 'corbellaw12.WireDown'. -/
def wireDownCard : Claim7 := { stood := { row := wireDownRow, standIns := [], harness := (true, "0bac60a6cf1c43629eb4b0566b69dc7303cc9f1ad3e76f2652f638cd3497c29e"), looks := true }, kinds := [], alts := [], laidByText := true, laidKinds := [.handle], laidTests := true, laidLooks := .later }
def WireDownCardSaid : Prop := Claim7.holds Tryz.pinned (.plain (OpenSpec.ofChange wireDownSpec)) wireDownCard

/-- THE TIED CARD OF 'corbellaw12.WireKnown'. -/
def wireKnownCard : Claim7 := { stood := { row := wireKnownRow, standIns := [], harness := (true, "0bac60a6cf1c43629eb4b0566b69dc7303cc9f1ad3e76f2652f638cd3497c29e"), looks := true }, kinds := [], alts := [], laidByText := true, laidKinds := [.handle], laidTests := true, laidLooks := .later }
def WireKnownCardSaid : Prop := Claim7.holds Tryz.pinned (.plain (OpenSpec.ofChange wireKnownSpec)) wireKnownCard

/-- THE SECOND FORM's CARD OF 'corbellaw12.WireTries'. -/
def wireTriesUptoCard : Claim7 := { stood := { row := wireTriesUptoRow, standIns := [], harness := (true, "0bac60a6cf1c43629eb4b0566b69dc7303cc9f1ad3e76f2652f638cd3497c29e"), looks := true }, kinds := [], alts := [], laidByText := true, laidKinds := [.handle], laidTests := true, laidLooks := .later }
def WireTriesUptoCardSaid : Prop := Claim7.holds Tryz.pinned (.plain (OpenSpec.upto wireTriesSpec)) wireTriesUptoCard

/-- THE SECOND FORM's CARD OF 'corbellaw12.WireDown'. -/
def wireDownUptoCard : Claim7 := { stood := { row := wireDownUptoRow, standIns := [], harness := (true, "0bac60a6cf1c43629eb4b0566b69dc7303cc9f1ad3e76f2652f638cd3497c29e"), looks := true }, kinds := [], alts := [], laidByText := true, laidKinds := [.handle], laidTests := true, laidLooks := .later }
def WireDownUptoCardSaid : Prop := Claim7.holds Tryz.pinned (.plain (OpenSpec.upto wireDownSpec)) wireDownUptoCard

/-- THE SECOND FORM's CARD OF 'corbellaw12.WireKnown'. -/
def wireKnownUptoCard : Claim7 := { stood := { row := wireKnownUptoRow, standIns := [], harness := (true, "0bac60a6cf1c43629eb4b0566b69dc7303cc9f1ad3e76f2652f638cd3497c29e"), looks := true }, kinds := [], alts := [], laidByText := true, laidKinds := [.handle], laidTests := true, laidLooks := .later }
def WireKnownUptoCardSaid : Prop := Claim7.holds Tryz.pinned (.plain (OpenSpec.upto wireKnownSpec)) wireKnownUptoCard
end Rows
end Go.Proofs.YtekbbpfnkbanjaaGreatDoor
