/-
  DERIVED. GIVEN WITH THE SEED: THE CARDS: each row of YtbooidfibigfcaaDoorRows.lean that lists a variable, with what it lists TIED to the program's text (the seventh form; the later family's looks); each row that meets fmt, with fmt's text TOLD by the authors' own Lean function (tested against real Go, not proved from fmt's source: count such statements apart). THE CARD IS WHAT COUNTS. Prove the row's statement (the work); the ties are given (YtbooidfibigfcaaDoorTie.lean); close each card by the builder's one call (the guide's Derived/Test/ToyasCard.lean, 'card_holds'). Laid BY PROGRAM, IN A SANDBOX (cutbox-door.mjs). By AI agents, Wed Nov 11 2026. No macro, syntax, notation, axiom, sorry.
-/
import Derived.Test.YtbooidfibigfcaaDoorRows
import GoSem.ClaimSeven
namespace Go.Proofs.YtbooidfibigfcaaDoor
namespace Rows

/-- THE TIED CARD OF 'hornbeamlaw15.GcUnseen'. -/
def gcUnseenCard : Claim7 := { stood := { row := gcUnseenRow, standIns := [], harness := (true, "6399ac343aa05ce2c270f7e8cbb9761dbdd3e0c077f2e0b8fb603c2d3971b60c"), looks := true }, kinds := [], alts := [], laidByText := true, laidKinds := [.data, .pinned], laidTests := true, laidLooks := .later }
def GcUnseenCardSaid : Prop := Claim7.holds Tryd.pinned (.plain (OpenSpec.ofChange gcUnseenSpec)) gcUnseenCard

/-- THE TIED CARD OF 'hornbeamlaw12.DatabaseView'. -/
def databaseViewCard : Claim7 := { stood := { row := databaseViewRow, standIns := [], harness := (true, "6399ac343aa05ce2c270f7e8cbb9761dbdd3e0c077f2e0b8fb603c2d3971b60c"), looks := true }, kinds := [], alts := [], laidByText := true, laidKinds := [.data, .pinned], laidTests := true, laidLooks := .later }
def DatabaseViewCardSaid : Prop := Claim7.holds Tryd.pinned (.plain (OpenSpec.ofChange databaseViewSpec)) databaseViewCard

/-- THE SECOND FORM's CARD OF 'hornbeamlaw15.GcUnseen'. -/
def gcUnseenUptoCard : Claim7 := { stood := { row := gcUnseenUptoRow, standIns := [], harness := (true, "6399ac343aa05ce2c270f7e8cbb9761dbdd3e0c077f2e0b8fb603c2d3971b60c"), looks := true }, kinds := [], alts := [], laidByText := true, laidKinds := [.data, .pinned], laidTests := true, laidLooks := .later }
def GcUnseenUptoCardSaid : Prop := Claim7.holds Tryd.pinned (.plain (OpenSpec.upto gcUnseenSpec)) gcUnseenUptoCard

/-- THE SECOND FORM's CARD OF 'hornbeamlaw12.DatabaseView'. -/
def databaseViewUptoCard : Claim7 := { stood := { row := databaseViewUptoRow, standIns := [], harness := (true, "6399ac343aa05ce2c270f7e8cbb9761dbdd3e0c077f2e0b8fb603c2d3971b60c"), looks := true }, kinds := [], alts := [], laidByText := true, laidKinds := [.data, .pinned], laidTests := true, laidLooks := .later }
def DatabaseViewUptoCardSaid : Prop := Claim7.holds Tryd.pinned (.plain (OpenSpec.upto databaseViewSpec)) databaseViewUptoCard
end Rows
end Go.Proofs.YtbooidfibigfcaaDoor
