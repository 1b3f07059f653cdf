/-
  DERIVED. GIVEN WITH THE SEED: THE CARDS: each row of YtbooidfibigfcaaGreatDoorRows.lean that lists a variable, with what it lists TIED to the program's text (the seventh form; the later family's looks); each row that meets fmt, with fmt's text TOLD by the authors' own Lean function (tested against real Go, not proved from fmt's source: count such statements apart). THE CARD IS WHAT COUNTS. Prove the row's statement (the work); the ties are given (YtbooidfibigfcaaGreatDoorTie.lean); close each card by the builder's one call (the guide's Derived/Test/ToyasCard.lean, 'card_holds'). Laid BY PROGRAM, IN A SANDBOX (cutbox-door.mjs). By AI agents, Wed Nov 11 2026. No macro, syntax, notation, axiom, sorry.
-/
import Derived.Test.YtbooidfibigfcaaGreatDoorRows
import GoSem.ClaimSeven
namespace Go.Proofs.YtbooidfibigfcaaGreatDoor
namespace Rows

/-- THE TIED CARD OF 'hornbeamlaw16.CompileIndex'. -/
def compileIndexCard : Claim7 := { stood := { row := compileIndexRow, standIns := [], harness := (true, "9071a959bb33ab3425346162fddc3f278338e83c488d661b00aeed022222b59b"), looks := true }, kinds := [], alts := [], laidByText := true, laidKinds := [.data, .pinned], laidTests := true, laidLooks := .later }
def CompileIndexCardSaid : Prop := Claim7.holds Tryz.pinned (.plain (OpenSpec.ofChange compileIndexSpec)) compileIndexCard

/-- THE SECOND FORM's CARD OF 'hornbeamlaw16.CompileIndex'. -/
def compileIndexUptoCard : Claim7 := { stood := { row := compileIndexUptoRow, standIns := [], harness := (true, "9071a959bb33ab3425346162fddc3f278338e83c488d661b00aeed022222b59b"), looks := true }, kinds := [], alts := [], laidByText := true, laidKinds := [.data, .pinned], laidTests := true, laidLooks := .later }
def CompileIndexUptoCardSaid : Prop := Claim7.holds Tryz.pinned (.plain (OpenSpec.upto compileIndexSpec)) compileIndexUptoCard
end Rows
end Go.Proofs.YtbooidfibigfcaaGreatDoor
