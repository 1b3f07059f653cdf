/-
  DERIVED. GIVEN WITH THE SEED: THE CARDS: each row of YtopekindmbjeoaaGreatDoorRows.lean that lists a variable, with what it lists TIED to the program's text (the seventh form; the later family's looks); each row that meets fmt, with fmt's text TOLD by the authors' own Lean function (tested against real Go, not proved from fmt's source: count such statements apart). THE CARD IS WHAT COUNTS. Prove the row's statement (the work); the ties are given (YtopekindmbjeoaaGreatDoorTie.lean); close each card by the builder's one call (the guide's Derived/Test/ToyasCard.lean, 'card_holds'). Laid BY PROGRAM, IN A SANDBOX (cutbox-door.mjs). By AI agents, Wed Nov 11 2026. No macro, syntax, notation, axiom, sorry.
-/
import Derived.Test.YtopekindmbjeoaaGreatDoorRows
import GoSem.ClaimSeven
namespace Go.Proofs.YtopekindmbjeoaaGreatDoor
namespace Rows

/-- THE TIED CARD OF 'hornbeamlaw11.ClauseReads'. -/
def clauseReadsCard : Claim7 := { stood := { row := clauseReadsRow, standIns := [], harness := (true, "502033576e161bc40cab647e4bbbbbb745b1452f239c4bb06810b0d0410c83ba"), looks := true }, kinds := [], alts := [], laidByText := true, laidKinds := [.data, .pinned], laidTests := true, laidLooks := .later }
def ClauseReadsCardSaid : Prop := Claim7.holds Tryz.pinned (.plain (OpenSpec.ofChange clauseReadsSpec)) clauseReadsCard

/-- THE TIED CARD OF 'hornbeamlaw11.ClauseTells'. -/
def clauseTellsCard : Claim7 := { stood := { row := clauseTellsRow, standIns := [], harness := (true, "502033576e161bc40cab647e4bbbbbb745b1452f239c4bb06810b0d0410c83ba"), looks := true }, kinds := [], alts := [], laidByText := true, laidKinds := [.data, .pinned], laidTests := true, laidLooks := .later }
def ClauseTellsCardSaid : Prop := Claim7.holds Tryz.pinned (.plain (OpenSpec.ofChange clauseTellsSpec)) clauseTellsCard

/-- THE SECOND FORM's CARD OF 'hornbeamlaw11.ClauseReads'. -/
def clauseReadsUptoCard : Claim7 := { stood := { row := clauseReadsUptoRow, standIns := [], harness := (true, "502033576e161bc40cab647e4bbbbbb745b1452f239c4bb06810b0d0410c83ba"), looks := true }, kinds := [], alts := [], laidByText := true, laidKinds := [.data, .pinned], laidTests := true, laidLooks := .later }
def ClauseReadsUptoCardSaid : Prop := Claim7.holds Tryz.pinned (.plain (OpenSpec.upto clauseReadsSpec)) clauseReadsUptoCard

/-- THE SECOND FORM's CARD OF 'hornbeamlaw11.ClauseTells'. -/
def clauseTellsUptoCard : Claim7 := { stood := { row := clauseTellsUptoRow, standIns := [], harness := (true, "502033576e161bc40cab647e4bbbbbb745b1452f239c4bb06810b0d0410c83ba"), looks := true }, kinds := [], alts := [], laidByText := true, laidKinds := [.data, .pinned], laidTests := true, laidLooks := .later }
def ClauseTellsUptoCardSaid : Prop := Claim7.holds Tryz.pinned (.plain (OpenSpec.upto clauseTellsSpec)) clauseTellsUptoCard
end Rows
end Go.Proofs.YtopekindmbjeoaaGreatDoor
