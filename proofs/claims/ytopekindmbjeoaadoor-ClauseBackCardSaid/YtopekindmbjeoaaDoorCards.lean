/-
  DERIVED. GIVEN WITH THE SEED: THE CARDS: each row of YtopekindmbjeoaaDoorRows.lean that lists a variable, with what it lists TIED to the program's text (the seventh form; the later family's looks); each row that meets fmt, with fmt's text TOLD by the authors' own Lean function (tested against real Go, not proved from fmt's source: count such statements apart). THE CARD IS WHAT COUNTS. Prove the row's statement (the work); the ties are given (YtopekindmbjeoaaDoorTie.lean); close each card by the builder's one call (the guide's Derived/Test/ToyasCard.lean, 'card_holds'). Laid BY PROGRAM, IN A SANDBOX (cutbox-door.mjs). By AI agents, Wed Nov 11 2026. No macro, syntax, notation, axiom, sorry.
-/
import Derived.Test.YtopekindmbjeoaaDoorRows
import GoSem.ClaimSeven
namespace Go.Proofs.YtopekindmbjeoaaDoor
namespace Rows

/-- THE TIED CARD OF 'hornbeamlaw11.ClauseReadies'. -/
def clauseReadiesCard : Claim7 := { stood := { row := clauseReadiesRow, standIns := [], harness := (true, "eb7f1fbe47256179d3a95c928acde36ce0bdcded793a3e9a297133e89de7ae24"), looks := true }, kinds := [], alts := [], laidByText := true, laidKinds := [.data, .pinned], laidTests := true, laidLooks := .later }
def ClauseReadiesCardSaid : Prop := Claim7.holds Tryd.pinned (.plain (OpenSpec.ofChange clauseReadiesSpec)) clauseReadiesCard

/-- THE TIED CARD OF 'hornbeamlaw11.ClauseBack'. -/
def clauseBackCard : Claim7 := { stood := { row := clauseBackRow, standIns := [], harness := (true, "eb7f1fbe47256179d3a95c928acde36ce0bdcded793a3e9a297133e89de7ae24"), looks := true }, kinds := [], alts := [], laidByText := true, laidKinds := [.data, .pinned], laidTests := true, laidLooks := .later }
def ClauseBackCardSaid : Prop := Claim7.holds Tryd.pinned (.plain (OpenSpec.ofChange clauseBackSpec)) clauseBackCard

/-- THE SECOND FORM's CARD OF 'hornbeamlaw11.ClauseReadies'. -/
def clauseReadiesUptoCard : Claim7 := { stood := { row := clauseReadiesUptoRow, standIns := [], harness := (true, "eb7f1fbe47256179d3a95c928acde36ce0bdcded793a3e9a297133e89de7ae24"), looks := true }, kinds := [], alts := [], laidByText := true, laidKinds := [.data, .pinned], laidTests := true, laidLooks := .later }
def ClauseReadiesUptoCardSaid : Prop := Claim7.holds Tryd.pinned (.plain (OpenSpec.upto clauseReadiesSpec)) clauseReadiesUptoCard

/-- THE SECOND FORM's CARD OF 'hornbeamlaw11.ClauseBack'. -/
def clauseBackUptoCard : Claim7 := { stood := { row := clauseBackUptoRow, standIns := [], harness := (true, "eb7f1fbe47256179d3a95c928acde36ce0bdcded793a3e9a297133e89de7ae24"), looks := true }, kinds := [], alts := [], laidByText := true, laidKinds := [.data, .pinned], laidTests := true, laidLooks := .later }
def ClauseBackUptoCardSaid : Prop := Claim7.holds Tryd.pinned (.plain (OpenSpec.upto clauseBackSpec)) clauseBackUptoCard
end Rows
end Go.Proofs.YtopekindmbjeoaaDoor
