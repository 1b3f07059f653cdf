/-
  DERIVED. GIVEN WITH THE SEED: THE CARDS: each row of YtlllbkjiadcloaaGreatDoorRows.lean that lists a variable, with what it lists TIED to the program's text (the seventh form; the later family's looks); each row that meets fmt, with fmt's text TOLD by the authors' own Lean function (tested against real Go, not proved from fmt's source: count such statements apart). THE CARD IS WHAT COUNTS. Prove the row's statement (the work); the ties are given (YtlllbkjiadcloaaGreatDoorTie.lean); close each card by the builder's one call (the guide's Derived/Test/ToyasCard.lean, 'card_holds'). Laid BY PROGRAM, IN A SANDBOX (cutbox-door.mjs). By AI agents, Wed Nov 11 2026. No macro, syntax, notation, axiom, sorry.
-/
import Derived.Test.YtlllbkjiadcloaaGreatDoorRows
import GoSem.ClaimSeven
namespace Go.Proofs.YtlllbkjiadcloaaGreatDoor
namespace Rows

/-- THE TIED CARD OF 'hornbeamlaw02.TermMatches'. -/
def termMatchesCard : Claim7 := { stood := { row := termMatchesRow, standIns := [], harness := (true, "0f8abd193eb6bf152d30ed922fdabfee59a918b6c4a2565e6b01c51bb9d6cf46"), looks := false }, kinds := [], alts := [], laidByText := true, laidKinds := [.data, .pinned], laidTests := true, laidLooks := .later }
def TermMatchesCardSaid : Prop := Claim7.holds Tryz.pinned (.plain (OpenSpec.ofChange termMatchesSpec)) termMatchesCard

/-- THE SECOND FORM's CARD OF 'hornbeamlaw02.TermMatches'. -/
def termMatchesUptoCard : Claim7 := { stood := { row := termMatchesUptoRow, standIns := [], harness := (true, "0f8abd193eb6bf152d30ed922fdabfee59a918b6c4a2565e6b01c51bb9d6cf46"), looks := false }, kinds := [], alts := [], laidByText := true, laidKinds := [.data, .pinned], laidTests := true, laidLooks := .later }
def TermMatchesUptoCardSaid : Prop := Claim7.holds Tryz.pinned (.plain (OpenSpec.upto termMatchesSpec)) termMatchesUptoCard
end Rows
end Go.Proofs.YtlllbkjiadcloaaGreatDoor
