/-
  DERIVED. GIVEN WITH THE SEED: THE CARDS: each row of YtfalgpiidlhhjaaGreatDoorRows.lean that lists a variable, with what it lists TIED to the program's text (the seventh form; the later family's looks); each row that meets fmt, with fmt's text TOLD by the authors' own Lean function (tested against real Go, not proved from fmt's source: count such statements apart). THE CARD IS WHAT COUNTS. Prove the row's statement (the work); the ties are given (YtfalgpiidlhhjaaGreatDoorTie.lean); close each card by the builder's one call (the guide's Derived/Test/ToyasCard.lean, 'card_holds'). Laid BY PROGRAM, IN A SANDBOX (cutbox-door.mjs). By AI agents, Wed Nov 11 2026. No macro, syntax, notation, axiom, sorry.
-/
import Derived.Test.YtfalgpiidlhhjaaGreatDoorRows
import GoSem.ClaimSeven
namespace Go.Proofs.YtfalgpiidlhhjaaGreatDoor
namespace Rows

/-- THE TIED CARD OF 'hornbeamlaw14.UnifyPlays'. -/
def unifyPlaysCard : Claim7 := { stood := { row := unifyPlaysRow, standIns := [], harness := (true, "cc485c5a6aef36806a407125a7c7a3b7f682437a556a49a6a096809e4f287771"), looks := false }, kinds := [], alts := [], laidByText := true, laidKinds := [.data, .pinned], laidTests := true, laidLooks := .later }
def UnifyPlaysCardSaid : Prop := Claim7.holds Tryz.pinned (.plain (OpenSpec.ofChange unifyPlaysSpec)) unifyPlaysCard

/-- THE TIED CARD OF 'hornbeamlaw14.UnifyMost'. -/
def unifyMostCard : Claim7 := { stood := { row := unifyMostRow, standIns := [], harness := (true, "cc485c5a6aef36806a407125a7c7a3b7f682437a556a49a6a096809e4f287771"), looks := false }, kinds := [], alts := [], laidByText := true, laidKinds := [.data, .pinned], laidTests := true, laidLooks := .later }
def UnifyMostCardSaid : Prop := Claim7.holds Tryz.pinned (.plain (OpenSpec.ofChange unifyMostSpec)) unifyMostCard

/-- THE SECOND FORM's CARD OF 'hornbeamlaw14.UnifyPlays'. -/
def unifyPlaysUptoCard : Claim7 := { stood := { row := unifyPlaysUptoRow, standIns := [], harness := (true, "cc485c5a6aef36806a407125a7c7a3b7f682437a556a49a6a096809e4f287771"), looks := false }, kinds := [], alts := [], laidByText := true, laidKinds := [.data, .pinned], laidTests := true, laidLooks := .later }
def UnifyPlaysUptoCardSaid : Prop := Claim7.holds Tryz.pinned (.plain (OpenSpec.upto unifyPlaysSpec)) unifyPlaysUptoCard

/-- THE SECOND FORM's CARD OF 'hornbeamlaw14.UnifyMost'. -/
def unifyMostUptoCard : Claim7 := { stood := { row := unifyMostUptoRow, standIns := [], harness := (true, "cc485c5a6aef36806a407125a7c7a3b7f682437a556a49a6a096809e4f287771"), looks := false }, kinds := [], alts := [], laidByText := true, laidKinds := [.data, .pinned], laidTests := true, laidLooks := .later }
def UnifyMostUptoCardSaid : Prop := Claim7.holds Tryz.pinned (.plain (OpenSpec.upto unifyMostSpec)) unifyMostUptoCard
end Rows
end Go.Proofs.YtfalgpiidlhhjaaGreatDoor
