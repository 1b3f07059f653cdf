/-
  DERIVED. GIVEN WITH THE SEED: THE CARDS: each row of YtnnpejdphgeciaaGreatDoorRows.lean that lists a variable, with what it lists TIED to the program's text (the seventh form; the later family's looks); each row that meets fmt, with fmt's text TOLD by the authors' own Lean function (tested against real Go, not proved from fmt's source: count such statements apart). THE CARD IS WHAT COUNTS. Prove the row's statement (the work); the ties are given (YtnnpejdphgeciaaGreatDoorTie.lean); close each card by the builder's one call (the guide's Derived/Test/ToyasCard.lean, 'card_holds'). Laid BY PROGRAM, IN A SANDBOX (cutbox-door.mjs). By AI agents, Wed Nov 11 2026. No macro, syntax, notation, axiom, sorry.
-/
import Derived.Test.YtnnpejdphgeciaaGreatDoorRows
import GoSem.ClaimSeven
namespace Go.Proofs.YtnnpejdphgeciaaGreatDoor
namespace Rows

/-- THE TIED CARD OF 'hornbeamlaw12.DatabaseNil'. -/
def databaseNilCard : Claim7 := { stood := { row := databaseNilRow, standIns := [], harness := (true, "10cdedec9f86628b8705ed39994c82629fb7935c6c4919f34ddcb2d5997b6ce0"), looks := true }, kinds := [], alts := [], laidByText := true, laidKinds := [.data, .pinned], laidTests := true, laidLooks := .later }
def DatabaseNilCardSaid : Prop := Claim7.holds Tryz.pinned (.plain (OpenSpec.ofChange databaseNilSpec)) databaseNilCard

/-- THE SECOND FORM's CARD OF 'hornbeamlaw12.DatabaseNil'. -/
def databaseNilUptoCard : Claim7 := { stood := { row := databaseNilUptoRow, standIns := [], harness := (true, "10cdedec9f86628b8705ed39994c82629fb7935c6c4919f34ddcb2d5997b6ce0"), looks := true }, kinds := [], alts := [], laidByText := true, laidKinds := [.data, .pinned], laidTests := true, laidLooks := .later }
def DatabaseNilUptoCardSaid : Prop := Claim7.holds Tryz.pinned (.plain (OpenSpec.upto databaseNilSpec)) databaseNilUptoCard
end Rows
end Go.Proofs.YtnnpejdphgeciaaGreatDoor
