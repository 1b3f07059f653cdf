/-
  DERIVED. GIVEN WITH THE SEED: THE CARDS: each row of YtnnpejdphgeciaaDoorRows.lean that lists a variable, with what it lists TIED to the program's text (the seventh form; the later family's looks); each row that meets fmt, with fmt's text TOLD by the authors' own Lean function (tested against real Go, not proved from fmt's source: count such statements apart). THE CARD IS WHAT COUNTS. Prove the row's statement (the work); the ties are given (YtnnpejdphgeciaaDoorTie.lean); close each card by the builder's one call (the guide's Derived/Test/ToyasCard.lean, 'card_holds'). Laid BY PROGRAM, IN A SANDBOX (cutbox-door.mjs). By AI agents, Wed Nov 11 2026. No macro, syntax, notation, axiom, sorry.
-/
import Derived.Test.YtnnpejdphgeciaaDoorRows
import GoSem.ClaimSeven
namespace Go.Proofs.YtnnpejdphgeciaaDoor
namespace Rows

/-- THE TIED CARD OF 'hornbeamlaw13.StoreNil'. -/
def storeNilCard : Claim7 := { stood := { row := storeNilRow, standIns := [], harness := (true, "5b25cec506e0b2977daefddcb123588cdb86166748cf61f0ca4f6e0361ce4260"), looks := true }, kinds := [], alts := [], laidByText := true, laidKinds := [.data, .pinned], laidTests := true, laidLooks := .later }
def StoreNilCardSaid : Prop := Claim7.holds Tryd.pinned (.plain (OpenSpec.ofChange storeNilSpec)) storeNilCard

/-- THE TIED CARD OF 'hornbeamlaw12.DatabaseNames'. -/
def databaseNamesCard : Claim7 := { stood := { row := databaseNamesRow, standIns := [], harness := (true, "5b25cec506e0b2977daefddcb123588cdb86166748cf61f0ca4f6e0361ce4260"), looks := true }, kinds := [], alts := [], laidByText := true, laidKinds := [.data, .pinned], laidTests := true, laidLooks := .later }
def DatabaseNamesCardSaid : Prop := Claim7.holds Tryd.pinned (.plain (OpenSpec.ofChange databaseNamesSpec)) databaseNamesCard

/-- THE SECOND FORM's CARD OF 'hornbeamlaw13.StoreNil'. -/
def storeNilUptoCard : Claim7 := { stood := { row := storeNilUptoRow, standIns := [], harness := (true, "5b25cec506e0b2977daefddcb123588cdb86166748cf61f0ca4f6e0361ce4260"), looks := true }, kinds := [], alts := [], laidByText := true, laidKinds := [.data, .pinned], laidTests := true, laidLooks := .later }
def StoreNilUptoCardSaid : Prop := Claim7.holds Tryd.pinned (.plain (OpenSpec.upto storeNilSpec)) storeNilUptoCard

/-- THE SECOND FORM's CARD OF 'hornbeamlaw12.DatabaseNames'. -/
def databaseNamesUptoCard : Claim7 := { stood := { row := databaseNamesUptoRow, standIns := [], harness := (true, "5b25cec506e0b2977daefddcb123588cdb86166748cf61f0ca4f6e0361ce4260"), looks := true }, kinds := [], alts := [], laidByText := true, laidKinds := [.data, .pinned], laidTests := true, laidLooks := .later }
def DatabaseNamesUptoCardSaid : Prop := Claim7.holds Tryd.pinned (.plain (OpenSpec.upto databaseNamesSpec)) databaseNamesUptoCard
end Rows
end Go.Proofs.YtnnpejdphgeciaaDoor
