/-
  DERIVED. GIVEN WITH THE SEED: THE CARDS: each row of YtbphheglefjpmaaGreatDoorRows.lean that lists a variable, with what it lists TIED to the program's text (the seventh form; the later family's looks); each row that meets fmt, with fmt's text TOLD by the authors' own Lean function (tested against real Go, not proved from fmt's source: count such statements apart). THE CARD IS WHAT COUNTS. Prove the row's statement (the work); the ties are given (YtbphheglefjpmaaGreatDoorTie.lean); close each card by the builder's one call (the guide's Derived/Test/ToyasCard.lean, 'card_holds'). Laid BY PROGRAM, IN A SANDBOX (cutbox-door.mjs). By AI agents, Wed Nov 11 2026. No macro, syntax, notation, axiom, sorry.
-/
import Derived.Test.YtbphheglefjpmaaGreatDoorRows
import GoSem.ClaimSeven
namespace Go.Proofs.YtbphheglefjpmaaGreatDoor
namespace Rows

/-- THE TIED CARD OF 'hornbeamlaw17.WamNames'. -/
def wamNamesCard : Claim7 := { stood := { row := wamNamesRow, standIns := [], harness := (true, "ed36b8d84b9bbd14816a6db87f21fc9b75eca1a262a34d5dd722b554f462c1e2"), looks := true }, kinds := [], alts := [], laidByText := true, laidKinds := [.data, .data, .data, .data, .pinned], laidTests := true, laidLooks := .later }
def WamNamesCardSaid : Prop := Claim7.holds Tryz.pinned (.plain (OpenSpec.ofChange wamNamesSpec)) wamNamesCard

/-- THE TIED CARD OF 'hornbeamlaw17.WamNil'. -/
def wamNilCard : Claim7 := { stood := { row := wamNilRow, standIns := [], harness := (true, "ed36b8d84b9bbd14816a6db87f21fc9b75eca1a262a34d5dd722b554f462c1e2"), looks := true }, kinds := [], alts := [], laidByText := true, laidKinds := [.data, .data, .data, .data, .pinned], laidTests := true, laidLooks := .later }
def WamNilCardSaid : Prop := Claim7.holds Tryz.pinned (.plain (OpenSpec.ofChange wamNilSpec)) wamNilCard

/-- THE SECOND FORM's CARD OF 'hornbeamlaw17.WamNames'. -/
def wamNamesUptoCard : Claim7 := { stood := { row := wamNamesUptoRow, standIns := [], harness := (true, "ed36b8d84b9bbd14816a6db87f21fc9b75eca1a262a34d5dd722b554f462c1e2"), looks := true }, kinds := [], alts := [], laidByText := true, laidKinds := [.data, .data, .data, .data, .pinned], laidTests := true, laidLooks := .later }
def WamNamesUptoCardSaid : Prop := Claim7.holds Tryz.pinned (.plain (OpenSpec.upto wamNamesSpec)) wamNamesUptoCard

/-- THE SECOND FORM's CARD OF 'hornbeamlaw17.WamNil'. -/
def wamNilUptoCard : Claim7 := { stood := { row := wamNilUptoRow, standIns := [], harness := (true, "ed36b8d84b9bbd14816a6db87f21fc9b75eca1a262a34d5dd722b554f462c1e2"), looks := true }, kinds := [], alts := [], laidByText := true, laidKinds := [.data, .data, .data, .data, .pinned], laidTests := true, laidLooks := .later }
def WamNilUptoCardSaid : Prop := Claim7.holds Tryz.pinned (.plain (OpenSpec.upto wamNilSpec)) wamNilUptoCard
end Rows
end Go.Proofs.YtbphheglefjpmaaGreatDoor
