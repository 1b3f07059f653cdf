/-
  DERIVED. GIVEN WITH THE SEED: THE CARDS: each row of YthkogijbkachdaaDoorRows.lean that lists a variable, with what it lists TIED to the program's text (the seventh form; the later family's looks); each row that meets fmt, with fmt's text TOLD by the authors' own Lean function (tested against real Go, not proved from fmt's source: count such statements apart). THE CARD IS WHAT COUNTS. Prove the row's statement (the work); the ties are given (YthkogijbkachdaaDoorTie.lean); close each card by the builder's one call (the guide's Derived/Test/ToyasCard.lean, 'card_holds'). Laid BY PROGRAM, IN A SANDBOX (cutbox-door.mjs). By AI agents, Wed Nov 11 2026. No macro, syntax, notation, axiom, sorry.
-/
import Derived.Test.YthkogijbkachdaaDoorRows
import GoSem.ClaimSeven
namespace Go.Proofs.YthkogijbkachdaaDoor
namespace Rows

/-- THE TIED CARD OF 'hornbeamlaw13.StoreMarks'. -/
def storeMarksCard : Claim7 := { stood := { row := storeMarksRow, standIns := [], harness := (true, "4f42d2888048cf5241ab473157a37a68ddb27b04da0d98c6ee338a3829a65db4"), looks := false }, kinds := [], alts := [], laidByText := true, laidKinds := [.data, .pinned], laidTests := true, laidLooks := .later }
def StoreMarksCardSaid : Prop := Claim7.holds Tryd.pinned (.plain (OpenSpec.ofChange storeMarksSpec)) storeMarksCard

/-- THE TIED CARD OF 'hornbeamlaw13.StoreBack'. -/
def storeBackCard : Claim7 := { stood := { row := storeBackRow, standIns := [], harness := (true, "4f42d2888048cf5241ab473157a37a68ddb27b04da0d98c6ee338a3829a65db4"), looks := false }, kinds := [], alts := [], laidByText := true, laidKinds := [.data, .pinned], laidTests := true, laidLooks := .later }
def StoreBackCardSaid : Prop := Claim7.holds Tryd.pinned (.plain (OpenSpec.ofChange storeBackSpec)) storeBackCard

/-- THE SECOND FORM's CARD OF 'hornbeamlaw13.StoreMarks'. -/
def storeMarksUptoCard : Claim7 := { stood := { row := storeMarksUptoRow, standIns := [], harness := (true, "4f42d2888048cf5241ab473157a37a68ddb27b04da0d98c6ee338a3829a65db4"), looks := false }, kinds := [], alts := [], laidByText := true, laidKinds := [.data, .pinned], laidTests := true, laidLooks := .later }
def StoreMarksUptoCardSaid : Prop := Claim7.holds Tryd.pinned (.plain (OpenSpec.upto storeMarksSpec)) storeMarksUptoCard

/-- THE SECOND FORM's CARD OF 'hornbeamlaw13.StoreBack'. -/
def storeBackUptoCard : Claim7 := { stood := { row := storeBackUptoRow, standIns := [], harness := (true, "4f42d2888048cf5241ab473157a37a68ddb27b04da0d98c6ee338a3829a65db4"), looks := false }, kinds := [], alts := [], laidByText := true, laidKinds := [.data, .pinned], laidTests := true, laidLooks := .later }
def StoreBackUptoCardSaid : Prop := Claim7.holds Tryd.pinned (.plain (OpenSpec.upto storeBackSpec)) storeBackUptoCard
end Rows
end Go.Proofs.YthkogijbkachdaaDoor
