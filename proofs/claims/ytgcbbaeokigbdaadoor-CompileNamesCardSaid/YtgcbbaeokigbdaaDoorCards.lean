/-
  DERIVED. GIVEN WITH THE SEED: THE CARDS: each row of YtgcbbaeokigbdaaDoorRows.lean that lists a variable, with what it lists TIED to the program's text (the seventh form; the later family's looks); each row that meets fmt, with fmt's text TOLD by the authors' own Lean function (tested against real Go, not proved from fmt's source: count such statements apart). THE CARD IS WHAT COUNTS. Prove the row's statement (the work); the ties are given (YtgcbbaeokigbdaaDoorTie.lean); close each card by the builder's one call (the guide's Derived/Test/ToyasCard.lean, 'card_holds'). Laid BY PROGRAM, IN A SANDBOX (cutbox-door.mjs). By AI agents, Wed Nov 11 2026. No macro, syntax, notation, axiom, sorry.
-/
import Derived.Test.YtgcbbaeokigbdaaDoorRows
import GoSem.ClaimSeven
namespace Go.Proofs.YtgcbbaeokigbdaaDoor
namespace Rows

/-- THE TIED CARD OF 'hornbeamlaw13.StoreNames'. -/
def storeNamesCard : Claim7 := { stood := { row := storeNamesRow, standIns := [], harness := (true, "a533171db4832f21b950cb9ec747e4d1b59bfba619827a575db61a4acd799275"), looks := true }, kinds := [], alts := [], laidByText := true, laidKinds := [.data, .pinned], laidTests := true, laidLooks := .later }
def StoreNamesCardSaid : Prop := Claim7.holds Tryd.pinned (.plain (OpenSpec.ofChange storeNamesSpec)) storeNamesCard

/-- THE TIED CARD OF 'hornbeamlaw11.ClauseNames'. -/
def clauseNamesCard : Claim7 := { stood := { row := clauseNamesRow, standIns := [], harness := (true, "a533171db4832f21b950cb9ec747e4d1b59bfba619827a575db61a4acd799275"), looks := true }, kinds := [], alts := [], laidByText := true, laidKinds := [.data, .pinned], laidTests := true, laidLooks := .later }
def ClauseNamesCardSaid : Prop := Claim7.holds Tryd.pinned (.plain (OpenSpec.ofChange clauseNamesSpec)) clauseNamesCard

/-- THE TIED CARD OF 'hornbeamlaw15.GcNil'. -/
def gcNilCard : Claim7 := { stood := { row := gcNilRow, standIns := [], harness := (true, "a533171db4832f21b950cb9ec747e4d1b59bfba619827a575db61a4acd799275"), looks := true }, kinds := [], alts := [], laidByText := true, laidKinds := [.data, .pinned], laidTests := true, laidLooks := .later }
def GcNilCardSaid : Prop := Claim7.holds Tryd.pinned (.plain (OpenSpec.ofChange gcNilSpec)) gcNilCard

/-- THE TIED CARD OF 'hornbeamlaw13.StoreNil'. -/
def storeNilCard : Claim7 := { stood := { row := storeNilRow, standIns := [], harness := (true, "a533171db4832f21b950cb9ec747e4d1b59bfba619827a575db61a4acd799275"), looks := true }, kinds := [], alts := [], laidByText := true, laidKinds := [.data, .pinned], laidTests := true, laidLooks := .later }
def StoreNilCardSaid : Prop := Claim7.holds Tryd.pinned (.plain (OpenSpec.ofChange storeNilSpec)) storeNilCard

/-- THE TIED CARD OF 'hornbeamlaw16.CompileNames'. -/
def compileNamesCard : Claim7 := { stood := { row := compileNamesRow, standIns := [], harness := (true, "a533171db4832f21b950cb9ec747e4d1b59bfba619827a575db61a4acd799275"), looks := true }, kinds := [], alts := [], laidByText := true, laidKinds := [.data, .pinned], laidTests := true, laidLooks := .later }
def CompileNamesCardSaid : Prop := Claim7.holds Tryd.pinned (.plain (OpenSpec.ofChange compileNamesSpec)) compileNamesCard

/-- THE TIED CARD OF 'hornbeamlaw14.UnifyNames'. -/
def unifyNamesCard : Claim7 := { stood := { row := unifyNamesRow, standIns := [], harness := (true, "a533171db4832f21b950cb9ec747e4d1b59bfba619827a575db61a4acd799275"), looks := true }, kinds := [], alts := [], laidByText := true, laidKinds := [.data, .pinned], laidTests := true, laidLooks := .later }
def UnifyNamesCardSaid : Prop := Claim7.holds Tryd.pinned (.plain (OpenSpec.ofChange unifyNamesSpec)) unifyNamesCard

/-- THE TIED CARD OF 'hornbeamlaw12.DatabaseNames'. -/
def databaseNamesCard : Claim7 := { stood := { row := databaseNamesRow, standIns := [], harness := (true, "a533171db4832f21b950cb9ec747e4d1b59bfba619827a575db61a4acd799275"), looks := true }, kinds := [], alts := [], laidByText := true, laidKinds := [.data, .pinned], laidTests := true, laidLooks := .later }
def DatabaseNamesCardSaid : Prop := Claim7.holds Tryd.pinned (.plain (OpenSpec.ofChange databaseNamesSpec)) databaseNamesCard

/-- THE TIED CARD OF 'hornbeamlaw14.UnifyNil'. -/
def unifyNilCard : Claim7 := { stood := { row := unifyNilRow, standIns := [], harness := (true, "a533171db4832f21b950cb9ec747e4d1b59bfba619827a575db61a4acd799275"), looks := true }, kinds := [], alts := [], laidByText := true, laidKinds := [.data, .pinned], laidTests := true, laidLooks := .later }
def UnifyNilCardSaid : Prop := Claim7.holds Tryd.pinned (.plain (OpenSpec.ofChange unifyNilSpec)) unifyNilCard

/-- THE SECOND FORM's CARD OF 'hornbeamlaw13.StoreNames'. -/
def storeNamesUptoCard : Claim7 := { stood := { row := storeNamesUptoRow, standIns := [], harness := (true, "a533171db4832f21b950cb9ec747e4d1b59bfba619827a575db61a4acd799275"), looks := true }, kinds := [], alts := [], laidByText := true, laidKinds := [.data, .pinned], laidTests := true, laidLooks := .later }
def StoreNamesUptoCardSaid : Prop := Claim7.holds Tryd.pinned (.plain (OpenSpec.upto storeNamesSpec)) storeNamesUptoCard

/-- THE SECOND FORM's CARD OF 'hornbeamlaw11.ClauseNames'. -/
def clauseNamesUptoCard : Claim7 := { stood := { row := clauseNamesUptoRow, standIns := [], harness := (true, "a533171db4832f21b950cb9ec747e4d1b59bfba619827a575db61a4acd799275"), looks := true }, kinds := [], alts := [], laidByText := true, laidKinds := [.data, .pinned], laidTests := true, laidLooks := .later }
def ClauseNamesUptoCardSaid : Prop := Claim7.holds Tryd.pinned (.plain (OpenSpec.upto clauseNamesSpec)) clauseNamesUptoCard

/-- THE SECOND FORM's CARD OF 'hornbeamlaw15.GcNil'. -/
def gcNilUptoCard : Claim7 := { stood := { row := gcNilUptoRow, standIns := [], harness := (true, "a533171db4832f21b950cb9ec747e4d1b59bfba619827a575db61a4acd799275"), looks := true }, kinds := [], alts := [], laidByText := true, laidKinds := [.data, .pinned], laidTests := true, laidLooks := .later }
def GcNilUptoCardSaid : Prop := Claim7.holds Tryd.pinned (.plain (OpenSpec.upto gcNilSpec)) gcNilUptoCard

/-- THE SECOND FORM's CARD OF 'hornbeamlaw13.StoreNil'. -/
def storeNilUptoCard : Claim7 := { stood := { row := storeNilUptoRow, standIns := [], harness := (true, "a533171db4832f21b950cb9ec747e4d1b59bfba619827a575db61a4acd799275"), looks := true }, kinds := [], alts := [], laidByText := true, laidKinds := [.data, .pinned], laidTests := true, laidLooks := .later }
def StoreNilUptoCardSaid : Prop := Claim7.holds Tryd.pinned (.plain (OpenSpec.upto storeNilSpec)) storeNilUptoCard

/-- THE SECOND FORM's CARD OF 'hornbeamlaw16.CompileNames'. -/
def compileNamesUptoCard : Claim7 := { stood := { row := compileNamesUptoRow, standIns := [], harness := (true, "a533171db4832f21b950cb9ec747e4d1b59bfba619827a575db61a4acd799275"), looks := true }, kinds := [], alts := [], laidByText := true, laidKinds := [.data, .pinned], laidTests := true, laidLooks := .later }
def CompileNamesUptoCardSaid : Prop := Claim7.holds Tryd.pinned (.plain (OpenSpec.upto compileNamesSpec)) compileNamesUptoCard

/-- THE SECOND FORM's CARD OF 'hornbeamlaw14.UnifyNames'. -/
def unifyNamesUptoCard : Claim7 := { stood := { row := unifyNamesUptoRow, standIns := [], harness := (true, "a533171db4832f21b950cb9ec747e4d1b59bfba619827a575db61a4acd799275"), looks := true }, kinds := [], alts := [], laidByText := true, laidKinds := [.data, .pinned], laidTests := true, laidLooks := .later }
def UnifyNamesUptoCardSaid : Prop := Claim7.holds Tryd.pinned (.plain (OpenSpec.upto unifyNamesSpec)) unifyNamesUptoCard

/-- THE SECOND FORM's CARD OF 'hornbeamlaw12.DatabaseNames'. -/
def databaseNamesUptoCard : Claim7 := { stood := { row := databaseNamesUptoRow, standIns := [], harness := (true, "a533171db4832f21b950cb9ec747e4d1b59bfba619827a575db61a4acd799275"), looks := true }, kinds := [], alts := [], laidByText := true, laidKinds := [.data, .pinned], laidTests := true, laidLooks := .later }
def DatabaseNamesUptoCardSaid : Prop := Claim7.holds Tryd.pinned (.plain (OpenSpec.upto databaseNamesSpec)) databaseNamesUptoCard

/-- THE SECOND FORM's CARD OF 'hornbeamlaw14.UnifyNil'. -/
def unifyNilUptoCard : Claim7 := { stood := { row := unifyNilUptoRow, standIns := [], harness := (true, "a533171db4832f21b950cb9ec747e4d1b59bfba619827a575db61a4acd799275"), looks := true }, kinds := [], alts := [], laidByText := true, laidKinds := [.data, .pinned], laidTests := true, laidLooks := .later }
def UnifyNilUptoCardSaid : Prop := Claim7.holds Tryd.pinned (.plain (OpenSpec.upto unifyNilSpec)) unifyNilUptoCard
end Rows
end Go.Proofs.YtgcbbaeokigbdaaDoor
