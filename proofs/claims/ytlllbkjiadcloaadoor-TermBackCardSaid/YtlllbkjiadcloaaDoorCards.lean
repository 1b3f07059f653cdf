/-
  DERIVED. GIVEN WITH THE SEED: THE CARDS: each row of YtlllbkjiadcloaaDoorRows.lean that lists a variable, with what it lists TIED to the program's text (the seventh form; the later family's looks); each row that meets fmt, with fmt's text TOLD by the authors' own Lean function (tested against real Go, not proved from fmt's source: count such statements apart). THE CARD IS WHAT COUNTS. Prove the row's statement (the work); the ties are given (YtlllbkjiadcloaaDoorTie.lean); close each card by the builder's one call (the guide's Derived/Test/ToyasCard.lean, 'card_holds'). Laid BY PROGRAM, IN A SANDBOX (cutbox-door.mjs). By AI agents, Wed Nov 11 2026. No macro, syntax, notation, axiom, sorry.
-/
import Derived.Test.YtlllbkjiadcloaaDoorRows
import GoSem.ClaimSeven
namespace Go.Proofs.YtlllbkjiadcloaaDoor
namespace Rows

/-- THE TIED CARD OF 'hornbeamlaw02.TermNames'. -/
def termNamesCard : Claim7 := { stood := { row := termNamesRow, standIns := [], harness := (true, "9f1048109dfae79726cca9fe91afa7e8282135abd4c5f2b42665a03b1a93e972"), looks := false }, kinds := [], alts := [], laidByText := true, laidKinds := [.data, .pinned], laidTests := true, laidLooks := .later }
def TermNamesCardSaid : Prop := Claim7.holds Tryd.pinned (.plain (OpenSpec.ofChange termNamesSpec)) termNamesCard

/-- THE TIED CARD OF 'hornbeamlaw02.TermChecks'. -/
def termChecksCard : Claim7 := { stood := { row := termChecksRow, standIns := [], harness := (true, "9f1048109dfae79726cca9fe91afa7e8282135abd4c5f2b42665a03b1a93e972"), looks := false }, kinds := [], alts := [], laidByText := true, laidKinds := [.data, .pinned], laidTests := true, laidLooks := .later }
def TermChecksCardSaid : Prop := Claim7.holds Tryd.pinned (.plain (OpenSpec.ofChange termChecksSpec)) termChecksCard

/-- THE TIED CARD OF 'hornbeamlaw02.TermOrders'. -/
def termOrdersCard : Claim7 := { stood := { row := termOrdersRow, standIns := [], harness := (true, "9f1048109dfae79726cca9fe91afa7e8282135abd4c5f2b42665a03b1a93e972"), looks := false }, kinds := [], alts := [], laidByText := true, laidKinds := [.data, .pinned], laidTests := true, laidLooks := .later }
def TermOrdersCardSaid : Prop := Claim7.holds Tryd.pinned (.plain (OpenSpec.ofChange termOrdersSpec)) termOrdersCard

/-- THE TIED CARD OF 'hornbeamlaw02.TermOneOrder'. -/
def termOneOrderCard : Claim7 := { stood := { row := termOneOrderRow, standIns := [], harness := (true, "9f1048109dfae79726cca9fe91afa7e8282135abd4c5f2b42665a03b1a93e972"), looks := false }, kinds := [], alts := [], laidByText := true, laidKinds := [.data, .pinned], laidTests := true, laidLooks := .later }
def TermOneOrderCardSaid : Prop := Claim7.holds Tryd.pinned (.plain (OpenSpec.ofChange termOneOrderSpec)) termOneOrderCard

/-- THE TIED CARD OF 'hornbeamlaw02.TermLists'. -/
def termListsCard : Claim7 := { stood := { row := termListsRow, standIns := [], harness := (true, "9f1048109dfae79726cca9fe91afa7e8282135abd4c5f2b42665a03b1a93e972"), looks := false }, kinds := [], alts := [], laidByText := true, laidKinds := [.data, .pinned], laidTests := true, laidLooks := .later }
def TermListsCardSaid : Prop := Claim7.holds Tryd.pinned (.plain (OpenSpec.ofChange termListsSpec)) termListsCard

/-- THE TIED CARD OF 'hornbeamlaw02.TermVars'. -/
def termVarsCard : Claim7 := { stood := { row := termVarsRow, standIns := [], harness := (true, "9f1048109dfae79726cca9fe91afa7e8282135abd4c5f2b42665a03b1a93e972"), looks := false }, kinds := [], alts := [], laidByText := true, laidKinds := [.data, .pinned], laidTests := true, laidLooks := .later }
def TermVarsCardSaid : Prop := Claim7.holds Tryd.pinned (.plain (OpenSpec.ofChange termVarsSpec)) termVarsCard

/-- THE TIED CARD OF 'hornbeamlaw02.TermPuts'. -/
def termPutsCard : Claim7 := { stood := { row := termPutsRow, standIns := [], harness := (true, "9f1048109dfae79726cca9fe91afa7e8282135abd4c5f2b42665a03b1a93e972"), looks := false }, kinds := [], alts := [], laidByText := true, laidKinds := [.data, .pinned], laidTests := true, laidLooks := .later }
def TermPutsCardSaid : Prop := Claim7.holds Tryd.pinned (.plain (OpenSpec.ofChange termPutsSpec)) termPutsCard

/-- THE TIED CARD OF 'hornbeamlaw02.TermSorts'. -/
def termSortsCard : Claim7 := { stood := { row := termSortsRow, standIns := [], harness := (true, "9f1048109dfae79726cca9fe91afa7e8282135abd4c5f2b42665a03b1a93e972"), looks := false }, kinds := [], alts := [], laidByText := true, laidKinds := [.data, .pinned], laidTests := true, laidLooks := .later }
def TermSortsCardSaid : Prop := Claim7.holds Tryd.pinned (.plain (OpenSpec.ofChange termSortsSpec)) termSortsCard

/-- THE TIED CARD OF 'hornbeamlaw02.TermBack'. -/
def termBackCard : Claim7 := { stood := { row := termBackRow, standIns := [], harness := (true, "9f1048109dfae79726cca9fe91afa7e8282135abd4c5f2b42665a03b1a93e972"), looks := false }, kinds := [], alts := [], laidByText := true, laidKinds := [.data, .pinned], laidTests := true, laidLooks := .later }
def TermBackCardSaid : Prop := Claim7.holds Tryd.pinned (.plain (OpenSpec.ofChange termBackSpec)) termBackCard

/-- THE SECOND FORM's CARD OF 'hornbeamlaw02.TermNames'. -/
def termNamesUptoCard : Claim7 := { stood := { row := termNamesUptoRow, standIns := [], harness := (true, "9f1048109dfae79726cca9fe91afa7e8282135abd4c5f2b42665a03b1a93e972"), looks := false }, kinds := [], alts := [], laidByText := true, laidKinds := [.data, .pinned], laidTests := true, laidLooks := .later }
def TermNamesUptoCardSaid : Prop := Claim7.holds Tryd.pinned (.plain (OpenSpec.upto termNamesSpec)) termNamesUptoCard

/-- THE SECOND FORM's CARD OF 'hornbeamlaw02.TermChecks'. -/
def termChecksUptoCard : Claim7 := { stood := { row := termChecksUptoRow, standIns := [], harness := (true, "9f1048109dfae79726cca9fe91afa7e8282135abd4c5f2b42665a03b1a93e972"), looks := false }, kinds := [], alts := [], laidByText := true, laidKinds := [.data, .pinned], laidTests := true, laidLooks := .later }
def TermChecksUptoCardSaid : Prop := Claim7.holds Tryd.pinned (.plain (OpenSpec.upto termChecksSpec)) termChecksUptoCard

/-- THE SECOND FORM's CARD OF 'hornbeamlaw02.TermOrders'. -/
def termOrdersUptoCard : Claim7 := { stood := { row := termOrdersUptoRow, standIns := [], harness := (true, "9f1048109dfae79726cca9fe91afa7e8282135abd4c5f2b42665a03b1a93e972"), looks := false }, kinds := [], alts := [], laidByText := true, laidKinds := [.data, .pinned], laidTests := true, laidLooks := .later }
def TermOrdersUptoCardSaid : Prop := Claim7.holds Tryd.pinned (.plain (OpenSpec.upto termOrdersSpec)) termOrdersUptoCard

/-- THE SECOND FORM's CARD OF 'hornbeamlaw02.TermOneOrder'. -/
def termOneOrderUptoCard : Claim7 := { stood := { row := termOneOrderUptoRow, standIns := [], harness := (true, "9f1048109dfae79726cca9fe91afa7e8282135abd4c5f2b42665a03b1a93e972"), looks := false }, kinds := [], alts := [], laidByText := true, laidKinds := [.data, .pinned], laidTests := true, laidLooks := .later }
def TermOneOrderUptoCardSaid : Prop := Claim7.holds Tryd.pinned (.plain (OpenSpec.upto termOneOrderSpec)) termOneOrderUptoCard

/-- THE SECOND FORM's CARD OF 'hornbeamlaw02.TermLists'. -/
def termListsUptoCard : Claim7 := { stood := { row := termListsUptoRow, standIns := [], harness := (true, "9f1048109dfae79726cca9fe91afa7e8282135abd4c5f2b42665a03b1a93e972"), looks := false }, kinds := [], alts := [], laidByText := true, laidKinds := [.data, .pinned], laidTests := true, laidLooks := .later }
def TermListsUptoCardSaid : Prop := Claim7.holds Tryd.pinned (.plain (OpenSpec.upto termListsSpec)) termListsUptoCard

/-- THE SECOND FORM's CARD OF 'hornbeamlaw02.TermVars'. -/
def termVarsUptoCard : Claim7 := { stood := { row := termVarsUptoRow, standIns := [], harness := (true, "9f1048109dfae79726cca9fe91afa7e8282135abd4c5f2b42665a03b1a93e972"), looks := false }, kinds := [], alts := [], laidByText := true, laidKinds := [.data, .pinned], laidTests := true, laidLooks := .later }
def TermVarsUptoCardSaid : Prop := Claim7.holds Tryd.pinned (.plain (OpenSpec.upto termVarsSpec)) termVarsUptoCard

/-- THE SECOND FORM's CARD OF 'hornbeamlaw02.TermPuts'. -/
def termPutsUptoCard : Claim7 := { stood := { row := termPutsUptoRow, standIns := [], harness := (true, "9f1048109dfae79726cca9fe91afa7e8282135abd4c5f2b42665a03b1a93e972"), looks := false }, kinds := [], alts := [], laidByText := true, laidKinds := [.data, .pinned], laidTests := true, laidLooks := .later }
def TermPutsUptoCardSaid : Prop := Claim7.holds Tryd.pinned (.plain (OpenSpec.upto termPutsSpec)) termPutsUptoCard

/-- THE SECOND FORM's CARD OF 'hornbeamlaw02.TermSorts'. -/
def termSortsUptoCard : Claim7 := { stood := { row := termSortsUptoRow, standIns := [], harness := (true, "9f1048109dfae79726cca9fe91afa7e8282135abd4c5f2b42665a03b1a93e972"), looks := false }, kinds := [], alts := [], laidByText := true, laidKinds := [.data, .pinned], laidTests := true, laidLooks := .later }
def TermSortsUptoCardSaid : Prop := Claim7.holds Tryd.pinned (.plain (OpenSpec.upto termSortsSpec)) termSortsUptoCard

/-- THE SECOND FORM's CARD OF 'hornbeamlaw02.TermBack'. -/
def termBackUptoCard : Claim7 := { stood := { row := termBackUptoRow, standIns := [], harness := (true, "9f1048109dfae79726cca9fe91afa7e8282135abd4c5f2b42665a03b1a93e972"), looks := false }, kinds := [], alts := [], laidByText := true, laidKinds := [.data, .pinned], laidTests := true, laidLooks := .later }
def TermBackUptoCardSaid : Prop := Claim7.holds Tryd.pinned (.plain (OpenSpec.upto termBackSpec)) termBackUptoCard
end Rows
end Go.Proofs.YtlllbkjiadcloaaDoor
