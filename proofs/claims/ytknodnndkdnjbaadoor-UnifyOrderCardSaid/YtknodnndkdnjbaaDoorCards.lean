/-
  DERIVED. GIVEN WITH THE SEED: THE CARDS: each row of YtknodnndkdnjbaaDoorRows.lean that lists a variable, with what it lists TIED to the program's text (the seventh form; the later family's looks); each row that meets fmt, with fmt's text TOLD by the authors' own Lean function (tested against real Go, not proved from fmt's source: count such statements apart). THE CARD IS WHAT COUNTS. Prove the row's statement (the work); the ties are given (YtknodnndkdnjbaaDoorTie.lean); close each card by the builder's one call (the guide's Derived/Test/ToyasCard.lean, 'card_holds'). Laid BY PROGRAM, IN A SANDBOX (cutbox-door.mjs). By AI agents, Wed Nov 11 2026. No macro, syntax, notation, axiom, sorry.
-/
import Derived.Test.YtknodnndkdnjbaaDoorRows
import GoSem.ClaimSeven
namespace Go.Proofs.YtknodnndkdnjbaaDoor
namespace Rows

/-- THE TIED CARD OF 'hornbeamlaw14.UnifyOrder'. -/
def unifyOrderCard : Claim7 := { stood := { row := unifyOrderRow, standIns := [], harness := (true, "56d7a63b928153efd87cf399919bc0fc6a627207a3a76e28c37cd81eec87d216"), looks := false }, kinds := [], alts := [], laidByText := true, laidKinds := [.data, .pinned], laidTests := true, laidLooks := .later }
def UnifyOrderCardSaid : Prop := Claim7.holds Tryd.pinned (.plain (OpenSpec.ofChange unifyOrderSpec)) unifyOrderCard

/-- THE SECOND FORM's CARD OF 'hornbeamlaw14.UnifyOrder'. -/
def unifyOrderUptoCard : Claim7 := { stood := { row := unifyOrderUptoRow, standIns := [], harness := (true, "56d7a63b928153efd87cf399919bc0fc6a627207a3a76e28c37cd81eec87d216"), looks := false }, kinds := [], alts := [], laidByText := true, laidKinds := [.data, .pinned], laidTests := true, laidLooks := .later }
def UnifyOrderUptoCardSaid : Prop := Claim7.holds Tryd.pinned (.plain (OpenSpec.upto unifyOrderSpec)) unifyOrderUptoCard
end Rows
end Go.Proofs.YtknodnndkdnjbaaDoor
