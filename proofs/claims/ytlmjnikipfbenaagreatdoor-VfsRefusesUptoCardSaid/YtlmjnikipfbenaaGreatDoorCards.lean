/-
  DERIVED. GIVEN WITH THE SEED: THE CARDS: each row of YtlmjnikipfbenaaGreatDoorRows.lean that lists a variable, with what it lists TIED to the program's text (the seventh form; the later family's looks); each row that meets fmt, with fmt's text TOLD by the authors' own Lean function (tested against real Go, not proved from fmt's source: count such statements apart). THE CARD IS WHAT COUNTS. Prove the row's statement (the work); the ties are given (YtlmjnikipfbenaaGreatDoorTie.lean); close each card by the builder's one call (the guide's Derived/Test/ToyasCard.lean, 'card_holds'). Laid BY PROGRAM, IN A SANDBOX (cutbox-door.mjs). By AI agents, Wed Nov 11 2026. No macro, syntax, notation, axiom, sorry.
-/
import Derived.Test.YtlmjnikipfbenaaGreatDoorRows
import GoSem.ClaimSeven
namespace Go.Proofs.YtlmjnikipfbenaaGreatDoor
namespace Rows

/-- THE TIED CARD OF 'hornbeamlaw08.VfsPlays'. -/
def vfsPlaysCard : Claim7 := { stood := { row := vfsPlaysRow, standIns := [], harness := (true, "20ef2b8099bc90384080115c7c5f7cb29e23542a7cf97ec5f261dde304ba1a90"), looks := true }, kinds := [], alts := [], laidByText := true, laidKinds := [.data, .data, .data, .data, .pinned], laidTests := true, laidLooks := .later }
def VfsPlaysCardSaid : Prop := Claim7.holds Tryz.pinned (.plain (OpenSpec.ofChange vfsPlaysSpec)) vfsPlaysCard

/-- THE TIED CARD OF 'hornbeamlaw08.VfsRefuses'. -/
def vfsRefusesCard : Claim7 := { stood := { row := vfsRefusesRow, standIns := [], harness := (true, "20ef2b8099bc90384080115c7c5f7cb29e23542a7cf97ec5f261dde304ba1a90"), looks := true }, kinds := [], alts := [], laidByText := true, laidKinds := [.data, .data, .data, .data, .pinned], laidTests := true, laidLooks := .later }
def VfsRefusesCardSaid : Prop := Claim7.holds Tryz.pinned (.plain (OpenSpec.ofChange vfsRefusesSpec)) vfsRefusesCard

/-- THE TIED CARD OF 'hornbeamlaw08.VfsNone'. -/
def vfsNoneCard : Claim7 := { stood := { row := vfsNoneRow, standIns := [], harness := (true, "20ef2b8099bc90384080115c7c5f7cb29e23542a7cf97ec5f261dde304ba1a90"), looks := true }, kinds := [], alts := [], laidByText := true, laidKinds := [.data, .data, .data, .data, .pinned], laidTests := true, laidLooks := .later }
def VfsNoneCardSaid : Prop := Claim7.holds Tryz.pinned (.plain (OpenSpec.ofChange vfsNoneSpec)) vfsNoneCard

/-- THE SECOND FORM's CARD OF 'hornbeamlaw08.VfsPlays'. -/
def vfsPlaysUptoCard : Claim7 := { stood := { row := vfsPlaysUptoRow, standIns := [], harness := (true, "20ef2b8099bc90384080115c7c5f7cb29e23542a7cf97ec5f261dde304ba1a90"), looks := true }, kinds := [], alts := [], laidByText := true, laidKinds := [.data, .data, .data, .data, .pinned], laidTests := true, laidLooks := .later }
def VfsPlaysUptoCardSaid : Prop := Claim7.holds Tryz.pinned (.plain (OpenSpec.upto vfsPlaysSpec)) vfsPlaysUptoCard

/-- THE SECOND FORM's CARD OF 'hornbeamlaw08.VfsRefuses'. -/
def vfsRefusesUptoCard : Claim7 := { stood := { row := vfsRefusesUptoRow, standIns := [], harness := (true, "20ef2b8099bc90384080115c7c5f7cb29e23542a7cf97ec5f261dde304ba1a90"), looks := true }, kinds := [], alts := [], laidByText := true, laidKinds := [.data, .data, .data, .data, .pinned], laidTests := true, laidLooks := .later }
def VfsRefusesUptoCardSaid : Prop := Claim7.holds Tryz.pinned (.plain (OpenSpec.upto vfsRefusesSpec)) vfsRefusesUptoCard

/-- THE SECOND FORM's CARD OF 'hornbeamlaw08.VfsNone'. -/
def vfsNoneUptoCard : Claim7 := { stood := { row := vfsNoneUptoRow, standIns := [], harness := (true, "20ef2b8099bc90384080115c7c5f7cb29e23542a7cf97ec5f261dde304ba1a90"), looks := true }, kinds := [], alts := [], laidByText := true, laidKinds := [.data, .data, .data, .data, .pinned], laidTests := true, laidLooks := .later }
def VfsNoneUptoCardSaid : Prop := Claim7.holds Tryz.pinned (.plain (OpenSpec.upto vfsNoneSpec)) vfsNoneUptoCard
end Rows
end Go.Proofs.YtlmjnikipfbenaaGreatDoor
