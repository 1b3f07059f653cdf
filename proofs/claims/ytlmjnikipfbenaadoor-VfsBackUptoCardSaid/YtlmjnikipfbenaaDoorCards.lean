/-
  DERIVED. GIVEN WITH THE SEED: THE CARDS: each row of YtlmjnikipfbenaaDoorRows.lean that lists a variable, with what it lists TIED to the program's text (the seventh form; the later family's looks); each row that meets fmt, with fmt's text TOLD by the authors' own Lean function (tested against real Go, not proved from fmt's source: count such statements apart). THE CARD IS WHAT COUNTS. Prove the row's statement (the work); the ties are given (YtlmjnikipfbenaaDoorTie.lean); close each card by the builder's one call (the guide's Derived/Test/ToyasCard.lean, 'card_holds'). Laid BY PROGRAM, IN A SANDBOX (cutbox-door.mjs). By AI agents, Wed Nov 11 2026. No macro, syntax, notation, axiom, sorry.
-/
import Derived.Test.YtlmjnikipfbenaaDoorRows
import GoSem.ClaimSeven
namespace Go.Proofs.YtlmjnikipfbenaaDoor
namespace Rows

/-- THE TIED CARD OF 'hornbeamlaw08.VfsBytes'. -/
def vfsBytesCard : Claim7 := { stood := { row := vfsBytesRow, standIns := [], harness := (true, "9283d7dd159714645f8d7a31e8cbff93d4f7b9c81ae799b7828fac2ee87fcd55"), looks := false }, kinds := [], alts := [], laidByText := true, laidKinds := [.data, .data, .data, .data, .pinned], laidTests := true, laidLooks := .later }
def VfsBytesCardSaid : Prop := Claim7.holds Tryd.pinned (.plain (OpenSpec.ofChange vfsBytesSpec)) vfsBytesCard

/-- THE TIED CARD OF 'hornbeamlaw08.VfsBack'. -/
def vfsBackCard : Claim7 := { stood := { row := vfsBackRow, standIns := [], harness := (true, "9283d7dd159714645f8d7a31e8cbff93d4f7b9c81ae799b7828fac2ee87fcd55"), looks := false }, kinds := [], alts := [], laidByText := true, laidKinds := [.data, .data, .data, .data, .pinned], laidTests := true, laidLooks := .later }
def VfsBackCardSaid : Prop := Claim7.holds Tryd.pinned (.plain (OpenSpec.ofChange vfsBackSpec)) vfsBackCard

/-- THE SECOND FORM's CARD OF 'hornbeamlaw08.VfsBytes'. -/
def vfsBytesUptoCard : Claim7 := { stood := { row := vfsBytesUptoRow, standIns := [], harness := (true, "9283d7dd159714645f8d7a31e8cbff93d4f7b9c81ae799b7828fac2ee87fcd55"), looks := false }, kinds := [], alts := [], laidByText := true, laidKinds := [.data, .data, .data, .data, .pinned], laidTests := true, laidLooks := .later }
def VfsBytesUptoCardSaid : Prop := Claim7.holds Tryd.pinned (.plain (OpenSpec.upto vfsBytesSpec)) vfsBytesUptoCard

/-- THE SECOND FORM's CARD OF 'hornbeamlaw08.VfsBack'. -/
def vfsBackUptoCard : Claim7 := { stood := { row := vfsBackUptoRow, standIns := [], harness := (true, "9283d7dd159714645f8d7a31e8cbff93d4f7b9c81ae799b7828fac2ee87fcd55"), looks := false }, kinds := [], alts := [], laidByText := true, laidKinds := [.data, .data, .data, .data, .pinned], laidTests := true, laidLooks := .later }
def VfsBackUptoCardSaid : Prop := Claim7.holds Tryd.pinned (.plain (OpenSpec.upto vfsBackSpec)) vfsBackUptoCard
end Rows
end Go.Proofs.YtlmjnikipfbenaaDoor
