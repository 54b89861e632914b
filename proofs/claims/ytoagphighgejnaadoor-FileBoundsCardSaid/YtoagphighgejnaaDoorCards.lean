/-
  DERIVED. GIVEN WITH THE SEED: THE CARDS: each row of YtoagphighgejnaaDoorRows.lean that lists a variable, with what it lists TIED to the program's text (the seventh form; the later family's looks); each row that meets fmt, with fmt's text TOLD by the authors' own Lean function (tested against real Go, not proved from fmt's source: count such statements apart). THE CARD IS WHAT COUNTS. Prove the row's statement (the work); the ties are given (YtoagphighgejnaaDoorTie.lean); close each card by the builder's one call (the guide's Derived/Test/ToyasCard.lean, 'card_holds'). Laid BY PROGRAM, IN A SANDBOX (cutbox-door.mjs). By AI agents, Wed Nov 11 2026. No macro, syntax, notation, axiom, sorry.
-/
import Derived.Test.YtoagphighgejnaaDoorRows
import GoSem.ClaimSeven
namespace Go.Proofs.YtoagphighgejnaaDoor
namespace Rows

/-- THE TIED CARD OF 'quittancelaw08.FileParses'. -/
def fileParsesCard : Claim7 := { stood := { row := fileParsesRow, standIns := [], harness := (true, "ac8a73cf24f3cb9214a10547a2db9d71b0e5f668a43cd739a059b2b6a603e88a"), looks := true }, kinds := [], alts := [], laidByText := true, laidKinds := [.data, .data, .data, .data, .sentinel, .sentinel, .pinned], laidTests := true, laidLooks := .later }
def FileParsesCardSaid : Prop := Claim7.holds Tryd.pinned (.plain (OpenSpec.ofChange fileParsesSpec)) fileParsesCard

/-- THE TIED CARD OF 'quittancelaw08.FileBounds'. -/
def fileBoundsCard : Claim7 := { stood := { row := fileBoundsRow, standIns := [], harness := (true, "ac8a73cf24f3cb9214a10547a2db9d71b0e5f668a43cd739a059b2b6a603e88a"), looks := true }, kinds := [], alts := [], laidByText := true, laidKinds := [.data, .data, .data, .data, .sentinel, .sentinel, .pinned], laidTests := true, laidLooks := .later }
def FileBoundsCardSaid : Prop := Claim7.holds Tryd.pinned (.plain (OpenSpec.ofChange fileBoundsSpec)) fileBoundsCard

/-- THE SECOND FORM's CARD OF 'quittancelaw08.FileParses'. -/
def fileParsesUptoCard : Claim7 := { stood := { row := fileParsesUptoRow, standIns := [], harness := (true, "ac8a73cf24f3cb9214a10547a2db9d71b0e5f668a43cd739a059b2b6a603e88a"), looks := true }, kinds := [], alts := [], laidByText := true, laidKinds := [.data, .data, .data, .data, .sentinel, .sentinel, .pinned], laidTests := true, laidLooks := .later }
def FileParsesUptoCardSaid : Prop := Claim7.holds Tryd.pinned (.plain (OpenSpec.upto fileParsesSpec)) fileParsesUptoCard

/-- THE SECOND FORM's CARD OF 'quittancelaw08.FileBounds'. -/
def fileBoundsUptoCard : Claim7 := { stood := { row := fileBoundsUptoRow, standIns := [], harness := (true, "ac8a73cf24f3cb9214a10547a2db9d71b0e5f668a43cd739a059b2b6a603e88a"), looks := true }, kinds := [], alts := [], laidByText := true, laidKinds := [.data, .data, .data, .data, .sentinel, .sentinel, .pinned], laidTests := true, laidLooks := .later }
def FileBoundsUptoCardSaid : Prop := Claim7.holds Tryd.pinned (.plain (OpenSpec.upto fileBoundsSpec)) fileBoundsUptoCard
end Rows
end Go.Proofs.YtoagphighgejnaaDoor
