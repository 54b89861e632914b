/-
  DERIVED. GIVEN WITH THE SEED: THE CARDS: each row of YtoagphighgejnaaGreatDoorRows.lean that lists a variable, with what it lists TIED to the program's text (the seventh form; the later family's looks); each row that meets fmt, with fmt's text TOLD by the authors' own Lean function (tested against real Go, not proved from fmt's source: count such statements apart). THE CARD IS WHAT COUNTS. Prove the row's statement (the work); the ties are given (YtoagphighgejnaaGreatDoorTie.lean); close each card by the builder's one call (the guide's Derived/Test/ToyasCard.lean, 'card_holds'). Laid BY PROGRAM, IN A SANDBOX (cutbox-door.mjs). By AI agents, Wed Nov 11 2026. No macro, syntax, notation, axiom, sorry.
-/
import Derived.Test.YtoagphighgejnaaGreatDoorRows
import GoSem.ClaimSeven
namespace Go.Proofs.YtoagphighgejnaaGreatDoor
namespace Rows

/-- THE TIED CARD OF 'quittancelaw08.FileBent'. -/
def fileBentCard : Claim7 := { stood := { row := fileBentRow, standIns := [], harness := (true, "3d1f7f1b559f8769b83bf89657c5d4712e0102d2ed03589a973504acfba6aecd"), looks := true }, kinds := [], alts := [], laidByText := true, laidKinds := [.data, .data, .data, .data, .sentinel, .sentinel, .pinned], laidTests := true, laidLooks := .later }
def FileBentCardSaid : Prop := Claim7.holds Tryz.pinned (.plain (OpenSpec.ofChange fileBentSpec)) fileBentCard

/-- THE TIED CARD OF 'quittancelaw08.FilePrints'. -/
def filePrintsCard : Claim7 := { stood := { row := filePrintsRow, standIns := [], harness := (true, "3d1f7f1b559f8769b83bf89657c5d4712e0102d2ed03589a973504acfba6aecd"), looks := true }, kinds := [], alts := [], laidByText := true, laidKinds := [.data, .data, .data, .data, .sentinel, .sentinel, .pinned], laidTests := true, laidLooks := .later }
def FilePrintsCardSaid : Prop := Claim7.holds Tryz.pinned (.plain (OpenSpec.ofChange filePrintsSpec)) filePrintsCard

/-- THE TIED CARD OF 'quittancelaw08.FileBack'. -/
def fileBackCard : Claim7 := { stood := { row := fileBackRow, standIns := [], harness := (true, "3d1f7f1b559f8769b83bf89657c5d4712e0102d2ed03589a973504acfba6aecd"), looks := true }, kinds := [], alts := [], laidByText := true, laidKinds := [.data, .data, .data, .data, .sentinel, .sentinel, .pinned], laidTests := true, laidLooks := .later }
def FileBackCardSaid : Prop := Claim7.holds Tryz.pinned (.plain (OpenSpec.ofChange fileBackSpec)) fileBackCard

/-- THE TIED CARD OF 'quittancelaw08.FileRight'. -/
def fileRightCard : Claim7 := { stood := { row := fileRightRow, standIns := [], harness := (true, "3d1f7f1b559f8769b83bf89657c5d4712e0102d2ed03589a973504acfba6aecd"), looks := true }, kinds := [], alts := [], laidByText := true, laidKinds := [.data, .data, .data, .data, .sentinel, .sentinel, .pinned], laidTests := true, laidLooks := .later }
def FileRightCardSaid : Prop := Claim7.holds Tryz.pinned (.plain (OpenSpec.ofChange fileRightSpec)) fileRightCard

/-- THE TIED CARD OF 'quittancelaw08.FileCut'. -/
def fileCutCard : Claim7 := { stood := { row := fileCutRow, standIns := [], harness := (true, "3d1f7f1b559f8769b83bf89657c5d4712e0102d2ed03589a973504acfba6aecd"), looks := true }, kinds := [], alts := [], laidByText := true, laidKinds := [.data, .data, .data, .data, .sentinel, .sentinel, .pinned], laidTests := true, laidLooks := .later }
def FileCutCardSaid : Prop := Claim7.holds Tryz.pinned (.plain (OpenSpec.ofChange fileCutSpec)) fileCutCard

/-- THE TIED CARD OF 'quittancelaw08.FileNodes'. -/
def fileNodesCard : Claim7 := { stood := { row := fileNodesRow, standIns := [], harness := (true, "3d1f7f1b559f8769b83bf89657c5d4712e0102d2ed03589a973504acfba6aecd"), looks := true }, kinds := [], alts := [], laidByText := true, laidKinds := [.data, .data, .data, .data, .sentinel, .sentinel, .pinned], laidTests := true, laidLooks := .later }
def FileNodesCardSaid : Prop := Claim7.holds Tryz.pinned (.plain (OpenSpec.ofChange fileNodesSpec)) fileNodesCard

/-- THE SECOND FORM's CARD OF 'quittancelaw08.FileBent'. -/
def fileBentUptoCard : Claim7 := { stood := { row := fileBentUptoRow, standIns := [], harness := (true, "3d1f7f1b559f8769b83bf89657c5d4712e0102d2ed03589a973504acfba6aecd"), looks := true }, kinds := [], alts := [], laidByText := true, laidKinds := [.data, .data, .data, .data, .sentinel, .sentinel, .pinned], laidTests := true, laidLooks := .later }
def FileBentUptoCardSaid : Prop := Claim7.holds Tryz.pinned (.plain (OpenSpec.upto fileBentSpec)) fileBentUptoCard

/-- THE SECOND FORM's CARD OF 'quittancelaw08.FilePrints'. -/
def filePrintsUptoCard : Claim7 := { stood := { row := filePrintsUptoRow, standIns := [], harness := (true, "3d1f7f1b559f8769b83bf89657c5d4712e0102d2ed03589a973504acfba6aecd"), looks := true }, kinds := [], alts := [], laidByText := true, laidKinds := [.data, .data, .data, .data, .sentinel, .sentinel, .pinned], laidTests := true, laidLooks := .later }
def FilePrintsUptoCardSaid : Prop := Claim7.holds Tryz.pinned (.plain (OpenSpec.upto filePrintsSpec)) filePrintsUptoCard

/-- THE SECOND FORM's CARD OF 'quittancelaw08.FileBack'. -/
def fileBackUptoCard : Claim7 := { stood := { row := fileBackUptoRow, standIns := [], harness := (true, "3d1f7f1b559f8769b83bf89657c5d4712e0102d2ed03589a973504acfba6aecd"), looks := true }, kinds := [], alts := [], laidByText := true, laidKinds := [.data, .data, .data, .data, .sentinel, .sentinel, .pinned], laidTests := true, laidLooks := .later }
def FileBackUptoCardSaid : Prop := Claim7.holds Tryz.pinned (.plain (OpenSpec.upto fileBackSpec)) fileBackUptoCard

/-- THE SECOND FORM's CARD OF 'quittancelaw08.FileRight'. -/
def fileRightUptoCard : Claim7 := { stood := { row := fileRightUptoRow, standIns := [], harness := (true, "3d1f7f1b559f8769b83bf89657c5d4712e0102d2ed03589a973504acfba6aecd"), looks := true }, kinds := [], alts := [], laidByText := true, laidKinds := [.data, .data, .data, .data, .sentinel, .sentinel, .pinned], laidTests := true, laidLooks := .later }
def FileRightUptoCardSaid : Prop := Claim7.holds Tryz.pinned (.plain (OpenSpec.upto fileRightSpec)) fileRightUptoCard

/-- THE SECOND FORM's CARD OF 'quittancelaw08.FileCut'. -/
def fileCutUptoCard : Claim7 := { stood := { row := fileCutUptoRow, standIns := [], harness := (true, "3d1f7f1b559f8769b83bf89657c5d4712e0102d2ed03589a973504acfba6aecd"), looks := true }, kinds := [], alts := [], laidByText := true, laidKinds := [.data, .data, .data, .data, .sentinel, .sentinel, .pinned], laidTests := true, laidLooks := .later }
def FileCutUptoCardSaid : Prop := Claim7.holds Tryz.pinned (.plain (OpenSpec.upto fileCutSpec)) fileCutUptoCard

/-- THE SECOND FORM's CARD OF 'quittancelaw08.FileNodes'. -/
def fileNodesUptoCard : Claim7 := { stood := { row := fileNodesUptoRow, standIns := [], harness := (true, "3d1f7f1b559f8769b83bf89657c5d4712e0102d2ed03589a973504acfba6aecd"), looks := true }, kinds := [], alts := [], laidByText := true, laidKinds := [.data, .data, .data, .data, .sentinel, .sentinel, .pinned], laidTests := true, laidLooks := .later }
def FileNodesUptoCardSaid : Prop := Claim7.holds Tryz.pinned (.plain (OpenSpec.upto fileNodesSpec)) fileNodesUptoCard
end Rows
end Go.Proofs.YtoagphighgejnaaGreatDoor
