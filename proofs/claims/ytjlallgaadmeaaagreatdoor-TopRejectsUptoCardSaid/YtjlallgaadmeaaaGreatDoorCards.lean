/-
  DERIVED. GIVEN WITH THE SEED: THE CARDS: each row of YtjlallgaadmeaaaGreatDoorRows.lean that lists a variable, with what it lists TIED to the program's text (the seventh form; the later family's looks); each row that meets fmt, with fmt's text TOLD by the authors' own Lean function (tested against real Go, not proved from fmt's source: count such statements apart). THE CARD IS WHAT COUNTS. Prove the row's statement (the work); the ties are given (YtjlallgaadmeaaaGreatDoorTie.lean); close each card by the builder's one call (the guide's Derived/Test/ToyasCard.lean, 'card_holds'). Laid BY PROGRAM, IN A SANDBOX (cutbox-door.mjs). By AI agents, Wed Nov 11 2026. No macro, syntax, notation, axiom, sorry.
-/
import Derived.Test.YtjlallgaadmeaaaGreatDoorRows
import GoSem.ClaimSeven
namespace Go.Proofs.YtjlallgaadmeaaaGreatDoor
namespace Rows

/-- THE TIED CARD OF 'quittancetop.TopRejects'. -/
def topRejectsCard : Claim7 := { stood := { row := topRejectsRow, standIns := [], harness := (true, "f2a7a2520230014512c017f9a9cc5e61ef1b8d2cd16956fd3f1c1804ec914cf0"), looks := true }, kinds := [], alts := [], goes := true, laidByText := true, laidKinds := [.handle], laidTests := true, laidLooks := .later }
def TopRejectsCardSaid : Prop := Claim7.holds Tryz.pinned (.plain (OpenSpec.ofChange topRejectsSpec)) topRejectsCard

/-- THE TIED CARD OF 'quittancetop.TopEnds'. -/
def topEndsCard : Claim7 := { stood := { row := topEndsRow, standIns := [], harness := (true, "f2a7a2520230014512c017f9a9cc5e61ef1b8d2cd16956fd3f1c1804ec914cf0"), looks := true }, kinds := [], alts := [], goes := true, laidByText := true, laidKinds := [.handle], laidTests := true, laidLooks := .later }
def TopEndsCardSaid : Prop := Claim7.holds Tryz.pinned (.plain (OpenSpec.ofChange topEndsSpec)) topEndsCard

/-- THE SECOND FORM's CARD OF 'quittancetop.TopRejects'. -/
def topRejectsUptoCard : Claim7 := { stood := { row := topRejectsUptoRow, standIns := [], harness := (true, "f2a7a2520230014512c017f9a9cc5e61ef1b8d2cd16956fd3f1c1804ec914cf0"), looks := true }, kinds := [], alts := [], goes := true, laidByText := true, laidKinds := [.handle], laidTests := true, laidLooks := .later }
def TopRejectsUptoCardSaid : Prop := Claim7.holds Tryz.pinned (.plain (OpenSpec.upto topRejectsSpec)) topRejectsUptoCard

/-- THE SECOND FORM's CARD OF 'quittancetop.TopEnds'. -/
def topEndsUptoCard : Claim7 := { stood := { row := topEndsUptoRow, standIns := [], harness := (true, "f2a7a2520230014512c017f9a9cc5e61ef1b8d2cd16956fd3f1c1804ec914cf0"), looks := true }, kinds := [], alts := [], goes := true, laidByText := true, laidKinds := [.handle], laidTests := true, laidLooks := .later }
def TopEndsUptoCardSaid : Prop := Claim7.holds Tryz.pinned (.plain (OpenSpec.upto topEndsSpec)) topEndsUptoCard
end Rows
end Go.Proofs.YtjlallgaadmeaaaGreatDoor
