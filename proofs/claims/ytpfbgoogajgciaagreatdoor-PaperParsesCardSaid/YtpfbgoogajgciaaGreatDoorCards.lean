/-
  DERIVED. GIVEN WITH THE SEED: THE CARDS: each row of YtpfbgoogajgciaaGreatDoorRows.lean that lists a variable, with what it lists TIED to the program's text (the seventh form; the later family's looks); each row that meets fmt, with fmt's text TOLD by the authors' own Lean function (tested against real Go, not proved from fmt's source: count such statements apart). THE CARD IS WHAT COUNTS. Prove the row's statement (the work); the ties are given (YtpfbgoogajgciaaGreatDoorTie.lean); close each card by the builder's one call (the guide's Derived/Test/ToyasCard.lean, 'card_holds'). Laid BY PROGRAM, IN A SANDBOX (cutbox-door.mjs). By AI agents, Wed Nov 11 2026. No macro, syntax, notation, axiom, sorry.
-/
import Derived.Test.YtpfbgoogajgciaaGreatDoorRows
import GoSem.ClaimSeven
namespace Go.Proofs.YtpfbgoogajgciaaGreatDoor
namespace Rows

/-- THE TIED CARD OF 'quittancelaw14.PaperParses'. -/
def paperParsesCard : Claim7 := { stood := { row := paperParsesRow, standIns := [], harness := (true, "dad3ce53375c6ac441ba64611f7946e8337742e75bfa3fa419969c0f3802e261"), looks := true }, kinds := [], alts := [], laidByText := true, laidKinds := [.data, .data, .data, .data, .sentinel, .sentinel, .pinned], laidTests := true, laidLooks := .later }
def PaperParsesCardSaid : Prop := Claim7.holds Tryz.pinned (.plain (OpenSpec.ofChange paperParsesSpec)) paperParsesCard

/-- THE TIED CARD OF 'quittancelaw14.PaperPrints'. -/
def paperPrintsCard : Claim7 := { stood := { row := paperPrintsRow, standIns := [], harness := (true, "dad3ce53375c6ac441ba64611f7946e8337742e75bfa3fa419969c0f3802e261"), looks := true }, kinds := [], alts := [], laidByText := true, laidKinds := [.data, .data, .data, .data, .sentinel, .sentinel, .pinned], laidTests := true, laidLooks := .later }
def PaperPrintsCardSaid : Prop := Claim7.holds Tryz.pinned (.plain (OpenSpec.ofChange paperPrintsSpec)) paperPrintsCard

/-- THE TIED CARD OF 'quittancelaw14.PaperBack'. -/
def paperBackCard : Claim7 := { stood := { row := paperBackRow, standIns := [], harness := (true, "dad3ce53375c6ac441ba64611f7946e8337742e75bfa3fa419969c0f3802e261"), looks := true }, kinds := [], alts := [], laidByText := true, laidKinds := [.data, .data, .data, .data, .sentinel, .sentinel, .pinned], laidTests := true, laidLooks := .later }
def PaperBackCardSaid : Prop := Claim7.holds Tryz.pinned (.plain (OpenSpec.ofChange paperBackSpec)) paperBackCard

/-- THE SECOND FORM's CARD OF 'quittancelaw14.PaperParses'. -/
def paperParsesUptoCard : Claim7 := { stood := { row := paperParsesUptoRow, standIns := [], harness := (true, "dad3ce53375c6ac441ba64611f7946e8337742e75bfa3fa419969c0f3802e261"), looks := true }, kinds := [], alts := [], laidByText := true, laidKinds := [.data, .data, .data, .data, .sentinel, .sentinel, .pinned], laidTests := true, laidLooks := .later }
def PaperParsesUptoCardSaid : Prop := Claim7.holds Tryz.pinned (.plain (OpenSpec.upto paperParsesSpec)) paperParsesUptoCard

/-- THE SECOND FORM's CARD OF 'quittancelaw14.PaperPrints'. -/
def paperPrintsUptoCard : Claim7 := { stood := { row := paperPrintsUptoRow, standIns := [], harness := (true, "dad3ce53375c6ac441ba64611f7946e8337742e75bfa3fa419969c0f3802e261"), looks := true }, kinds := [], alts := [], laidByText := true, laidKinds := [.data, .data, .data, .data, .sentinel, .sentinel, .pinned], laidTests := true, laidLooks := .later }
def PaperPrintsUptoCardSaid : Prop := Claim7.holds Tryz.pinned (.plain (OpenSpec.upto paperPrintsSpec)) paperPrintsUptoCard

/-- THE SECOND FORM's CARD OF 'quittancelaw14.PaperBack'. -/
def paperBackUptoCard : Claim7 := { stood := { row := paperBackUptoRow, standIns := [], harness := (true, "dad3ce53375c6ac441ba64611f7946e8337742e75bfa3fa419969c0f3802e261"), looks := true }, kinds := [], alts := [], laidByText := true, laidKinds := [.data, .data, .data, .data, .sentinel, .sentinel, .pinned], laidTests := true, laidLooks := .later }
def PaperBackUptoCardSaid : Prop := Claim7.holds Tryz.pinned (.plain (OpenSpec.upto paperBackSpec)) paperBackUptoCard
end Rows
end Go.Proofs.YtpfbgoogajgciaaGreatDoor
