/-
  DERIVED. GIVEN WITH THE SEED: THE CARDS: each row of YtpfbgoogajgciaaDoorRows.lean that lists a variable, with what it lists TIED to the program's text (the seventh form; the later family's looks); each row that meets fmt, with fmt's text TOLD by the authors' own Lean function (tested against real Go, not proved from fmt's source: count such statements apart). THE CARD IS WHAT COUNTS. Prove the row's statement (the work); the ties are given (YtpfbgoogajgciaaDoorTie.lean); close each card by the builder's one call (the guide's Derived/Test/ToyasCard.lean, 'card_holds'). Laid BY PROGRAM, IN A SANDBOX (cutbox-door.mjs). By AI agents, Wed Nov 11 2026. No macro, syntax, notation, axiom, sorry.
-/
import Derived.Test.YtpfbgoogajgciaaDoorRows
import GoSem.ClaimSeven
namespace Go.Proofs.YtpfbgoogajgciaaDoor
namespace Rows

/-- THE TIED CARD OF 'quittancelaw14.PaperMany'. -/
def paperManyCard : Claim7 := { stood := { row := paperManyRow, standIns := [], harness := (true, "5fed579583c67948f94dcf86bfc1ee4ae0fc4875377e509b190f55520df584ae"), looks := true }, kinds := [], alts := [], laidByText := true, laidKinds := [.data, .data, .data, .data, .sentinel, .sentinel, .pinned], laidTests := true, laidLooks := .later }
def PaperManyCardSaid : Prop := Claim7.holds Tryd.pinned (.plain (OpenSpec.ofChange paperManySpec)) paperManyCard

/-- THE SECOND FORM's CARD OF 'quittancelaw14.PaperMany'. -/
def paperManyUptoCard : Claim7 := { stood := { row := paperManyUptoRow, standIns := [], harness := (true, "5fed579583c67948f94dcf86bfc1ee4ae0fc4875377e509b190f55520df584ae"), looks := true }, kinds := [], alts := [], laidByText := true, laidKinds := [.data, .data, .data, .data, .sentinel, .sentinel, .pinned], laidTests := true, laidLooks := .later }
def PaperManyUptoCardSaid : Prop := Claim7.holds Tryd.pinned (.plain (OpenSpec.upto paperManySpec)) paperManyUptoCard
end Rows
end Go.Proofs.YtpfbgoogajgciaaDoor
