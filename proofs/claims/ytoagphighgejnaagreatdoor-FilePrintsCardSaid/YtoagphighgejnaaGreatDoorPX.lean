/- A problem's file: Print (19). Conditions: none. -/
import Derived.Test.YtoagphighgejnaaGreatDoorPP
import Derived.Test.YtoagphighgejnaaGreatDoorPQ
set_option linter.unusedSimpArgs false
set_option linter.unusedVariables false
namespace Go.Proofs.YtoagphighgejnaaGreatDoor
open Go.RowKit Go.Shelf

theorem Print_in (p : ProbV) (v : Value) (w : World) (hv : ProbIs w p v) (hE : Env w) : Calls Tryz.prog 19 #[v] w (PriTells p w) := by
  obtain ⟨S, n, c, A, m, d, rfl, hn, hm, hc, hd, r, ra⟩ := hv
  obtain ⟨mx, sup, arcs, ps, pt⟩ := p
  cases mx
  · exact print_false S A n c m d sup arcs ps pt w hn hm hc hd r ra hE
  · exact print_true S A n c m d sup arcs ps pt w hn hm hc hd r ra hE
end Go.Proofs.YtoagphighgejnaaGreatDoor
