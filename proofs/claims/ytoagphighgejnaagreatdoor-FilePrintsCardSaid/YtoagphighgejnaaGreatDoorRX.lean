/- The document's Print (9) of any problem; prints (18). Conditions: none. -/
import Derived.Test.YtoagphighgejnaaGreatDoorRP
import Derived.Test.YtoagphighgejnaaGreatDoorRQ
import Derived.Test.YtoagphighgejnaaGreatDoorPX
set_option linter.unusedSimpArgs false
set_option linter.unusedVariables false
namespace Go.Proofs.YtoagphighgejnaaGreatDoor
open Go.RowKit Go.Shelf

theorem rPrint_in (p : ProbV) (v : Value) (w : World) (hv : ProbIs w p v) : Calls Tryz.prog 9 #[v] w (RPriTells p w) := by
  obtain ⟨S, n, c, A, m, d, rfl, hn, hm, hc, hd, r, ra⟩ := hv
  obtain ⟨mx, sup, arcs, ps, pt⟩ := p
  cases mx
  · exact rprint_false S A n c m d sup arcs ps pt w hn hm hc hd r ra
  · exact rprint_true S A n c m d sup arcs ps pt w hn hm hc hd r ra
end Go.Proofs.YtoagphighgejnaaGreatDoor
