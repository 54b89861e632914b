/- WordLines (3). Conditions: none. -/
import Derived.Test.YtpfbgoogajgciaaDoorN6
import Derived.Test.YtpfbgoogajgciaaDoorPT
set_option linter.unusedSimpArgs false
set_option linter.unusedVariables false
namespace Go.Proofs.YtpfbgoogajgciaaDoor
open Go.RowKit Go.Shelf


theorem below_drewN (w : World) (q : Nat) : Below w.heap.size w (w.drewN q) := ⟨rfl, rfl, rfl, Nat.le_refl _, fun _ _ => rfl⟩
theorem getLast_at (l : List UInt8) (h : l ≠ []) : ∃ h : l.length - 1 < l.length, l.getLast? = some (l[l.length - 1]) := by
  have h1 : 0 < l.length := List.length_pos_iff.2 h
  refine ⟨by omega, ?_⟩
  rw [List.getLast?_eq_getElem?, List.getElem?_eq_getElem (by omega)]

end Go.Proofs.YtpfbgoogajgciaaDoor
