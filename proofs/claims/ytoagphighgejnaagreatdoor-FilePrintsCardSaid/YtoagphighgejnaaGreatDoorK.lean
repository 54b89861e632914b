/- known (9): the chapter's examples. Conditions: none. -/
import Derived.Test.YtoagphighgejnaaGreatDoorH
set_option linter.unusedSimpArgs false
set_option linter.unusedVariables false
namespace Go.Proofs.YtoagphighgejnaaGreatDoor
open Go.RowKit Go.Shelf


theorem Lines_any (s : ByteArray) (hsz : s.size ≤ 4294967296) (w : World) :
    Calls Tryz.prog 40 #[.string s] w fun e w' => ∃ A m c, e = .returned (.slice A m c) ∧ m = (linesL s.data.toList).length ∧ m ≤ c ∧ Reads w' w'.heap.size 1 A m ((linesL s.data.toList).map strV) ∧ Below w.heap.size w w' :=
  callsIn_wide.1 (Lines_in 6 (Nat.le_refl _) s hsz w)

end Go.Proofs.YtoagphighgejnaaGreatDoor
