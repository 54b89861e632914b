/- A problem's file: Print (19). Conditions: none. -/
import Derived.Test.YtoagphighgejnaaGreatDoorPL
import Derived.Test.YtoagphighgejnaaGreatDoorW2
import Derived.Deep.DeepCutAuto
set_option linter.unusedSimpArgs false
set_option linter.unusedVariables false
namespace Go.Proofs.YtoagphighgejnaaGreatDoor
open Go.RowKit Go.Shelf

/-- what is printed: the file, or that it may not be printed -/
def PrintsTo (p : ProbV) (T : List UInt8) (k : Int) : Prop := (FitsF p ∧ T = textP p ∧ k = 0) ∨ (¬ FitsF p ∧ T = [] ∧ k = 1)
theorem PrintsTo.one {p : ProbV} {T T' : List UInt8} {k k' : Int} (h : PrintsTo p T k) (h' : PrintsTo p T' k') : T = T' ∧ k = k' := by
  rcases h with ⟨a, rfl, rfl⟩ | ⟨a, rfl, rfl⟩ <;> rcases h' with ⟨b, rfl, rfl⟩ | ⟨b, rfl, rfl⟩
  · exact ⟨rfl, rfl⟩
  · exact absurd a b
  · exact absurd b a
  · exact ⟨rfl, rfl⟩
def PriTells (p : ProbV) (w : World) (e : Ending) (w' : World) : Prop := ∃ T k, e = .returned (.tuple #[strV T, .int .u16 k]) ∧ PrintsTo p T k ∧ Below w.heap.size w w'
theorem getD_at {l : List Int} {k : Nat} {x : Int} (h : l[k]? = some x) : l.getD k 0 = x := by rw [List.getD_eq_getElem?_getD, h]; rfl
theorem txt_ne (p : ProbV) (k : Nat) : txt (arcsT p k) ≠ [] := by
  unfold arcsT txt
  simp [flatL]
/-- words in a row of one's own, behind a world -/
structure RowIs (R : Nat) (wb : World) (ws : List (List UInt8)) (v : Value) (wx : World) : Prop where
  own : wx.ownsRow R 9 1 v ws.length (ws.map strV)
  b : Below wb.heap.size wb wx
/-- what the page's loop keeps -/
structure PageAt (B b : Nat) (l : List UInt8) (wb wx : World) : Prop where
  p : PageIs B b (Lib.byteCells l) wx
  b : Below B wb wx
  h : B ≤ wb.heap.size
end Go.Proofs.YtoagphighgejnaaGreatDoor
