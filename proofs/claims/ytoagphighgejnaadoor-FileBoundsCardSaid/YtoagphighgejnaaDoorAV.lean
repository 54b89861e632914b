/- What an arc is in memory. Conditions: none. -/
import Derived.Test.YtoagphighgejnaaDoorApp
import Derived.Test.YtoagphighgejnaaDoorH
set_option linter.unusedSimpArgs false
set_option linter.unusedVariables false
namespace Go.Proofs.YtoagphighgejnaaDoor
open Go.RowKit Go.Shelf

def I (x : Int) : Value := .int .i64 x

theorem take_snoc {α : Type} (xs : List α) (k : Nat) (x : α) (h : xs[k]? = some x) : xs.take (k + 1) = xs.take k ++ [x] := by
  rw [List.take_add_one, h]; rfl

/-- an arc's five numbers -/
structure ArcV where
  f : Int
  t : Int
  lo : Int
  cap : Int
  cost : Int
  deriving DecidableEq, Inhabited
def ArcV.cells (a : ArcV) : List Value := [I a.f, I a.t, I a.lo, I a.cap, I a.cost]
def ArcV.zero : ArcV := ⟨0, 0, 0, 0, 0⟩
def arcCells (l : List ArcV) : List Value := l.flatMap ArcV.cells
def fitB (n : Nat) (a : ArcV) : Bool := decide (0 ≤ a.f) && decide (a.f < n) && decide (0 ≤ a.t) && decide (a.t < n)

theorem arcCells_length (l : List ArcV) : (arcCells l).length = l.length * 5 := by
  induction l with
  | nil => rfl
  | cons a l ih => simp [arcCells, ArcV.cells] at ih ⊢; omega
theorem arcCells_at (l : List ArcV) (k j : Nat) (hj : j < 5) : (arcCells l)[k * 5 + j]? = (l[k]?).bind fun a => a.cells[j]? := by
  induction l generalizing k with
  | nil => simp [arcCells]
  | cons a l ih =>
    cases k with
    | zero =>
      have : (arcCells (a :: l)) = a.cells ++ arcCells l := by simp [arcCells]
      rw [this]
      simp only [Nat.zero_mul, Nat.zero_add, List.getElem?_cons_zero, Option.bind_some]
      exact List.getElem?_append_left (by simpa [ArcV.cells] using hj)
    | succ k =>
      have : (arcCells (a :: l)) = a.cells ++ arcCells l := by simp [arcCells]
      rw [this, List.getElem?_append_right (by simp [ArcV.cells]; omega)]
      have e : (k + 1) * 5 + j - a.cells.length = k * 5 + j := by simp [ArcV.cells]; omega
      rw [e, ih k]
      simp

/-- the cells of element k of a slice of arcs -/
theorem Reads.arc {w : World} {B : Nat} {A : Option Addr} {n : Nat} {l : List ArcV} (h : Reads w B 5 A n (arcCells l)) {k : Nat} {a : ArcV} (hk : l[k]? = some a) :
    ∃ b off, A = some ⟨b, off, none⟩ ∧ b < B ∧ w.cell? ⟨b, off + k * 5, none⟩ = some (.int .i64 a.f) ∧ w.cell? ⟨b, off + k * 5 + 1, none⟩ = some (.int .i64 a.t) ∧ w.cell? ⟨b, off + k * 5 + 2, none⟩ = some (.int .i64 a.lo) ∧
      w.cell? ⟨b, off + k * 5 + 3, none⟩ = some (.int .i64 a.cap) ∧ w.cell? ⟨b, off + k * 5 + 4, none⟩ = some (.int .i64 a.cost) := by
  have hkl : k < l.length := by
    rcases Nat.lt_or_ge k l.length with h1 | h1
    · exact h1
    · rw [List.getElem?_eq_none h1] at hk; cases hk
  have hl := h.1
  rw [arcCells_length] at hl
  obtain ⟨b, off, e, hb, hc⟩ := h.2 (by omega)
  have H : ∀ j u, j < 5 → a.cells[j]? = some u → w.cell? ⟨b, off + k * 5 + j, none⟩ = some u := fun j u hj hu => by
    rw [Nat.add_assoc]
    exact hc _ _ (by rw [arcCells_at _ _ _ hj, hk]; exact hu)
  exact ⟨b, off, e, hb, H 0 _ (by omega) rfl, H 1 _ (by omega) rfl, H 2 _ (by omega) rfl, H 3 _ (by omega) rfl, H 4 _ (by omega) rfl⟩


def ints (l : List Int) : Array Value := (l.map I).toArray

/-- a byte of Go's -/
def U (v : Int) : Value := .int .u8 v
def Byt (cs : List Int) : Prop := ∀ v ∈ cs, 0 ≤ v ∧ v ≤ 255
theorem Byt.at_ {cs : List Int} {k : Nat} {x : Int} (h : Byt cs) (hk : cs[k]? = some x) : 0 ≤ x ∧ x ≤ 255 := h x (List.mem_of_getElem? hk)

end Go.Proofs.YtoagphighgejnaaDoor
