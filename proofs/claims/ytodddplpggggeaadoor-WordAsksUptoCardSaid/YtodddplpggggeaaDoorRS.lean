/- What the rows over lists of texts want: such a list as it came in. Conditions: none. -/
import Derived.Test.YtodddplpggggeaaDoorRW
import Derived.Test.YtodddplpggggeaaDoorN13
import Derived.SliceStrings
set_option linter.unusedSimpArgs false
set_option linter.unusedVariables false
namespace Go.Proofs.YtodddplpggggeaaDoor
open Go.ChangeShapes Go.WideShapes Go.ChangeAt Go.RowKit

theorem cells9' : Tryd.prog.cellsOf 9 = 1 := by kernel_rfl
theorem cells5 : Tryd.prog.cellsOf 5 = 1 := by kernel_rfl

theorem bulk_strs {H : Type} : ∀ (l : List ByteArray), totL (l.map (·.data.toList)) ≤ Rows.uptoBulkAll (strs (H := H) l)
  | [] => by simp [totL]
  | a :: l => by
    have ih := bulk_strs (H := H) l
    have e : strs (H := H) (a :: l) = .lit (.string a.data.toList) :: strs l := rfl
    rw [e, Rows.uptoBulkAll, Rows.uptoBulk]
    simp only [List.map_cons, totL, List.sum_cons] at ih ⊢
    omega

set_option maxRecDepth 100000 in
/-- a list of texts that came in -/
theorem open_texts {H : Type} {enc : TypeId × Value → H} {W : World} {base : Nat} {v : Value} {d : DataW H} {ps : List MemPlace}
    (hval : Value.okWide Tryd.prog W .any base 23 v) (h : DataW.Trod enc Tryd.prog W 0 (fun _ => true) true 23 v d ps) :
    ∃ (A : Option Addr) (n c : Nat) (L : List (List UInt8)), v = .slice A n c ∧ Reads W W.heap.size 1 A n (L.map strV) ∧ n ≤ c ∧ totL L ≤ Rows.uptoBulk d := by
  obtain ⟨A, n, c, rfl⟩ := okWide_slice Tryd.underlying23 hval
  obtain ⟨fuel, hf⟩ := h
  rcases open_strings Tryd.underlying23 Tryd.underlying9 cells9' hf with ⟨h1, h2⟩ | ⟨a, len, cap, ss, h1, hb, hl, hm, hz, hx, hcell, hwf⟩
  · injection h1 with h1
    cases h1
    exact ⟨none, 0, 0, [], rfl, Reads.none_, Nat.le_refl _, by simp [totL]⟩
  · injection h1 with h1
    cases h1
    simp at hz
    have hd : d = .slice (strs (ss.take n)) (strs (ss.drop n)) := (Prod.mk.inj hx).1
    refine ⟨some a, n, c, (ss.take n).map (·.data.toList), rfl, ?_, hl, ?_⟩
    · rcases Nat.eq_zero_or_pos n with h0 | h0
      · subst h0
        simpa using Reads.none_
      · have hc0 := hcell 0 (by omega)
        have hblk : a.block < W.heap.size := by
          have := block_lt_of_cell hc0
          rwa [block_of_add] at this
        refine Reads.of_cells (by omega) (by simp; omega) hblk ?_
        intro j u hu
        rw [List.getElem?_map, List.getElem?_map] at hu
        simp only [Option.map_map, Option.map_eq_some_iff] at hu
        obtain ⟨x, hx, rfl⟩ := hu
        have hj : j < n := by
          have := (List.getElem?_eq_some_iff.1 hx).1
          simp at this
          omega
        rw [hcell j (by omega)]
        rw [List.getElem?_take, if_pos hj] at hx
        simp only [List.getD, hx, Option.getD_some, Function.comp]
        rw [strV_data]
    · rw [hd, Rows.uptoBulk]
      have := bulk_strs (H := H) (ss.take n)
      omega
end Go.Proofs.YtodddplpggggeaaDoor
