/- What the rows of this seat want: a list of bytes, as it came in. Conditions: none. -/
import Derived.Test.YtoagphighgejnaaGreatDoorRW
import Derived.Deep.Grids
import Derived.Lib.SmallJoins
set_option linter.unusedSimpArgs false
set_option linter.unusedVariables false
namespace Go.Proofs.YtoagphighgejnaaGreatDoor
open Go.ChangeShapes Go.WideShapes Go.ChangeAt Go.RowKit

theorem cells5 : Tryz.prog.cellsOf 5 = 1 := by kernel_rfl
set_option maxRecDepth 100000 in
/-- a slice of numbers that came in -/
theorem open_nums {H : Type} {enc : TypeId × Value → H} {W : World} {base : Nat} {T E : TypeId} {k : IntKind} {v : Value} {d : DataW H} {ps : List MemPlace} (hT : Tryz.prog.underlying T = some (.slice E)) (hE : Tryz.prog.underlying E = some (.int k)) (hc : Tryz.prog.cellsOf E = 1)
    (hval : Value.okWide Tryz.prog W .any base T v) (h : DataW.Trod enc Tryz.prog W 0 (fun _ => true) true T v d ps) :
    ∃ (A : Option Addr) (n c : Nat) (cs : List Int), v = .slice A n c ∧ Reads W W.heap.size 1 A n (cs.map (fun x : Int => .int k x)) ∧ (∀ x ∈ cs, (Lit.int k x).wf = true) ∧ n ≤ 9223372036854775807 := by
  obtain ⟨A, n, c, rfl⟩ := okWide_slice hT hval
  obtain ⟨fuel, hf⟩ := h
  rcases open_ints hT hE hc hf with ⟨h1, -⟩ | ⟨a, len, cap, zs, h1, hb, hl, hm, hz, -, hcell, hwf⟩
  · injection h1 with h1
    cases h1
    exact ⟨none, 0, 0, [], rfl, Reads.none_, by simp, by omega⟩
  · injection h1 with h1
    cases h1
    unfold maxLen at hm
    simp at hz
    refine ⟨some a, n, c, zs.take n, rfl, ?_, fun x hx => hwf x (List.mem_of_mem_take hx), by omega⟩
    rcases Nat.eq_zero_or_pos n with h0 | h0
    · subst h0
      simpa using Reads.none_
    · have hc0 := hcell 0 (by omega)
      have hblk : a.block < W.heap.size := by
        have := block_lt_of_cell hc0
        rwa [block_of_add] at this
      refine Reads.of_cells (by omega) (by simp; omega) hblk ?_
      intro j u hu
      rw [List.getElem?_map, Option.map_eq_some_iff] at hu
      obtain ⟨x, hx, rfl⟩ := hu
      have hj : j < n := by
        have := (List.getElem?_eq_some_iff.1 hx).1
        simp at this
        omega
      rw [hcell j (by omega)]
      rw [List.getElem?_take, if_pos hj] at hx
      simp [hx]
theorem wf_u8 {x : Int} (h : (Lit.int .u8 x).wf = true) : 0 ≤ x ∧ x ≤ 255 := by
  have h1 : IntKind.u8.min = 0 := by decide
  have h2 : IntKind.u8.max = 255 := by decide
  simp [Lit.wf, h1, h2] at h
  omega
end Go.Proofs.YtoagphighgejnaaGreatDoor
