/- What the row over six arguments wants. Conditions: none. -/
import Derived.Test.YtodddplpggggeaaDoorRS
set_option linter.unusedSimpArgs false
set_option linter.unusedVariables false
namespace Go.Proofs.YtodddplpggggeaaDoor
open Go.ChangeShapes Go.WideShapes Go.ChangeAt Go.RowKit

section
variable {H : Type} {enc : TypeId × Value → H} {P : Program} {w : World} {base : Nat} {spare : Nat → Bool} {held : Bool}
theorem trodAll_six {t0 t1 t2 t3 t4 t5 : TypeId} {args : Array Value} {ds : List (DataW H)} {ps : List MemPlace} (h : DataW.TrodAll enc P w base spare held [t0, t1, t2, t3, t4, t5] args.toList ds ps) :
    ∃ v0 v1 v2 v3 v4 v5 d0 d1 d2 d3 d4 d5 p0 p1 p2 p3 p4 p5, args = #[v0, v1, v2, v3, v4, v5] ∧ ds = [d0, d1, d2, d3, d4, d5] ∧ ps = p0 ++ (p1 ++ (p2 ++ (p3 ++ (p4 ++ p5)))) ∧ DataW.Trod enc P w base spare held t0 v0 d0 p0 ∧ DataW.Trod enc P w base spare held t1 v1 d1 p1 ∧ DataW.Trod enc P w base spare held t2 v2 d2 p2 ∧ DataW.Trod enc P w base spare held t3 v3 d3 p3 ∧ DataW.Trod enc P w base spare held t4 v4 d4 p4 ∧ DataW.Trod enc P w base spare held t5 v5 d5 p5 := by
  obtain ⟨v0, vs0, d0, ds0, p0, q0, hargs, rfl, rfl, h0, r0⟩ := trodAll_cons h
  obtain ⟨v1, vs1, d1, ds1, p1, q1, rfl, rfl, rfl, h1, r1⟩ := trodAll_cons r0
  obtain ⟨v2, vs2, d2, ds2, p2, q2, rfl, rfl, rfl, h2, r2⟩ := trodAll_cons r1
  obtain ⟨v3, vs3, d3, ds3, p3, q3, rfl, rfl, rfl, h3, r3⟩ := trodAll_cons r2
  obtain ⟨v4, vs4, d4, ds4, p4, q4, rfl, rfl, rfl, h4, r4⟩ := trodAll_cons r3
  obtain ⟨v5, vs5, d5, ds5, p5, q5, rfl, rfl, rfl, h5, r5⟩ := trodAll_cons r4
  obtain ⟨rfl, rfl, rfl⟩ := trodAll_nil r5
  exact ⟨v0, v1, v2, v3, v4, v5, d0, d1, d2, d3, d4, d5, p0, p1, p2, p3, p4, p5, by cases args; simp_all, rfl, by simp, h0, h1, h2, h3, h4, h5⟩
end

set_option maxRecDepth 100000 in
/-- a slice of numbers that came in -/
theorem open_nums {H : Type} {enc : TypeId × Value → H} {W : World} {base : Nat} {T E : TypeId} {k : IntKind} {v : Value} {d : DataW H} {ps : List MemPlace} (hT : Tryd.prog.underlying T = some (.slice E)) (hE : Tryd.prog.underlying E = some (.int k)) (hc : Tryd.prog.cellsOf E = 1)
    (hval : Value.okWide Tryd.prog W .any base T v) (h : DataW.Trod enc Tryd.prog W 0 (fun _ => true) true T v d ps) :
    ∃ (A : Option Addr) (n c : Nat) (cs : List Int), v = .slice A n c ∧ Reads W W.heap.size 1 A n (cs.map (fun x : Int => .int k x)) ∧ (∀ x ∈ cs, (Lit.int k x).wf = true) ∧ n ≤ 9223372036854775807 := by
  obtain ⟨A, n, c, rfl⟩ := okWide_slice hT hval
  obtain ⟨fuel, hf⟩ := h
  rcases open_ints hT hE hc hf with ⟨h1, -⟩ | ⟨a, len, cap, zs, h1, hb, hl, hm, hz, -, hcell, hwf⟩
  · injection h1 with h1
    cases h1
    exact ⟨none, 0, 0, [], rfl, Reads.none_, by simp, by omega⟩
  · injection h1 with h1
    cases h1
    unfold maxLen at hm
    simp at hz
    refine ⟨some a, n, c, zs.take n, rfl, ?_, fun x hx => hwf x (List.mem_of_mem_take hx), by omega⟩
    rcases Nat.eq_zero_or_pos n with h0 | h0
    · subst h0
      simpa using Reads.none_
    · have hc0 := hcell 0 (by omega)
      have hblk : a.block < W.heap.size := by
        have := block_lt_of_cell hc0
        rwa [block_of_add] at this
      refine Reads.of_cells (by omega) (by simp; omega) hblk ?_
      intro j u hu
      rw [List.getElem?_map, Option.map_eq_some_iff] at hu
      obtain ⟨x, hx, rfl⟩ := hu
      have hj : j < n := by
        have := (List.getElem?_eq_some_iff.1 hx).1
        simp at this
        omega
      rw [hcell j (by omega)]
      rw [List.getElem?_take, if_pos hj] at hx
      simp [hx]
theorem wf_u8 {x : Int} (h : (Lit.int .u8 x).wf = true) : 0 ≤ x ∧ x ≤ 255 := by
  have h1 : IntKind.u8.min = 0 := by decide
  have h2 : IntKind.u8.max = 255 := by decide
  simp [Lit.wf, h1, h2] at h
  omega
end Go.Proofs.YtodddplpggggeaaDoor
