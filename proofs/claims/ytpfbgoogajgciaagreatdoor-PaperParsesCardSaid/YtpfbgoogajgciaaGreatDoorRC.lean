/- What the rows of this seat want: a certificate, and lists of bytes, as they came in. Conditions: none. -/
import Derived.Test.YtpfbgoogajgciaaGreatDoorRW
import Derived.Deep.Grids
import Derived.Lib.SmallJoins
set_option linter.unusedSimpArgs false
set_option linter.unusedVariables false
namespace Go.Proofs.YtpfbgoogajgciaaGreatDoor
open Go.ChangeShapes Go.WideShapes Go.ChangeAt Go.RowKit

theorem cells2 : Tryz.prog.cellsOf 2 = 1 := by kernel_rfl
theorem cells3 : Tryz.prog.cellsOf 3 = 1 := by kernel_rfl
theorem cells4 : Tryz.prog.cellsOf 4 = 1 := by kernel_rfl
theorem cells5 : Tryz.prog.cellsOf 5 = 1 := by kernel_rfl
theorem cells32 : Tryz.prog.cellsOf 32 = 5 := by kernel_rfl
theorem bytes2 : Tryz.prog.bytesOf 2 = 8 := by kernel_rfl
theorem bytes3 : Tryz.prog.bytesOf 3 = 8 := by kernel_rfl
theorem bytes4 : Tryz.prog.bytesOf 4 = 1 := by kernel_rfl

section
variable {H : Type} {enc : TypeId × Value → H} {P : Program} {w : World} {base : Nat} {spare : Nat → Bool} {held : Bool}
theorem array5 {α : Type} {cs : Array α} (h : cs.size = 5) : ∃ c0 c1 c2 c3 c4, cs = #[c0, c1, c2, c3, c4] := by
  obtain ⟨l⟩ := cs
  match l, h with
  | [c0, c1, c2, c3, c4], _ => exact ⟨c0, c1, c2, c3, c4, rfl⟩
theorem trod_struct5 {t : TypeId} {f0 f1 f2 f3 f4 : Field} {fuel : Nat} {cs : List Value} {x : DataW H × List MemPlace} (ht : P.underlying t = some (.struct #[f0, f1, f2, f3, f4])) (h : DataW.trod enc P w base spare held fuel t cs = some x) :
    ∃ y0 y1 y2 y3 y4 n, x = (.agg [y0.1, y1.1, y2.1, y3.1, y4.1], y0.2 ++ (y1.2 ++ (y2.2 ++ (y3.2 ++ y4.2)))) ∧ cs.length = P.cellsOf t ∧ DataW.trod enc P w base spare held n f0.type ((cs.drop f0.offset).take (P.cellsOf f0.type)) = some y0 ∧
      DataW.trod enc P w base spare held n f1.type ((cs.drop f1.offset).take (P.cellsOf f1.type)) = some y1 ∧ DataW.trod enc P w base spare held n f2.type ((cs.drop f2.offset).take (P.cellsOf f2.type)) = some y2 ∧
      DataW.trod enc P w base spare held n f3.type ((cs.drop f3.offset).take (P.cellsOf f3.type)) = some y3 ∧ DataW.trod enc P w base spare held n f4.type ((cs.drop f4.offset).take (P.cellsOf f4.type)) = some y4 := by
  obtain ⟨xs, n, _, rfl, hl, hlen, hf⟩ := DataW.trod_struct ht h
  match xs, hlen with
  | [y0, y1, y2, y3, y4], _ => exact ⟨y0, y1, y2, y3, y4, n, by simp, hl, by simpa using hf 0 f0 rfl, by simpa using hf 1 f1 rfl, by simpa using hf 2 f2 rfl, by simpa using hf 3 f3 rfl, by simpa using hf 4 f4 rfl⟩
theorem open_agg5 {r : Reach} {b0 : Nat} {t : TypeId} {f0 f1 f2 f3 f4 : Field} {v : Value} {d : DataW H} {p : List MemPlace} (hs : P.underlying t = some (.struct #[f0, f1, f2, f3, f4])) (hone : Go.Deep.oneCellFields P #[f0, f1, f2, f3, f4] = true) (hC : P.cellsOf t = 5)
    (hv : Value.okWide P w r b0 t v) (h : DataW.Trod enc P w base spare held t v d p) :
    ∃ (v0 v1 v2 v3 v4 : Value) (y0 y1 y2 y3 y4 : DataW H × List MemPlace) (n : Nat), v = .agg #[v0, v1, v2, v3, v4] ∧ d = .agg [y0.1, y1.1, y2.1, y3.1, y4.1] ∧ p = y0.2 ++ (y1.2 ++ (y2.2 ++ (y3.2 ++ y4.2))) ∧
      DataW.trod enc P w base spare held n f0.type [v0] = some y0 ∧ DataW.trod enc P w base spare held n f1.type [v1] = some y1 ∧ DataW.trod enc P w base spare held n f2.type [v2] = some y2 ∧ DataW.trod enc P w base spare held n f3.type [v3] = some y3 ∧ DataW.trod enc P w base spare held n f4.type [v4] = some y4 := by
  obtain ⟨cs, rfl, hsz⟩ := okWide_struct hs hv
  obtain ⟨c0, c1, c2, c3, c4, rfl⟩ := array5 (hsz.trans hC)
  obtain ⟨fuel, hf⟩ := h
  obtain ⟨y0, y1, y2, y3, y4, n, hx, _, h0, h1, h2, h3, h4⟩ := trod_struct5 hs hf
  obtain ⟨o0, k0⟩ := Go.Deep.hone_of hone 0 f0 rfl
  obtain ⟨o1, k1⟩ := Go.Deep.hone_of hone 1 f1 rfl
  obtain ⟨o2, k2⟩ := Go.Deep.hone_of hone 2 f2 rfl
  obtain ⟨o3, k3⟩ := Go.Deep.hone_of hone 3 f3 rfl
  obtain ⟨o4, k4⟩ := Go.Deep.hone_of hone 4 f4 rfl
  simp only [Prod.mk.injEq] at hx
  exact ⟨c0, c1, c2, c3, c4, y0, y1, y2, y3, y4, n, rfl, hx.1, hx.2, by simpa [Value.cells, o0, k0] using h0, by simpa [Value.cells, o1, k1] using h1, by simpa [Value.cells, o2, k2] using h2, by simpa [Value.cells, o3, k3] using h3, by simpa [Value.cells, o4, k4] using h4⟩
theorem trodAll_five {t0 t1 t2 t3 t4 : TypeId} {args : Array Value} {ds : List (DataW H)} {ps : List MemPlace} (h : DataW.TrodAll enc P w base spare held [t0, t1, t2, t3, t4] args.toList ds ps) :
    ∃ v0 v1 v2 v3 v4 d0 d1 d2 d3 d4 p0 p1 p2 p3 p4, args = #[v0, v1, v2, v3, v4] ∧ ds = [d0, d1, d2, d3, d4] ∧ ps = p0 ++ (p1 ++ (p2 ++ (p3 ++ p4))) ∧ DataW.Trod enc P w base spare held t0 v0 d0 p0 ∧ DataW.Trod enc P w base spare held t1 v1 d1 p1 ∧ DataW.Trod enc P w base spare held t2 v2 d2 p2 ∧ DataW.Trod enc P w base spare held t3 v3 d3 p3 ∧ DataW.Trod enc P w base spare held t4 v4 d4 p4 := by
  obtain ⟨v0, vs0, d0, ds0, p0, q0, hargs, rfl, rfl, h0, r0⟩ := trodAll_cons h
  obtain ⟨v1, vs1, d1, ds1, p1, q1, rfl, rfl, rfl, h1, r1⟩ := trodAll_cons r0
  obtain ⟨v2, vs2, d2, ds2, p2, q2, rfl, rfl, rfl, h2, r2⟩ := trodAll_cons r1
  obtain ⟨v3, vs3, d3, ds3, p3, q3, rfl, rfl, rfl, h3, r3⟩ := trodAll_cons r2
  obtain ⟨v4, vs4, d4, ds4, p4, q4, rfl, rfl, rfl, h4, r4⟩ := trodAll_cons r3
  obtain ⟨rfl, rfl, rfl⟩ := trodAll_nil r4
  exact ⟨v0, v1, v2, v3, v4, d0, d1, d2, d3, d4, p0, p1, p2, p3, p4, by cases args; simp_all, rfl, by simp, h0, h1, h2, h3, h4⟩
theorem trodAll_six {t0 t1 t2 t3 t4 t5 : TypeId} {args : Array Value} {ds : List (DataW H)} {ps : List MemPlace} (h : DataW.TrodAll enc P w base spare held [t0, t1, t2, t3, t4, t5] args.toList ds ps) :
    ∃ v0 v1 v2 v3 v4 v5 d0 d1 d2 d3 d4 d5 p0 p1 p2 p3 p4 p5, args = #[v0, v1, v2, v3, v4, v5] ∧ ds = [d0, d1, d2, d3, d4, d5] ∧ ps = p0 ++ (p1 ++ (p2 ++ (p3 ++ (p4 ++ p5)))) ∧ DataW.Trod enc P w base spare held t0 v0 d0 p0 ∧ DataW.Trod enc P w base spare held t1 v1 d1 p1 ∧ DataW.Trod enc P w base spare held t2 v2 d2 p2 ∧ DataW.Trod enc P w base spare held t3 v3 d3 p3 ∧ DataW.Trod enc P w base spare held t4 v4 d4 p4 ∧ DataW.Trod enc P w base spare held t5 v5 d5 p5 := by
  obtain ⟨v0, vs0, d0, ds0, p0, q0, hargs, rfl, rfl, h0, r0⟩ := trodAll_cons h
  obtain ⟨v1, vs1, d1, ds1, p1, q1, rfl, rfl, rfl, h1, r1⟩ := trodAll_cons r0
  obtain ⟨v2, vs2, d2, ds2, p2, q2, rfl, rfl, rfl, h2, r2⟩ := trodAll_cons r1
  obtain ⟨v3, vs3, d3, ds3, p3, q3, rfl, rfl, rfl, h3, r3⟩ := trodAll_cons r2
  obtain ⟨v4, vs4, d4, ds4, p4, q4, rfl, rfl, rfl, h4, r4⟩ := trodAll_cons r3
  obtain ⟨v5, vs5, d5, ds5, p5, q5, rfl, rfl, rfl, h5, r5⟩ := trodAll_cons r4
  obtain ⟨rfl, rfl, rfl⟩ := trodAll_nil r5
  exact ⟨v0, v1, v2, v3, v4, v5, d0, d1, d2, d3, d4, d5, p0, p1, p2, p3, p4, p5, by cases args; simp_all, rfl, by simp, h0, h1, h2, h3, h4, h5⟩
end

set_option maxRecDepth 100000 in
/-- a slice of numbers that came in -/
theorem open_nums {H : Type} {enc : TypeId × Value → H} {W : World} {base : Nat} {T E : TypeId} {k : IntKind} {v : Value} {d : DataW H} {ps : List MemPlace} (hT : Tryz.prog.underlying T = some (.slice E)) (hE : Tryz.prog.underlying E = some (.int k)) (hc : Tryz.prog.cellsOf E = 1)
    (hval : Value.okWide Tryz.prog W .any base T v) (h : DataW.Trod enc Tryz.prog W 0 (fun _ => true) true T v d ps) :
    ∃ (A : Option Addr) (n c : Nat) (cs : List Int), v = .slice A n c ∧ Reads W W.heap.size 1 A n (cs.map (fun x : Int => .int k x)) ∧ (∀ x ∈ cs, (Lit.int k x).wf = true) ∧ n ≤ 9223372036854775807 := by
  obtain ⟨A, n, c, rfl⟩ := okWide_slice hT hval
  obtain ⟨fuel, hf⟩ := h
  rcases open_ints hT hE hc hf with ⟨h1, -⟩ | ⟨a, len, cap, zs, h1, hb, hl, hm, hz, -, hcell, hwf⟩
  · injection h1 with h1
    cases h1
    exact ⟨none, 0, 0, [], rfl, Reads.none_, by simp, by omega⟩
  · injection h1 with h1
    cases h1
    unfold maxLen at hm
    simp at hz
    refine ⟨some a, n, c, zs.take n, rfl, ?_, fun x hx => hwf x (List.mem_of_mem_take hx), by omega⟩
    rcases Nat.eq_zero_or_pos n with h0 | h0
    · subst h0
      simpa using Reads.none_
    · have hc0 := hcell 0 (by omega)
      have hblk : a.block < W.heap.size := by
        have := block_lt_of_cell hc0
        rwa [block_of_add] at this
      refine Reads.of_cells (by omega) (by simp; omega) hblk ?_
      intro j u hu
      rw [List.getElem?_map, Option.map_eq_some_iff] at hu
      obtain ⟨x, hx, rfl⟩ := hu
      have hj : j < n := by
        have := (List.getElem?_eq_some_iff.1 hx).1
        simp at this
        omega
      rw [hcell j (by omega)]
      rw [List.getElem?_take, if_pos hj] at hx
      simp [hx]
theorem wf_u8 {x : Int} (h : (Lit.int .u8 x).wf = true) : 0 ≤ x ∧ x ≤ 255 := by
  have h1 : IntKind.u8.min = 0 := by decide
  have h2 : IntKind.u8.max = 255 := by decide
  simp [Lit.wf, h1, h2] at h
  omega
theorem wf_i64 {x : Int} (h : (Lit.int .i64 x).wf = true) : -9223372036854775808 ≤ x ∧ x ≤ 9223372036854775807 := by
  have h1 : IntKind.i64.min = -9223372036854775808 := by decide
  have h2 : IntKind.i64.max = 9223372036854775807 := by decide
  simp [Lit.wf, h1, h2] at h
  omega

set_option maxRecDepth 100000 in
/-- a field of numbers, as it came in -/
theorem open_fld {H : Type} {enc : TypeId × Value → H} {W : World} {fuel : Nat} {T E : TypeId} {v : Value} {y : DataW H × List MemPlace} (hT : Tryz.prog.underlying T = some (.slice E)) (hE : Tryz.prog.underlying E = some (.int .i64)) (hc : Tryz.prog.cellsOf E = 1) (hby : Tryz.prog.bytesOf E = 8)
    (hf : DataW.trod enc Tryz.prog W 0 (fun _ => true) true fuel T [v] = some y) (hw : ∀ k ∈ y.1.weights Tryz.prog T, k ≤ reachBytes) :
    ∃ (xs : List Int), FldR W v (xs.map I) ∧ xs.length ≤ 1000000000000000 ∧ ∀ x ∈ xs, -9223372036854775808 ≤ x ∧ x ≤ 9223372036854775807 := by
  rcases open_ints hT hE hc hf with ⟨h1, -⟩ | ⟨a, len, cap, zs, h1, hb, hl, hm, hz, hy, hcell, hwf⟩
  · injection h1 with h1
    subst h1
    exact ⟨[], FldR.nil, by simp, by simp⟩
  · injection h1 with h1
    subst h1
    simp at hz
    have hlen : len ≤ 1000000000000000 := by
      have := hw (zs.length * 8) (by
        rw [hy]
        simp only [DataW.weights, hT, hby]
        rw [show (lits (H := H) .i64 (zs.take len)).length + (lits (H := H) .i64 (zs.drop len)).length = zs.length by simp [lits]; omega]
        exact List.mem_cons_self)
      unfold reachBytes at this
      omega
    refine ⟨zs.take len, ⟨some a, len, cap, rfl, by simp; omega, hl, ?_⟩, by simp; omega, fun x hx => wf_i64 (hwf x (List.mem_of_mem_take hx))⟩
    rcases Nat.eq_zero_or_pos len with h0 | h0
    · subst h0
      simpa using Reads.none_
    · have hc0 := hcell 0 (by omega)
      have hblk : a.block < W.heap.size := by
        have := block_lt_of_cell hc0
        rwa [block_of_add] at this
      refine Reads.of_cells (by omega) (by simp; omega) hblk ?_
      intro j u hu
      rw [List.getElem?_map, Option.map_eq_some_iff] at hu
      obtain ⟨x, hx, rfl⟩ := hu
      have hj : j < len := by
        have := (List.getElem?_eq_some_iff.1 hx).1
        simp at this
        omega
      rw [hcell j (by omega)]
      rw [List.getElem?_take, if_pos hj] at hx
      simp [hx, I]
set_option maxRecDepth 100000 in
/-- a field of marks, as it came in -/
theorem open_marks {H : Type} {enc : TypeId × Value → H} {W : World} {fuel : Nat} {v : Value} {y : DataW H × List MemPlace}
    (hf : DataW.trod enc Tryz.prog W 0 (fun _ => true) true fuel 29 [v] = some y) (hw : ∀ k ∈ y.1.weights Tryz.prog 29, k ≤ reachBytes) :
    ∃ (xs : List Int), FldR W v (xs.map Bv) ∧ xs.length ≤ 1000000000000000 ∧ ∀ x ∈ xs, x = 0 ∨ x = 1 := by
  rcases Go.Deep.open_bools Tryz.underlying29 Tryz.underlying4 cells4 hf with ⟨h1, -⟩ | ⟨a, len, cap, B, h1, hb, hl, hm, hy, hcell⟩
  · injection h1 with h1
    subst h1
    exact ⟨[], FldR.nil, by simp, by simp⟩
  · injection h1 with h1
    subst h1
    have hlen : len ≤ 1000000000000000 := by
      have := hw ((len + (cap - len)) * 1) (by
        rw [hy]
        simp only [Go.Deep.boolRow, DataW.weights, Tryz.underlying29, bytes4, List.length_map, List.length_range]
        exact List.mem_cons_self)
      unfold reachBytes at this
      omega
    refine ⟨(List.range len).map (fun i => if B i then 1 else 0), ⟨some a, len, cap, rfl, by simp, hl, ?_⟩, by simpa using hlen, ?_⟩
    · rcases Nat.eq_zero_or_pos len with h0 | h0
      · subst h0
        simpa using Reads.none_
      · have hc0 := hcell 0 (by omega)
        have hblk : a.block < W.heap.size := by
          have := block_lt_of_cell hc0
          rwa [block_of_add] at this
        refine Reads.of_cells (by omega) (by simp) hblk ?_
        intro j u hu
        simp only [List.map_map, List.getElem?_map, Option.map_eq_some_iff] at hu
        obtain ⟨i, hi, rfl⟩ := hu
        obtain ⟨hj, e⟩ := List.getElem?_eq_some_iff.1 hi
        simp at hj e
        subst e
        rw [hcell j (by omega)]
        simp [Bv_of]
    · intro x hx
      obtain ⟨i, -, rfl⟩ := List.mem_map.1 hx
      split <;> simp
set_option maxRecDepth 100000 in
/-- a certificate, as it came in -/
theorem open_cert {H : Type} {enc : TypeId × Value → H} {W : World} {base : Nat} {v : Value} {d : DataW H} {ps : List MemPlace} (hval : Value.okWide Tryz.prog W .any base 32 v) (h : DataW.Trod enc Tryz.prog W 0 (fun _ => true) true 32 v d ps)
    (hw : ∀ k ∈ d.weights Tryz.prog 32, k ≤ reachBytes) :
    ∃ (c : CertV) (v1 v2 v3 v4 : Value), v = .agg #[.int .i64 c.kind, v1, v2, v3, v4] ∧ CertR W c v1 v2 v3 v4 ∧ CertOk c ∧ c.flow.length ≤ 1000000000000000 ∧ c.pot.length ≤ 1000000000000000 ∧ c.side.length ≤ 1000000000000000 ∧ c.cycle.length ≤ 1000000000000000 := by
  obtain ⟨w0, w1, w2, w3, w4, y0, y1, y2, y3, y4, fl, rfl, rfl, rfl, t0, t1, t2, t3, t4⟩ := open_agg5 Tryz.underlying32 (by kernel_rfl) cells32 hval h
  have hwm : ∀ k, (k ∈ y1.1.weights Tryz.prog 28 ∨ k ∈ y2.1.weights Tryz.prog 28 ∨ k ∈ y3.1.weights Tryz.prog 29 ∨ k ∈ y4.1.weights Tryz.prog 30) → k ≤ reachBytes := fun k hk => hw k (by
    simp only [DataW.weights, Tryz.underlying32, DataW.weightsEach, List.map_cons, List.map_nil, List.append_nil, List.mem_append]
    rcases hk with hk | hk | hk | hk <;> simp_all)
  obtain ⟨z, e, -⟩ := DataW.trod_int Tryz.underlying3 t0
  injection e with e
  subst e
  obtain ⟨fl1, r1, l1, b1⟩ := open_fld Tryz.underlying28 Tryz.underlying2 cells2 bytes2 t1 (fun k hk => hwm k (.inl hk))
  obtain ⟨fl2, r2, l2, b2⟩ := open_fld Tryz.underlying28 Tryz.underlying2 cells2 bytes2 t2 (fun k hk => hwm k (.inr (.inl hk)))
  obtain ⟨fl3, r3, l3, b3⟩ := open_marks t3 (fun k hk => hwm k (.inr (.inr (.inl hk))))
  obtain ⟨fl4, r4, l4, b4⟩ := open_fld Tryz.underlying30 Tryz.underlying3 cells3 bytes3 t4 (fun k hk => hwm k (.inr (.inr (.inr hk))))
  exact ⟨⟨z, fl1, fl2, fl3, fl4⟩, w1, w2, w3, w4, rfl, ⟨r1, r2, r3, r4⟩, ⟨b1, b2, b3, b4⟩, l1, l2, l3, l4⟩
end Go.Proofs.YtpfbgoogajgciaaGreatDoor
