/- For every input the law FilePrints returns true and leaves its arguments as they were. Conditions: the row's own; the card ties the listed variables to the program's text. -/
import Derived.Test.YtoagphighgejnaaGreatDoorRC
import Derived.Test.YtoagphighgejnaaGreatDoorJ13
import Derived.Deep.Slices
import Derived.Test.YtoagphighgejnaaGreatDoorNQ
set_option linter.unusedSimpArgs false
set_option linter.unusedVariables false
namespace Go.Proofs.YtoagphighgejnaaGreatDoor
section
open Go.ChangeShapes Go.WideShapes Go.ChangeAt Go.RowKit

theorem cells2 : Tryz.prog.cellsOf 2 = 1 := by kernel_rfl
theorem cells3 : Tryz.prog.cellsOf 3 = 1 := by kernel_rfl
theorem cells4 : Tryz.prog.cellsOf 4 = 1 := by kernel_rfl
theorem cells42 : Tryz.prog.cellsOf 42 = 5 := by kernel_rfl
theorem cells31 : Tryz.prog.cellsOf 31 = 5 := by kernel_rfl
theorem cells29 : Tryz.prog.cellsOf 29 = 2 := by kernel_rfl
theorem cells26 : Tryz.prog.cellsOf 26 = 1 := by kernel_rfl
theorem cells27 : Tryz.prog.cellsOf 27 = 1 := by kernel_rfl
theorem bytes2 : Tryz.prog.bytesOf 2 = 8 := by kernel_rfl
theorem bytes42 : Tryz.prog.bytesOf 42 = 40 := by kernel_rfl

section
variable {H : Type} {enc : TypeId × Value → H} {P : Program} {w : World} {base : Nat} {spare : Nat → Bool} {held : Bool}
theorem trodAll_seven {t0 t1 t2 t3 t4 t5 t6 : TypeId} {args : Array Value} {ds : List (DataW H)} {ps : List MemPlace} (h : DataW.TrodAll enc P w base spare held [t0, t1, t2, t3, t4, t5, t6] args.toList ds ps) :
    ∃ v0 v1 v2 v3 v4 v5 v6 d0 d1 d2 d3 d4 d5 d6 p0 p1 p2 p3 p4 p5 p6, args = #[v0, v1, v2, v3, v4, v5, v6] ∧ ds = [d0, d1, d2, d3, d4, d5, d6] ∧ ps = p0 ++ (p1 ++ (p2 ++ (p3 ++ (p4 ++ (p5 ++ p6))))) ∧ DataW.Trod enc P w base spare held t0 v0 d0 p0 ∧ DataW.Trod enc P w base spare held t1 v1 d1 p1 ∧ DataW.Trod enc P w base spare held t2 v2 d2 p2 ∧ DataW.Trod enc P w base spare held t3 v3 d3 p3 ∧ DataW.Trod enc P w base spare held t4 v4 d4 p4 ∧ DataW.Trod enc P w base spare held t5 v5 d5 p5 ∧ DataW.Trod enc P w base spare held t6 v6 d6 p6 := by
  obtain ⟨v0, vs0, d0, ds0, p0, q0, hargs, rfl, rfl, h0, r0⟩ := trodAll_cons h
  obtain ⟨v1, vs1, d1, ds1, p1, q1, rfl, rfl, rfl, h1, r1⟩ := trodAll_cons r0
  obtain ⟨v2, vs2, d2, ds2, p2, q2, rfl, rfl, rfl, h2, r2⟩ := trodAll_cons r1
  obtain ⟨v3, vs3, d3, ds3, p3, q3, rfl, rfl, rfl, h3, r3⟩ := trodAll_cons r2
  obtain ⟨v4, vs4, d4, ds4, p4, q4, rfl, rfl, rfl, h4, r4⟩ := trodAll_cons r3
  obtain ⟨v5, vs5, d5, ds5, p5, q5, rfl, rfl, rfl, h5, r5⟩ := trodAll_cons r4
  obtain ⟨v6, vs6, d6, ds6, p6, q6, rfl, rfl, rfl, h6, r6⟩ := trodAll_cons r5
  obtain ⟨rfl, rfl, rfl⟩ := trodAll_nil r6
  exact ⟨v0, v1, v2, v3, v4, v5, v6, d0, d1, d2, d3, d4, d5, d6, p0, p1, p2, p3, p4, p5, p6, by cases args; simp_all, rfl, by simp, h0, h1, h2, h3, h4, h5, h6⟩
end

set_option maxRecDepth 100000 in
/-- what each node has, as it came in -/
theorem open_sup {H : Type} {enc : TypeId × Value → H} {W : World} {fuel : Nat} {v : Value} {y : DataW H × List MemPlace} (hf : DataW.trod enc Tryz.prog W 0 (fun _ => true) true fuel 26 [v] = some y) :
    ∃ (A : Option Addr) (n c : Nat) (xs : List Int), v = .slice A n c ∧ Reads W W.heap.size 1 A n (xs.map I) ∧ n ≤ c ∧ n = xs.length := by
  rcases open_ints Tryz.underlying26 Tryz.underlying2 cells2 hf with ⟨h1, -⟩ | ⟨a, len, cap, zs, h1, hb, hl, hm, hz, hy, hcell, hwf⟩
  · injection h1 with h1
    exact ⟨none, 0, 0, [], h1, Reads.none_, by omega, rfl⟩
  · injection h1 with h1
    simp at hz
    refine ⟨some a, len, cap, zs.take len, h1, ?_, hl, by simp; omega⟩
    rcases Nat.eq_zero_or_pos len with h0 | h0
    · subst h0
      simpa using Reads.none_
    · have hc0 := hcell 0 (by omega)
      have hblk : a.block < W.heap.size := by
        have := block_lt_of_cell hc0
        rwa [block_of_add] at this
      refine Reads.of_cells (by omega) (by simp; omega) hblk ?_
      intro j u hu
      rw [List.getElem?_map, Option.map_eq_some_iff] at hu
      obtain ⟨x, hx, rfl⟩ := hu
      have hj : j < len := by
        have := (List.getElem?_eq_some_iff.1 hx).1
        simp at this
        omega
      rw [hcell j (by omega)]
      rw [List.getElem?_take, if_pos hj] at hx
      simp [hx, I]

theorem field_int {H : Type} {enc : TypeId × Value → H} {W : World} {fuel T j : Nat} {cs : List Value} {y : DataW H × List MemPlace} (hT : Tryz.prog.underlying T = some (.int .i64)) (h : DataW.trod enc Tryz.prog W 0 (fun _ => true) true fuel T ((cs.drop j).take 1) = some y) : ∃ z : Int, cs[j]? = some (.int .i64 z) := by
  obtain ⟨z, e, -⟩ := DataW.trod_int hT h
  refine ⟨z, ?_⟩
  have := congrArg (fun l => l[0]?) e
  simpa [List.getElem?_take, List.getElem?_drop] using this
set_option maxRecDepth 100000 in
/-- the arcs, as they came in -/
theorem open_arcs {H : Type} {enc : TypeId × Value → H} {W : World} {fuel : Nat} {v : Value} {y : DataW H × List MemPlace} (hf : DataW.trod enc Tryz.prog W 0 (fun _ => true) true fuel 27 [v] = some y) :
    ∃ (A : Option Addr) (n c : Nat) (arcs : List ArcV), v = .slice A n c ∧ Reads W W.heap.size 5 A n (arcCells arcs) ∧ n ≤ c ∧ n = arcs.length := by
  rcases Go.Deep.open_slice Tryz.underlying27 hf with ⟨h1, -⟩ | ⟨a, len, cap, m, k, Dt, Pl, h1, hb, hl, hm, hmm, hy, hi⟩
  · injection h1 with h1
    exact ⟨none, 0, 0, [], h1, Reads.none_, by omega, rfl⟩
  · injection h1 with h1
    simp at hmm
    rw [cells42] at hi
    have hex : ∀ i : Nat, ∃ x : ArcV, i < len → ∀ j u, x.cells[j]? = some u → W.cell? (a.add (i * 5 + j)) = some u := by
      intro i
      by_cases hil : i < len
      · obtain ⟨cs', hc, ht'⟩ := hi i (by omega)
        obtain ⟨ys, n', hn', hyy, hcl, hyl, hfl⟩ := DataW.trod_struct Tryz.underlying42 ht'
        obtain ⟨_, hcl2, hat⟩ := World.cells?_some hc
        rw [cells42] at hcl
        have hj : ∀ (j : Nat) (hj : j < 5), ∃ z : Int, cs'[j]? = some (.int .i64 z) := by
          have hy : ∀ (j : Nat), j < 5 → ∃ q, ys[j]? = some q := fun j hj => ⟨_, List.getElem?_eq_getElem (by rw [hyl]; exact hj)⟩
          intro j hj
          obtain ⟨q, hq⟩ := hy j hj
          match j, hj with
          | 0, _ => exact field_int Tryz.underlying3 (by have hh : DataW.trod enc Tryz.prog W 0 (fun _ => true) true n' 3 ((cs'.drop 0).take (Tryz.prog.cellsOf 3)) = ys[0]? := hfl 0 _ rfl; rw [cells3, hq] at hh; exact hh)
          | 1, _ => exact field_int Tryz.underlying3 (by have hh : DataW.trod enc Tryz.prog W 0 (fun _ => true) true n' 3 ((cs'.drop 1).take (Tryz.prog.cellsOf 3)) = ys[1]? := hfl 1 _ rfl; rw [cells3, hq] at hh; exact hh)
          | 2, _ => exact field_int Tryz.underlying2 (by have hh : DataW.trod enc Tryz.prog W 0 (fun _ => true) true n' 2 ((cs'.drop 2).take (Tryz.prog.cellsOf 2)) = ys[2]? := hfl 2 _ rfl; rw [cells2, hq] at hh; exact hh)
          | 3, _ => exact field_int Tryz.underlying2 (by have hh : DataW.trod enc Tryz.prog W 0 (fun _ => true) true n' 2 ((cs'.drop 3).take (Tryz.prog.cellsOf 2)) = ys[3]? := hfl 3 _ rfl; rw [cells2, hq] at hh; exact hh)
          | 4, _ => exact field_int Tryz.underlying2 (by have hh : DataW.trod enc Tryz.prog W 0 (fun _ => true) true n' 2 ((cs'.drop 4).take (Tryz.prog.cellsOf 2)) = ys[4]? := hfl 4 _ rfl; rw [cells2, hq] at hh; exact hh)
        obtain ⟨z0, e0⟩ := hj 0 (by omega)
        obtain ⟨z1, e1⟩ := hj 1 (by omega)
        obtain ⟨z2, e2⟩ := hj 2 (by omega)
        obtain ⟨z3, e3⟩ := hj 3 (by omega)
        obtain ⟨z4, e4⟩ := hj 4 (by omega)
        refine ⟨⟨z0, z1, z2, z3, z4⟩, fun _ j u hu => ?_⟩
        have hj5 : j < 5 := by
          have := (List.getElem?_eq_some_iff.1 hu).1
          simpa [ArcV.cells] using this
        rw [← add_of_add, hat j hj5]
        match j, hj5 with
        | 0, _ => rw [e0]; exact hu
        | 1, _ => rw [e1]; exact hu
        | 2, _ => rw [e2]; exact hu
        | 3, _ => rw [e3]; exact hu
        | 4, _ => rw [e4]; exact hu
      · exact ⟨⟨0, 0, 0, 0, 0⟩, fun h => absurd h hil⟩
    obtain ⟨f, hfx⟩ := Classical.axiomOfChoice hex
    refine ⟨some a, len, cap, (List.range len).map f, h1, ?_, hl, by simp⟩
    rcases Nat.eq_zero_or_pos len with h0 | h0
    · subst h0
      simpa [arcCells] using Reads.none_
    · have hc0 := hfx 0 h0 0 _ rfl
      have hblk : a.block < W.heap.size := by
        have := block_lt_of_cell hc0
        rwa [block_of_add] at this
      refine Reads.of_cells (by omega) (by rw [arcCells_length]; simp) hblk ?_
      intro j u hu
      obtain ⟨q, r, hr, rfl⟩ : ∃ q r, r < 5 ∧ j = q * 5 + r := ⟨j / 5, j % 5, Nat.mod_lt _ (by omega), by omega⟩
      rw [arcCells_at _ _ _ hr] at hu
      rcases Nat.lt_or_ge q len with hq | hq
      · rw [List.getElem?_map, List.getElem?_range hq, Option.map_some, Option.bind_some] at hu
        exact hfx q hq r u hu
      · rw [List.getElem?_eq_none (by simpa using hq)] at hu
        cases hu

theorem array_5 {α : Type} {cs : Array α} (h : cs.size = 5) : ∃ c0 c1 c2 c3 c4, cs = #[c0, c1, c2, c3, c4] := by
  obtain ⟨l⟩ := cs
  match l, h with
  | [c0, c1, c2, c3, c4], _ => exact ⟨c0, c1, c2, c3, c4, rfl⟩
set_option maxRecDepth 100000 in
/-- a problem, as it came in -/
theorem open_prob {H : Type} {enc : TypeId × Value → H} {W : World} {r : Reach} {base : Nat} {v : Value} {d : DataW H} {ps : List MemPlace} (hv : Value.okWide Tryz.prog W r base 31 v) (h : DataW.Trod enc Tryz.prog W 0 (fun _ => true) true 31 v d ps) : ∃ p, ProbIs W p v := by
  obtain ⟨cs, rfl, hsz⟩ := okWide_struct Tryz.underlying31 hv
  obtain ⟨c0, c1, c2, c3, c4, rfl⟩ := array_5 (hsz.trans cells31)
  obtain ⟨fuel, hf⟩ := h
  obtain ⟨xs, n, _, hx, hl, hlen, hfl⟩ := DataW.trod_struct Tryz.underlying31 hf
  match xs, hlen with
  | [y0, y1, y2, y3], _ =>
    have h0 : DataW.trod enc Tryz.prog W 0 (fun _ => true) true n 4 [c0] = some y0 := by
      have := (show DataW.trod enc Tryz.prog W 0 (fun _ => true) true n 4 (((Value.agg #[c0, c1, c2, c3, c4]).cells.toList.drop 0).take (Tryz.prog.cellsOf 4)) = some y0 from hfl 0 _ rfl)
      rwa [cells4] at this
    have h1 : DataW.trod enc Tryz.prog W 0 (fun _ => true) true n 29 [c1, c2] = some y1 := by
      have := (show DataW.trod enc Tryz.prog W 0 (fun _ => true) true n 29 (((Value.agg #[c0, c1, c2, c3, c4]).cells.toList.drop 1).take (Tryz.prog.cellsOf 29)) = some y1 from hfl 1 _ rfl)
      rwa [cells29] at this
    have h2 : DataW.trod enc Tryz.prog W 0 (fun _ => true) true n 3 [c3] = some y2 := by
      have := (show DataW.trod enc Tryz.prog W 0 (fun _ => true) true n 3 (((Value.agg #[c0, c1, c2, c3, c4]).cells.toList.drop 3).take (Tryz.prog.cellsOf 3)) = some y2 from hfl 2 _ rfl)
      rwa [cells3] at this
    have h3 : DataW.trod enc Tryz.prog W 0 (fun _ => true) true n 3 [c4] = some y3 := by
      have := (show DataW.trod enc Tryz.prog W 0 (fun _ => true) true n 3 (((Value.agg #[c0, c1, c2, c3, c4]).cells.toList.drop 4).take (Tryz.prog.cellsOf 3)) = some y3 from hfl 3 _ rfl)
      rwa [cells3] at this
    obtain ⟨zs, k, _, hz, hl2, hlen2, hfl2⟩ := DataW.trod_struct Tryz.underlying29 h1
    match zs, hlen2 with
    | [z0, z1], _ =>
      have g0 : DataW.trod enc Tryz.prog W 0 (fun _ => true) true k 26 [c1] = some z0 := by
        have := (show DataW.trod enc Tryz.prog W 0 (fun _ => true) true k 26 (([c1, c2].drop 0).take (Tryz.prog.cellsOf 26)) = some z0 from hfl2 0 _ rfl)
        rwa [cells26] at this
      have g1 : DataW.trod enc Tryz.prog W 0 (fun _ => true) true k 27 [c2] = some z1 := by
        have := (show DataW.trod enc Tryz.prog W 0 (fun _ => true) true k 27 (([c1, c2].drop 1).take (Tryz.prog.cellsOf 27)) = some z1 from hfl2 1 _ rfl)
        rwa [cells27] at this
      obtain ⟨b, e0, -⟩ := DataW.trod_bool Tryz.underlying4 h0
      obtain ⟨s, e2, -⟩ := DataW.trod_int Tryz.underlying3 h2
      obtain ⟨t, e3, -⟩ := DataW.trod_int Tryz.underlying3 h3
      injection e0 with e0
      injection e2 with e2
      injection e3 with e3
      obtain ⟨A1, n1, k1, sup, rfl, r1, l1, m1⟩ := open_sup g0
      obtain ⟨A2, n2, k2, arcs, rfl, r2, l2, m2⟩ := open_arcs g1
      subst e0 e2 e3
      exact ⟨⟨b, sup, arcs, s, t⟩, A1, n1, k1, A2, n2, k2, rfl, m1, m2, l1, l2, r1, r2⟩
end
section
open Go.ChangeShapes Go.WideShapes Go.ChangeAt Go.RowKit
open Go.ChangeMaps (open_string shut_string)

set_option maxRecDepth 100000 in
theorem filePrints_lifted (os : Os) (started : os.Started) (H : Type) (enc : TypeId × Value → H) (F : Stop.Interp) :
    ReturnsInHanded {} Tryz.checked os 4 .any ((OpenSpec.ofChange Rows.filePrintsSpec).preRow enc Tryz.prog Tryz.f4 Rows.filePrintsRow.domain false Rows.filePrintsRow.laid) (((OpenSpec.ofChange Rows.filePrintsSpec).at F).post enc Tryz.prog Tryz.f4 false true false false) := by
  have hx : DataW.whole enc Tryz.prog ((World.laidAll Tryz.prog os laid7).forCall (fun _ _ => 0) ⟨#[], #[.agg #[.bool false, .slice none 0 0, .slice none 0 0, .int .i64 0, .int .i64 0], .slice none 0 0, .slice none 0 0, .bool false, .int .u8 0, .int .u8 0, .int .i64 0], []⟩).memory Tryz.f4.params.toList Rows.filePrintsSpec.vars false (#[.agg #[.bool false, .slice none 0 0, .slice none 0 0, .int .i64 0, .int .i64 0], .slice none 0 0, .slice none 0 0, .bool false, .int .u8 0, .int .u8 0, .int .i64 0] : Array Value).toList 8 = some ([.agg [.lit (.bool false), .agg [.nil, .nil], .lit (.int .i64 0), .lit (.int .i64 0)], .nil, .nil, .lit (.bool false), .lit (.int .u8 0), .lit (.int .u8 0), .lit (.int .i64 0)], [], []) := by kernel_rfl
  refine returnsInHanded_of_row (C := Tryz.checked) (s := (OpenSpec.ofChange Rows.filePrintsSpec)) own started (by kernel_rfl) Tryz.func4
    (witness7 (enc := enc) os #[.agg #[.bool false, .slice none 0 0, .slice none 0 0, .int .i64 0, .int .i64 0], .slice none 0 0, .slice none 0 0, .bool false, .int .u8 0, .int .u8 0, .int .i64 0] (by kernel_rfl) (OpenSpec.preRow_of_cond 8 hx (by kernel_rfl) (fun k hk => by cases hk) (by kernel_rfl) (met7 os _))) ?_
  intro W base args ds gs before hval0 hW _ hcond hsz0 hL hSh _
  have hsz : (DataW.weightsEach Tryz.prog (Tryz.f4.params.toList ++ Rows.filePrintsSpec.plain.varTypes Tryz.prog) (ds ++ gs)).all (· ≤ reachBytes) = true := hsz0
  clear hsz0
  have hval : ∀ (j : Nat) t v, Tryz.f4.params[j]? = some t → args[j]? = some v → Value.okWide Tryz.prog W .any base t v := hval0
  have hW' := hW
  have hlt : ∀ p ∈ before, p.block < W.heap.size := fun p hp => hW'.lt p hp
  obtain ⟨p, q, hA0, hV, rfl, _, _⟩ := hW
  have hA : DataW.TrodAll enc Tryz.prog W 0 (fun _ => true) true Tryz.f4.params.toList args.toList ds p := hA0
  rw [Tryz.params4] at hA hval hsz
  have hA1 := hA
  obtain ⟨v0, v1, v2, v3, v4, v5, v6, d0, d1, d2, d3, d4, d5, d6, p0, p1, p2, p3, p4, p5, p6, rfl, rfl, rfl, h0, h1, h2, h3, h4, h5, h6⟩ := trodAll_seven hA
  obtain ⟨rfl, rfl⟩ := trodVars_none hV
  obtain ⟨P0, r0⟩ := open_prob (hval 0 31 v0 rfl rfl) h0
  obtain ⟨A1, n1, c1, y1, rfl, r1, b1, k1⟩ := open_nums Tryz.underlying22 Tryz.underlying5 cells5 (hval 1 22 v1 rfl rfl) h1
  obtain ⟨A2, n2, c2, y2, rfl, r2, b2, k2⟩ := open_nums Tryz.underlying22 Tryz.underlying5 cells5 (hval 2 22 v2 rfl rfl) h2
  obtain ⟨x3, rfl, rfl, rfl⟩ := open_bool Tryz.underlying4 (hval 3 4 v3 rfl rfl) h3
  obtain ⟨x4, rfl, rfl, rfl, w4⟩ := open_int Tryz.underlying5 (hval 4 5 v4 rfl rfl) h4
  have l4 : 0 ≤ x4 ∧ x4 ≤ 255 := by
    have m0 : IntKind.u8.min = 0 := rfl
    have m1 : IntKind.u8.max = 255 := rfl
    have h : IntKind.u8.min ≤ x4 ∧ x4 ≤ IntKind.u8.max := by simpa [Lit.wf] using w4
    rwa [m0, m1] at h
  obtain ⟨x5, rfl, rfl, rfl, w5⟩ := open_int Tryz.underlying5 (hval 5 5 v5 rfl rfl) h5
  have l5 : 0 ≤ x5 ∧ x5 ≤ 255 := by
    have m0 : IntKind.u8.min = 0 := rfl
    have m1 : IntKind.u8.max = 255 := rfl
    have h : IntKind.u8.min ≤ x5 ∧ x5 ≤ IntKind.u8.max := by simpa [Lit.wf] using w5
    rwa [m0, m1] at h
  obtain ⟨x6, rfl, rfl, rfl, w6⟩ := open_int Tryz.underlying2 (hval 6 2 v6 rfl rfl) h6
  have l6 : -9223372036854775808 ≤ x6 ∧ x6 ≤ 9223372036854775807 := by
    have m0 : IntKind.i64.min = -9223372036854775808 := rfl
    have m1 : IntKind.i64.max = 9223372036854775807 := rfl
    have h : IntKind.i64.min ≤ x6 ∧ x6 ≤ IntKind.i64.max := by simpa [Lit.wf] using w6
    rwa [m0, m1] at h
  clear hA0 hval0
  simp only [List.append_nil] at hW' hlt
  have hE : Env W := env_of hL hSh
  refine (FilePrints_in P0 v0 A1 A2 n1 c1 n2 c2 y1 y2 x3 x4 x5 x6 W r0 hE r1 (fun x hx => wf_u8 (b1 x hx)) r2 (fun x hx => wf_u8 (b2 x hx)) k1 k2 l4 l5).mono fun e W' ⟨he, hb⟩ => ?_
  subst he
  exact ⟨_, rfl, post_of_below (pa := _) (pv := []) hW' (fun _ _ _ => trodAll_mk1 (shut_bool Tryz.underlying4 true)) (fun sp hsp => trodAll_stay laidOut hb (by decide +kernel) hA1 (fun p hp => hlt p (by simpa using hp)) (fun p hp => hsp p (by simpa using hp))) (fun _ _ => rfl) (by simp) hb (ok_one (by kernel_rfl) rfl (okWide_bool_mk Tryz.underlying4 true))⟩

theorem filePrints_said : Rows.FilePrintsSaid :=
  OpenClaim.holds_of_cond 4 Tryz.f4 rfl rfl rfl rfl rfl rfl rfl ⟨rfl, rfl, rfl, rfl, rfl⟩ rfl rfl rfl rfl rfl (by kernel_rfl) Tryz.func4 (by kernel_rfl)
    (of_decide_eq_true (by kernel_rfl)) (by unfold Func.isWrapper; first | (rw [if_pos (by decide +kernel)]; kernel_rfl) | (rw [if_neg (by decide +kernel)]; exact ⟨rfl, rfl⟩))
    (fun os started H enc _ F => by rw [OpenClaim.pre_eq_preRow]; exact filePrints_lifted os started H enc F)

theorem filePrints_plain (f : FuncId) (fn : Func) (hf : Tryz.pinned.checked.prog.funcNamed "quittance/quittancelaw08.FilePrints" = some f) (hfn : Tryz.pinned.checked.prog.funcs[f]? = some fn) :
    true = Tryz.pinned.checked.prog.looks [] ∧ ∀ (j : Nat) t, fn.params[j]? = some t → Tryz.pinned.checked.prog.wantsStandIn t = false := by
  obtain rfl : f = 4 := Option.some.inj ((show Tryz.prog.funcNamed "quittance/quittancelaw08.FilePrints" = some 4 by kernel_rfl).symm.trans hf) |>.symm
  obtain rfl : fn = Tryz.f4 := (Option.some.inj (Tryz.func4.symm.trans hfn)).symm
  refine ⟨by kernel_rfl, fun j t ht => ?_⟩
  rw [Tryz.params4] at ht
  have hm : t ∈ [31, 22, 22, 4, 5, 5, 2] := by simpa using Array.mem_of_getElem? ht
  have hall : ([31, 22, 22, 4, 5, 5, 2].all fun u => !Tryz.prog.wantsStandIn u) = true := by kernel_rfl
  exact (show Tryz.prog.wantsStandIn t = false by simpa using List.all_eq_true.1 hall t hm)

theorem filePrints_card : Rows.FilePrintsCardSaid :=
  Claim7.holds_tied_plain_at .later [] _ _ _ _ filePrints_said (fun _ h => by cases h) (by kernel_rfl) (fun _ h => by cases h) filePrints_row_tie rfl ⟨rfl, rfl⟩ (by kernel_rfl) rfl filePrints_plain (by kernel_rfl)
end
end Go.Proofs.YtoagphighgejnaaGreatDoor
