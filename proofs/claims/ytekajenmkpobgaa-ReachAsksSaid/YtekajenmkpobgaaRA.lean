/- For every input the law ReachAsks returns true and leaves its arguments as they were. Conditions: none beyond the row's own. -/
import Derived.Test.YtekajenmkpobgaaM6
import Derived.Test.YtekajenmkpobgaaRW
import Derived.SizedLaws
import Derived.Deep.Slices
import Derived.Lib.SmallJoins
set_option linter.unusedSimpArgs false
set_option linter.unusedVariables false
namespace Go.Proofs.Ytekajenmkpobgaa
open Go.ChangeShapes Go.WideShapes Go.ChangeAt Go.RowKit

theorem Try.cells2 : Try.prog.cellsOf 2 = 1 := by kernel_rfl
theorem Try.cells36 : Try.prog.cellsOf 36 = 5 := by kernel_rfl
theorem Try.cells26 : Try.prog.cellsOf 26 = 2 := by kernel_rfl
theorem Try.bytes2 : Try.prog.bytesOf 2 = 8 := by kernel_rfl
theorem Try.bytes36 : Try.prog.bytesOf 36 = 40 := by kernel_rfl
theorem Try.cells23 : Try.prog.cellsOf 23 = 1 := by kernel_rfl
theorem Try.cells24 : Try.prog.cellsOf 24 = 1 := by kernel_rfl

set_option maxRecDepth 100000 in
/-- what each node has, as it came in -/
theorem open_sup {H : Type} {enc : TypeId × Value → H} {W : World} {fuel : Nat} {v : Value} {y : DataW H × List MemPlace} (hf : DataW.trod enc Try.prog W 0 (fun _ => true) true fuel 23 [v] = some y) (hw : ∀ k ∈ y.1.weights Try.prog 23, k ≤ reachBytes) :
    ∃ (A : Option Addr) (n c : Nat) (xs : List Int), v = .slice A n c ∧ Reads W W.heap.size 1 A n (xs.map I) ∧ n ≤ 100000000000000 := by
  rcases open_ints Try.underlying23 Try.underlying2 Try.cells2 hf with ⟨h1, -⟩ | ⟨a, len, cap, zs, h1, hb, hl, hm, hz, hy, hcell, hwf⟩
  · injection h1 with h1
    exact ⟨none, 0, 0, [], h1, Reads.none_, by omega⟩
  · injection h1 with h1
    simp at hz
    have hlen : len ≤ 100000000000000 := by
      have := hw (zs.length * 8) (by
        rw [hy]
        simp only [DataW.weights, Try.underlying23, Try.bytes2]
        rw [show (lits (H := H) .i64 (zs.take len)).length + (lits (H := H) .i64 (zs.drop len)).length = zs.length by simp [lits]; omega]
        exact List.mem_cons_self)
      unfold reachBytes at this
      omega
    refine ⟨some a, len, cap, zs.take len, h1, ?_, hlen⟩
    rcases Nat.eq_zero_or_pos len with h0 | h0
    · subst h0
      simpa using Reads.none_
    · have hc0 := hcell 0 (by omega)
      have hblk : a.block < W.heap.size := by
        have := block_lt_of_cell hc0
        rwa [block_of_add] at this
      refine Reads.of_cells (by omega) (by simp; omega) hblk ?_
      intro j u hu
      rw [List.getElem?_map, Option.map_eq_some_iff] at hu
      obtain ⟨x, hx, rfl⟩ := hu
      have hj : j < len := by
        have := (List.getElem?_eq_some_iff.1 hx).1
        simp at this
        omega
      rw [hcell j (by omega)]
      rw [List.getElem?_take, if_pos hj] at hx
      simp [hx, I]

theorem field_int {H : Type} {enc : TypeId × Value → H} {W : World} {fuel T j : Nat} {cs : List Value} {y : DataW H × List MemPlace} (hT : Try.prog.underlying T = some (.int .i64)) (h : DataW.trod enc Try.prog W 0 (fun _ => true) true fuel T ((cs.drop j).take 1) = some y) : ∃ z : Int, cs[j]? = some (.int .i64 z) := by
  obtain ⟨z, e, -⟩ := DataW.trod_int hT h
  refine ⟨z, ?_⟩
  have := congrArg (fun l => l[0]?) e
  simpa [List.getElem?_take, List.getElem?_drop] using this
set_option maxRecDepth 100000 in
/-- the arcs, as they came in -/
theorem open_arcs {H : Type} {enc : TypeId × Value → H} {W : World} {fuel : Nat} {v : Value} {y : DataW H × List MemPlace} (hf : DataW.trod enc Try.prog W 0 (fun _ => true) true fuel 24 [v] = some y) (hw : ∀ k ∈ y.1.weights Try.prog 24, k ≤ reachBytes) :
    ∃ (A : Option Addr) (n c : Nat) (arcs : List ArcV), v = .slice A n c ∧ Reads W W.heap.size 5 A n (arcCells arcs) ∧ n ≤ 100000000000000 := by
  rcases Go.Deep.open_slice Try.underlying24 hf with ⟨h1, -⟩ | ⟨a, len, cap, m, k, Dt, Pl, h1, hb, hl, hm, hmm, hy, hi⟩
  · injection h1 with h1
    exact ⟨none, 0, 0, [], h1, Reads.none_, by omega⟩
  · injection h1 with h1
    simp at hmm
    rw [Try.cells36] at hi
    have hlen : len ≤ 100000000000000 := by
      have := hw ((len + (m - len)) * 40) (by
        rw [hy]
        simp only [DataW.weights, Try.underlying24, Try.bytes36, List.length_map, List.length_range]
        exact List.mem_cons_self)
      unfold reachBytes at this
      omega
    have hex : ∀ i : Nat, ∃ x : ArcV, i < len → ∀ j u, x.cells[j]? = some u → W.cell? (a.add (i * 5 + j)) = some u := by
      intro i
      by_cases hil : i < len
      · obtain ⟨cs', hc, ht'⟩ := hi i (by omega)
        obtain ⟨ys, n', hn', hyy, hcl, hyl, hfl⟩ := DataW.trod_struct Try.underlying36 ht'
        obtain ⟨_, hcl2, hat⟩ := World.cells?_some hc
        rw [Try.cells36] at hcl
        have hj : ∀ (j : Nat) (hj : j < 5), ∃ z : Int, cs'[j]? = some (.int .i64 z) := by
          have hy : ∀ (j : Nat), j < 5 → ∃ q, ys[j]? = some q := fun j hj => ⟨_, List.getElem?_eq_getElem (by rw [hyl]; exact hj)⟩
          intro j hj
          obtain ⟨q, hq⟩ := hy j hj
          match j, hj with
          | 0, _ => exact field_int Try.underlying3 (by have hh : DataW.trod enc Try.prog W 0 (fun _ => true) true n' 3 ((cs'.drop 0).take (Try.prog.cellsOf 3)) = ys[0]? := hfl 0 _ rfl; rw [Try.cells3, hq] at hh; exact hh)
          | 1, _ => exact field_int Try.underlying3 (by have hh : DataW.trod enc Try.prog W 0 (fun _ => true) true n' 3 ((cs'.drop 1).take (Try.prog.cellsOf 3)) = ys[1]? := hfl 1 _ rfl; rw [Try.cells3, hq] at hh; exact hh)
          | 2, _ => exact field_int Try.underlying2 (by have hh : DataW.trod enc Try.prog W 0 (fun _ => true) true n' 2 ((cs'.drop 2).take (Try.prog.cellsOf 2)) = ys[2]? := hfl 2 _ rfl; rw [Try.cells2, hq] at hh; exact hh)
          | 3, _ => exact field_int Try.underlying2 (by have hh : DataW.trod enc Try.prog W 0 (fun _ => true) true n' 2 ((cs'.drop 3).take (Try.prog.cellsOf 2)) = ys[3]? := hfl 3 _ rfl; rw [Try.cells2, hq] at hh; exact hh)
          | 4, _ => exact field_int Try.underlying2 (by have hh : DataW.trod enc Try.prog W 0 (fun _ => true) true n' 2 ((cs'.drop 4).take (Try.prog.cellsOf 2)) = ys[4]? := hfl 4 _ rfl; rw [Try.cells2, hq] at hh; exact hh)
        obtain ⟨z0, e0⟩ := hj 0 (by omega)
        obtain ⟨z1, e1⟩ := hj 1 (by omega)
        obtain ⟨z2, e2⟩ := hj 2 (by omega)
        obtain ⟨z3, e3⟩ := hj 3 (by omega)
        obtain ⟨z4, e4⟩ := hj 4 (by omega)
        refine ⟨⟨z0, z1, z2, z3, z4⟩, fun _ j u hu => ?_⟩
        have hj5 : j < 5 := by
          have := (List.getElem?_eq_some_iff.1 hu).1
          simpa [ArcV.cells] using this
        rw [← add_of_add, hat j hj5]
        match j, hj5 with
        | 0, _ => rw [e0]; exact hu
        | 1, _ => rw [e1]; exact hu
        | 2, _ => rw [e2]; exact hu
        | 3, _ => rw [e3]; exact hu
        | 4, _ => rw [e4]; exact hu
      · exact ⟨⟨0, 0, 0, 0, 0⟩, fun h => absurd h hil⟩
    obtain ⟨f, hfx⟩ := Classical.axiomOfChoice hex
    refine ⟨some a, len, cap, (List.range len).map f, h1, ?_, hlen⟩
    rcases Nat.eq_zero_or_pos len with h0 | h0
    · subst h0
      simpa [arcCells] using Reads.none_
    · have hc0 := hfx 0 h0 0 _ rfl
      have hblk : a.block < W.heap.size := by
        have := block_lt_of_cell hc0
        rwa [block_of_add] at this
      refine Reads.of_cells (by omega) (by rw [arcCells_length]; simp) hblk ?_
      intro j u hu
      obtain ⟨q, r, hr, rfl⟩ : ∃ q r, r < 5 ∧ j = q * 5 + r := ⟨j / 5, j % 5, Nat.mod_lt _ (by omega), by omega⟩
      rw [arcCells_at _ _ _ hr] at hu
      rcases Nat.lt_or_ge q len with hq | hq
      · rw [List.getElem?_map, List.getElem?_range hq, Option.map_some, Option.bind_some] at hu
        exact hfx q hq r u hu
      · rw [List.getElem?_eq_none (by simpa using hq)] at hu
        cases hu

theorem trodAll_five {H : Type} {enc : TypeId × Value → H} {P : Program} {w : World} {base : Nat} {spare : Nat → Bool} {held : Bool} {t0 t1 t2 t3 t4 : TypeId} {args : Array Value} {ds : List (DataW H)} {ps : List MemPlace} (h : DataW.TrodAll enc P w base spare held [t0, t1, t2, t3, t4] args.toList ds ps) :
    ∃ v0 v1 v2 v3 v4 d0 d1 d2 d3 d4 p0 p1 p2 p3 p4, args = #[v0, v1, v2, v3, v4] ∧ ds = [d0, d1, d2, d3, d4] ∧ ps = p0 ++ (p1 ++ (p2 ++ (p3 ++ p4))) ∧ DataW.Trod enc P w base spare held t0 v0 d0 p0 ∧ DataW.Trod enc P w base spare held t1 v1 d1 p1 ∧ DataW.Trod enc P w base spare held t2 v2 d2 p2 ∧ DataW.Trod enc P w base spare held t3 v3 d3 p3 ∧ DataW.Trod enc P w base spare held t4 v4 d4 p4 := by
  obtain ⟨v0, vs0, d0, ds0, p0, q0, hargs, rfl, rfl, g0, r0⟩ := trodAll_cons h
  obtain ⟨v1, vs1, d1, ds1, p1, q1, rfl, rfl, rfl, g1, r1⟩ := trodAll_cons r0
  obtain ⟨v2, vs2, d2, ds2, p2, q2, rfl, rfl, rfl, g2, r2⟩ := trodAll_cons r1
  obtain ⟨v3, vs3, d3, ds3, p3, q3, rfl, rfl, rfl, g3, r3⟩ := trodAll_cons r2
  obtain ⟨v4, vs4, d4, ds4, p4, q4, rfl, rfl, rfl, g4, r4⟩ := trodAll_cons r3
  obtain ⟨rfl, rfl, rfl⟩ := trodAll_nil r4
  exact ⟨v0, v1, v2, v3, v4, d0, d1, d2, d3, d4, p0, p1, p2, p3, p4, by cases args; simp_all, rfl, by simp, g0, g1, g2, g3, g4⟩

set_option maxRecDepth 100000 in
theorem reachAsks_lifted (os : Os) (started : os.Started) (H : Type) (enc : TypeId × Value → H) :
    ReturnsInHanded {} Try.checked os 6 .any (Rows.reachAsksSpec.pre6 enc Try.prog Try.f6 Rows.reachAsksRow.domain false) (Rows.reachAsksSpec.post enc Try.prog Try.f6 Rows.reachAsksRow.apart Rows.reachAsksRow.fresh Rows.reachAsksRow.handsOn Rows.reachAsksRow.again) := by
  refine returnsInHanded_of_change_sized (C := Try.checked) Try.own started (by kernel_rfl) Try.func6
    (ChangeSpec.witness6 (enc := enc) (C := Try.checked) false ⟨#[], #[.agg #[.slice none 0 0, .slice none 0 0], .slice none 0 0, .slice none 0 0, .slice none 0 0, .slice none 0 0], []⟩ 8 (by kernel_rfl) (by kernel_rfl) (by kernel_rfl) (by kernel_rfl)) ?_
  intro W base args ds gs before hval0 hW _ hsz0 _
  have hsz : (DataW.weightsEach Try.prog (Try.f6.params.toList ++ Rows.reachAsksSpec.plain.varTypes Try.prog) (ds ++ gs)).all (· ≤ reachBytes) = true := hsz0
  have hval : ∀ (j : Nat) t v, Try.f6.params[j]? = some t → args[j]? = some v → Value.okWide Try.prog W .any base t v := hval0
  have hW' := hW
  have hlt : ∀ p ∈ before, p.block < W.heap.size := fun p hp => hW'.lt p hp
  obtain ⟨p, q, hA0, hV, rfl, hfz, hnd⟩ := hW
  have hA : DataW.TrodAll enc Try.prog W 0 (fun _ => true) true Try.f6.params.toList args.toList ds p := hA0
  rw [Try.params6] at hA hval hsz
  have hA1 := hA
  obtain ⟨v0, v1, v2, v3, v4, d0, d1, d2, d3, d4, p0, p1, p2, p3, p4, rfl, rfl, rfl, h0, h1, h2, h3, h4⟩ := trodAll_five hA
  obtain ⟨rfl, rfl⟩ := trodVars_none hV
  obtain ⟨w0, w1, y0, y1, fl, rfl, rfl, rfl, t0, t1⟩ := Go.Joins.open_agg2 Try.underlying26 (by kernel_rfl) Try.cells26 (hval 0 26 v0 rfl rfl) h0
  have hwm : ∀ k, k ∈ y0.1.weights Try.prog 23 ∨ k ∈ y1.1.weights Try.prog 24 → k ≤ reachBytes := fun k hk => by
    have hmem := DataW.weights_mem_each (P := Try.prog) (ts := [26, 28, 22, 22, 22] ++ Rows.reachAsksSpec.plain.varTypes Try.prog) (ds := [.agg [y0.1, y1.1], d1, d2, d3, d4] ++ []) (j := 0) (t := 26) (d := .agg [y0.1, y1.1]) rfl rfl k (by
      simp only [DataW.weights, Try.underlying26, DataW.weightsEach, List.map_cons, List.map_nil, List.append_nil, List.mem_append]
      exact hk)
    have := List.all_eq_true.1 hsz k hmem
    simpa using this
  obtain ⟨A1, n1, c1, xs, rfl, r1, l1⟩ := open_sup t0 (fun k hk => hwm k (.inl hk))
  obtain ⟨A2, n2, c2, arcs, rfl, r2, l2⟩ := open_arcs t1 (fun k hk => hwm k (.inr hk))
  obtain ⟨As, ns, cs, st, rfl, r3, -, l3⟩ := open_nums Try.underlying28 Try.underlying3 Try.cells3 (hval 1 28 v1 rfl rfl) h1
  obtain ⟨Ac, nc, cc, xc, rfl, r4, b4, l4⟩ := open_nums Try.underlying22 Try.underlying5 Try.cells5 (hval 2 22 v2 rfl rfl) h2
  obtain ⟨Ad, nd, cd, xd, rfl, r5, b5, l5⟩ := open_nums Try.underlying22 Try.underlying5 Try.cells5 (hval 3 22 v3 rfl rfl) h3
  obtain ⟨Ae, ne, ce, xe, rfl, r6, b6, l6⟩ := open_nums Try.underlying22 Try.underlying5 Try.cells5 (hval 4 22 v4 rfl rfl) h4
  clear hA0 hval0 hsz0
  simp only [List.append_nil] at hW' hlt
  refine (ReachAsks_any A1 A2 As Ac Ad Ae n1 c1 n2 c2 ns cs nc cc nd cd ne ce W.heap.size xs arcs st xc xd xe W r1 r2 l1 l2 r3 l3 r4 (fun x hx => wf_u8 (b4 x hx)) l4 r5 (fun x hx => wf_u8 (b5 x hx)) l5 r6 (fun x hx => wf_u8 (b6 x hx)) l6 (Nat.le_refl _)).mono fun e W' ⟨he, hb⟩ => ?_
  subst he
  exact ⟨_, rfl, post_of_below (pa := (y0.2 ++ y1.2) ++ (p1 ++ (p2 ++ (p3 ++ p4)))) (pv := []) hW' (fun _ _ _ => trodAll_mk1 (shut_bool Try.underlying4 true)) (fun sp hsp => trodAll_stay Try.laidOut hb (by decide +kernel) hA1 hlt hsp) (fun _ _ => rfl) (by simp) hb (ok_one (by kernel_rfl) rfl (okWide_bool_mk Try.underlying4 true))⟩

theorem reachAsks_holds : Rows.ReachAsksSaid :=
  OpenClaim.holds_of_wide 6 Try.f6 rfl rfl rfl rfl rfl rfl rfl ⟨rfl, rfl, rfl, rfl, rfl⟩ rfl rfl rfl rfl rfl (by kernel_rfl) Try.func6 (by kernel_rfl)
    (of_decide_eq_true (by kernel_rfl)) (by unfold Func.isWrapper; first | (rw [if_pos (by decide +kernel)]; kernel_rfl) | (rw [if_neg (by decide +kernel)]; exact ⟨rfl, rfl⟩))
    (fun os started H enc _ => reachAsks_lifted os started H enc)
end Go.Proofs.Ytekajenmkpobgaa
