/- The law ReachLine. -/
import Derived.Test.YtekajenmkpobgaaPX
import Derived.Test.YtekajenmkpobgaaM4
set_option linter.unusedSimpArgs false
set_option linter.unusedVariables false
namespace Go.Proofs.Ytekajenmkpobgaa
open Go.RowKit Go.Shelf

/-- one arc more -/
theorem InstG.push {N : Nat} {w wx w4 : World} {jb sb k ca : Nat} {A : Option Addr} {sup : List Int} {arcs : List ArcV} {v' : Value} (h : InstG N w jb sb k ca A sup arcs wx) (y : ArcV) (hown : w4.ownsRow w.heap.size 36 5 v' (k + 1) (arcCells arcs ++ y.cells)) (hgrow : wx.grownBy w4 (Value.slice A k ca).ownBlock) :
    ∃ A' c', v' = .slice A' (k + 1) c' ∧ InstG N w jb sb (k + 1) c' A' sup (arcs ++ [y]) (w4.setCell ⟨jb, 1, none⟩ v') ∧ w4.cell? ⟨jb, 1, none⟩ = some (.slice A k ca) ∧ w4.frozen? ⟨jb, 1, none⟩ = false := by
  obtain ⟨A', c', rfl⟩ := own_form hown
  have hi := h.i.grown hgrow (fun e => own_blk_ne h.a h.i (by decide) e.symm)
  have hs := h.s.grown hgrow (fun e => own_blk_ne h.a h.s (by decide) e.symm)
  refine ⟨A', c', rfl, ⟨hi.set_ 1 _, hs.far (p := ⟨jb, 1, none⟩) (hs.ne_ hi (by decide)) _, h.sl, ?_, ?_, h.l1, h.l2⟩, hi.cell 1, hi.frozen 1⟩
  · have h1 := own_other hown (p := ⟨jb, 1, none⟩) (own_blk_ne hown hi (by decide)) (.slice A' (k + 1) c')
    have e : arcCells (arcs ++ [y]) = arcCells arcs ++ y.cells := by simp [arcCells]
    rw [e]
    exact h1
  · exact (h.b.grown hgrow h.size (fun j hj => (h.a.lt j hj).1)).setCell (p := ⟨jb, 1, none⟩) h.l1 _
theorem InstG.strong {N : Nat} {w wx : World} {jb sb m ca : Nat} {A : Option Addr} {sup : List Int} {arcs : List ArcV} (h : InstG N w jb sb m ca A sup arcs wx) (hN : N ≤ 1000) (hm : m ≤ 1000) :
    Calls Try.prog 21 #[.agg #[.slice (some ⟨sb, 0, none⟩) N N, .slice A m ca]] wx fun e w' => ∃ mb ofl, e = .returned (.slice (some ⟨mb, 0, none⟩) N N) ∧ Blk w' mb 3 (ints ofl) ∧ LowAll N arcs ofl ∧ Below wx.heap.size wx w' := by
  refine (Strong_any _ _ N N m ca wx.heap.size sup arcs wx (h.reads (by omega) (by omega)) (Nat.le_refl _)).mono ?_
  rintro e w' ⟨mb, met, he, h1, _, h2, h3⟩
  exact ⟨mb, met, he, h1, h2, h3⟩

theorem cells_new2 (w : World) (o : Obj) (t : TypeId) (cs : Array Value) : ∀ j u, cs.toList[j]? = some u → ((w.alloc o).alloc (.cells cs t)).cell? ((⟨w.heap.size + 1, 0, none⟩ : Addr).add j) = some u := by
  intro j u hu
  rw [add_lit, (blk_newN (w.alloc o) t cs _ (World.size_alloc _ _)).cell]
  simpa using hu
/-- Arcs of four zeros: one arc -/
theorem Arcs_zero (w : World) (b : Nat) (hb : Blk w b 5 #[.int .u8 0, .int .u8 0, .int .u8 0, .int .u8 0]) :
    Calls Try.prog 19 #[.slice (some ⟨b, 0, none⟩) 4 4, .int .i64 1] w fun e w' => ∃ (g c : Nat) (x : ArcV), e = .returned (.slice (some ⟨g, 0, none⟩) 1 c) ∧ x.f = 0 ∧ x.t = 0 ∧ (w'.cell? ⟨g, 0, none⟩ = some (.int .i64 0) ∧ w'.cell? ⟨g, 1, none⟩ = some (.int .i64 0) ∧ w'.cell? ⟨g, 2, none⟩ = some (.int .i64 x.lo) ∧ w'.cell? ⟨g, 3, none⟩ = some (.int .i64 x.cap) ∧ w'.cell? ⟨g, 4, none⟩ = some (.int .i64 x.cost)) ∧ g < w'.heap.size ∧ Below w.heap.size w w' := by
  have h := Arcs_any (some ⟨b, 0, none⟩) 4 4 w.heap.size 1 [0, 0, 0, 0] w (blk_reads (xs := [.int .u8 0, .int .u8 0, .int .u8 0, .int .u8 0]) hb hb.lt rfl) (by intro v hv; simp at hv; omega) (Nat.le_refl _) (by omega) (by omega) (by omega)
  refine Calls.mono h ?_
  rintro e w' ⟨A, m, c, arcs, rfl, hown, hft, hb'⟩
  have hft2 : arcs.map ArcV.ft = [(0, 0)] := hft
  obtain ⟨x, rfl⟩ : ∃ x, arcs = [x] := by
    match arcs, congrArg List.length hft2 with
    | [x], _ => exact ⟨x, rfl⟩
  have hx : x.f = 0 ∧ x.t = 0 := by
    simp [ArcV.ft] at hft2
    exact hft2
  have hm : m = 1 := by
    have := hown.1
    rw [arcCells_length] at this
    simp at this
    omega
  subst hm
  obtain ⟨g, off, rfl, hg, e0, e1, e2, e3, e4⟩ := (Reads.of_own hown).arc (k := 0) (a := x) rfl
  have ho := own_zero hown
  subst ho
  rw [hx.1] at e0
  rw [hx.2] at e1
  exact ⟨g, c, x, rfl, hx.1, hx.2, ⟨e0, e1, e2, e3, e4⟩, hg, hb'⟩

set_option maxRecDepth 100000 in
set_option maxHeartbeats 8000000 in
theorem ReachLine_any (n a : Int) (hn0 : 0 ≤ n) (hn1 : n ≤ 255) (ha0 : 0 ≤ a) (ha1 : a ≤ 255) (w : World) :
    Calls Try.prog 5 #[.int .u8 n, .int .u8 a] w fun e w' => e = .returned (.bool true) ∧ Below w.heap.size w w' := by
  obtain ⟨N, hN⟩ : ∃ N : Nat, 1 + n % 12 = (N : Int) := ⟨(1 + n % 12).toNat, by omega⟩
  have hN0 : 0 < N := by omega
  have hN1 : N ≤ 12 := by omega
  have hmk := makeNums N (by omega)
  obtain ⟨V, hV⟩ : ∃ V : Nat, a % (N : Int) = (V : Int) := ⟨(a % (N : Int)).toNat, (Int.toNat_of_nonneg (Int.emod_nonneg a (by omega))).symm⟩
  have hVN : V < N := by have := Int.emod_lt_of_pos a (show (0 : Int) < N by omega); omega
  obtain ⟨i0, hi, hz0, hz1, hz2⟩ := info_parts Try.info36
  have HNV := Lib.hid (And.intro hN hV)
  have HMK := Lib.hid hmk
  clear hN hV hmk
  go_enter Try.func5, Try.ntmps5
  go_wp2_with fail
  rw [HNV.out.1]
  refine (Inst_any none none 0 0 0 0 w.heap.size [] [] w Reads.none_ (by intro v hv; cases hv) Reads.none_ (by intro v hv; cases hv) (Nat.le_refl _) (by omega) (by omega)).mono ?_
  rintro e w1 ⟨ib, sb, m, ca, A', sup, arcs, rfl, hM⟩
  have harcs : arcs = [] := by
    have := hM.ft
    simpa [ftOf] using this
  subst harcs
  have hm : m = 0 := by have := hM.len; simpa using this.symm
  subst hm
  have hn1' : nOf ([] : List Int) = 1 := rfl
  rw [hn1'] at hM ⊢
  have hmk := HMK.out
  go_wp2_with fail
  have hI0 : InstG N w w1.heap.size (w1.heap.size + 1) 0 ca A' (List.replicate N 0) [] ((w1.alloc (.cells #[.slice (some ⟨w1.heap.size + 1, 0, none⟩) N N, .slice A' 0 ca] 26)).alloc (.cells (ints (List.replicate N 0)) 2)) :=
    ⟨(Blk.new w1 26 _).alloc _, blk_newN _ _ _ _ (World.size_alloc _ _), by simp, (hM.a.alloc _).alloc _, (hM.b.alloc hM.size _).alloc (by have := hM.size; simp; omega) _, hM.size, by have := hM.size; omega⟩
  generalize (w1.alloc (.cells #[.slice (some ⟨w1.heap.size + 1, 0, none⟩) N N, .slice A' 0 ca] 26)).alloc (.cells (ints (List.replicate N 0)) 2) = W at *
  clear hM hmk HMK hn1'
  generalize w1.heap.size + 1 = sb2 at *
  generalize w1.heap.size = jb at *
  go_loopw [7] (fun i wr => ∃ (k cc : Nat) (Ac : Option Addr) (arcs : List ArcV), k + 1 ≤ N ∧ i = .int .i64 k ∧ InstG N w jb sb2 k cc Ac (List.replicate N 0) arcs wr ∧ arcs.map ArcV.ft = lineFT k) (fun i _ => N - (intOf i).toNat)
  case atStart => exact ⟨0, ca, A', [], by omega, rfl, hI0, rfl⟩
  case round =>
    clear hI0
    obtain ⟨k, cc, Ac, arcs, hk, rfl, hI, hft⟩ := hrel
    have HFT := Lib.hid hft
    clear hft
    by_cases hlt : k + 1 < N
    · have hI1 := hI.below ((Below.refl _ wr).alloc (Nat.le_refl _) (.cells #[.int .u8 0, .int .u8 0, .int .u8 0, .int .u8 0] 5))
      have hbb : Blk (wr.alloc (.cells #[.int .u8 0, .int .u8 0, .int .u8 0, .int .u8 0] 5)) wr.heap.size 5 #[.int .u8 0, .int .u8 0, .int .u8 0, .int .u8 0] := Blk.new _ _ _
      go_wp2_with fail
      generalize wr.alloc (.cells #[.int .u8 0, .int .u8 0, .int .u8 0, .int .u8 0] 5) = X at *
      refine (Arcs_zero X _ hbb).mono ?_
      rintro e w3 ⟨g, c3, x, rfl, -, -, ⟨e0, e1, e2, e3, e4⟩, hg, hb3⟩
      have hI3 := hI1.below hb3
      clear hI1 hI hbb
      have q1 := hI3.i.cell 1
      simp only [List.getElem?_toArray, List.getElem?_cons_zero, List.getElem?_cons_succ] at q1
      have f1 := hI3.i.frozen 1
      have lj := hI3.i.lt
      have hs3 := hI3.size
      go_wp2_with (at_builtin; refine wpList_append_own _ rfl _ _ 24 rfl w.heap.size 36 i0 (.agg #[.int .i64 0, .int .i64 0, .int .i64 0, .int .i64 0, .int .i64 0]) 5 40 Try.underlying24 hi hz0 hz1 hz2 rfl (by decide) _ _ _ rfl ((hI3.a.alloc _).alloc _) ⟨w3.heap.size + 1, 0, none⟩ 1 1 [.int .i64 (k : Int), .int .i64 ((k : Int) + 1), .int .i64 x.lo, .int .i64 x.cap, .int .i64 x.cost] rfl rfl ?c1 ?c2 ?c3 ?c4 ?c5 ?_)
      case c1 => exact cells_new2 w3 _ 36 #[.int .i64 (k : Int), .int .i64 ((k : Int) + 1), .int .i64 x.lo, .int .i64 x.cap, .int .i64 x.cost]
      case c2 => simp [Value.oneCell']
      case c3 => unfold maxLen; omega
      case c4 => omega
      case c5 => simp; omega
      intro v' w4 hown' hgrow _
      have hI3' := hI3.below (((Below.refl _ w3).alloc (Nat.le_refl _) (.cells #[.int .i64 (k : Int), .int .i64 ((k : Int) + 1), .int .i64 x.lo, .int .i64 x.cap, .int .i64 x.cost] 36)).alloc (by simp) (.cells #[.int .i64 (k : Int), .int .i64 ((k : Int) + 1), .int .i64 x.lo, .int .i64 x.cap, .int .i64 x.cost] 36))
      obtain ⟨A2, c2, rfl, hI4, q4, f4⟩ := hI3'.push ⟨(k : Int), (k : Int) + 1, x.lo, x.cap, x.cost⟩ hown' hgrow
      have HI4 := Lib.hid hI4
      clear hI3 hI3' hown' hgrow hI4 q1 f1 e0 e1 e2 e3 e4
      go_wp2_with fail
      go_roundw
      case rel =>
        refine ⟨k + 1, c2, A2, _, by omega, by go_num, HI4.out, ?_⟩
        rw [List.map_append, HFT.out, lineFT_succ]; rfl
      case measure => simp [intOf]; omega
    · have hkN : N - 1 = k := by omega
      have hft2 : arcs.map ArcV.ft = lineFT (N - 1) := by rw [hkN]; exact HFT.out
      have HLN := Lib.hid hft2
      have hkN2 : k ≤ 12 := by omega
      clear hft2 hkN
      have d1 : ¬ N = 0 := by omega
      have q0 := hI.i.cell 0
      have q1 := hI.i.cell 1
      simp only [List.getElem?_toArray, List.getElem?_cons_zero, List.getElem?_cons_succ] at q0 q1
      have lj := hI.i.lt
      have hI1 := hI.below ((Below.refl _ wr).alloc (Nat.le_refl _) (.cells #[.int .i64 (V : Int)] 3))
      have hst : Blk (wr.alloc (.cells #[.int .i64 (V : Int)] 3)) wr.heap.size 3 #[.int .i64 (V : Int)] := Blk.new _ _ _
      go_wp2_with fail
      rw [HNV.out.2]
      generalize wr.alloc (.cells #[.int .i64 (V : Int)] 3) = X at *
      refine (From_any _ _ N N k cc X.heap.size _ arcs _ 1 1 [(V : Int)] X (hI1.reads (by omega) (by omega)) (Nat.le_refl _) (blk_reads (xs := [.int .i64 (V : Int)]) hst hst.lt rfl) (by omega)).mono ?_
      rintro e w4 ⟨tb, met, rfl, hmt, -, hR, hb4⟩
      have hI4 := hI1.below hb4
      clear q0 q1 hI1 hI hst
      have q0 := hI4.i.cell 0
      have q1 := hI4.i.cell 1
      simp only [List.getElem?_toArray, List.getElem?_cons_zero, List.getElem?_cons_succ] at q0 q1
      go_wp2_with fail
      refine (Order_any _ _ N N k cc w4.heap.size _ arcs w4 (hI4.reads (by omega) (by omega)) (Nat.le_refl _)).mono ?_
      rintro e w5 ⟨told, hgr, hstk, hb5, hor⟩
      obtain ⟨htl, hto⟩ := line_order HLN.out hgr hstk
      rcases hor with ⟨h1, -⟩ | ⟨-, At, ct, rfl, hrow⟩
      · omega
      have hI5 := hI4.below hb5
      have hmt5 := hmt.below hb5 hmt.lt
      have HTO := Lib.hid (And.intro htl hto)
      have HR := Lib.hid hR
      have z1 : ((N : Int) != (N : Int)) = false := by simp
      clear q0 q1 hI4 hmt htl hto hgr hstk hR
      go_wp2_with fail
      go_loop [13] (fun i => ∃ j : Nat, j ≤ N ∧ i = .int .i64 j) (fun i => N - (intOf i).toNat)
      case atStart => exact ⟨0, Nat.zero_le _, rfl⟩
      case round =>
        obtain ⟨j, hj, rfl⟩ := hrel
        by_cases hlj : j < N
        · have hm := line_from HLN.out hVN HR.out hlj
          have s1 : w5.cell? ⟨tb, j, none⟩ = some (.bool (decide (V ≤ j))) := (hmt5.cell j).trans (bools_of hm)
          have ht := HTO.out.2 j hlj
          obtain ⟨b, off, u, rfl, -, hx, hcell⟩ := (Reads.of_own hrow).at_ hlj
          simp only [List.getElem?_map, ht, Option.map_some, Option.some.injEq] at hx
          subst hx
          unfold I at hcell
          have z2 : ((j : Int) != (j : Int)) = false := by simp
          clear hm ht
          by_cases hvj : V ≤ j
          · have c1 : decide (V ≤ j) = true := by simpa using hvj
            rw [c1] at s1
            go_wp2_with fail
            go_round
            case rel => exact ⟨j + 1, by omega, by go_num⟩
            case measure => simp [intOf]; omega
          · have c1 : decide (V ≤ j) = false := by simpa using hvj
            rw [c1] at s1
            go_wp2_with fail
            go_round
            case rel => exact ⟨j + 1, by omega, by go_num⟩
            case measure => simp [intOf]; omega
        · have hI6 := hI5.below ((Below.refl _ w5).alloc (Nat.le_refl _) (.cells #[.int .u8 0, .int .u8 0, .int .u8 0, .int .u8 0] 5))
          have hbb : Blk (w5.alloc (.cells #[.int .u8 0, .int .u8 0, .int .u8 0, .int .u8 0] 5)) w5.heap.size 5 #[.int .u8 0, .int .u8 0, .int .u8 0, .int .u8 0] := Blk.new _ _ _
          go_wp2_with fail
          generalize w5.alloc (.cells #[.int .u8 0, .int .u8 0, .int .u8 0, .int .u8 0] 5) = Y at *
          refine (Arcs_zero Y _ hbb).mono ?_
          rintro e w7 ⟨g, c7, x, rfl, -, -, ⟨e0, e1, e2, e3, e4⟩, hg, hb7⟩
          have hI7 := hI6.below hb7
          clear hI6 hI5 hbb hmt5 hrow
          have q1 := hI7.i.cell 1
          simp only [List.getElem?_toArray, List.getElem?_cons_zero, List.getElem?_cons_succ] at q1
          have f1 := hI7.i.frozen 1
          have lj7 := hI7.i.lt
          have hs7 := hI7.size
          go_wp2_with (at_builtin; refine wpList_append_own _ rfl _ _ 24 rfl w.heap.size 36 i0 (.agg #[.int .i64 0, .int .i64 0, .int .i64 0, .int .i64 0, .int .i64 0]) 5 40 Try.underlying24 hi hz0 hz1 hz2 rfl (by decide) _ _ _ rfl ((hI7.a.alloc _).alloc _) ⟨w7.heap.size + 1, 0, none⟩ 1 1 [.int .i64 ((N : Int) - 1), .int .i64 0, .int .i64 x.lo, .int .i64 x.cap, .int .i64 x.cost] rfl rfl ?d1 ?d2 ?d3 ?d4 ?d5 ?_)
          case d1 => exact cells_new2 w7 _ 36 #[.int .i64 ((N : Int) - 1), .int .i64 0, .int .i64 x.lo, .int .i64 x.cap, .int .i64 x.cost]
          case d2 => simp [Value.oneCell']
          case d3 => unfold maxLen; omega
          case d4 => omega
          case d5 => simp; omega
          intro v' w8 hown' hgrow _
          have hI7' := hI7.below (((Below.refl _ w7).alloc (Nat.le_refl _) (.cells #[.int .i64 ((N : Int) - 1), .int .i64 0, .int .i64 x.lo, .int .i64 x.cap, .int .i64 x.cost] 36)).alloc (by simp) (.cells #[.int .i64 ((N : Int) - 1), .int .i64 0, .int .i64 x.lo, .int .i64 x.cap, .int .i64 x.cost] 36))
          obtain ⟨A2, c2, rfl, hI8, q8, f8⟩ := hI7'.push ⟨(N : Int) - 1, 0, x.lo, x.cap, x.cost⟩ hown' hgrow
          have hft8 : (arcs ++ [(⟨(N : Int) - 1, 0, x.lo, x.cap, x.cost⟩ : ArcV)]).map ArcV.ft = lineFT (N - 1) ++ [((N : Int) - 1, 0)] := by
            rw [List.map_append, HLN.out]; rfl
          have HF8 := Lib.hid hft8
          clear hI7 hI7' hown' hgrow q1 f1 e0 e1 e2 e3 e4 hft8
          have HI8 := Lib.hid hI8
          clear hI8
          go_wp2_with fail
          have hI8 := HI8.out
          generalize w8.setCell ⟨jb, 1, none⟩ (.slice A2 (k + 1) c2) = W8 at *
          clear HI8
          generalize arcs ++ [(⟨(N : Int) - 1, 0, x.lo, x.cap, x.cost⟩ : ArcV)] = arcs8 at *
          have q0 := hI8.i.cell 0
          have q1 := hI8.i.cell 1
          simp only [List.getElem?_toArray, List.getElem?_cons_zero, List.getElem?_cons_succ] at q0 q1
          have hmk := make_rowN N (by omega)
          rw [madeInts] at hmk
          have hrl : (List.replicate N (0 : Int)).length = N := by simp
          have HRL := Lib.hid hrl
          clear hrl
          go_region_held3 (fun w' => w'.cell? ⟨jb, 0, none⟩ = some (.slice (some ⟨sb2, 0, none⟩) N N) ∧ w'.cell? ⟨jb, 1, none⟩ = some (.slice A2 (k + 1) c2)) (first | go_keep | exact ⟨k1, k2⟩)
            (first
              | (go_at_call 13; refine (known_any _).mono ?_; rintro e w9 ⟨rfl, hb⟩; have hI9 := hI8.below ((Below.refl _ W8).drew.trans hb); have k1 := hI9.i.cell 0; have k2 := hI9.i.cell 1)
              | (go_at_call 21; first
                  | ((with_reducible refine (hI9.strong (by omega) (by omega)).mono ?_); rintro e w10 ⟨mb, ofl, rfl, hof, hlow, hb10⟩; have hI10 := hI9.below hb10; have HE := Lib.hid (And.intro (ring_low HF8.out hN0 hlow) hlow.1); have k1 := hI10.i.cell 0; have k2 := hI10.i.cell 1)
                  | ((with_reducible refine ((hI9.below ((Below.refl _ w9).alloc (Nat.le_refl _) (.cells (ints (List.replicate N 0)) 3))).strong (by omega) (by omega)).mono ?_); rintro e w10 ⟨mb, ofl, rfl, hof, hlow, hb10⟩; have hI10 := (hI9.below ((Below.refl _ w9).alloc (Nat.le_refl _) (.cells (ints (List.replicate N 0)) 3))).below hb10; have hzb := (Blk.new w9 3 (ints (List.replicate N 0))).below hb10 (by simp); have HE := Lib.hid (And.intro (ring_low HF8.out hN0 hlow) hlow.1); have k1 := hI10.i.cell 0; have k2 := hI10.i.cell 1))
              | (go_at_call 20; first
                  | ((with_reducible refine (ints_same hof hzb HE.out.1 HE.out.2 HRL.out (by omega)).mono ?_); rintro e w11 ⟨rfl, q, rfl⟩; have hI11 := hI10.below (below_dN _ q); have k1 := hI11.i.cell 0; have k2 := hI11.i.cell 1)
                  | ((with_reducible refine (ints_same (hof.alloc _) (Blk.new w10 3 (ints (List.replicate N 0))) HE.out.1 HE.out.2 HRL.out (by omega)).mono ?_); rintro e w11 ⟨rfl, q, rfl⟩; have hI11 := (hI10.below ((Below.refl _ w10).alloc (Nat.le_refl _) (.cells (ints (List.replicate N 0)) 3))).below (below_dN _ q); have k1 := hI11.i.cell 0; have k2 := hI11.i.cell 1)))
          all_goals go_wp2_with fail
          all_goals go_ret
          all_goals exact ⟨rfl, hI11.b⟩
end Go.Proofs.Ytekajenmkpobgaa
