/- FilePrints (4): the walk. Conditions: none. -/
import Derived.Test.YtoagphighgejnaaGreatDoorPB
import Derived.Test.YtoagphighgejnaaGreatDoorV13
import Derived.Test.YtoagphighgejnaaGreatDoorPX
import Derived.Test.YtoagphighgejnaaGreatDoorRX
import Derived.Deep.DeepCutAuto
import Derived.Deep.CutBlock
set_option linter.unusedSimpArgs false
set_option linter.unusedVariables false
namespace Go.Proofs.YtoagphighgejnaaGreatDoor
open Go.RowKit Go.Shelf

theorem ProbIs.stays {w w' : World} {p : ProbV} {v : Value} (h : ProbIs w p v) (hb : Below w.heap.size w w') : ProbIs w' p v := by
  obtain ⟨S, n, c, A, m, d, h1, h2, h3, h4, h5, h6, h7⟩ := h
  exact ⟨S, n, c, A, m, d, h1, h2, h3, h4, h5, (h6.below hb).more hb.size, (h7.below hb).more hb.size⟩

theorem ProbIs.shape {w : World} {p : ProbV} {v : Value} (h : ProbIs w p v) : ∃ mx S n c A m d ps pt, v = .agg #[.bool mx, .slice S n c, .slice A m d, .int .i64 ps, .int .i64 pt] := by
  obtain ⟨S, n, c, A, m, d, h1, -⟩ := h
  exact ⟨_, _, _, _, _, _, _, _, _, h1⟩

set_option maxRecDepth 100000 in
theorem Size_in (S A : Option Addr) (n c m d : Nat) (w : World) : Calls Tryz.prog 17 #[.agg #[.slice S n c, .slice A m d]] w fun e w' => ∃ z, e = .returned (.int .i64 z) ∧ Below w.heap.size w w' := by
  have HB1 := Lib.hid ((Below.refl w.heap.size w).alloc (Nat.le_refl _) (.cells #[.slice S n c, .slice A m d] 29))
  have HK1 := Lib.hid (Blk.new w 29 #[.slice S n c, .slice A m d])
  go_enter Tryz.func17, Tryz.ntmps17
  go_upto_region 1 with fail
  generalize w.alloc (.cells #[.slice S n c, .slice A m d] 29) = W1 at *
  have r0 : W1.cell? ⟨w.heap.size, 0, none⟩ = some (.slice S n c) := HK1.out.cell 0
  have r1 : W1.cell? ⟨w.heap.size, 1, none⟩ = some (.slice A m d) := HK1.out.cell 1
  go_wp2_with fail
  go_ret
  exact ⟨_, rfl, HB1.out⟩
theorem arcCells_cost : ∀ (l : List ArcV) (k : Nat) (a : ArcV) (x : Int), l[k]? = some a → (arcCells l).set (k * 5 + 4) (.int .i64 x) = arcCells (l.set k { a with cost := x })
  | [], k, a, x, h => by simp at h
  | b :: l, 0, a, x, h => by
    simp at h; subst h
    simp [arcCells, ArcV.cells, I]
  | b :: l, k + 1, a, x, h => by
    have ih := arcCells_cost l k a x (by simpa using h)
    have e4 : (k + 1) * 5 + 4 = (k * 5 + 4) + 1 + 1 + 1 + 1 + 1 := by omega
    have e : ∀ (x : ArcV) (r : List ArcV), arcCells (x :: r) = I x.f :: I x.t :: I x.lo :: I x.cap :: I x.cost :: arcCells r := fun x r => by simp [arcCells, ArcV.cells]
    rw [e, e4]
    simp only [List.set_cons_succ]
    rw [ih, ← e]
theorem arcCells_cap : ∀ (l : List ArcV) (k : Nat) (a : ArcV) (x : Int), l[k]? = some a → (arcCells l).set (k * 5 + 3) (.int .i64 x) = arcCells (l.set k { a with cap := x })
  | [], k, a, x, h => by simp at h
  | b :: l, 0, a, x, h => by
    simp at h; subst h
    simp [arcCells, ArcV.cells, I]
  | b :: l, k + 1, a, x, h => by
    have ih := arcCells_cap l k a x (by simpa using h)
    have e4 : (k + 1) * 5 + 3 = (k * 5 + 3) + 1 + 1 + 1 + 1 + 1 := by omega
    have e : ∀ (x : ArcV) (r : List ArcV), arcCells (x :: r) = I x.f :: I x.t :: I x.lo :: I x.cap :: I x.cost :: arcCells r := fun x r => by simp [arcCells, ArcV.cells]
    rw [e, e4]
    simp only [List.set_cons_succ]
    rw [ih, ← e]
/-- a problem in a box, its lists in new memory; beside it the box of the one that came in -/
structure BoxP (w : World) (PB : Array Value) (B pb : Nat) (mx : Bool) (sup : List Int) (arcs : List ArcV) (s t : Int) (sb m ca : Nat) (A : Option Addr) (W : World) : Prop where
  k : Blk W pb 31 #[.bool mx, .slice (some ⟨sb, 0, none⟩) sup.length sup.length, .slice A m ca, .int .i64 s, .int .i64 t]
  s : Blk W sb 2 (ints sup)
  a : W.ownsRow B 42 5 (.slice A m ca) m (arcCells arcs)
  b : Below w.heap.size w W
  p : Blk W w.heap.size 31 PB
  l0 : w.heap.size < B
  l1 : B ≤ pb
  l2 : B ≤ sb
  n0 : 0 < sup.length
  n7 : sup.length ≤ 7
  m18 : m ≤ 18
section
variable {w W : World} {PB : Array Value} {B pb sb m ca : Nat} {mx : Bool} {sup : List Int} {arcs : List ArcV} {s t : Int} {A : Option Addr}
theorem BoxP.len (h : BoxP w PB B pb mx sup arcs s t sb m ca A W) : m = arcs.length := by have := h.a.1; rw [arcCells_length] at this; omega
theorem BoxP.is (h : BoxP w PB B pb mx sup arcs s t sb m ca A W) :
    ProbIs W ⟨mx, sup, arcs, s, t⟩ (.agg #[.bool mx, .slice (some ⟨sb, 0, none⟩) sup.length sup.length, .slice A m ca, .int .i64 s, .int .i64 t]) :=
  ⟨_, _, _, _, _, _, rfl, rfl, h.len, Nat.le_refl _, own_cap h.a, reads_ints h.s, Reads.of_own h.a⟩
theorem BoxP.set_s (h : BoxP w PB B pb mx sup arcs s t sb m ca A W) (x : Int) : BoxP w PB B pb mx sup arcs x t sb m ca A (W.setCell ⟨pb, 3, none⟩ (.int .i64 x)) :=
  ⟨by have := h.k.set_ 3 (.int .i64 x); simpa using this, h.s.far (p := ⟨pb, 3, none⟩) (h.s.ne_ h.k (by decide)) _, own_off h.a (p := ⟨pb, 3, none⟩) h.k (by decide) _, h.b.setCell (p := ⟨pb, 3, none⟩) (by have := h.l0; have := h.l1; show w.heap.size ≤ pb; omega) _,
    h.p.far (p := ⟨pb, 3, none⟩) (by have := h.l0; have := h.l1; show w.heap.size ≠ pb; omega) _, h.l0, h.l1, h.l2, h.n0, h.n7, h.m18⟩
theorem BoxP.set_t (h : BoxP w PB B pb mx sup arcs s t sb m ca A W) (x : Int) : BoxP w PB B pb mx sup arcs s x sb m ca A (W.setCell ⟨pb, 4, none⟩ (.int .i64 x)) :=
  ⟨by have := h.k.set_ 4 (.int .i64 x); simpa using this, h.s.far (p := ⟨pb, 4, none⟩) (h.s.ne_ h.k (by decide)) _, own_off h.a (p := ⟨pb, 4, none⟩) h.k (by decide) _, h.b.setCell (p := ⟨pb, 4, none⟩) (by have := h.l0; have := h.l1; show w.heap.size ≤ pb; omega) _,
    h.p.far (p := ⟨pb, 4, none⟩) (by have := h.l0; have := h.l1; show w.heap.size ≠ pb; omega) _, h.l0, h.l1, h.l2, h.n0, h.n7, h.m18⟩
theorem BoxP.set_sup (h : BoxP w PB B pb mx sup arcs s t sb m ca A W) (k : Nat) (x : Int) : BoxP w PB B pb mx (sup.set k x) arcs s t sb m ca A (W.setCell ⟨sb, k, none⟩ (.int .i64 x)) :=
  ⟨by have := h.k.far (p := ⟨sb, k, none⟩) (h.k.ne_ h.s (by decide)) (.int .i64 x); simpa using this, by have := h.s.set_ k (.int .i64 x); rwa [ints_set] at this, own_off h.a (p := ⟨sb, k, none⟩) h.s (by decide) _, h.b.setCell (p := ⟨sb, k, none⟩) (by have := h.l0; have := h.l2; show w.heap.size ≤ sb; omega) _,
    h.p.far (p := ⟨sb, k, none⟩) (by have := h.l0; have := h.l2; show w.heap.size ≠ sb; omega) _, h.l0, h.l1, h.l2, by simpa using h.n0, by simpa using h.n7, h.m18⟩
theorem BoxP.set_arc (h : BoxP w PB B pb mx sup arcs s t sb m ca A W) {g : Nat} (hA : A = some ⟨g, 0, none⟩) {cur : Array Value} (hg : Blk W g 42 cur) (hB : B ≤ g) (i : Nat) (x : Int) {arcs' : List ArcV} (he : (arcCells arcs).set i (.int .i64 x) = arcCells arcs') (hl : arcs'.length = arcs.length) :
    BoxP w PB B pb mx sup arcs' s t sb m ca A (W.setCell ⟨g, i, none⟩ (.int .i64 x)) := by
  subst hA
  refine ⟨h.k.far (p := ⟨g, i, none⟩) (h.k.ne_ hg (by decide)) _, h.s.far (p := ⟨g, i, none⟩) (h.s.ne_ hg (by decide)) _, ?_, h.b.setCell (p := ⟨g, i, none⟩) (by have := h.l0; show w.heap.size ≤ g; omega) _, h.p.far (p := ⟨g, i, none⟩) (by have := h.l0; show w.heap.size ≠ g; omega) _, h.l0, h.l1, h.l2, h.n0, h.n7, h.m18⟩
  have := own_set h.a i (.int .i64 x)
  rwa [he] at this
theorem BoxP.arc (h : BoxP w PB B pb mx sup arcs s t sb m ca A W) (hm : 0 < m) : ∃ g cur, A = some ⟨g, 0, none⟩ ∧ Blk W g 42 cur ∧ B ≤ g := by
  rcases h.a.2 with ⟨h1, h2⟩ | ⟨g, cap, cur, hv, hb, hg, _⟩
  · omega
  · injection hv with hv
    exact ⟨g, cur, hv, hg, hb⟩
theorem BoxP.arc_at {g : Nat} (h : BoxP w PB B pb mx sup arcs s t sb m ca (some ⟨g, 0, none⟩) W) {k r : Nat} (hk : k < m) (hr : r < 5) : ∃ u, W.cell? ⟨g, k * 5 + r, none⟩ = some u := by
  obtain ⟨a, ha⟩ : ∃ a, arcs[k]? = some a := ⟨_, List.getElem?_eq_getElem (by have := h.len; omega)⟩
  have h5 := arcCells_at arcs k r hr
  rw [ha] at h5
  have h6 : ∃ u, a.cells[r]? = some u := ⟨_, List.getElem?_eq_getElem (by simpa [ArcV.cells] using hr)⟩
  obtain ⟨u, hu⟩ := h6
  rw [Option.bind_some, hu] at h5
  have := h.a.cells (g := g) rfl (k * 5 + r) _ h5
  rw [add_lit, Nat.zero_add] at this
  exact ⟨_, this⟩
theorem BoxP.drew (h : BoxP w PB B pb mx sup arcs s t sb m ca A W) : BoxP w PB B pb mx sup arcs s t sb m ca A W.drew :=
  ⟨h.k.drew, h.s.drew, own_below h.a (Below.refl _ _).drew, h.b.drew, h.p.drew, h.l0, h.l1, h.l2, h.n0, h.n7, h.m18⟩
end
theorem BoxP.new {w w3 w4 : World} {PB : Array Value} {q : ProbV} {sb m ca : Nat} {A : Option Addr} (hb : Below w.heap.size w w3) (hp : Blk w3 w.heap.size 31 PB) (h : ProbNew w3 q sb m ca A w4) :
    BoxP w PB w3.heap.size w4.heap.size q.max q.sup q.arcs q.s q.t sb m ca A (w4.alloc (.cells #[.bool q.max, .slice (some ⟨sb, 0, none⟩) q.sup.length q.sup.length, .slice A m ca, .int .i64 q.s, .int .i64 q.t] 31)) := by
  have h1 := (Below.refl w4.heap.size w4).alloc (Nat.le_refl _) (.cells #[.bool q.max, .slice (some ⟨sb, 0, none⟩) q.sup.length q.sup.length, .slice A m ca, .int .i64 q.s, .int .i64 q.t] 31)
  exact ⟨Blk.new w4 31 _, h.s.below h1 h.s.lt, own_below h.a h1, (hb.trans (h.b.mono hb.size)).trans (h1.mono ((hb.trans (h.b.mono hb.size)).size)), (hp.below h.b hp.lt).below h1 (hp.below h.b hp.lt).lt, hp.lt, h.b.size, h.l, h.fits.pos, h.n7, h.m18⟩

theorem txt_of (l : List UInt8) : ∃ X : ByteArray, strV l = .string X ∧ X.data.toList = l ∧ X.size = l.length := ⟨⟨l.toArray⟩, rfl, rfl, rfl⟩

set_option maxHeartbeats 1600000 in
set_option maxRecDepth 100000 in
theorem prints_in (p : ProbV) (v : Value) (w : World) (hv : ProbIs w p v) (hE : Env w) : Calls Tryz.prog 18 #[v] w fun e w' => e = .returned (.bool true) ∧ Below w.heap.size w w' := by
  obtain ⟨mx, S, n, c, A, m, d, ps, pt, rfl⟩ := hv.shape
  have hb1 := (Below.refl w.heap.size w).alloc (Nat.le_refl _) (.cells #[.bool mx, .slice S n c, .slice A m d, .int .i64 ps, .int .i64 pt] 31)
  have HB1 := Lib.hid hb1
  have HE1 := Lib.hid (hE.on hb1)
  have HV1 := Lib.hid (hv.stays hb1)
  have HK1 := Lib.hid (Blk.new w 31 #[.bool mx, .slice S n c, .slice A m d, .int .i64 ps, .int .i64 pt])
  clear hb1 hv hE
  go_enter Tryz.func18, Tryz.ntmps18
  go_upto_region 1 with fail
  generalize w.alloc (.cells #[.bool mx, .slice S n c, .slice A m d, .int .i64 ps, .int .i64 pt] 31) = W1 at *
  obtain ⟨r0, r1, r2, r3, r4⟩ := blk5 HK1.out
  go_wp2_with fail
  refine (Print_in p _ W1 HV1.out HE1.out).mono ?_
  rintro e w2 ⟨T, k, rfl, hT, hb2⟩
  have HB2 := Lib.hid (HB1.out.trans (hb2.mono HB1.out.size))
  have HV2 := Lib.hid (HV1.out.stays hb2)
  obtain ⟨s0, s1, s2, s3, s4⟩ := blk5 (HK1.out.below hb2 HK1.out.lt)
  obtain ⟨X, hX, -, -⟩ := txt_of T
  rw [hX]
  have HX := Lib.hid hX
  have HT := Lib.hid hT
  clear r0 r1 r2 r3 r4 hb2 hX hT
  go_wp2_with fail
  refine (rPrint_in p _ w2 HV2.out).mono ?_
  rintro e w3 ⟨T', k', rfl, hT', hb3⟩
  obtain ⟨rfl, rfl⟩ := HT.out.one hT'
  have HB3 := Lib.hid (HB2.out.trans (hb3.mono HB2.out.size))
  rw [HX.out]
  have hkk : k = 0 ∨ k = 1 := by
    rcases HT.out with ⟨-, -, h⟩ | ⟨-, -, h⟩
    · exact .inl h
    · exact .inr h
  clear hb3 hT' s0 s1 s2 s3 s4
  rcases hkk with rfl | rfl
  · go_wp2_with fail
    go_ret
    exact ⟨rfl, HB3.out⟩
  · go_wp2_with fail
    go_ret
    exact ⟨rfl, HB3.out⟩

set_option maxHeartbeats 6400000 in
set_option maxRecDepth 100000 in
theorem FilePrints_in (p : ProbV) (v : Value) (A D : Option Addr) (n c nd cd : Nat) (cs ds : List Int) (mo : Bool) (at_ how x : Int) (w : World) (hv : ProbIs w p v) (hE : Env w) (hr : Reads w w.heap.size 1 A n (cs.map U)) (hy : Byt cs) (hd : Reads w w.heap.size 1 D nd (ds.map U)) (hyd : Byt ds) (hn : n ≤ 9223372036854775807) (hnd : nd ≤ 9223372036854775807)
    (hat : 0 ≤ at_ ∧ at_ ≤ 255) (hho : 0 ≤ how ∧ how ≤ 255) :
    Calls Tryz.prog 4 #[v, .slice A n c, .slice D nd cd, .bool mo, .int .u8 at_, .int .u8 how, .int .i64 x] w fun e w' => e = .returned (.bool true) ∧ Below w.heap.size w w' := by
  obtain ⟨mx, S, n0, c0, A0, m0, d0, ps, pt, rfl⟩ := hv.shape
  have hb1 := (Below.refl w.heap.size w).alloc (Nat.le_refl _) (.cells #[.bool mx, .slice S n0 c0, .slice A0 m0 d0, .int .i64 ps, .int .i64 pt] 31)
  have HB1 := Lib.hid hb1
  have HE := Lib.hid hE
  have HV := Lib.hid hv
  have HK1 := Lib.hid (Blk.new w 31 #[.bool mx, .slice S n0 c0, .slice A0 m0 d0, .int .i64 ps, .int .i64 pt])
  have HPB := Lib.hid (fun W (hb : Below w.heap.size w W) => Prob_any A D n c nd cd w.heap.size cs ds mo W (hr.below hb) hy (hd.below hb) hyd hb.size hn hnd)
  have HAT := Lib.hid (And.intro hat hho)
  clear hb1 hv hE hr hd hy hyd hn hnd hat hho
  go_enter Tryz.func4, Tryz.ntmps4
  go_upto_region 1 with fail
  generalize w.alloc (.cells #[.bool mx, .slice S n0 c0, .slice A0 m0 d0, .int .i64 ps, .int .i64 pt] 31) = W1 at *
  obtain ⟨r0, r1, r2, r3, r4⟩ := blk5 HK1.out
  go_wp2_with fail
  refine (Size_in S A0 n0 c0 m0 d0 W1).mono ?_
  rintro e w2 ⟨z, rfl, hb2⟩
  have HB2 := Lib.hid (HB1.out.trans (hb2.mono HB1.out.size))
  have HK2 := Lib.hid (HK1.out.below hb2 HK1.out.lt)
  clear r0 r1 r2 r3 r4 hb2
  by_cases hz : 120 < z
  · go_wp2_with fail
    refine (known_in w2 (HE.out.on HB2.out)).mono ?_
    rintro e w3 ⟨rfl, hb3⟩
    have HB3 := Lib.hid (HB2.out.trans (hb3.mono HB2.out.size))
    clear hb3
    go_wp2_with fail
    go_ret
    exact ⟨rfl, HB3.out⟩
  · go_wp2_with fail
    refine (known_in w2 (HE.out.on HB2.out)).mono ?_
    rintro e w3 ⟨rfl, hb3⟩
    have HB3 := Lib.hid (HB2.out.trans (hb3.mono HB2.out.size))
    have HK3 := Lib.hid (HK2.out.below hb3 HK2.out.lt)
    have HPB := Lib.hid (HPB.out w3 HB3.out)
    clear hb3 HK2
    go_wp2_with fail
    refine HPB.out.mono ?_
    rintro e w4 ⟨q, sb, m, ca, Aa, rfl, hN⟩
    have HX := Lib.hid (BoxP.new HB3.out HK3.out hN)
    clear hN HPB HK3
    unfold probV
    obtain ⟨mx2, sup, arcs, s2, t2⟩ := q
    simp only at HX ⊢
    go_upto_region 4 with fail
    generalize w4.alloc (.cells #[.bool mx2, .slice (some ⟨sb, 0, none⟩) sup.length sup.length, .slice Aa m ca, .int .i64 s2, .int .i64 t2] 31) = W5 at *
    generalize w4.heap.size = pb at *
    have hn0 := HX.out.n0
    have hn7 := HX.out.n7
    have hm18 := HX.out.m18
    obtain ⟨hat, hho⟩ := HAT.out
    obtain ⟨k, hk, hkm⟩ : ∃ k : Nat, k < sup.length ∧ at_ % (sup.length : Int) = (k : Int) := ⟨(at_ % (sup.length : Int)).toNat, by
      have h1 := Int.emod_lt_of_pos at_ (show (0 : Int) < (sup.length : Int) by omega); have h2 := Int.emod_nonneg at_ (show (sup.length : Int) ≠ 0 by omega); omega, by
      have h2 := Int.emod_nonneg at_ (show (sup.length : Int) ≠ 0 by omega); omega⟩
    have hnz : ¬ (sup.length : Int) = 0 := by omega
    have hnz2 : ¬ sup.length = 0 := by omega
    have hki : (k : Int) < (sup.length : Int) := by omega
    obtain ⟨q0, q1, q2, q3, q4⟩ := blk5 HX.out.k
    go_upto_block 0 with fail
    rw [hkm]
    clear hkm
    go_cut [39] from 40 to 105 (fun _ wx => ∃ sup3 arcs3 s3 t3, BoxP w #[.bool mx, .slice S n0 c0, .slice A0 m0 d0, .int .i64 ps, .int .i64 pt] w3.heap.size pb mx2 sup3 arcs3 s3 t3 sb m ca Aa wx)
    case first =>
      have hw4 : 0 ≤ how % 8 ∧ how % 8 < 8 := by omega
      by_cases h0 : how % 8 = 0
      · have e0 : (how % 8 == 0) = true := by simp [h0]
        clear h0 hw4
        obtain ⟨a, ha⟩ : ∃ a, sup[k]? = some a := ⟨_, List.getElem?_eq_getElem hk⟩
        have c1 : W5.cell? ⟨sb, k, none⟩ = some (.int .i64 a) := (HX.out.s.cell k).trans (ints_at ha)
        have f1 := HX.out.s.frozen k
        obtain ⟨v1, hv1⟩ : ∃ v, v = wrap64 (a + x) := ⟨_, rfl⟩
        have HX6 := Lib.hid (HX.out.set_sup k v1)
        obtain ⟨sup6, hs6⟩ : ∃ l, l = sup.set k v1 := ⟨_, rfl⟩
        rw [← hs6] at HX6
        have hl6 : 0 < sup6.length := HX6.out.n0
        obtain ⟨a0, ha0⟩ : ∃ a, sup6[0]? = some a := ⟨_, List.getElem?_eq_getElem hl6⟩
        have HV1 := Lib.hid hv1
        have HA0 := Lib.hid ha0
        rw [hv1] at HX6
        have HS6 := Lib.hid hs6
        clear ha hs6 ha0 hv1
        go_upto_region 8 with fail
        generalize W5.setCell ⟨sb, k, none⟩ (.int .i64 (wrap64 (a + x))) = W6 at *
        clear c1 f1 q0 q1 q2 q3 q4
        obtain ⟨q0, q1, q2, q3, q4⟩ := blk5 HX6.out.k
        have c1 : W6.cell? ⟨sb, 0, none⟩ = some (.int .i64 a0) := (HX6.out.s.cell 0).trans (ints_at HA0.out)
        have f1 := HX6.out.s.frozen 0
        have hl6' : (0 : Int) < (sup6.length : Int) := by omega
        have HX7 := Lib.hid (HX6.out.set_sup 0 (wrap64 (a0 - x)))
        go_wp2_with fail
        go_meet
        exact ⟨_, _, _, _, HX7.out⟩
      · have e0 : (how % 8 == 0) = false := by simp [h0]
        by_cases h1 : how % 8 = 1
        · have e1 : (how % 8 == 1) = true := by simp [h1]
          clear h0 h1 hw4
          have HX7 := Lib.hid (HX.out.set_s x)
          have f3 := HX.out.k.frozen 3
          go_wp2_with fail
          go_meet
          exact ⟨_, _, _, _, HX7.out⟩
        · have e1 : (how % 8 == 1) = false := by simp [h1]
          by_cases h2 : how % 8 = 2
          · have e2 : (how % 8 == 2) = true := by simp [h2]
            clear h0 h1 h2 hw4
            have HX7 := Lib.hid (HX.out.set_t x)
            have f4 := HX.out.k.frozen 4
            go_wp2_with fail
            go_meet
            exact ⟨_, _, _, _, HX7.out⟩
          · have e2 : (how % 8 == 2) = false := by simp [h2]
            by_cases h3 : how % 8 = 3
            · have e3 : (how % 8 == 3) = true := by simp [h3]
              clear h0 h1 h2 h3 hw4
              by_cases hm0 : m = 0
              · subst hm0
                go_wp2_with fail
                go_meet
                exact ⟨_, _, _, _, HX.out⟩
              · have hmp : 0 < m := by omega
                obtain ⟨j, hj, hjm⟩ : ∃ j : Nat, j < m ∧ at_ % (m : Int) = (j : Int) := ⟨(at_ % (m : Int)).toNat, by
                  have h1 := Int.emod_lt_of_pos at_ (show (0 : Int) < (m : Int) by omega); have h2 := Int.emod_nonneg at_ (show (m : Int) ≠ 0 by omega); omega, by
                  have h2 := Int.emod_nonneg at_ (show (m : Int) ≠ 0 by omega); omega⟩
                obtain ⟨g, cur, rfl, hg, hgB⟩ := HX.out.arc hmp
                obtain ⟨u, hu⟩ := HX.out.arc_at hj (show 4 < 5 by omega)
                have hf := hg.frozen (j * 5 + 4)
                obtain ⟨z, hz⟩ : ∃ z, arcs[j]? = some z := ⟨_, List.getElem?_eq_getElem (by have := HX.out.len; omega)⟩
                have HX7 := Lib.hid (HX.out.set_arc rfl hg hgB (j * 5 + 4) x (arcCells_cost arcs j z x hz) (by simp))
                have hm1 : ¬ (m : Int) = 0 := by omega
                have hm2 : ((m : Int) == 0) = false := by simp; omega
                have hji : (j : Int) < (m : Int) := by omega
                have hmi : (0 : Int) < (m : Int) := by omega
                have ht : at_.tmod (m : Int) = (j : Int) := by rw [Int.tmod_eq_emod_of_nonneg hat.1]; exact hjm
                have hk1 : IntKind.i64.wrap at_ = at_ := IntWalk.i64_in _ (by omega)
                have hk2 : IntKind.i64.wrap (j : Int) = (j : Int) := IntWalk.i64_in _ (by omega)
                clear hg hz
                go_upto_region 15 with fail
                go_still_tail 13, (by kernel_rfl)
                change wpList _ _ _ _ _ W5.drew
                go_wp2_with fail
                go_meet
                exact ⟨_, _, _, _, HX7.out.drew⟩
            · have e3 : (how % 8 == 3) = false := by simp [h3]
              by_cases h4 : how % 8 = 4
              · have e4 : (how % 8 == 4) = true := by simp [h4]
                clear h0 h1 h2 h3 h4 hw4
                by_cases hm0 : m = 0
                · subst hm0
                  go_wp2_with fail
                  go_meet
                  exact ⟨_, _, _, _, HX.out⟩
                · have hmp : 0 < m := by omega
                  obtain ⟨j, hj, hjm⟩ : ∃ j : Nat, j < m ∧ at_ % (m : Int) = (j : Int) := ⟨(at_ % (m : Int)).toNat, by
                    have h1 := Int.emod_lt_of_pos at_ (show (0 : Int) < (m : Int) by omega); have h2 := Int.emod_nonneg at_ (show (m : Int) ≠ 0 by omega); omega, by
                    have h2 := Int.emod_nonneg at_ (show (m : Int) ≠ 0 by omega); omega⟩
                  obtain ⟨g, cur, rfl, hg, hgB⟩ := HX.out.arc hmp
                  obtain ⟨u, hu⟩ := HX.out.arc_at hj (show 3 < 5 by omega)
                  have hf := hg.frozen (j * 5 + 3)
                  obtain ⟨z, hz⟩ : ∃ z, arcs[j]? = some z := ⟨_, List.getElem?_eq_getElem (by have := HX.out.len; omega)⟩
                  have HX7 := Lib.hid (HX.out.set_arc rfl hg hgB (j * 5 + 3) x (arcCells_cap arcs j z x hz) (by simp))
                  have hm1 : ¬ (m : Int) = 0 := by omega
                  have hm2 : ((m : Int) == 0) = false := by simp; omega
                  have hji : (j : Int) < (m : Int) := by omega
                  have hmi : (0 : Int) < (m : Int) := by omega
                  have ht : at_.tmod (m : Int) = (j : Int) := by rw [Int.tmod_eq_emod_of_nonneg hat.1]; exact hjm
                  have hk1 : IntKind.i64.wrap at_ = at_ := IntWalk.i64_in _ (by omega)
                  have hk2 : IntKind.i64.wrap (j : Int) = (j : Int) := IntWalk.i64_in _ (by omega)
                  clear hg hz
                  go_upto_region 18 with fail
                  go_still_tail 13, (by kernel_rfl)
                  change wpList _ _ _ _ _ W5.drew
                  go_wp2_with fail
                  go_meet
                  exact ⟨_, _, _, _, HX7.out.drew⟩
              · have e4 : (how % 8 == 4) = false := by simp [h4]
                clear h0 h1 h2 h3 h4 hw4
                go_wp2_with fail
                go_meet
                exact ⟨_, _, _, _, HX.out⟩
    case rest =>
    obtain ⟨sup3, arcs3, s3, t3, hx3⟩ := hcut
    have HX3 := Lib.hid hx3
    clear hx3 HX q0 q1 q2 q3 q4
    obtain ⟨r0, r1, r2, r3, r4⟩ := blk5 HX3.out.p
    have HV3 := Lib.hid (HV.out.stays HX3.out.b)
    have HE3 := Lib.hid (HE.out.on HX3.out.b)
    go_wp2_with fail
    refine (prints_in p _ wc HV3.out HE3.out).mono ?_
    rintro e w6 ⟨rfl, hb6⟩
    have HB6 := Lib.hid (HX3.out.b.trans (hb6.mono HX3.out.b.size))
    have HI6 := Lib.hid (HX3.out.is.stays hb6)
    obtain ⟨q0, q1, q2, q3, q4⟩ := blk5 (HX3.out.k.below hb6 HX3.out.k.lt)
    have HE6 := Lib.hid (HE.out.on HB6.out)
    clear r0 r1 r2 r3 r4 hb6
    go_wp2_with fail
    refine (prints_in _ _ w6 HI6.out HE6.out).mono ?_
    rintro e w7 ⟨rfl, hb7⟩
    have HB7 := Lib.hid (HB6.out.trans (hb7.mono HB6.out.size))
    clear hb7 q0 q1 q2 q3 q4
    go_wp2_with fail
    go_ret
    exact ⟨rfl, HB7.out⟩
end Go.Proofs.YtoagphighgejnaaGreatDoor
