/- A problem as choices say: Prob (10). Conditions: none. -/
import Derived.Test.YtoagphighgejnaaGreatDoorL2
import Derived.Test.YtoagphighgejnaaGreatDoorJ13
import Derived.Test.YtoagphighgejnaaGreatDoorFS
import Derived.StillTailTactics
set_option linter.unusedSimpArgs false
set_option linter.unusedVariables false
namespace Go.Proofs.YtoagphighgejnaaGreatDoor
open Go.RowKit Go.Shelf

theorem own_set {w : World} {base : Nat} {e : TypeId} {size n g c : Nat} {xs : List Value} (h : w.ownsRow base e size (.slice (some ⟨g, 0, none⟩) n c) n xs) (i : Nat) (u : Value) :
    (w.setCell ⟨g, i, none⟩ u).ownsRow base e size (.slice (some ⟨g, 0, none⟩) n c) n (xs.set i u) := by
  refine ⟨by simpa using h.1, ?_⟩
  rcases h.2 with ⟨h1, _⟩ | ⟨g', cap, cur, hv, hb, hg, h1, h2, h3, h4⟩
  · cases h1
  · injection hv with hv _ hcap
    injection hv with hv
    injection hv with hv
    subst hv hcap
    have hk : Blk w g e cur := hg
    refine .inr ⟨g, c, cur.setIfInBounds i u, rfl, hb, hk.set_ i u, h1, h2, by simpa using h3, ?_⟩
    rw [Array.toList_setIfInBounds, List.take_set, h4]
def clr (a : ArcV) : ArcV := { a with lo := 0, cost := 0 }
theorem arcCells_clr : ∀ (l : List ArcV) (k : Nat) (a : ArcV), l[k]? = some a → ((arcCells l).set (k * 5 + 2) (.int .i64 0)).set (k * 5 + 4) (.int .i64 0) = arcCells (l.set k (clr a))
  | [], k, a, h => by simp at h
  | b :: l, 0, a, h => by
    simp at h; subst h
    simp [arcCells, ArcV.cells, clr, I]
  | b :: l, k + 1, a, h => by
    have ih := arcCells_clr l k a (by simpa using h)
    have e2 : (k + 1) * 5 + 2 = (k * 5 + 2) + 1 + 1 + 1 + 1 + 1 := by omega
    have e4 : (k + 1) * 5 + 4 = (k * 5 + 4) + 1 + 1 + 1 + 1 + 1 := by omega
    have e : ∀ (x : ArcV) (r : List ArcV), arcCells (x :: r) = I x.f :: I x.t :: I x.lo :: I x.cap :: I x.cost :: arcCells r := fun x r => by simp [arcCells, ArcV.cells]
    rw [e, e2, e4]
    simp only [List.set_cons_succ]
    rw [ih, ← e]
theorem clr_ok {N : Nat} {a : ArcV} (h : ArcB N a) : ArcB N (clr a) :=
  ⟨⟨h.f0, h.f1, h.t0, h.t1, by simp [clr], by simp [clr], by simp [clr], by simp [clr]⟩, by have h1 := h.l0; have h2 := h.k0; simp only [clr]; omega, h.k1⟩
theorem arcOk_of {N : Nat} {a : ArcV} (h : ArcB N a) : ArcOk N a :=
  ⟨⟨h.f0, h.f1⟩, ⟨h.t0, h.t1⟩, ⟨h.l0, by have := h.l1; omega⟩, by
    rcases h.k1 with h1 | h1
    · exact .inr ⟨h.k0, by omega⟩
    · exact .inl h1, by have := h.c0; have := h.c1; omega⟩
theorem made_min {n : Nat} {sup : List Int} {arcs : List ArcV} (hn : sup.length = n) (h0 : 0 < n) (h7 : n ≤ 7) (hS : SupB 200 sup) (ha : ∀ x ∈ arcs, ArcB n x) (hm : arcs.length ≤ 18) : FitsF ⟨false, sup, arcs, 0, 0⟩ :=
  ⟨by simp only; omega, by simp only; omega, by simp only; omega, fun x hx => by have := hS.b x hx; omega, fun a h => by simp only [hn]; exact arcOk_of (ha a h), hS.sum, fun h => (by cases h), fun _ => ⟨rfl, rfl⟩⟩
theorem made_max {n : Nat} {arcs : List ArcV} {s t : Int} (h0 : 0 < n) (h7 : n ≤ 7) (ha : ∀ x ∈ arcs, ArcB n x) (hz : ∀ x ∈ arcs, x.lo = 0 ∧ x.cost = 0) (hm : arcs.length ≤ 18) (hs : 0 ≤ s ∧ s < n) (ht : 0 ≤ t ∧ t < n) (hst : s ≠ t) : FitsF ⟨true, List.replicate n 0, arcs, s, t⟩ :=
  ⟨by simpa using h0, by simp only [List.length_replicate]; omega, by simp only; omega, fun x hx => by rw [List.eq_of_mem_replicate hx]; omega, fun a h => by simp only [List.length_replicate]; exact arcOk_of (ha a h), (SupB.zero n).sum,
    fun _ => ⟨fun x hx => List.eq_of_mem_replicate hx, hz, hs.1, by simp only [List.length_replicate]; exact hs.2, ht.1, by simp only [List.length_replicate]; exact ht.2, hst⟩, fun h => by cases h⟩
theorem turn_ne (n s y : Int) (hs : 0 ≤ s ∧ s < n) (hy : 0 ≤ y ∧ y < n - 1) : 0 ≤ (s + 1 + y) % n ∧ (s + 1 + y) % n < n ∧ s ≠ (s + 1 + y) % n := by
  have h0 : 0 < n := by omega
  refine ⟨Int.emod_nonneg _ (by omega), Int.emod_lt_of_pos _ h0, ?_⟩
  by_cases h : s + 1 + y < n
  · rw [Int.emod_eq_of_lt (by omega) h]; omega
  · have : (s + 1 + y) % n = s + 1 + y - n := by
      rw [← Int.sub_emod_right, Int.emod_eq_of_lt (by omega) (by omega)]
    omega
/-- a problem in new memory, that may be printed -/
structure ProbNew (w : World) (p : ProbV) (sb m ca : Nat) (A : Option Addr) (w' : World) : Prop where
  s : Blk w' sb 2 (ints p.sup)
  a : w'.ownsRow w.heap.size 42 5 (.slice A m ca) m (arcCells p.arcs)
  l : w.heap.size ≤ sb
  fits : FitsF p
  n7 : p.sup.length ≤ 7
  m18 : m ≤ 18
  b : Below w.heap.size w w'
def ProbTells (w : World) (e : Ending) (w' : World) : Prop := ∃ p sb m ca A, e = .returned (probV p.max (some ⟨sb, 0, none⟩) p.sup.length p.sup.length A m ca p.s p.t) ∧ ProbNew w p sb m ca A w'
theorem ProbNew.is {w w' : World} {p : ProbV} {sb m ca : Nat} {A : Option Addr} (h : ProbNew w p sb m ca A w') : ProbIs w' p (probV p.max (some ⟨sb, 0, none⟩) p.sup.length p.sup.length A m ca p.s p.t) := by
  have hm : m = p.arcs.length := by have := h.a.1; rw [arcCells_length] at this; omega
  exact ⟨_, _, _, _, _, _, rfl, rfl, hm, Nat.le_refl _, own_cap h.a, reads_ints h.s, Reads.of_own h.a⟩
theorem below_put5 {B : Nat} {w w' : World} {b : Nat} (h : Below B w w') (hb : B ≤ b) (v0 v1 v2 v3 v4 : Value) : Below B w (put5 w' b v0 v1 v2 v3 v4) :=
  ((((h.setCell (p := ⟨b, 0, none⟩) hb v0).setCell (p := ⟨b, 1, none⟩) hb v1).setCell (p := ⟨b, 2, none⟩) hb v2).setCell (p := ⟨b, 3, none⟩) hb v3).setCell (p := ⟨b, 4, none⟩) hb v4
theorem prob_new {w W : World} {p : ProbV} {sb m ca : Nat} {A : Option Addr} {u0 u1 u2 u3 u4 : Value} (hs : Blk W sb 2 (ints p.sup)) (ha : W.ownsRow w.heap.size 42 5 (.slice A m ca) m (arcCells p.arcs)) (hl : w.heap.size ≤ sb) (hf : FitsF p) (h7 : p.sup.length ≤ 7) (h18 : m ≤ 18) (hb : Below w.heap.size w W) (hr : Blk W w.heap.size 31 #[u0, u1, u2, u3, u4]) (v0 v1 v2 v3 v4 : Value) :
    ProbNew w p sb m ca A (put5 W w.heap.size v0 v1 v2 v3 v4) :=
  ⟨hs.far5 (hs.ne_ hr (by decide)) _ _ _ _ _, own_put5 ha hr (by decide) _ _ _ _ _, hl, hf, h7, h18, below_put5 hb (Nat.le_refl _) _ _ _ _ _⟩
theorem ProbNew.drew {w w' : World} {p : ProbV} {sb m ca : Nat} {A : Option Addr} (h : ProbNew w p sb m ca A w') : ProbNew w p sb m ca A w'.drew := ⟨h.s.drew, own_below h.a (Below.refl _ _).drew, h.l, h.fits, h.n7, h.m18, h.b.drew⟩
/-- a greatest flow's problem, under way -/
structure ProbMid (w : World) (N pb sb g m ca : Nat) (A : Option Addr) (L : List ArcV) (k : Nat) (wx : World) : Prop where
  p : Blk wx pb 31 #[.bool true, .slice (some ⟨sb, 0, none⟩) N N, .slice A m ca, .int .i64 0, .int .i64 0]
  s : Blk wx sb 2 (ints (List.replicate N 0))
  a : wx.ownsRow w.heap.size 42 5 (.slice A m ca) m (arcCells L)
  ab : ∀ x ∈ L, ArcB N x
  z : ∀ j x, L[j]? = some x → j < k → x.lo = 0 ∧ x.cost = 0
  r : Blk wx w.heap.size 31 #[.bool false, .slice none 0 0, .slice none 0 0, .int .i64 0, .int .i64 0]
  b : Below w.heap.size w wx
  l1 : w.heap.size < pb
  l2 : w.heap.size ≤ sb
theorem ProbMid.len {w : World} {N pb sb g m ca : Nat} {A : Option Addr} {L : List ArcV} {k : Nat} {wx : World} (h : ProbMid w N pb sb g m ca A L k wx) : L.length = m := by have := h.a.1; rw [arcCells_length] at this; omega
theorem ProbMid.step {w : World} {N pb sb g m ca : Nat} {gb : Nat} {L : List ArcV} {k : Nat} {wx : World} (h : ProbMid w N pb sb g m ca (some ⟨gb, 0, none⟩) L k wx) {a : ArcV} (ha : L[k]? = some a) {cur : Array Value} (hg : Blk wx gb 42 cur) (hgb : w.heap.size ≤ gb) :
    ProbMid w N pb sb g m ca (some ⟨gb, 0, none⟩) (L.set k (clr a)) (k + 1) ((wx.setCell ⟨gb, k * 5 + 2, none⟩ (.int .i64 0)).setCell ⟨gb, k * 5 + 4, none⟩ (.int .i64 0)) := by
  have n1 : pb ≠ gb := h.p.ne_ hg (by decide)
  have n2 : sb ≠ gb := h.s.ne_ hg (by decide)
  have n3 : w.heap.size ≠ gb := h.r.ne_ hg (by decide)
  refine ⟨(h.p.far (p := ⟨gb, k * 5 + 2, none⟩) n1 _).far (p := ⟨gb, k * 5 + 4, none⟩) n1 _, (h.s.far (p := ⟨gb, k * 5 + 2, none⟩) n2 _).far (p := ⟨gb, k * 5 + 4, none⟩) n2 _, ?_, ?_, ?_,
    (h.r.far (p := ⟨gb, k * 5 + 2, none⟩) n3 _).far (p := ⟨gb, k * 5 + 4, none⟩) n3 _, (h.b.setCell (p := ⟨gb, k * 5 + 2, none⟩) hgb _).setCell (p := ⟨gb, k * 5 + 4, none⟩) hgb _, h.l1, h.l2⟩
  · have := own_set (own_set h.a (k * 5 + 2) (.int .i64 0)) (k * 5 + 4) (.int .i64 0)
    rwa [arcCells_clr L k a ha] at this
  · intro x hx
    rcases List.mem_or_eq_of_mem_set hx with hm | hm
    · exact h.ab x hm
    · subst hm; exact clr_ok (h.ab a (List.mem_of_getElem? ha))
  · intro j x hx hj
    by_cases hjk : k = j
    · subst hjk
      have hlt : k < L.length := (List.getElem?_eq_some_iff.1 ha).1
      rw [List.getElem?_set_self hlt] at hx
      cases hx
      exact ⟨rfl, rfl⟩
    · rw [List.getElem?_set_ne hjk] at hx
      exact h.z j x hx (by omega)
set_option maxRecDepth 100000 in
set_option maxHeartbeats 2000000 in
theorem Prob_any (A D : Option Addr) (n c nd cd B : Nat) (cs ds : List Int) (mo : Bool) (w : World) (hr : Reads w B 1 A n (cs.map U)) (hy : Byt cs) (hd : Reads w B 1 D nd (ds.map U)) (hyd : Byt ds) (hB : B ≤ w.heap.size) (hn : n ≤ 9223372036854775807) (hnd : nd ≤ 9223372036854775807) :
    Calls Tryz.prog 10 #[.slice A n c, .slice D nd cd, .bool mo] w (ProbTells w) := by
  have hb0 := (Below.refl w.heap.size w).alloc (Nat.le_refl _) (.cells zeroP 31)
  have hIN := Inst_any A D n c nd cd B cs ds (w.alloc (.cells zeroP 31)) (hr.alloc hB _) hy (hd.alloc hB _) hyd (Nat.le_trans hB hb0.size) hn hnd
  have hN0 := nOf_pos ds
  have hN7 := nOf_le ds
  have HIN := Lib.hid hIN
  have HB0 := Lib.hid hb0
  have kr := Blk.new w 31 zeroP
  have HKR := Lib.hid kr
  have HD := Lib.hid (And.intro (hd.more hB) hyd)
  have HNN : Hid (nOf ds ≥ 2 → ∃ d0 dt, ds = d0 :: dt) := Lib.hid (by
    intro h
    cases ds with
    | nil => simp [nOf] at h
    | cons a b => exact ⟨a, b, rfl⟩)
  generalize hN : nOf ds = N at *
  clear hr hy hd hyd hB hn hnd hIN hb0 kr hN
  unfold zeroP at *
  go_enter Tryz.func10, Tryz.ntmps10
  go_wp2_with fail
  generalize w.alloc (.cells #[.bool false, .slice none 0 0, .slice none 0 0, .int .i64 0, .int .i64 0] 31) = W0 at *
  refine HIN.out.mono ?_
  rintro e w1 ⟨ib, sb, m, ca, A', sup, arcs, rfl, hI, hS⟩
  have HI := Lib.hid hI
  have HS := Lib.hid hS
  have kp := Blk.new w1 31 #[.bool false, .slice (some ⟨sb, 0, none⟩) N N, .slice A' m ca, .int .i64 0, .int .i64 0]
  have hbp := (Below.refl w1.heap.size w1).alloc (Nat.le_refl _) (.cells #[.bool false, .slice (some ⟨sb, 0, none⟩) N N, .slice A' m ca, .int .i64 0, .int .i64 0] 31)
  have HI1 := Lib.hid (hI.below hbp)
  have HKP := Lib.hid kp
  have HKR1 := Lib.hid (((HKR.out.below hI.b HKR.out.lt)).below hbp (HKR.out.below hI.b HKR.out.lt).lt)
  have hpl : w.heap.size < w1.heap.size := (HKR.out.below hI.b HKR.out.lt).lt
  have hne : w1.heap.size ≠ w.heap.size := by have h1 := (HKR.out.below hI.b HKR.out.lt).lt; omega
  obtain ⟨⟨p0, p1, p2, p3, p4⟩, g0, g1, g2, g3, g4⟩ := kp.five
  obtain ⟨⟨e0, e1, e2, e3, e4⟩, f0, f1, f2, f3, f4⟩ := HKR1.out.five
  clear hI hS hbp kp HI HIN
  go_upto_region 3 with fail
  generalize w1.alloc (.cells #[.bool false, .slice (some ⟨sb, 0, none⟩) N N, .slice A' m ca, .int .i64 0, .int .i64 0] 31) = W1 at *
  generalize w1.heap.size = pb at *
  by_cases hret : mo = false ∨ N < 2
  · have HRET : Hid (FitsF ⟨false, sup, arcs, 0, 0⟩) := Lib.hid (made_min HI1.out.sl hN0 hN7 HS.out HI1.out.ab (by have := HI1.out.len; have := HI1.out.m18; omega))
    have hRL := HKR1.out.lt
    have HEND : Hid (ProbTells w (.returned (probV false (some ⟨sb, 0, none⟩) N N A' m ca 0 0)) (put5 W1 w.heap.size (.bool false) (.slice (some ⟨sb, 0, none⟩) N N) (.slice A' m ca) (.int .i64 0) (.int .i64 0))) := Lib.hid (by
      have h1 := prob_new (w := w) (W := W1) (p := ⟨false, sup, arcs, 0, 0⟩) (sb := sb) (m := m) (ca := ca) (A := A') HI1.out.s (own_mono HI1.out.a HB0.out.size) (Nat.le_trans HB0.out.size HI1.out.l2) HRET.out (by have := HI1.out.sl; simp only; omega) HI1.out.m18 (HB0.out.trans (HI1.out.b.mono HB0.out.size)) HKR1.out (.bool false) (.slice (some ⟨sb, 0, none⟩) N N) (.slice A' m ca) (.int .i64 0) (.int .i64 0)
      have h2 := HI1.out.sl
      exact ⟨⟨false, sup, arcs, 0, 0⟩, sb, m, ca, A', by simp only [h2], h1⟩)
    cases mo
    · clear hret
      go_wp2_with fail
      obtain ⟨⟨d0, d1, d2, d3, d4⟩, -⟩ := (HKR1.out.put5 (.bool false) (.slice (some ⟨sb, 0, none⟩) N N) (.slice A' m ca) (.int .i64 0) (.int .i64 0)).five
      change bodyPost _ _ _ _ _ (put5 W1 w.heap.size (.bool false) (.slice (some ⟨sb, 0, none⟩) N N) (.slice A' m ca) (.int .i64 0) (.int .i64 0))
      exact bodyPost_ret (v := probV false (some ⟨sb, 0, none⟩) N N A' m ca 0 0) (by simp [results, Tryz.results10, go_sem, d0, d1, d2, d3, d4, probV]) rfl HEND.out
    · have h2 : (N : Int) < 2 := by
        rcases hret with h | h
        · cases h
        · omega
      clear hret
      go_wp2_with fail
      obtain ⟨⟨d0, d1, d2, d3, d4⟩, -⟩ := (HKR1.out.put5 (.bool false) (.slice (some ⟨sb, 0, none⟩) N N) (.slice A' m ca) (.int .i64 0) (.int .i64 0)).five
      change bodyPost _ _ _ _ _ (put5 W1 w.heap.size (.bool false) (.slice (some ⟨sb, 0, none⟩) N N) (.slice A' m ca) (.int .i64 0) (.int .i64 0))
      exact bodyPost_ret (v := probV false (some ⟨sb, 0, none⟩) N N A' m ca 0 0) (by simp [results, Tryz.results10, go_sem, d0, d1, d2, d3, d4, probV]) rfl HEND.out
  · obtain ⟨rfl, hN2⟩ : mo = true ∧ 2 ≤ N := by
      refine ⟨?_, by omega⟩
      cases mo
      · exact absurd (.inl rfl) hret
      · rfl
    obtain ⟨x0, dt, hds⟩ := HNN.out hN2
    have h2 : ¬ (N : Int) < 2 := by omega
    have hnd : 0 < nd := by have := HD.out.1.1; rw [hds] at this; simp at this; omega
    obtain ⟨db, doff, du, rfl, hdb, hdx, hdc⟩ := HD.out.1.at_ hnd
    rw [hds] at hdx
    simp only [List.map_cons, List.getElem?_cons_zero, Option.some.injEq] at hdx
    subst hdx
    have hx0 := HD.out.2 x0 (by rw [hds]; simp)
    unfold U at hdc
    rw [Nat.add_zero] at hdc
    have HX0 := Lib.hid hx0
    have HHD := Lib.hid (And.intro hdc hdb)
    have HN2 := Lib.hid hN2
    clear hret hds hdc hdb hx0 HNN HD hN2
    have hmk := makeNums N (by omega) (W1.setCell ⟨pb, 0, none⟩ (.bool true))
    have kq := (HKP.out.set_ 0 (.bool true)).alloc (.cells (ints (List.replicate N 0)) 2)
    have hq1 := kq.cell 1
    have hqf := kq.frozen 1
    have hsz : W1.heap.size = (W1.setCell ⟨pb, 0, none⟩ (.bool true)).heap.size := by simp
    have hpw : pb < W1.heap.size := HKP.out.lt
    have HMID : Hid (ProbMid w N pb W1.heap.size 0 m ca A' arcs 0 (((W1.setCell ⟨pb, 0, none⟩ (.bool true)).setCell ⟨pb, 1, none⟩ (.slice (some ⟨W1.heap.size, 0, none⟩) N N)).alloc (.cells (ints (List.replicate N 0)) 2))) := Lib.hid (by
      have k0 := HKP.out.set_ 0 (.bool true)
      have hsz2 : ((W1.setCell ⟨pb, 0, none⟩ (.bool true)).setCell ⟨pb, 1, none⟩ (.slice (some ⟨W1.heap.size, 0, none⟩) N N)).heap.size = W1.heap.size := by simp
      have hs2 := Blk.new ((W1.setCell ⟨pb, 0, none⟩ (.bool true)).setCell ⟨pb, 1, none⟩ (.slice (some ⟨W1.heap.size, 0, none⟩) N N)) 2 (ints (List.replicate N 0))
      rw [hsz2] at hs2
      have ha0 := own_off (own_mono HI1.out.a HB0.out.size) (p := ⟨pb, 0, none⟩) HKP.out (by decide) (.bool true)
      have hbw := HB0.out.trans (HI1.out.b.mono HB0.out.size)
      refine ⟨(k0.set_ 1 _).alloc _, hs2, (own_off ha0 (p := ⟨pb, 1, none⟩) k0 (by decide) _).alloc _, HI1.out.ab, fun j x _ hj => by omega,
        ((HKR1.out.far (p := ⟨pb, 0, none⟩) (Ne.symm hne) _).far (p := ⟨pb, 1, none⟩) (Ne.symm hne) _).alloc _, ?_, hpl, by omega⟩
      exact ((hbw.setCell (p := ⟨pb, 0, none⟩) (show w.heap.size ≤ pb by omega) _).setCell (p := ⟨pb, 1, none⟩) (show w.heap.size ≤ pb by omega) _).alloc (by rw [hsz2]; exact hbw.size) _)
    simp only [List.getElem?_toArray, List.getElem?_cons_zero, List.getElem?_cons_succ, Array.set!_eq_setIfInBounds, List.setIfInBounds_toArray, List.set_cons_zero, List.set_cons_succ] at hq1
    clear kq hsz
    go_upto_region 7 with fail
    generalize ((W1.setCell ⟨pb, 0, none⟩ (.bool true)).setCell ⟨pb, 1, none⟩ (.slice (some ⟨W1.heap.size, 0, none⟩) N N)).alloc (.cells (ints (List.replicate N 0)) 2) = W2 at *
    generalize W1.heap.size = s2 at *
    clear p0 p1 p2 p3 p4 g0 g1 g2 g3 g4 e0 e1 e2 e3 e4 f0 f1 f2 f3 f4 hmk hq1 hqf HKP HKR1 HKR
    go_wp2_with fail
    have HM18 := Lib.hid HI1.out.m18
    clear HI1
    go_loopw [9] (fun i wr => ∃ (k : Nat) (L : List ArcV), k ≤ m ∧ i = .int .i64 k ∧ Hid (ProbMid w N pb s2 0 m ca A' L k wr)) (fun i _ => m - (intOf i).toNat)
    case atStart => exact ⟨0, arcs, Nat.zero_le _, rfl, HMID⟩
    case round =>
      clear HMID
      obtain ⟨k, L, hk, rfl, HM⟩ := hrel
      obtain ⟨⟨q0, q1, q2, q3, q4⟩, h0, h1, h2', h3, h4⟩ := HM.out.p.five
      by_cases hkm : k < m
      · have hlen := HM.out.len
        obtain ⟨a, ha⟩ : ∃ a, L[k]? = some a := ⟨_, List.getElem?_eq_getElem (by omega)⟩
        obtain ⟨gb, cur, rfl, hg, hgb⟩ : ∃ gb cur, A' = some ⟨gb, 0, none⟩ ∧ Blk wr gb 42 cur ∧ w.heap.size ≤ gb := by
          rcases HM.out.a.2 with ⟨h1, h2⟩ | ⟨g, cap, cur, hv, hb, hg, _⟩
          · omega
          · injection hv with hv
            exact ⟨g, cur, hv, hg, hb⟩
        have hrow := HM.out.a.2
        have r2 : ∃ u, wr.cell? ⟨gb, k * 5 + 2, none⟩ = some u := by
          have h5 := arcCells_at L k 2 (by omega)
          rw [ha] at h5
          have := HM.out.a.cells (g := gb) rfl (k * 5 + 2) _ h5
          rw [add_lit, Nat.zero_add] at this
          exact ⟨_, this⟩
        have r4 : ∃ u, wr.cell? ⟨gb, k * 5 + 4, none⟩ = some u := by
          have h5 := arcCells_at L k 4 (by omega)
          rw [ha] at h5
          have := HM.out.a.cells (g := gb) rfl (k * 5 + 4) _ h5
          rw [add_lit, Nat.zero_add] at this
          exact ⟨_, this⟩
        obtain ⟨u2, hu2⟩ := r2
        obtain ⟨u4, hu4⟩ := r4
        have ff2 := hg.frozen (k * 5 + 2)
        have ff4 := hg.frozen (k * 5 + 4)
        have hk1 : IntKind.i64.wrap ((k : Int) + 1) = (k : Int) + 1 := IntWalk.i64_in _ (by have := HM18.out; omega)
        have hkm2 : (k : Int) < (m : Int) := by omega
        have n1 : ¬ pb = gb := HM.out.p.ne_ hg (by decide)
        have n1' : ¬ gb = pb := fun e => n1 e.symm
        have HST := Lib.hid (HM.out.step ha hg hgb)
        clear ha hg hrow hlen
        go_wp2_with fail
        go_roundw
        case rel => exact ⟨k + 1, _, by omega, by go_num, HST⟩
        case measure => simp [intOf]; omega
      · obtain rfl : k = m := by omega
        have hx0 := HX0.out
        have hdcell : wr.cell? ⟨db, doff, none⟩ = some (.int .u8 x0) := (HM.out.b.cell (p := ⟨db, doff, none⟩) HHD.out.2).trans HHD.out.1
        have hNp : (0 : Int) < (N : Int) := by omega
        have hs0 : 0 ≤ x0 / 7 % (N : Int) := Int.emod_nonneg _ (by omega)
        have hs1 : x0 / 7 % (N : Int) < N := Int.emod_lt_of_pos _ hNp
        have hdp : ¬ db = pb := by have := HHD.out.2; omega
        have kp4 := HM.out.p.set_ 3 (.int .i64 (x0 / 7 % (N : Int)))
        have H4 := Lib.hid (And.intro kp4 (And.intro (HM.out.s.far (p := ⟨pb, 3, none⟩) (HM.out.s.ne_ HM.out.p (by decide)) (.int .i64 (x0 / 7 % (N : Int)))) (And.intro (own_off HM.out.a (p := ⟨pb, 3, none⟩) HM.out.p (by decide) (.int .i64 (x0 / 7 % (N : Int)))) (And.intro (HM.out.r.far (p := ⟨pb, 3, none⟩) (Ne.symm hne) (.int .i64 (x0 / 7 % (N : Int)))) (HM.out.b.setCell (p := ⟨pb, 3, none⟩) (show w.heap.size ≤ pb by omega) (.int .i64 (x0 / 7 % (N : Int))))))))
        have HL := Lib.hid (And.intro HM.out.ab (And.intro (fun j x hx (hj : j < k) => HM.out.z j x hx hj) HM.out.len))
        have HL2 := Lib.hid HM.out.l2
        go_upto_region 13 with fail
        generalize wr.setCell ⟨pb, 3, none⟩ (.int .i64 (x0 / 7 % (N : Int))) = W4 at *
        generalize x0 / 7 % (N : Int) = s at *
        obtain ⟨hdx4, hdy4⟩ : W4.cell? ⟨db, doff, none⟩ = some (.int .u8 x0) ∧ True := ⟨(H4.out.2.2.2.2.cell (p := ⟨db, doff, none⟩) HHD.out.2).trans HHD.out.1, trivial⟩
        simp only [List.getElem?_toArray, List.getElem?_cons_zero, List.getElem?_cons_succ, List.setIfInBounds_toArray, List.set_cons_zero, List.set_cons_succ] at kp4
        obtain ⟨⟨c0, c1, c2, c3, c4⟩, i0, i1, i2, i3, i4⟩ := Blk.five kp4
        clear kp4 q0 q1 q2 q3 q4 h0 h1 h2' h3 h4 hdcell HM hk hkm
        have hN1 : (0 : Int) < (N : Int) - 1 := by omega
        have hy0 : 0 ≤ x0 / 14 % ((N : Int) - 1) := Int.emod_nonneg _ (by omega)
        have hy1 : x0 / 14 % ((N : Int) - 1) < (N : Int) - 1 := Int.emod_lt_of_pos _ hN1
        obtain ⟨q, hq⟩ : ∃ q, q = x0 / 14 := ⟨_, rfl⟩
        obtain ⟨y, hy⟩ : ∃ y, y = q % ((N : Int) - 1) := ⟨_, rfl⟩
        obtain ⟨t, ht⟩ : ∃ t, t = (s + 1 + y) % (N : Int) := ⟨_, rfl⟩
        rw [← hq, ← hy] at hy0 hy1
        have hT := turn_ne (N : Int) s y ⟨hs0, hs1⟩ ⟨hy0, hy1⟩
        rw [← ht] at hT
        have a1 : x0.tdiv 14 = q := by rw [hq]; exact Int.tdiv_eq_ediv_of_nonneg hx0.1
        have a2 : IntKind.u8.wrap q = q := IntWalk.u8_in _ (by omega)
        have a3 : IntKind.i64.wrap q = q := IntWalk.i64_in _ (by omega)
        have a4 : q.tmod ((N : Int) - 1) = y := by rw [hy]; exact Int.tmod_eq_emod_of_nonneg (by omega)
        have a5 : ¬ (N : Int) = 0 := by omega
        have a6 : ¬ (N : Int) - 1 = 0 := by omega
        have a5' : ¬ N = 0 := by omega
        have a7 : IntKind.i64.wrap ((N : Int) - 1) = (N : Int) - 1 := IntWalk.i64_in _ (by omega)
        have a8 : IntKind.i64.wrap (s + 1) = s + 1 := IntWalk.i64_in _ (by omega)
        have a9 : IntKind.i64.wrap (s + 1 + y) = s + 1 + y := IntWalk.i64_in _ (by omega)
        have b1 : (s + 1 + y).tmod (N : Int) = t := by rw [ht]; exact Int.tmod_eq_emod_of_nonneg (by omega)
        have b2 : IntKind.i64.wrap y = y := IntWalk.i64_in _ (by omega)
        have b3 : IntKind.i64.wrap t = t := IntWalk.i64_in _ (by omega)
        have b4 : ((N : Int) == 0) = false := by simp; omega
        have b5 : ((N : Int) - 1 == 0) = false := by simp; omega
        have HTN := Lib.hid hT
        have HSN := Lib.hid (And.intro hs0 hs1)
        clear hq hy ht hy0 hy1 hT
        go_still_tail 15, (by kernel_rfl)
        have HNEW : Hid (ProbTells w (.returned (probV true (some ⟨s2, 0, none⟩) N N A' k ca s t)) (put5 (W4.setCell ⟨pb, 4, none⟩ (.int .i64 t)) w.heap.size (.bool true) (.slice (some ⟨s2, 0, none⟩) N N) (.slice A' k ca) (.int .i64 s) (.int .i64 t)).drew) := Lib.hid (by
          have hl2 : w.heap.size ≤ s2 := HL2.out
          have h1 := prob_new (w := w) (W := W4.setCell ⟨pb, 4, none⟩ (.int .i64 t)) (p := ⟨true, List.replicate N 0, L, s, t⟩) (sb := s2) (m := k) (ca := ca) (A := A')
            (H4.out.2.1.far (p := ⟨pb, 4, none⟩) (H4.out.2.1.ne_ H4.out.1 (by decide)) _) (own_off H4.out.2.2.1 (p := ⟨pb, 4, none⟩) H4.out.1 (by decide) _) hl2
            (made_max hN0 hN7 HL.out.1 (fun x hx => by
              obtain ⟨j, hj, rfl⟩ := List.mem_iff_getElem.1 hx
              exact HL.out.2.1 j _ (List.getElem?_eq_getElem hj) (by have := HL.out.2.2; omega)) (by have := HL.out.2.2; have := HM18.out; omega) ⟨HSN.out.1, HSN.out.2⟩ ⟨HTN.out.1, HTN.out.2.1⟩ HTN.out.2.2)
            (by simp only [List.length_replicate]; omega) HM18.out (H4.out.2.2.2.2.setCell (p := ⟨pb, 4, none⟩) (show w.heap.size ≤ pb by omega) _) (H4.out.2.2.2.1.far (p := ⟨pb, 4, none⟩) (Ne.symm hne) _)
            (.bool true) (.slice (some ⟨s2, 0, none⟩) N N) (.slice A' k ca) (.int .i64 s) (.int .i64 t)
          exact ⟨⟨true, List.replicate N 0, L, s, t⟩, s2, k, ca, A', by simp only [List.length_replicate], h1.drew⟩)
        obtain ⟨⟨e0, e1, e2, e3, e4⟩, f0, f1, f2, f3, f4⟩ := H4.out.2.2.2.1.five
        have hne' : ¬ w.heap.size = pb := Ne.symm hne
        have HRB := Lib.hid (((H4.out.2.2.2.1.far (p := ⟨pb, 4, none⟩) (Ne.symm hne) (.int .i64 t)).put5 (.bool true) (.slice (some ⟨s2, 0, none⟩) N N) (.slice A' k ca) (.int .i64 s) (.int .i64 t)).drew)
        clear a1 a2 a3 a4 a5 a5' a6 a7 a8 a9 b1 b2 b3 b4 b5 HL H4 HTN HSN
        change wpList _ _ _ _ _ W4.drew
        go_wp2_with fail
        obtain ⟨⟨d0, d1, d2, d3, d4⟩, -⟩ := HRB.out.five
        change bodyPost _ _ _ _ _ (put5 (W4.setCell ⟨pb, 4, none⟩ (.int .i64 t)) w.heap.size (.bool true) (.slice (some ⟨s2, 0, none⟩) N N) (.slice A' k ca) (.int .i64 s) (.int .i64 t)).drew
        exact bodyPost_ret (v := probV true (some ⟨s2, 0, none⟩) N N A' k ca s t) (by simp [results, Tryz.results10, go_sem, d0, d1, d2, d3, d4, probV]) rfl HNEW.out
end Go.Proofs.YtoagphighgejnaaGreatDoor
