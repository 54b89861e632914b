/- The makers of the laws: Forth, Size. -/
import Derived.Test.YtekajenmkpobgaaL2
set_option linter.unusedSimpArgs false
set_option linter.unusedVariables false
namespace Go.Proofs.Ytekajenmkpobgaa
open Go.RowKit Go.Shelf

theorem lt_of_at' {α : Type} {l : List α} {i : Nat} {x : α} (h : l[i]? = some x) : i < l.length := by
  rcases Nat.lt_or_ge i l.length with h1 | h1
  · exact h1
  · rw [List.getElem?_eq_none h1] at h; cases h
/-- an instance in new memory, its arcs whatever they are -/
structure InstG (n : Nat) (w : World) (ib sb m ca : Nat) (A : Option Addr) (sup : List Int) (arcs : List ArcV) (wx : World) : Prop where
  i : Blk wx ib 26 #[.slice (some ⟨sb, 0, none⟩) n n, .slice A m ca]
  s : Blk wx sb 2 (ints sup)
  sl : sup.length = n
  a : wx.ownsRow w.heap.size 36 5 (.slice A m ca) m (arcCells arcs)
  b : Below w.heap.size w wx
  l1 : w.heap.size ≤ ib
  l2 : w.heap.size ≤ sb
section
variable {n : Nat} {cs : List Int} {w wx wy : World} {ib sb m ca : Nat} {A : Option Addr} {sup : List Int} {arcs : List ArcV}
theorem InstMid.g (h : InstMid n cs w ib sb m ca A sup arcs wx) : InstG n w ib sb m ca A sup arcs wx := ⟨h.i, h.s, h.sl, h.a, h.b, h.l1, h.l2⟩
theorem InstG.size (h : InstG n w ib sb m ca A sup arcs wx) : w.heap.size ≤ wx.heap.size := h.b.size
theorem InstG.len (h : InstG n w ib sb m ca A sup arcs wx) : arcs.length = m := by have := h.a.1; rw [arcCells_length] at this; omega
theorem InstG.below (h : InstG n w ib sb m ca A sup arcs wx) (hb : Below wx.heap.size wx wy) : InstG n w ib sb m ca A sup arcs wy :=
  ⟨h.i.below hb h.i.lt, h.s.below hb h.s.lt, h.sl, own_below h.a hb, h.b.trans (hb.mono h.size), h.l1, h.l2⟩
theorem InstG.reads (h : InstG n w ib sb m ca A sup arcs wx) (hn : n ≤ 500000000) (hm : m ≤ 500000000) : InstR wx wx.heap.size (some ⟨sb, 0, none⟩) A n m sup arcs :=
  ⟨⟨by simp [h.sl], fun _ => ⟨sb, 0, rfl, h.s.lt, fun j u hu => by rw [Nat.zero_add, h.s.cell j]; simpa [ints] using hu⟩⟩, Reads.of_own h.a, hn, hm⟩
/-- the block of the instance turned to where it lies now -/
theorem InstG.move (h : InstG n w ib sb m ca A sup arcs wx) {jb : Nat} (hj : Blk wx jb 26 #[.slice (some ⟨sb, 0, none⟩) n n, .slice A m ca]) (hl : w.heap.size ≤ jb) : InstG n w jb sb m ca A sup arcs wx := ⟨hj, h.s, h.sl, h.a, h.b, hl, h.l2⟩
end

theorem arcCells_set (xs : List ArcV) (k j : Nat) (x y : ArcV) (hx : xs[k]? = some x) (hj : j < 5) (u : Value) (hy : y.cells = x.cells.set j u) : arcCells (xs.set k y) = (arcCells xs).set (k * 5 + j) u := by
  have hk := lt_of_at' hx
  apply List.ext_getElem?
  intro i
  obtain ⟨q, r, hr, rfl⟩ : ∃ q r, r < 5 ∧ i = q * 5 + r := ⟨i / 5, i % 5, Nat.mod_lt _ (by omega), by omega⟩
  rw [arcCells_at _ _ _ hr]
  by_cases e : q = k
  · subst e
    rw [List.getElem?_set_self hk, Option.bind_some, hy]
    by_cases e2 : r = j
    · subst e2
      rw [List.getElem?_set_self (by simp [ArcV.cells]; omega), List.getElem?_set_self (by rw [arcCells_length]; omega)]
    · rw [List.getElem?_set_ne (fun h => e2 h.symm), List.getElem?_set_ne (by omega), arcCells_at _ _ _ hr, hx, Option.bind_some]
  · rw [List.getElem?_set_ne (fun h => e h.symm), List.getElem?_set_ne (by omega), arcCells_at _ _ _ hr]
/-- a row of five-celled elements, one cell of which is set -/
theorem own_set5 {w : World} {base g : Nat} {n c : Nat} {xs : List ArcV} (h : w.ownsRow base 36 5 (.slice (some ⟨g, 0, none⟩) n c) n (arcCells xs)) (k j : Nat) (x y : ArcV) (hx : xs[k]? = some x) (hj : j < 5) (u : Value) (hy : y.cells = x.cells.set j u) :
    (w.setCell ⟨g, k * 5 + j, none⟩ u).ownsRow base 36 5 (.slice (some ⟨g, 0, none⟩) n c) n (arcCells (xs.set k y)) := by
  have hk := lt_of_at' hx
  rw [arcCells_set xs k j x y hx hj u hy]
  refine ⟨by have := h.1; simpa using this, .inr ?_⟩
  rcases h.2 with ⟨h1, _⟩ | ⟨g', cap, cur, h1, h2, h3, h4, h5, h6, h7⟩
  · cases h1
  · cases h1
    refine ⟨g, c, cur.setIfInBounds (k * 5 + j) u, rfl, h2, ?_, h4, h5, by simpa using h6, ?_⟩
    · exact Blk.set_ (t := 36) (cs := cur) h3 _ _
    · rw [Array.toList_setIfInBounds, List.take_set, h7]
/-- where such a row lies -/
theorem own_zero {w : World} {base b off e size n c : Nat} {xs : List Value} (h : w.ownsRow base e size (.slice (some ⟨b, off, none⟩) n c) n xs) : off = 0 := by
  rcases h.2 with ⟨h1, _⟩ | ⟨g', cap, cur, h1, _⟩
  · cases h1
  · injection h1 with h1
    injection h1 with h1
    injection h1
theorem own_frozen {w : World} {base b e size n c : Nat} {xs : List Value} (h : w.ownsRow base e size (.slice (some ⟨b, 0, none⟩) n c) n xs) (k : Nat) : w.frozen? ⟨b, k, none⟩ = false := by
  rcases h.2 with ⟨h1, _⟩ | ⟨g', cap, cur, h1, _, h3, _⟩
  · cases h1
  · cases h1
    exact Blk.frozen (t := e) (cs := cur) h3 k
section
variable {n : Nat} {cs : List Int} {w wx wy : World} {ib sb m ca b : Nat} {A : Option Addr} {sup : List Int} {arcs : List ArcV}
/-- one number of an arc is set -/
theorem InstG.set5 (h : InstG n w ib sb m ca (some ⟨b, 0, none⟩) sup arcs wx) (k j : Nat) (x y : ArcV) (hx : arcs[k]? = some x) (hj : j < 5) (u : Value) (hy : y.cells = x.cells.set j u) :
    InstG n w ib sb m ca (some ⟨b, 0, none⟩) sup (arcs.set k y) (wx.setCell ⟨b, k * 5 + j, none⟩ u) := by
  have hlb := (h.a.lt b (by simp [Value.ownBlock])).1
  refine ⟨h.i.far (p := ⟨b, k * 5 + j, none⟩) ?_ _, h.s.far (p := ⟨b, k * 5 + j, none⟩) ?_ _, h.sl, own_set5 h.a k j x y hx hj u hy, h.b.setCell (p := ⟨b, k * 5 + j, none⟩) hlb _, h.l1, h.l2⟩
  · intro e; exact own_blk_ne h.a h.i (by decide) (by rw [e]; rfl)
  · intro e; exact own_blk_ne h.a h.s (by decide) (by rw [e]; rfl)
theorem InstG.res {c2 : Array Value} (h : InstG n w ib sb m ca A sup arcs wx) (hib : w.heap.size < ib) (hres : Blk wx w.heap.size 26 c2) (k : Nat) (v : Value) :
    InstG n w ib sb m ca A sup arcs (wx.setCell ⟨w.heap.size, k, none⟩ v) :=
  ⟨h.i.far (p := ⟨w.heap.size, k, none⟩) (show ib ≠ w.heap.size by omega) _, h.s.far (p := ⟨w.heap.size, k, none⟩) (h.s.ne_ hres (by decide)) _, h.sl, own_other h.a (p := ⟨w.heap.size, k, none⟩) (own_blk_ne h.a hres (by decide)) _, h.b.setCell (p := ⟨w.heap.size, k, none⟩) (Nat.le_refl _) _, h.l1, h.l2⟩
end
theorem fit_set {n k : Nat} {arcs : List ArcV} {y : ArcV} (h : ∀ x ∈ arcs, fitB n x = true) (hy : fitB n y = true) : ∀ x ∈ arcs.set k y, fitB n x = true := fun x hx => by
  rcases List.mem_or_eq_of_mem_set hx with h1 | h1
  · exact h x h1
  · rw [h1]; exact hy

/-- what Forth tells -/
def ForthTells (n : Nat) (w : World) (e : Ending) (w' : World) : Prop := ∃ ib sb m ca A sup arcs, e = .returned (.agg #[.slice (some ⟨sb, 0, none⟩) n n, .slice A m ca]) ∧ InstG n w ib sb m ca A sup arcs w' ∧ m ≤ 18 ∧ ∀ x ∈ arcs, fitB n x = true

set_option maxRecDepth 100000 in
set_option maxHeartbeats 4000000 in
theorem Forth_any (A D : Option Addr) (n c nd cd B : Nat) (cs ds : List Int) (w : World) (hr : Reads w B 1 A n (cs.map U)) (hy : Byt cs) (hd : Reads w B 1 D nd (ds.map U)) (hyd : Byt ds) (hB : B ≤ w.heap.size) (hn : n ≤ 9223372036854775807) (hnd : nd ≤ 9223372036854775807) :
    Calls Try.prog 10 #[.slice A n c, .slice D nd cd] w (ForthTells (nOf ds) w) := by
  have hN0 := nOf_pos ds
  have hN1 := nOf_le ds
  have hb0 : Below w.heap.size w (w.alloc (.cells #[.slice none 0 0, .slice none 0 0] 26)) := (Below.refl _ w).alloc (Nat.le_refl _) _
  have hr0 : Blk (w.alloc (.cells #[.slice none 0 0, .slice none 0 0] 26)) w.heap.size 26 #[.slice none 0 0, .slice none 0 0] := Blk.new _ _ _
  have hs0 : w.heap.size + 1 ≤ (w.alloc (.cells #[.slice none 0 0, .slice none 0 0] 26)).heap.size := by simp
  go_enter Try.func10, Try.ntmps10
  go_wp2_with fail
  generalize w.alloc (.cells #[.slice none 0 0, .slice none 0 0] 26) = W0 at *
  refine (Inst_any A D n c nd cd B cs ds W0 (hr.below (hb0.mono hB)) hy (hd.below (hb0.mono hB)) hyd (by omega) hn hnd).mono ?_
  rintro e w1 ⟨ib, sb, m, ca, A', sup, arcs, rfl, hM⟩
  generalize nOf ds = N at *
  have hm18 := hM.m18
  have hfit := hM.fit hy hN0
  have hbW : Below W0.heap.size W0 w1 := hM.b
  have hI1 : InstG N w ib sb m ca A' sup arcs w1 := ⟨hM.i, hM.s, hM.sl, own_mono hM.a (by omega), hb0.trans (hbW.mono (by omega)), by have := hM.l1; omega, by have := hM.l2; omega⟩
  have hr1 := hr0.below hbW (by omega)
  have hI2 := (hI1.below ((Below.refl _ w1).alloc (Nat.le_refl _) (.cells #[.slice (some ⟨sb, 0, none⟩) N N, .slice A' m ca] 26))).move (Blk.new w1 26 _) hI1.size
  have hr2 := hr1.alloc (.cells #[.slice (some ⟨sb, 0, none⟩) N N, .slice A' m ca] 26)
  have hs2 : W0.heap.size ≤ w1.heap.size := hbW.size
  clear hM hI1 hr1 hbW
  go_wp2_with fail
  generalize w1.alloc (.cells #[.slice (some ⟨sb, 0, none⟩) N N, .slice A' m ca] 26) = W at *
  have hjb : w.heap.size < w1.heap.size := by omega
  go_loopw [6] (fun i wr => ∃ (k : Nat) (arcs : List ArcV), k ≤ m ∧ i = .int .i64 k ∧ Blk wr w.heap.size 26 #[.slice none 0 0, .slice none 0 0] ∧ InstG N w w1.heap.size sb m ca A' sup arcs wr ∧ ∀ x ∈ arcs, fitB N x = true) (fun i _ => m - (intOf i).toNat)
  case atStart => exact ⟨0, arcs, Nat.zero_le _, rfl, hr2, hI2, hfit⟩
  case round =>
    clear hr2 hI2 hfit
    obtain ⟨k, arcs, hk, rfl, hres, hI, hfit⟩ := hrel
    have q0 := hI.i.cell 0
    have q1 := hI.i.cell 1
    simp only [List.getElem?_toArray, List.getElem?_cons_zero, List.getElem?_cons_succ] at q0 q1
    have lib := hI.i.lt
    have HFIT := Lib.hid hfit
    clear hfit
    by_cases hlt : k < m
    · obtain ⟨x, hx⟩ : ∃ x, arcs[k]? = some x := ⟨_, List.getElem?_eq_getElem (by rw [hI.len]; exact hlt)⟩
      obtain ⟨f1, f2, f3, f4⟩ := fit_bounds (HFIT.out x (List.mem_of_getElem? hx))
      obtain ⟨b, off, rfl, hb, e0, e1, e2, e3, e4⟩ := (Reads.of_own hI.a).arc hx
      have hoff := own_zero hI.a
      subst hoff
      simp only [Nat.zero_add] at e0 e1 e2 e3 e4
      obtain ⟨nf, hnf⟩ := Int.eq_ofNat_of_zero_le f1
      obtain ⟨nt, hnt⟩ := Int.eq_ofNat_of_zero_le f3
      rw [hnf] at e0 f2
      rw [hnt] at e1 f4
      have hfN : nf < N := by omega
      have htN : nt < N := by omega
      have HX := Lib.hid (And.intro hx (And.intro hnf hnt))
      clear hnf hnt f1 f2 f3 f4 hx
      have z0 := own_frozen hI.a (k * 5)
      have z1 := own_frozen hI.a (k * 5 + 1)
      have hI1 := hI.below ((Below.refl _ wr).alloc (Nat.le_refl _) (.cells #[.int .i64 (nf : Int), .int .i64 (nt : Int), .int .i64 x.lo, .int .i64 x.cap, .int .i64 x.cost] 36))
      have hres1 := hres.alloc (.cells #[.int .i64 (nf : Int), .int .i64 (nt : Int), .int .i64 x.lo, .int .i64 x.cap, .int .i64 x.cost] 36)
      have nbi : ¬ b = w1.heap.size := fun e => own_blk_ne hI.a hI.i (by decide) (by rw [← e]; rfl)
      have nib : ¬ w1.heap.size = b := fun e => nbi e.symm
      have nbr : w.heap.size ≠ b := fun e => own_blk_ne hI.a hres (by decide) (by rw [e]; rfl)
      have nbw : ¬ b = wr.heap.size := by omega
      have nwb : ¬ wr.heap.size = b := by omega
      have HI := Lib.hid (And.intro hI1 hres1)
      have H0 := Lib.hid (And.intro hI hres)
      clear hI hres hI1 hres1
      by_cases c1 : nt < nf
      · have d1 : ((nf : Int) == (nt : Int)) = false := by simp; omega
        by_cases c2 : k % 5 = 4
        · have d2 : ((k : Int) % 5 != 4) = false := by simp; omega
          clear c2
          go_wp2_with fail
          go_roundw
          case rel => exact ⟨k + 1, arcs, by omega, by go_num, HI.out.2, HI.out.1, HFIT.out⟩
          case measure => simp [intOf]; omega
        · have d2 : ((k : Int) % 5 != 4) = true := by simp; omega
          clear c2
          go_wp2_with fail
          go_roundw
          case rel =>
            have h1 := H0.out.1.set5 k 0 x { x with f := (nt : Int) } HX.out.1 (by omega) (.int .i64 (nt : Int)) rfl
            have h2 := h1.set5 k 1 { x with f := (nt : Int) } { x with f := (nt : Int), t := (nf : Int) } (List.getElem?_set_self (lt_of_at' HX.out.1)) (by omega) (.int .i64 (nf : Int)) rfl
            have g1 : fitB N { x with f := (nt : Int) } = true := by have := HX.out.2.2; simp [fitB]; omega
            have g2 : fitB N { x with f := (nt : Int), t := (nf : Int) } = true := by simp [fitB]; omega
            exact ⟨k + 1, _, by omega, by go_num, ((H0.out.2.far (p := ⟨b, k * 5, none⟩) nbr _).far (p := ⟨b, k * 5 + 1, none⟩) nbr _).alloc _, h2.below ((Below.refl _ _).alloc (Nat.le_refl _) _), fit_set (fit_set HFIT.out g1) g2⟩
          case measure => simp [intOf]; omega
      · by_cases c3 : nf = nt
        · subst c3
          have d1 : ((nf : Int) == (nf : Int)) = true := by simp
          by_cases c2 : k % 7 = 6
          · have d2 : ((k : Int) % 7 != 6) = false := by simp; omega
            clear c2
            go_wp2_with fail
            go_roundw
            case rel => exact ⟨k + 1, arcs, by omega, by go_num, HI.out.2, HI.out.1, HFIT.out⟩
            case measure => simp [intOf]; omega
          · have d2 : ((k : Int) % 7 != 6) = true := by simp; omega
            clear c2
            go_wp2_with fail
            go_roundw
            case rel =>
              have h1 := H0.out.1.set5 k 0 x { x with f := 0 } HX.out.1 (by omega) (.int .i64 0) rfl
              have h2 := h1.set5 k 1 { x with f := 0 } { x with f := 0, t := (N : Int) - 1 } (List.getElem?_set_self (lt_of_at' HX.out.1)) (by omega) (.int .i64 ((N : Int) - 1)) rfl
              have g1 : fitB N { x with f := 0 } = true := by have := HX.out.2.2; simp [fitB]; omega
              have g2 : fitB N { x with f := 0, t := (N : Int) - 1 } = true := by simp [fitB]; omega
              exact ⟨k + 1, _, by omega, by go_num, ((H0.out.2.far (p := ⟨b, k * 5, none⟩) nbr _).far (p := ⟨b, k * 5 + 1, none⟩) nbr _).alloc _, h2.below ((Below.refl _ _).alloc (Nat.le_refl _) _), fit_set (fit_set HFIT.out g1) g2⟩
            case measure => simp [intOf]; omega
        · have d1 : ((nf : Int) == (nt : Int)) = false := by simp; omega
          go_wp2_with fail
          go_roundw
          case rel => exact ⟨k + 1, arcs, by omega, by go_num, HI.out.2, HI.out.1, HFIT.out⟩
          case measure => simp [intOf]; omega
    · have ZC := Lib.hid (res_cells hres (.slice (some ⟨sb, 0, none⟩) N N) (.slice A' m ca))
      have g0 := hres.cell 0
      have g1 := hres.cell 1
      simp only [List.getElem?_toArray, List.getElem?_cons_zero, List.getElem?_cons_succ] at g0 g1
      have f0 := hres.frozen 0
      have f1 := hres.frozen 1
      go_wp2_with fail
      exact bodyPost_ret (v := .agg #[.slice (some ⟨sb, 0, none⟩) N N, .slice A' m ca]) (by simp [results, Try.results10, go_sem, ZC.out.1, ZC.out.2]) rfl ⟨w1.heap.size, sb, m, ca, A', _, arcs, rfl, (hI.res hjb hres 0 _).res hjb (hres.set_ 0 _) 1 _, hm18, HFIT.out⟩
end Go.Proofs.Ytekajenmkpobgaa
