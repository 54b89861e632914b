/- The document's answer: fit, Arc, Reach, From, To. -/
import Derived.Test.YtekajenmkpobgaaM5
import Derived.Test.YtekajenmkpobgaaM9
set_option linter.unusedSimpArgs false
set_option linter.unusedVariables false
namespace Go.Proofs.Ytekajenmkpobgaa
open Go.RowKit Go.Shelf

section
variable {w : World} {B : Nat} {A1 A2 : Option Addr} {n n2 : Nat} {sup : List Int} {arcs : List ArcV}
theorem InstR.len (h : InstR w B A1 A2 n n2 sup arcs) : arcs.length = n2 := by have := h.a.1; rw [arcCells_length] at this; omega
end

set_option maxRecDepth 100000 in
set_option maxHeartbeats 4000000 in
theorem rfit_any (A1 A2 : Option Addr) (n c1 n2 c2 B : Nat) (sup : List Int) (arcs : List ArcV) (w : World) (h : InstR w B A1 A2 n n2 sup arcs) (hB : B ≤ w.heap.size) (a : Nat) (x : ArcV) (ha : arcs[a]? = some x) :
    Calls Try.prog 65 #[.agg #[.slice A1 n c1, .slice A2 n2 c2], .int .i64 (a : Int)] w fun e w' => e = .returned (.bool (fitB n x)) ∧ Below w.heap.size w w' := by
  have hal : a < n2 := by rw [← h.len]; exact lt_of_at' ha
  have hn := h.hn
  have hn2 := h.hn2
  obtain ⟨b, off, rfl, hb, e0, e1, e2, e3, e4⟩ := h.a.arc ha
  have hbw : b < w.heap.size := by omega
  have hbo : ∀ o o2, Below w.heap.size w ((w.alloc o).alloc o2) := fun o o2 => ((Below.refl _ w).alloc (Nat.le_refl _) o).alloc (by simp) o2
  have HBO := Lib.hid hbo
  have hd0 : decide ((a : Int) < 0) = false := by simp
  clear hbo ha h
  obtain ⟨xf, hxf⟩ : ∃ v, v = x.f := ⟨_, rfl⟩
  obtain ⟨xt, hxt⟩ : ∃ v, v = x.t := ⟨_, rfl⟩
  rw [← hxf] at e0
  rw [← hxt] at e1
  have hfx : fitB n x = (decide (0 ≤ xf) && decide (xf < n) && decide (0 ≤ xt) && decide (xt < n)) := by rw [hxf, hxt]; rfl
  have HFX := Lib.hid hfx
  clear hfx hxf hxt
  by_cases c1 : 0 ≤ xf
  · by_cases c2 : xf < n
    · by_cases c3 : 0 ≤ xt
      · by_cases c4 : xt < n
        · go_enter Try.func65, Try.ntmps65
          go_wp2_with fail
          go_ret
          exact ⟨ret_bool (by rw [HFX.out]; simp [c1, c2, c3, c4]), HBO.out _ _⟩
        · have d4 : decide (xt < (n : Int)) = false := by simpa using c4
          go_enter Try.func65, Try.ntmps65
          go_wp2_with fail
          go_ret
          exact ⟨ret_bool (by rw [HFX.out]; simp [c1, c2, c3, c4]), HBO.out _ _⟩
      · have d3 : decide (0 ≤ xt) = false := by simpa using c3
        go_enter Try.func65, Try.ntmps65
        go_wp2_with fail
        go_ret
        exact ⟨ret_bool (by rw [HFX.out]; simp [c1, c2]; omega), HBO.out _ _⟩
    · have d2 : decide (xf < (n : Int)) = false := by simpa using c2
      go_enter Try.func65, Try.ntmps65
      go_wp2_with fail
      go_ret
      exact ⟨ret_bool (by rw [HFX.out]; simp [c1]; omega), HBO.out _ _⟩
  · have d1 : decide (0 ≤ xf) = false := by simpa using c1
    go_enter Try.func65, Try.ntmps65
    go_wp2_with fail
    go_ret
    exact ⟨ret_bool (by rw [HFX.out]; simp; omega), HBO.out _ _⟩

/-- what Arc tells -/
def arcTells (n : Nat) (x : ArcV) : Value := if fitB n x then .tuple #[.agg #[.int .i64 x.f, .int .i64 x.t, .int .i64 x.lo, .int .i64 x.cap, .int .i64 x.cost], .bool true] else .tuple #[.agg #[.int .i64 0, .int .i64 0, .int .i64 0, .int .i64 0, .int .i64 0], .bool false]

set_option maxRecDepth 100000 in
set_option maxHeartbeats 1000000 in
theorem rArc_any (A1 A2 : Option Addr) (n c1 n2 c2 B : Nat) (sup : List Int) (arcs : List ArcV) (w : World) (h : InstR w B A1 A2 n n2 sup arcs) (hB : B ≤ w.heap.size) (a : Nat) (x : ArcV) (ha : arcs[a]? = some x) :
    Calls Try.prog 56 #[.agg #[.slice A1 n c1, .slice A2 n2 c2], .int .i64 (a : Int)] w fun e w' => e = .returned (arcTells n x) ∧ Below w.heap.size w w' := by
  have hal : a < n2 := by rw [← h.len]; exact lt_of_at' ha
  have hn := h.hn
  have hn2 := h.hn2
  obtain ⟨b, off, hA0, hb, e0, e1, e2, e3, e4⟩ := h.a.arc ha
  have HAA := Lib.hid hA0
  clear hA0
  have hbw : b < w.heap.size := by omega
  have hb1 : Below w.heap.size w ((w.alloc (.cells #[.slice A1 n c1, .slice A2 n2 c2] 26)).alloc (.cells #[.int .i64 0, .int .i64 0, .int .i64 0, .int .i64 0, .int .i64 0] 36)) := ((Below.refl _ w).alloc (Nat.le_refl _) _).alloc (by simp) _
  have hx1 : Blk ((w.alloc (.cells #[.slice A1 n c1, .slice A2 n2 c2] 26)).alloc (.cells #[.int .i64 0, .int .i64 0, .int .i64 0, .int .i64 0, .int .i64 0] 36)) w.heap.size 26 #[.slice A1 n c1, .slice A2 n2 c2] := (Blk.new w 26 _).alloc _
  have hx2 : Blk ((w.alloc (.cells #[.slice A1 n c1, .slice A2 n2 c2] 26)).alloc (.cells #[.int .i64 0, .int .i64 0, .int .i64 0, .int .i64 0, .int .i64 0] 36)) (w.heap.size + 1) 36 #[.int .i64 0, .int .i64 0, .int .i64 0, .int .i64 0, .int .i64 0] := blk_newN _ _ _ _ (World.size_alloc _ _)
  have HI := Lib.hid h
  have HA := Lib.hid ha
  clear h ha
  go_enter Try.func56, Try.ntmps56
  go_wp2_with fail
  have hs1 : w.heap.size + 1 + 1 = ((w.alloc (.cells #[.slice A1 n c1, .slice A2 n2 c2] 26)).alloc (.cells #[.int .i64 0, .int .i64 0, .int .i64 0, .int .i64 0, .int .i64 0] 36)).heap.size := by simp
  generalize (w.alloc (.cells #[.slice A1 n c1, .slice A2 n2 c2] 26)).alloc (.cells #[.int .i64 0, .int .i64 0, .int .i64 0, .int .i64 0, .int .i64 0] 36) = X at *
  refine (rfit_any A1 A2 n c1 n2 c2 B sup arcs X (HI.out.keep (hb1.mono hB)) (by omega) a x HA.out).mono ?_
  rintro e w1 ⟨rfl, hb2⟩
  have hy1 := hx1.below hb2 hx1.lt
  have hy2 := hx2.below hb2 hx2.lt
  have hb3 : Below w.heap.size w w1 := hb1.trans (hb2.mono (by omega))
  have q1 := hy1.cell 1
  have z0 := hy2.cell 0
  have z1 := hy2.cell 1
  have z2 := hy2.cell 2
  have z3 := hy2.cell 3
  have z4 := hy2.cell 4
  simp only [List.getElem?_toArray, List.getElem?_cons_zero, List.getElem?_cons_succ] at q1 z0 z1 z2 z3 z4
  have f0 := hy2.frozen 0
  have f1 := hy2.frozen 1
  have f2 := hy2.frozen 2
  have f3 := hy2.frozen 3
  have f4 := hy2.frozen 4
  have l1 := hy1.lt
  have l2 := hy2.lt
  have HAT := Lib.hid (show arcTells n x = if fitB n x then .tuple #[.agg #[.int .i64 x.f, .int .i64 x.t, .int .i64 x.lo, .int .i64 x.cap, .int .i64 x.cost], .bool true] else .tuple #[.agg #[.int .i64 0, .int .i64 0, .int .i64 0, .int .i64 0, .int .i64 0], .bool false] from rfl)
  have hA := HAA.out
  clear HAA
  subst hA
  clear hx1 hx2 hb1 hs1
  cases hf : fitB n x
  · rw [hf] at HAT
    clear hf
    go_wp2_with fail
    refine bodyPost_ret (v := .tuple #[.agg #[.int .i64 0, .int .i64 0, .int .i64 0, .int .i64 0, .int .i64 0], .bool false]) (by simp [results, Try.results56, go_sem, z0, z1, z2, z3, z4]) rfl ⟨by rw [HAT.out]; rfl, ?_⟩
    exact ((((hb3.setCell (p := ⟨w.heap.size + 1, 0, none⟩) (by simp) _).setCell (p := ⟨w.heap.size + 1, 1, none⟩) (by simp) _).setCell (p := ⟨w.heap.size + 1, 2, none⟩) (by simp) _).setCell (p := ⟨w.heap.size + 1, 3, none⟩) (by simp) _).setCell (p := ⟨w.heap.size + 1, 4, none⟩) (by simp) _
  · rw [hf] at HAT
    clear hf
    have r0 := (hb3.cell (p := ⟨b, off + a * 5, none⟩) hbw).trans e0
    have r1 := (hb3.cell (p := ⟨b, off + a * 5 + 1, none⟩) hbw).trans e1
    have r2 := (hb3.cell (p := ⟨b, off + a * 5 + 2, none⟩) hbw).trans e2
    have r3 := (hb3.cell (p := ⟨b, off + a * 5 + 3, none⟩) hbw).trans e3
    have r4 := (hb3.cell (p := ⟨b, off + a * 5 + 4, none⟩) hbw).trans e4
    go_wp2_with fail
    have hfin := ((((hy2.set_ 0 (.int .i64 x.f)).set_ 1 (.int .i64 x.t)).set_ 2 (.int .i64 x.lo)).set_ 3 (.int .i64 x.cap)).set_ 4 (.int .i64 x.cost)
    have y0 := hfin.cell 0
    have y1 := hfin.cell 1
    have y2 := hfin.cell 2
    have y3 := hfin.cell 3
    have y4 := hfin.cell 4
    simp only [List.setIfInBounds_toArray, List.set_cons_succ, List.set_cons_zero, List.getElem?_toArray, List.getElem?_cons_zero, List.getElem?_cons_succ] at y0 y1 y2 y3 y4
    refine bodyPost_ret (v := .tuple #[.agg #[.int .i64 x.f, .int .i64 x.t, .int .i64 x.lo, .int .i64 x.cap, .int .i64 x.cost], .bool true]) (by simp [results, Try.results56, go_sem, y0, y1, y2, y3, y4]) rfl ⟨by rw [HAT.out]; rfl, ?_⟩
    exact ((((hb3.setCell (p := ⟨w.heap.size + 1, 0, none⟩) (by simp) _).setCell (p := ⟨w.heap.size + 1, 1, none⟩) (by simp) _).setCell (p := ⟨w.heap.size + 1, 2, none⟩) (by simp) _).setCell (p := ⟨w.heap.size + 1, 3, none⟩) (by simp) _).setCell (p := ⟨w.heap.size + 1, 4, none⟩) (by simp) _
end Go.Proofs.Ytekajenmkpobgaa
