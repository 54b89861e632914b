/- file: arc (26). Conditions: none. -/
import Derived.Test.YtoagphighgejnaaGreatDoorJ10
set_option linter.unusedSimpArgs false
set_option linter.unusedVariables false
namespace Go.Proofs.YtoagphighgejnaaGreatDoor
open Go.RowKit Go.Shelf

/-- what an arc's line tells -/
def arcQ (r : RdV) (ws : List (List UInt8)) : Int × RdV := if ¬ r.begun = true then (12, r) else arcE r ws
theorem arcMax_len {r : RdV} {ws : List (List UInt8)} (h : ¬ ws.length = 4) : (arcMaxE r ws).1 = 10 := by
  unfold arcMaxE; split
  · exact absurd rfl h
  · rfl
theorem arcMin_len {r : RdV} {ws : List (List UInt8)} (h : ¬ ws.length = 6) : (arcMinE r ws).1 = 10 := by
  unfold arcMinE; split
  · exact absurd rfl h
  · rfl
/-- how many words an arc's line has -/
def arcN (r : RdV) : Nat := if r.max = true then 4 else 6

set_option maxRecDepth 100000 in
theorem arc_early (B rb n : Nat) (r : RdV) (wb : Nat) (ws : List (List UInt8)) (w : World) (hR : RdIn B w rb r) (hn : n = ws.length) (hc : r.begun = false ∨ ¬ n = arcN r) :
    Calls Tryz.prog 58 #[.pointer (some ⟨rb, 0, none⟩), .slice (some ⟨wb, 0, none⟩) n n] w (Step B rb w (arcQ r ws)) := by
  obtain ⟨q, HE⟩ : ∃ q, QIs q (arcQ r ws) := ⟨_, rfl⟩
  rw [← HE]
  obtain ⟨v1, v2, v3, v4, hbr⟩ := hR.blk
  obtain ⟨c0, -, -, -, -, c5, -⟩ := hbr.nine
  have lr := hbr.lt
  have hq12 : r.begun = false → q.1 = 12 := fun h => by have : q = arcQ r ws := HE; rw [this]; unfold arcQ; rw [if_pos (by simp [h])]
  have hq10 : r.begun = true → ¬ n = arcN r → q.1 = 10 := fun h h3 => by
    have : q = arcQ r ws := HE
    rw [this]; unfold arcQ arcE; rw [if_neg (by simp [h])]
    unfold arcN at h3
    split
    · rename_i hm; rw [if_pos hm] at h3; exact arcMax_len (by omega)
    · rename_i hm; rw [if_neg hm] at h3; exact arcMin_len (by omega)
  have H12 := Lib.hid hq12
  have H10 := Lib.hid hq10
  have HC := Lib.hid hc
  clear hbr hR hq12 hq10 hn hc
  go_enter Tryz.func58, Tryz.ntmps58
  go_wp2_with fail
  refine (refuse_or _ _ _).mono ?_
  rintro e _ ⟨rfl, (⟨hq, rfl⟩ | ⟨hq, rfl⟩)⟩
  · exact panic_end rfl (step_bad (Kept.refl _ _) (H12.out (by simpa using hq)) (by decide))
  have hbg : r.begun = true := by simpa using hq
  have h3 : ¬ n = arcN r := HC.out.resolve_left (by simp [hbg])
  have H := Lib.hid (H10.out hbg h3)
  unfold arcN at h3
  cases hm : r.max
  · rw [hm] at h3 c0
    have h3' : ¬ (n : Int) = 6 := by simp at h3; omega
    clear hq hbg h3 hm
    go_wp2_with fail
    refine (refuse_or _ _ _).mono ?_
    rintro e _ ⟨rfl, (⟨hq, rfl⟩ | ⟨hq, rfl⟩)⟩
    · exact panic_end rfl (step_bad (Kept.refl _ _) H.out (by decide))
    · exact absurd hq (by simp [h3'])
  · rw [hm] at h3 c0
    have h3' : ¬ (n : Int) = 4 := by simp at h3; omega
    clear hq hbg h3 hm
    go_wp2_with fail
    refine (refuse_or _ _ _).mono ?_
    rintro e _ ⟨rfl, (⟨hq, rfl⟩ | ⟨hq, rfl⟩)⟩
    · exact panic_end rfl (step_bad (Kept.refl _ _) H.out (by decide))
    · exact absurd hq (by simp [h3'])
theorem figC3 (a b c : List UInt8) : (figCells [a, b, c]).toArray = #[.int .i64 (numL a).1, .bool (decide ((numL a).2 = 11)), .int .i64 (numL b).1, .bool (decide ((numL b).2 = 11)), .int .i64 (numL c).1, .bool (decide ((numL c).2 = 11))] := rfl
theorem place_yes {rb n c : Nat} {A : Option Addr} {v : Int} {b : Bool} (N : Nat) (h : b = false ∧ 1 ≤ v ∧ v ≤ n) (hN : v - 1 = N) (hn : n ≤ 64) (w : World) (hc : w.cell? ⟨rb, 1, none⟩ = some (.slice A n c)) (hlt : rb < w.heap.size) :
    Calls Tryz.prog 76 #[.pointer (some ⟨rb, 0, none⟩), .agg #[.int .i64 v, .bool b]] w fun e w' => e = .returned (.int .i64 N) ∧ Below w.heap.size w w' :=
  (place_pan rb n c A v b w hc hlt hn).mono fun e w' ⟨h1, hb⟩ => by
    rcases h1 with ⟨h1, _⟩ | ⟨_, h1⟩
    · exact absurd h h1
    · exact ⟨by rw [h1, hN], hb⟩
theorem place_not {rb n c : Nat} {A : Option Addr} {v : Int} {b : Bool} (h : ¬ (b = false ∧ 1 ≤ v ∧ v ≤ n)) (hn : n ≤ 64) (w : World) (hc : w.cell? ⟨rb, 1, none⟩ = some (.slice A n c)) (hlt : rb < w.heap.size) :
    Calls Tryz.prog 76 #[.pointer (some ⟨rb, 0, none⟩), .agg #[.int .i64 v, .bool b]] w fun e w' => e = .panicked [{ v := faultV 11, recovered := false }] ∧ Below w.heap.size w w' :=
  (place_pan rb n c A v b w hc hlt hn).mono fun e w' ⟨h1, hb⟩ => by
    rcases h1 with ⟨_, h1⟩ | ⟨h1, _⟩
    · exact ⟨h1, hb⟩
    · exact absurd h1 h
theorem box5 {X w1 : World} (hb : Below X.heap.size X w1) {ab : Nat} (h : Blk X ab 42 #[.int .i64 0, .int .i64 0, .int .i64 0, .int .i64 0, .int .i64 0]) :
    w1.cell? ⟨ab, 0, none⟩ = some (.int .i64 0) ∧ w1.cell? ⟨ab, 1, none⟩ = some (.int .i64 0) ∧ w1.cell? ⟨ab, 2, none⟩ = some (.int .i64 0) ∧ w1.cell? ⟨ab, 3, none⟩ = some (.int .i64 0) ∧ w1.cell? ⟨ab, 4, none⟩ = some (.int .i64 0) ∧ w1.frozen? ⟨ab, 0, none⟩ = false ∧ w1.frozen? ⟨ab, 1, none⟩ = false ∧ w1.frozen? ⟨ab, 2, none⟩ = false ∧ w1.frozen? ⟨ab, 3, none⟩ = false ∧ w1.frozen? ⟨ab, 4, none⟩ = false ∧ ab < w1.heap.size := by
  have h1 := h.below hb h.lt
  exact ⟨h1.cell 0, h1.cell 1, h1.cell 2, h1.cell 3, h1.cell 4, h1.frozen 0, h1.frozen 1, h1.frozen 2, h1.frozen 3, h1.frozen 4, h1.lt⟩
theorem box5_on {X w1 : World} (hb : Below X.heap.size X w1) {ab : Nat} (h : X.cell? ⟨ab, 0, none⟩ = some (.int .i64 0) ∧ X.cell? ⟨ab, 1, none⟩ = some (.int .i64 0) ∧ X.cell? ⟨ab, 2, none⟩ = some (.int .i64 0) ∧ X.cell? ⟨ab, 3, none⟩ = some (.int .i64 0) ∧ X.cell? ⟨ab, 4, none⟩ = some (.int .i64 0) ∧ X.frozen? ⟨ab, 0, none⟩ = false ∧ X.frozen? ⟨ab, 1, none⟩ = false ∧ X.frozen? ⟨ab, 2, none⟩ = false ∧ X.frozen? ⟨ab, 3, none⟩ = false ∧ X.frozen? ⟨ab, 4, none⟩ = false ∧ ab < X.heap.size) :
    w1.cell? ⟨ab, 0, none⟩ = some (.int .i64 0) ∧ w1.cell? ⟨ab, 1, none⟩ = some (.int .i64 0) ∧ w1.cell? ⟨ab, 2, none⟩ = some (.int .i64 0) ∧ w1.cell? ⟨ab, 3, none⟩ = some (.int .i64 0) ∧ w1.cell? ⟨ab, 4, none⟩ = some (.int .i64 0) ∧ w1.frozen? ⟨ab, 0, none⟩ = false ∧ w1.frozen? ⟨ab, 1, none⟩ = false ∧ w1.frozen? ⟨ab, 2, none⟩ = false ∧ w1.frozen? ⟨ab, 3, none⟩ = false ∧ w1.frozen? ⟨ab, 4, none⟩ = false ∧ ab < w1.heap.size := by
  obtain ⟨a0, a1, a2, a3, a4, b0, b1, b2, b3, b4, l⟩ := h
  have H := bcell hb
  exact ⟨(H.1 _ _ l).trans a0, (H.1 _ _ l).trans a1, (H.1 _ _ l).trans a2, (H.1 _ _ l).trans a3, (H.1 _ _ l).trans a4, (H.2 _ _ l).trans b0, (H.2 _ _ l).trans b1, (H.2 _ _ l).trans b2, (H.2 _ _ l).trans b3, (H.2 _ _ l).trans b4, Nat.lt_of_lt_of_le l hb.size⟩
/-- an arc in the making -/
def ArcMid (w : World) (x : ArcV) (s5 : Value) (wx : World) : Prop := ∃ ab : Nat, s5 = .pointer (some ⟨ab, 0, none⟩) ∧ Blk wx ab 42 #[.int .i64 x.f, .int .i64 x.t, .int .i64 x.lo, .int .i64 x.cap, .int .i64 x.cost] ∧ Below w.heap.size w wx ∧ w.heap.size ≤ ab
theorem badW_any {l : List (List UInt8)} (h : ∃ x ∈ l, (numL x).2 = 10) : ∃ x ∈ l, badW x := h
theorem rd_app {B rb sb hb mb m c c5 clk : Nat} {A A5 : Option Addr} {ents : Array MapEntry} {r : RdV} {W w5 : World} {y : ArcV} (h : RdMid B W rb r sb hb mb m c clk A ents) (hg : W.grownBy w5 (Value.slice A m c).ownBlock)
    (hown : w5.ownsRow B 42 5 (.slice A5 (m + 1) c5) (m + 1) (arcCells r.arcs ++ [.int .i64 y.f, .int .i64 y.t, .int .i64 y.lo, .int .i64 y.cap, .int .i64 y.cost])) (hrB : rb < B) :
    RdMid B (w5.setCell ⟨rb, 2, none⟩ (.slice A5 (m + 1) c5)) rb { r with arcs := r.arcs ++ [y] } sb hb mb (m + 1) c5 clk A5 ents ∧ Kept (Rs B rb) W (w5.setCell ⟨rb, 2, none⟩ (.slice A5 (m + 1) c5)) := by
  have k1 := h.k.grown hg (fun e => by have := (h.a.lt _ e.symm).1; omega)
  have s1 := h.s.grown hg (fun e => own_blk_ne h.a h.s (by decide) e.symm)
  have h1 := h.h.grown hg (fun e => own_blk_ne h.a h.h (by decide) e.symm)
  have hmne : some mb ≠ (Value.slice A m c).ownBlock := fun e => by
    rcases h.a.2 with ⟨h1, _⟩ | ⟨g, cap, cur, h1, _, h3, _⟩
    · rw [h1] at e; simp [Value.ownBlock] at e
    · rw [h1] at e
      have : mb = g := by simpa [Value.ownBlock] using e
      subst this
      have h2 := h.m
      unfold MapB at h2
      rw [h3] at h2; cases h2
  have m1 : MapB w5 mb ents clk := (hg.block mb h.m.lt hmne).trans h.m
  have kk : Kept (Rs B rb) W w5 := (Kept.of_grown hg).mono fun k _ e => .inr (h.a.lt k e.symm).1
  refine ⟨⟨?_, s1.far (p := ⟨rb, 2, none⟩) (s1.ne_ k1 (by decide)) _, h1.far (p := ⟨rb, 2, none⟩) (h1.ne_ k1 (by decide)) _, ?_, m1.far (p := ⟨rb, 2, none⟩) (m1.ne k1) _, h.e, h.sB, h.hB, h.mB⟩, kk.setCell (p := ⟨rb, 2, none⟩) (fun _ => .inl rfl) _⟩
  · have := k1.set_ 2 (.slice A5 (m + 1) c5)
    simpa [rdCells] using this
  · have := own_off hown (p := ⟨rb, 2, none⟩) k1 (by decide) (.slice A5 (m + 1) c5)
    simpa [arcCells, ArcV.cells, I] using this
theorem blk_on {X w1 : World} (hb : Below X.heap.size X w1) {ab : Nat} {cs : Array Value} (h : Blk X ab 42 cs) : Blk w1 ab 42 cs := h.below hb h.lt
theorem arc_set {w W : World} {ab : Nat} {f t : Int} (h : Blk W ab 42 #[.int .i64 0, .int .i64 0, .int .i64 0, .int .i64 0, .int .i64 0]) (hb : Below w.heap.size w W) (hl : w.heap.size ≤ ab) :
    ArcMid w ⟨f, t, 0, 0, 0⟩ (.pointer (some ⟨ab, 0, none⟩)) (((((W.setCell ⟨ab, 0, none⟩ (.int .i64 f)).setCell ⟨ab, 1, none⟩ (.int .i64 t)).setCell ⟨ab, 2, none⟩ (.int .i64 0)).setCell ⟨ab, 3, none⟩ (.int .i64 0)).setCell ⟨ab, 4, none⟩ (.int .i64 0)) := by
  refine ⟨ab, rfl, ?_, ((((hb.setCell (p := ⟨ab, 0, none⟩) hl _).setCell (p := ⟨ab, 1, none⟩) hl _).setCell (p := ⟨ab, 2, none⟩) hl _).setCell (p := ⟨ab, 3, none⟩) hl _).setCell (p := ⟨ab, 4, none⟩) hl _, hl⟩
  have := ((((h.set_ 0 (.int .i64 f)).set_ 1 (.int .i64 t)).set_ 2 (.int .i64 0)).set_ 3 (.int .i64 0)).set_ 4 (.int .i64 0)
  simpa only [List.setIfInBounds_toArray, List.set_cons_succ, List.set_cons_zero] using this
theorem arc_new {w W : World} {f t : Int} (hb : Below w.heap.size w W) : ArcMid w ⟨f, t, 0, 0, 0⟩ (.pointer (some ⟨W.heap.size, 0, none⟩)) (W.alloc (.cells #[.int .i64 f, .int .i64 t, .int .i64 0, .int .i64 0, .int .i64 0] 42)) :=
  ⟨_, rfl, Blk.new W 42 _, hb.alloc hb.size _, hb.size⟩
theorem ArcMid.set {w wx : World} {y z : ArcV} {ab : Nat} (k : Nat) (v : Int) (h : ArcMid w y (.pointer (some ⟨ab, 0, none⟩)) wx) (hz : (#[Value.int .i64 y.f, .int .i64 y.t, .int .i64 y.lo, .int .i64 y.cap, .int .i64 y.cost]).setIfInBounds k (.int .i64 v) = #[.int .i64 z.f, .int .i64 z.t, .int .i64 z.lo, .int .i64 z.cap, .int .i64 z.cost]) :
    ArcMid w z (.pointer (some ⟨ab, 0, none⟩)) (wx.setCell ⟨ab, k, none⟩ (.int .i64 v)) := by
  obtain ⟨ab', e, hb, hbw, hl⟩ := h
  injection e with e
  injection e with e
  injection e with e
  subst e
  refine ⟨ab, rfl, ?_, hbw.setCell (p := ⟨ab, k, none⟩) hl _, hl⟩
  rw [← hz]; exact hb.set_ k _
theorem ArcMid.open_ {w wx : World} {y : ArcV} {ab : Nat} (h : ArcMid w y (.pointer (some ⟨ab, 0, none⟩)) wx) : Blk wx ab 42 #[.int .i64 y.f, .int .i64 y.t, .int .i64 y.lo, .int .i64 y.cap, .int .i64 y.cost] ∧ Below w.heap.size w wx ∧ w.heap.size ≤ ab := by
  obtain ⟨ab', e, hb, hbw, hl⟩ := h
  injection e with e
  injection e with e
  injection e with e
  subst e
  exact ⟨hb, hbw, hl⟩
theorem ArcMid.on {w wx wy : World} {y : ArcV} {s : Value} (h : ArcMid w y s wx) (hb : Below wx.heap.size wx wy) : ArcMid w y s wy := by
  obtain ⟨ab, e, h1, h2, h3⟩ := h
  exact ⟨ab, e, h1.below hb h1.lt, h2.trans (hb.mono h2.size), h3⟩
theorem bound_yes {v lo V : Int} {b : Bool} (h : b = false ∧ (v = -1 ∨ (lo ≤ v ∧ v ≤ 2147483648))) (hV : V = if v = -1 then 4611686018427387904 else v) (w : World) : Calls Tryz.prog 77 #[.agg #[.int .i64 v, .bool b], .int .i64 lo] w fun e w' => e = .returned (.int .i64 V) ∧ Below w.heap.size w w' :=
  (bound_or v lo b w).mono fun e w' ⟨h1, hb⟩ => by
    rcases h1 with ⟨_, h1⟩ | ⟨h1, _⟩
    · exact ⟨by rw [h1, hV], hb⟩
    · exact absurd h h1
theorem bound_not {v lo : Int} {b : Bool} (h : ¬ (b = false ∧ (v = -1 ∨ (lo ≤ v ∧ v ≤ 2147483648)))) (w : World) : Calls Tryz.prog 77 #[.agg #[.int .i64 v, .bool b], .int .i64 lo] w fun e w' => e = .panicked [{ v := faultV 11, recovered := false }] ∧ Below w.heap.size w w' :=
  (bound_or v lo b w).mono fun e w' ⟨h1, hb⟩ => by
    rcases h1 with ⟨h1, _⟩ | ⟨_, h1⟩
    · exact absurd h1 h
    · exact ⟨h1, hb⟩
theorem bnd_of {w : List UInt8} {lo : Int} (h : decide ((numL w).2 = 11) = false ∧ ((numL w).1 = -1 ∨ (lo ≤ (numL w).1 ∧ (numL w).1 ≤ 2147483648))) (h4 : (numL w).2 ≠ 10) : bndW w lo := by
  obtain ⟨h1, h2⟩ := h
  have := numL_err w
  simp only [decide_eq_false_iff_not] at h1
  exact ⟨by omega, h2⟩
theorem not_bnd {w : List UInt8} {lo : Int} (h : ¬ (decide ((numL w).2 = 11) = false ∧ ((numL w).1 = -1 ∨ (lo ≤ (numL w).1 ∧ (numL w).1 ≤ 2147483648)))) : ¬ bndW w lo := by
  rintro ⟨h1, h2⟩
  exact h ⟨by simp [h1], h2⟩
/-- the arc is made, or the line tells an error -/
def ArcEnd (w : World) (ab : Nat) (q : Int × RdV) (r : RdV) (wx : World) : Prop := ∃ y, ArcMid w y (.pointer (some ⟨ab, 0, none⟩)) wx ∧ q = (0, { r with arcs := r.arcs ++ [y] })
theorem readsN (w : World) (t : TypeId) (l : List Value) (n size : Nat) (hl : l.length = n * size) : Reads (w.alloc (.cells l.toArray t)) (w.heap.size + 1) size (some ⟨w.heap.size, 0, none⟩) n l :=
  ⟨hl, fun _ => ⟨w.heap.size, 0, rfl, by omega, fun j u hu => by rw [(Blk.new w t l.toArray).cell, Nat.zero_add, List.getElem?_toArray]; exact hu⟩⟩
theorem len3 {l : List (List UInt8)} (h : l.length = 3) : ∃ a b c, l = [a, b, c] := by
  match l, h with
  | [a, b, c], _ => exact ⟨a, b, c, rfl⟩
theorem len5 {l : List (List UInt8)} (h : l.length = 5) : ∃ a b c d e, l = [a, b, c, d, e] := by
  match l, h with
  | [a, b, c, d, e], _ => exact ⟨a, b, c, d, e, rfl⟩
theorem arc_bad {r : RdV} {x : List UInt8} {ts : List (List UInt8)} (hl : ts.length + 1 = arcN r) (hb : ∃ y ∈ ts, (numL y).2 = 10) : (arcE r (x :: ts)).1 = 10 := by
  unfold arcN at hl
  unfold arcE
  obtain ⟨y, hy, hy0⟩ := hb
  by_cases hm : r.max = true
  · rw [if_pos hm] at hl ⊢
    obtain ⟨a, b, c, rfl⟩ := len3 (show ts.length = 3 by omega)
    have h2 : badW a ∨ badW b ∨ badW c := by
      simp only [List.mem_cons, List.not_mem_nil, or_false] at hy
      rcases hy with rfl | rfl | rfl
      · exact .inl hy0
      · exact .inr (.inl hy0)
      · exact .inr (.inr hy0)
    unfold arcMaxE; simp only; rw [if_pos h2]
  · rw [if_neg hm] at hl ⊢
    obtain ⟨a, b, l, c, d, rfl⟩ := len5 (show ts.length = 5 by omega)
    have h2 : badW a ∨ badW b ∨ badW l ∨ badW c ∨ badW d := by
      simp only [List.mem_cons, List.not_mem_nil, or_false] at hy
      rcases hy with rfl | rfl | rfl | rfl | rfl
      · exact .inl hy0
      · exact .inr (.inl hy0)
      · exact .inr (.inr (.inl hy0))
      · exact .inr (.inr (.inr (.inl hy0)))
      · exact .inr (.inr (.inr (.inr hy0)))
    unfold arcMinE; simp only; rw [if_pos h2]
theorem arcMax_form (r : RdV) (x a b c : List UInt8) (h : ∀ y ∈ [a, b, c], (numL y).2 ≠ 10) : arcMaxE r [x, a, b, c] = if (r.arcs.length : Int) = r.many then (12, r)
    else if ¬ inW a 1 r.sup.length ∨ ¬ inW b 1 r.sup.length ∨ ¬ bndW c 0 then (11, r)
    else (0, { r with arcs := r.arcs ++ [⟨(numL a).1 - 1, (numL b).1 - 1, 0, bndV c, 0⟩] }) := by
  have h2 : ¬ (badW a ∨ badW b ∨ badW c) := by simp only [not_or]; exact ⟨h a (by simp), h b (by simp), h c (by simp)⟩
  unfold arcMaxE; simp only; rw [if_neg h2]
theorem arcMin_form (r : RdV) (x a b l c d : List UInt8) (h : ∀ y ∈ [a, b, l, c, d], (numL y).2 ≠ 10) : arcMinE r [x, a, b, l, c, d] = if (r.arcs.length : Int) = r.many then (12, r)
    else if ¬ inW a 1 r.sup.length ∨ ¬ inW b 1 r.sup.length ∨ ¬ inW l 0 2147483648 ∨ ¬ bndW c (numL l).1 ∨ ¬ inW d (-2147483648) 2147483648 then (11, r)
    else (0, { r with arcs := r.arcs ++ [⟨(numL a).1 - 1, (numL b).1 - 1, (numL l).1, bndV c, (numL d).1⟩] }) := by
  have h2 : ¬ (badW a ∨ badW b ∨ badW l ∨ badW c ∨ badW d) := by simp only [not_or]; exact ⟨h a (by simp), h b (by simp), h l (by simp), h c (by simp), h d (by simp)⟩
  unfold arcMinE; simp only; rw [if_neg h2]
theorem arc_full {r : RdV} {x : List UInt8} {ts : List (List UInt8)} (hl : ts.length + 1 = arcN r) (hb : ∀ y ∈ ts, (numL y).2 ≠ 10) (hf : (r.arcs.length : Int) = r.many) : (arcE r (x :: ts)).1 = 12 := by
  unfold arcN at hl
  unfold arcE
  by_cases hm : r.max = true
  · rw [if_pos hm] at hl ⊢
    obtain ⟨a, b, c, rfl⟩ := len3 (show ts.length = 3 by omega)
    rw [arcMax_form r x a b c hb, if_pos hf]
  · rw [if_neg hm] at hl ⊢
    obtain ⟨a, b, l, c, d, rfl⟩ := len5 (show ts.length = 5 by omega)
    rw [arcMin_form r x a b l c d hb, if_pos hf]
theorem arc_off {r : RdV} {x a b : List UInt8} {ts : List (List UInt8)} (hl : (a :: b :: ts).length + 1 = arcN r) (hb : ∀ y ∈ a :: b :: ts, (numL y).2 ≠ 10) (hf : ¬ (r.arcs.length : Int) = r.many) (hi : ¬ (inW a 1 r.sup.length ∧ inW b 1 r.sup.length)) : (arcE r (x :: a :: b :: ts)).1 = 11 := by
  unfold arcN at hl
  unfold arcE
  by_cases hm : r.max = true
  · rw [if_pos hm] at hl ⊢
    obtain ⟨c, rfl⟩ : ∃ c, ts = [c] := List.length_eq_one_iff.1 (by simp at hl; omega)
    rw [arcMax_form r x a b c hb, if_neg hf, if_pos]
    by_cases h1 : inW a 1 r.sup.length
    · exact .inr (.inl fun h2 => hi ⟨h1, h2⟩)
    · exact .inl h1
  · rw [if_neg hm] at hl ⊢
    obtain ⟨l, c, d, rfl⟩ := len3 (show ts.length = 3 by simp at hl; omega)
    rw [arcMin_form r x a b l c d hb, if_neg hf, if_pos]
    by_cases h1 : inW a 1 r.sup.length
    · exact .inr (.inl fun h2 => hi ⟨h1, h2⟩)
    · exact .inl h1
theorem fig_cons (x : List UInt8) (ws : List (List UInt8)) : figCells (x :: ws) = .int .i64 (numL x).1 :: .bool (decide ((numL x).2 = 11)) :: figCells ws := by simp [figCells, figC]
set_option maxRecDepth 100000 in
set_option maxHeartbeats 12800000 in
theorem arc_main (B rb n : Nat) (r : RdV) (wb : Nat) (x a b : List UInt8) (ts : List (List UInt8)) (w : World) (hE : Env w) (hbg : r.begun = true) (hR : RdIn B w rb r) (hO : RdOk r) (hW : Blk w wb 9 ((x :: a :: b :: ts).map strV).toArray) (hlen : ∀ y ∈ x :: a :: b :: ts, y.length ≤ 60000) (hB : B ≤ w.heap.size) (hrB : rb < B) (hn : n = (x :: a :: b :: ts).length) (hN : n = arcN r) :
    Calls Tryz.prog 58 #[.pointer (some ⟨rb, 0, none⟩), .slice (some ⟨wb, 0, none⟩) n n] w (Step B rb w (arcQ r (x :: a :: b :: ts))) := by
  have hqq : arcQ r (x :: a :: b :: ts) = arcE r (x :: a :: b :: ts) := by unfold arcQ; rw [if_neg (by simp [hbg])]
  rw [hqq]
  obtain ⟨sb, hb, mb, m, cap, clk, A, ents, hM⟩ : ∃ sb hb mb m c clk A ents, RdMid B w rb r sb hb mb m c clk A ents := by
    rcases hR with ⟨rfl, _⟩ | ⟨_, h⟩
    · cases hbg
    · exact h
  have hn6 : n = 4 ∨ n = 6 := by unfold arcN at hN; split at hN <;> omega
  have hrd := Reads.part hW 1 (n - 1) (by simp at hn ⊢; omega)
  have HF := Lib.hid (figures_pan (figures_in (some ⟨wb, 1, none⟩) (n - 1) (n - 1) (a :: b :: ts) w hE hrd (by omega) (fun y hy => Nat.le_trans (hlen y (List.mem_cons_of_mem _ hy)) (by decide))))
  have HM0 := Lib.hid hM
  have HO := Lib.hid hO
  obtain ⟨q, HE⟩ : ∃ q, QIs q (arcE r (x :: a :: b :: ts)) := ⟨_, rfl⟩
  rw [← HE]
  obtain ⟨c0, -, -, -, -, c5, -⟩ := hM.k.nine
  rw [hbg] at c5
  have lr := hM.k.lt
  have lW := hW.lt
  have HNL := Lib.hid (show (a :: b :: ts).length + 1 = arcN r by rw [← hN, hn]; rfl)
  have hc1 : 1 < n := by omega
  have hc2 : ¬ n = 1 := by omega
  have hmx : r.max = true → n = 4 := fun h => by rw [hN]; unfold arcN; rw [if_pos h]
  have hmn : r.max = false → n = 6 := fun h => by rw [hN]; unfold arcN; rw [if_neg (by simp [h])]
  have HMX := Lib.hid (And.intro hmx hmn)
  have HBG := Lib.hid hbg
  have HLN := Lib.hid (show (a :: b :: ts).length = n - 1 by rw [hn]; simp)
  clear hR hO hlen hrd hE hW hM hqq hbg hn hN hn6 hmx hmn
  obtain ⟨ws, hws⟩ : ∃ ws, ws = a :: b :: ts := ⟨_, rfl⟩
  have HWS := Lib.hid hws
  rw [← hws] at HF HLN HNL HE
  clear hws
  go_enter Tryz.func58, Tryz.ntmps58
  go_wp2_with fail
  refine (refuse_or _ _ _).mono ?_
  rintro e _ ⟨rfl, (⟨hq, rfl⟩ | ⟨hq, rfl⟩)⟩
  · exact absurd hq (by simp)
  clear hq
  go_upto_if 16 with fail
  go_cut [] from 16 to 24 (fun wx => wx = w)
  case first =>
    cases hm : r.max
    · have hn6 := HMX.out.2 hm
      have hn6' : (n : Int) = 6 := by omega
      clear hn6
      go_wp2_with fail
      refine (refuse_or _ _ _).mono ?_
      rintro e _ ⟨rfl, (⟨hq, rfl⟩ | ⟨hq, rfl⟩)⟩
      · exact absurd hq (by simp [hn6'])
      go_wp2_with fail
      go_meet
      rfl
    · have hn4 := HMX.out.1 hm
      have hn4' : (n : Int) = 4 := by omega
      clear hn4
      go_wp2_with fail
      refine (refuse_or _ _ _).mono ?_
      rintro e _ ⟨rfl, (⟨hq, rfl⟩ | ⟨hq, rfl⟩)⟩
      · exact absurd hq (by simp [hn4'])
      go_wp2_with fail
      go_meet
      rfl
  case rest =>
    have hcut := hcut.symm
    subst hcut
    go_wp2_with fail
    refine HF.out.mono ?_
    rintro e w1 (⟨hbad, rfl, hb1⟩ | ⟨hok, fb, rfl, hfb, hfs, hb1⟩)
    · have he : q = arcE r (x :: ws) := HE
      exact panic_end rfl (step_bad (Kept.of_below hb1 _) (by rw [he]; exact arc_bad HNL.out hbad) (by decide))
    have k1 := Kept.of_below hb1 (Rs B rb)
    have hM1 := HM0.out.on hb1
    obtain ⟨c0', c1, c2, -, -, -, c6, -, -⟩ := hM1.k.nine
    have lr1 := hM1.k.lt
    have lf := hfb.lt
    have HM1 := Lib.hid hM1
    have HK1 := Lib.hid k1
    have HML := Lib.hid (arcs_len hM1.a)
    have HFB := Lib.hid hfb
    have HOK := Lib.hid hok
    obtain ⟨L, hL⟩ : ∃ L, L = ws.length := ⟨_, rfl⟩
    rw [← hL]
    have HL := Lib.hid hL
    have hL2 : 2 < L := by have := HLN.out; have := HMX.out; cases hm : r.max <;> simp [hm] at this <;> omega
    have hL0 : 0 < L := by omega
    have hL1 : 1 < L := by omega
    have hI1 : (1 : Int) < (L : Int) := by omega
    have hI2 : (2 : Int) < (L : Int) := by omega
    clear hfb hok hM1 HM0 k1 HF c0 c5 hL hc1 hc2
    have HMN := Lib.hid (show m ≤ 256 by have h1 := HO.out.many; have h2 := HML.out; omega)
    by_cases hmany : (m : Int) = r.many
    · have hq1 : q.1 = 12 := by
        have he : q = arcE r (x :: ws) := HE
        rw [he]; exact arc_full HNL.out HOK.out (by rw [← HML.out]; exact hmany)
      have HQ := Lib.hid hq1
      clear hq1
      go_wp2_with fail
      go_region_law (go_simp; go_at_call 42; (refine (refuse_yes _ _).mono ?_; rintro e w2 ⟨rfl, rfl⟩; refine panic_out w1 ?_ ?_; (exact panic_end rfl (step_bad HK1.out.drew HQ.out (by decide)))))
      all_goals exact trivial
    have HMANY := Lib.hid hmany
    have hmf : ((m : Int) == r.many) = false := by simpa using hmany
    have hmd : decide ((m : Int) = r.many) = false := by simpa using hmany
    clear hmany
    go_wp2_with fail
    go_cut [] (fun wx => wx = w1.drew)
    case first =>
      go_region_law (go_simp; go_at_call 42; refine (refuse_go _ _).mono ?_; rintro e _ ⟨rfl, rfl⟩)
      all_goals go_wp2_with fail
      all_goals go_meet
      all_goals rfl
    case rest =>
      subst hcut
      have hbd : Below w1.heap.size w1 w1.drew := (Below.refl _ w1).drew
      have hM2 := HM1.out.on hbd
      have k2 := HK1.out.drew
      have hfb2 := HFB.out.drew
      have lf2 : fb < w1.drew.heap.size := lf
      have lr2 : rb < w1.drew.heap.size := lr1
      have HM2 := Lib.hid hM2
      have HK2 := Lib.hid k2
      have HFB2 := Lib.hid hfb2
      obtain ⟨c0, c1', -, -, -, -, -, -, -⟩ := hM2.k.nine
      rw [HWS.out, fig_cons, fig_cons] at hfb2
      have d0' := hfb2.cell 0
      have d1' := hfb2.cell 1
      have d2' := hfb2.cell 2
      have d3' := hfb2.cell 3
      simp only [List.getElem?_toArray, List.getElem?_cons_zero, List.getElem?_cons_succ] at d0' d1' d2' d3'
      have hn64 := HO.out.n64
      have HC1 := Lib.hid c1'
      clear hM2 k2 hfb2 hbd c0' c1 c2 c6 HM1 HK1 HFB hmf hmd lr1 lf c0
      generalize w1.drew = w2 at *
      have HBD := Lib.hid ((Below.refl w2.heap.size w2).drew)
      have hal : (numL a).2 ≠ 10 := HOK.out a (by rw [HWS.out]; simp)
      have hbl : (numL b).2 ≠ 10 := HOK.out b (by rw [HWS.out]; simp)
      have YES0 := Lib.hid (fun (h : decide ((numL a).2 = 11) = false ∧ 1 ≤ (numL a).1 ∧ (numL a).1 ≤ r.sup.length) W (hb : Below w2.heap.size w2 W) => place_yes (placeW a) h (place_lt (in_of h hal)).2 hn64 W ((hb.cell (p := ⟨rb, 1, none⟩) lr2).trans HC1.out) (Nat.lt_of_lt_of_le lr2 hb.size))
      have YES1 := Lib.hid (fun (h : decide ((numL b).2 = 11) = false ∧ 1 ≤ (numL b).1 ∧ (numL b).1 ≤ r.sup.length) W (hb : Below w2.heap.size w2 W) => place_yes (placeW b) h (place_lt (in_of h hbl)).2 hn64 W ((hb.cell (p := ⟨rb, 1, none⟩) lr2).trans HC1.out) (Nat.lt_of_lt_of_le lr2 hb.size))
      have NOT0 := Lib.hid (fun (h : ¬ (decide ((numL a).2 = 11) = false ∧ 1 ≤ (numL a).1 ∧ (numL a).1 ≤ r.sup.length)) W (hb : Below w2.heap.size w2 W) => place_not h hn64 W ((hb.cell (p := ⟨rb, 1, none⟩) lr2).trans HC1.out) (Nat.lt_of_lt_of_le lr2 hb.size))
      have NOT1 := Lib.hid (fun (h : ¬ (decide ((numL b).2 = 11) = false ∧ 1 ≤ (numL b).1 ∧ (numL b).1 ≤ r.sup.length)) W (hb : Below w2.heap.size w2 W) => place_not h hn64 W ((hb.cell (p := ⟨rb, 1, none⟩) lr2).trans HC1.out) (Nat.lt_of_lt_of_le lr2 hb.size))
      have HOFF : Hid (¬ (inW a 1 r.sup.length ∧ inW b 1 r.sup.length) → q.1 = 11) := Lib.hid fun hi => by
        have he : q = arcE r (x :: ws) := HE
        have h1 := HNL.out
        have h2 := HOK.out
        rw [HWS.out] at he h1 h2
        rw [he]; exact arc_off h1 h2 (by rw [← HML.out]; exact HMANY.out) hi
      clear hal hbl c1'
      by_cases hiA : decide ((numL a).2 = 11) = false ∧ 1 ≤ (numL a).1 ∧ (numL a).1 ≤ r.sup.length
      · by_cases hiB : decide ((numL b).2 = 11) = false ∧ 1 ≤ (numL b).1 ∧ (numL b).1 ≤ r.sup.length
        · have OK0 := Lib.hid (YES0.out hiA)
          have OK1 := Lib.hid (YES1.out hiB)
          have HIN := Lib.hid (And.intro (in_of hiA (HOK.out a (by rw [HWS.out]; simp))) (in_of hiB (HOK.out b (by rw [HWS.out]; simp))))
          clear hiA hiB YES0 YES1 NOT0 NOT1 HOFF
          obtain ⟨Na, hNa⟩ : ∃ Na, Na = placeW a := ⟨_, rfl⟩
          obtain ⟨Nb, hNb⟩ : ∃ Nb, Nb = placeW b := ⟨_, rfl⟩
          rw [← hNa] at OK0
          rw [← hNb] at OK1
          have HNA := Lib.hid (And.intro hNa hNb)
          clear hNa hNb
          go_upto_region 6 with fail
          go_cut [5] (fun s5 wx => ArcMid w2 ⟨Na, Nb, 0, 0, 0⟩ s5 wx)
          case first =>
            go_region_law (first
              | (go_simp; go_at_call 76; ((with_reducible refine (OK0.out _ (by with_unfolding_all first | exact HBD.out | exact HBD.out.alloc (Nat.le_refl _) _)).mono ?_); rintro e w3 ⟨rfl, hb3⟩; have hbX : Below w2.heap.size w2 w3 := (by with_unfolding_all first | exact HBD.out.trans hb3 | exact (HBD.out.alloc (Nat.le_refl _) _).trans (hb3.mono (HBD.out.alloc (Nat.le_refl _) _).size)); have k2 := (hbX.cell (p := ⟨fb, 2, none⟩) lf2).trans d2'; have k3 := (hbX.cell (p := ⟨fb, 3, none⟩) lf2).trans d3'; have l3 := Nat.lt_of_lt_of_le lf2 hbX.size; (try have zz := box5 hb3 (ab := w2.heap.size) (by with_unfolding_all exact Blk.new w2 42 #[.int .i64 0, .int .i64 0, .int .i64 0, .int .i64 0, .int .i64 0])); (try have zb := blk_on hb3 (ab := w2.heap.size) (cs := #[.int .i64 0, .int .i64 0, .int .i64 0, .int .i64 0, .int .i64 0]) (by with_unfolding_all exact Blk.new w2 42 #[.int .i64 0, .int .i64 0, .int .i64 0, .int .i64 0, .int .i64 0]))))
              | (go_simp; go_at_call 76; ((with_reducible refine (OK1.out _ (by with_unfolding_all first | exact HBD.out | exact HBD.out.alloc (Nat.le_refl _) _)).mono ?_); rintro e w3 ⟨rfl, hb3⟩; have hbX : Below w2.heap.size w2 w3 := (by with_unfolding_all first | exact HBD.out.trans hb3 | exact (HBD.out.alloc (Nat.le_refl _) _).trans (hb3.mono (HBD.out.alloc (Nat.le_refl _) _).size)); have k0 := (hbX.cell (p := ⟨fb, 0, none⟩) lf2).trans d0'; have k1 := (hbX.cell (p := ⟨fb, 1, none⟩) lf2).trans d1'; have l3 := Nat.lt_of_lt_of_le lf2 hbX.size; (try have zz := box5 hb3 (ab := w2.heap.size) (by with_unfolding_all exact Blk.new w2 42 #[.int .i64 0, .int .i64 0, .int .i64 0, .int .i64 0, .int .i64 0])); (try have zb := blk_on hb3 (ab := w2.heap.size) (cs := #[.int .i64 0, .int .i64 0, .int .i64 0, .int .i64 0, .int .i64 0]) (by with_unfolding_all exact Blk.new w2 42 #[.int .i64 0, .int .i64 0, .int .i64 0, .int .i64 0, .int .i64 0]))))
              | (go_simp; go_at_call 76; ((with_reducible refine (OK0.out _ (by with_unfolding_all first | exact hbX | exact hbX.alloc hbX.size _)).mono ?_); rintro e w4 ⟨rfl, hb4⟩; have hbY : Below w2.heap.size w2 w4 := (by with_unfolding_all first | exact hbX.trans (hb4.mono hbX.size) | exact (hbX.alloc hbX.size _).trans (hb4.mono (hbX.alloc hbX.size _).size)); (try have zz1 := box5_on hb4 zz); (try have zz2 := box5 hb4 (ab := w3.heap.size) (by with_unfolding_all exact Blk.new w3 42 #[.int .i64 0, .int .i64 0, .int .i64 0, .int .i64 0, .int .i64 0])); (try have zb1 := blk_on hb4 zb); (try have zb2 := blk_on hb4 (ab := w3.heap.size) (cs := #[.int .i64 0, .int .i64 0, .int .i64 0, .int .i64 0, .int .i64 0]) (by with_unfolding_all exact Blk.new w3 42 #[.int .i64 0, .int .i64 0, .int .i64 0, .int .i64 0, .int .i64 0]))))
              | (go_simp; go_at_call 76; ((with_reducible refine (OK1.out _ (by with_unfolding_all first | exact hbX | exact hbX.alloc hbX.size _)).mono ?_); rintro e w4 ⟨rfl, hb4⟩; have hbY : Below w2.heap.size w2 w4 := (by with_unfolding_all first | exact hbX.trans (hb4.mono hbX.size) | exact (hbX.alloc hbX.size _).trans (hb4.mono (hbX.alloc hbX.size _).size)); (try have zz1 := box5_on hb4 zz); (try have zz2 := box5 hb4 (ab := w3.heap.size) (by with_unfolding_all exact Blk.new w3 42 #[.int .i64 0, .int .i64 0, .int .i64 0, .int .i64 0, .int .i64 0])); (try have zb1 := blk_on hb4 zb); (try have zb2 := blk_on hb4 (ab := w3.heap.size) (cs := #[.int .i64 0, .int .i64 0, .int .i64 0, .int .i64 0, .int .i64 0]) (by with_unfolding_all exact Blk.new w3 42 #[.int .i64 0, .int .i64 0, .int .i64 0, .int .i64 0, .int .i64 0])))))
            all_goals go_wp2_with fail
            all_goals go_meet
            all_goals first
              | with_reducible exact arc_set zb2 hbY hbX.size
              | with_reducible exact arc_set zb1 hbY (Nat.le_refl _)
              | with_reducible exact arc_new hbY
          case rest =>
            obtain ⟨ab, rfl, hab, hbw, hle⟩ := hcut
            have hM3 := HM2.out.on hbw
            obtain ⟨c0, -, -, -, -, -, -, -, -⟩ := hM3.k.nine
            have hfb3 := HFB2.out.below hbw lf2
            have lr3 := hM3.k.lt
            have lf3 := hfb3.lt
            have HX := Lib.hid (show ArcMid w2 ⟨Na, Nb, 0, 0, 0⟩ (.pointer (some ⟨ab, 0, none⟩)) _ from ⟨ab, rfl, hab, hbw, hle⟩)
            have HFB3 := Lib.hid hfb3
            have HLE := Lib.hid hle
            have lab := hab.lt
            have p2 := hab.cell 2
            have p3 := hab.cell 3
            have p4 := hab.cell 4
            simp only [List.getElem?_toArray, List.getElem?_cons_zero, List.getElem?_cons_succ] at p2 p3 p4
            have g2 := hab.frozen 2
            have g3 := hab.frozen 3
            have g4 := hab.frozen 4
            have KA := Lib.hid (show (numL a).1 - 1 = Na from by rw [HNA.out.1]; exact (place_lt HIN.out.1).2)
            have KB := Lib.hid (show (numL b).1 - 1 = Nb from by rw [HNA.out.2]; exact (place_lt HIN.out.2).2)
            clear hM3 hfb3 hbw hab hle d0' d1' d2' d3' HBD OK0 OK1
            go_upto_if 56 with fail
            go_cut [] from 56 to 78 (fun wx => ArcEnd w2 ab q r wx)
            case first =>
              cases hm : r.max
              · have hn6 := HMX.out.2 hm
                obtain ⟨l, c, d, hts⟩ := len3 (l := ts) (by have h1 := HLN.out; rw [HWS.out] at h1; simp at h1; omega)
                have hL5 : L = 5 := by rw [HL.out, HWS.out, hts]; rfl
                have hI3 : (3 : Int) < (L : Int) := by omega
                have hI4 : (4 : Int) < (L : Int) := by omega
                have hL3 : 3 < L := by omega
                have hL4 : 4 < L := by omega
                have hok5 : ∀ y ∈ [a, b, l, c, d], (numL y).2 ≠ 10 := by have h1 := HOK.out; rw [HWS.out, hts] at h1; exact h1
                have he : q = arcE r (x :: ws) := HE
                rw [HWS.out, hts] at he
                unfold arcE at he
                rw [if_neg (by simp [hm]), arcMin_form r x a b l c d hok5, if_neg (by rw [← HML.out]; exact HMANY.out)] at he
                have HE2 : QIs q _ := he
                have hf := HFB3.out
                rw [HWS.out, hts, fig_cons, fig_cons, fig_cons, fig_cons, fig_cons] at hf
                have d4 := hf.cell 4
                have d5 := hf.cell 5
                have d6 := hf.cell 6
                have d7 := hf.cell 7
                have d8 := hf.cell 8
                have d9 := hf.cell 9
                simp only [List.getElem?_toArray, List.getElem?_cons_zero, List.getElem?_cons_succ] at d4 d5 d6 d7 d8 d9
                have HOK5 := Lib.hid hok5
                clear hn6 hL5 hok5 he hf
                go_wp2_with fail
                refine (within_pan _ _ _ _ _).mono ?_
                rintro e w3 ⟨(⟨hi, rfl⟩ | ⟨hi, rfl⟩), hb3⟩
                · have he : q = _ := HE2
                  rw [if_pos (.inr (.inr (.inl (not_in hi))))] at he
                  exact panic_end rfl (step_bad ((HK2.out.trans (Kept.of_below HX.out.open_.2.1 _)).trans (Kept.of_below hb3 _)) (by rw [he]) (by decide))
                have hil := in_of hi (HOK5.out l (by simp))
                have HIL := Lib.hid hil
                have hX3 := HX.out.on hb3
                have p2' := (hb3.cell (p := ⟨ab, 2, none⟩) lab).trans p2
                have g2' := (hb3.frozen (p := ⟨ab, 2, none⟩) lab).trans g2
                have lab3 := Nat.lt_of_lt_of_le lab hb3.size
                have lfb3 := Nat.lt_of_lt_of_le lf3 hb3.size
                have hX4 := hX3.set (z := ⟨Na, Nb, (numL l).1, 0, 0⟩) 2 (numL l).1 rfl
                have hne : ¬ fb = ab := by have := HLE.out; omega
                have e6 := (hb3.cell (p := ⟨fb, 6, none⟩) lf3).trans d6
                have e7 := (hb3.cell (p := ⟨fb, 7, none⟩) lf3).trans d7
                have e8 := (hb3.cell (p := ⟨fb, 8, none⟩) lf3).trans d8
                have e9 := (hb3.cell (p := ⟨fb, 9, none⟩) lf3).trans d9
                have e6' := (World.cell?_setCell_other w3 ⟨ab, 2, none⟩ ⟨fb, 6, none⟩ (.int .i64 (numL l).1) (by intro e; have := congrArg Addr.block e; simp only at this; omega)).trans e6
                have e7' := (World.cell?_setCell_other w3 ⟨ab, 2, none⟩ ⟨fb, 7, none⟩ (.int .i64 (numL l).1) (by intro e; have := congrArg Addr.block e; simp only at this; omega)).trans e7
                have e8' := (World.cell?_setCell_other w3 ⟨ab, 2, none⟩ ⟨fb, 8, none⟩ (.int .i64 (numL l).1) (by intro e; have := congrArg Addr.block e; simp only at this; omega)).trans e8
                have e9' := (World.cell?_setCell_other w3 ⟨ab, 2, none⟩ ⟨fb, 9, none⟩ (.int .i64 (numL l).1) (by intro e; have := congrArg Addr.block e; simp only at this; omega)).trans e9
                have lf4 : fb < (w3.setCell ⟨ab, 2, none⟩ (.int .i64 (numL l).1)).heap.size := by simpa [World.setCell] using lfb3
                have hA4 := hX4.open_.1
                have lab4 := hA4.lt
                have o2 := hA4.cell 2
                have o3 := hA4.cell 3
                simp only [List.getElem?_toArray, List.getElem?_cons_zero, List.getElem?_cons_succ] at o2 o3
                have q3 := hA4.frozen 3
                have HX4 := Lib.hid (And.intro hX4 (And.intro e8' e9'))
                clear hi hil hX3 p2 p3 p4 g2 g3 g4 d4 d5 d6 d7 d8 d9 e6 e7 e8 e9 hX4 hA4 e8' e9'
                go_wp2_with fail
                generalize w3.setCell ⟨ab, 2, none⟩ (.int .i64 (numL l).1) = w4 at *
                by_cases hbc : decide ((numL c).2 = 11) = false ∧ ((numL c).1 = -1 ∨ ((numL l).1 ≤ (numL c).1 ∧ (numL c).1 ≤ 2147483648))
                · obtain ⟨V, hV⟩ : ∃ V, V = bndV c := ⟨_, rfl⟩
                  have BY := Lib.hid (fun W => bound_yes (V := V) hbc (by rw [hV]; rfl) W)
                  have HBC := Lib.hid (bnd_of hbc (HOK5.out c (by simp)))
                  have HV := Lib.hid hV
                  clear hbc hV
                  go_cut [] from 67 to 73 (fun wx => ArcMid w2 ⟨Na, Nb, (numL l).1, V, 0⟩ (.pointer (some ⟨ab, 0, none⟩)) wx ∧ wx.cell? ⟨fb, 8, none⟩ = some (.int .i64 (numL d).1) ∧ wx.cell? ⟨fb, 9, none⟩ = some (.bool (decide ((numL d).2 = 11))) ∧ fb < wx.heap.size)
                  case first =>
                    go_region_law (go_simp; go_at_call 77; refine (BY.out _).mono ?_; rintro e w5 ⟨rfl, hb5⟩; have r3 := (hb5.cell (p := ⟨ab, 3, none⟩) lab4).trans o3; have s3 := (hb5.frozen (p := ⟨ab, 3, none⟩) lab4).trans q3; have lab5 := Nat.lt_of_lt_of_le lab4 hb5.size)
                    all_goals go_wp2_with fail
                    all_goals go_meet
                    all_goals
                      have hbd5 : Below w4.heap.size w4 w5 := (Below.refl _ w4).drew.trans hb5
                      refine ⟨(HX4.out.1.on hbd5).set (z := ⟨Na, Nb, (numL l).1, V, 0⟩) 3 V rfl, ?_, ?_, ?_⟩
                      · exact (World.cell?_setCell_other w5 ⟨ab, 3, none⟩ ⟨fb, 8, none⟩ _ (by intro e; have := congrArg Addr.block e; simp only at this; omega)).trans ((hbd5.cell (p := ⟨fb, 8, none⟩) lf4).trans HX4.out.2.1)
                      · exact (World.cell?_setCell_other w5 ⟨ab, 3, none⟩ ⟨fb, 9, none⟩ _ (by intro e; have := congrArg Addr.block e; simp only at this; omega)).trans ((hbd5.cell (p := ⟨fb, 9, none⟩) lf4).trans HX4.out.2.2)
                      · simpa [World.setCell] using Nat.lt_of_lt_of_le lf4 hbd5.size
                  case rest =>
                    obtain ⟨hX5, f8, f9, lf5⟩ := hcut
                    have hA5 := hX5.open_.1
                    have lab5 := hA5.lt
                    have r4 := hA5.cell 4
                    simp only [List.getElem?_toArray, List.getElem?_cons_zero, List.getElem?_cons_succ] at r4
                    have s4 := hA5.frozen 4
                    have HX5 := Lib.hid hX5
                    clear hX5 hA5 o2 o3 q3 e6' e7'
                    go_wp2_with fail
                    refine (within_pan _ _ _ _ _).mono ?_
                    rintro e w6 ⟨(⟨hi, rfl⟩ | ⟨hi, rfl⟩), hb6⟩
                    · have he : q = _ := HE2
                      rw [if_pos (.inr (.inr (.inr (.inr (not_in hi)))))] at he
                      exact panic_end rfl (step_bad ((HK2.out.trans (Kept.of_below HX5.out.open_.2.1 _)).trans (Kept.of_below hb6 _)) (by rw [he]) (by decide))
                    have hid := in_of hi (HOK5.out d (by simp))
                    have r4' := (hb6.cell (p := ⟨ab, 4, none⟩) lab5).trans r4
                    have s4' := (hb6.frozen (p := ⟨ab, 4, none⟩) lab5).trans s4
                    have lab6 := Nat.lt_of_lt_of_le lab5 hb6.size
                    have hX6 := (HX5.out.on hb6).set (z := ⟨Na, Nb, (numL l).1, V, (numL d).1⟩) 4 (numL d).1 rfl
                    have HX6 := Lib.hid (And.intro hX6 hid)
                    clear hi hid hX6 r4 s4
                    go_wp2_with fail
                    go_meet
                    refine ⟨_, HX6.out.1, ?_⟩
                    have he : q = _ := HE2
                    rw [if_neg (by simp only [not_or, Classical.not_not]; exact ⟨HIN.out.1, HIN.out.2, HIL.out, HBC.out, HX6.out.2⟩), KA.out, KB.out, ← HV.out] at he
                    exact he
                · have BN := Lib.hid (fun W => bound_not hbc W)
                  have hq11 : q.1 = 11 := by
                    have he : q = _ := HE2
                    rw [if_pos (.inr (.inr (.inr (.inl (not_bnd hbc)))))] at he
                    rw [he]
                  have HQ := Lib.hid hq11
                  clear hbc hq11
                  go_region_law (go_simp; go_at_call 77; (refine (BN.out _).mono ?_; rintro e w5 ⟨rfl, hb5⟩; refine panic_out w4 ?_ ?_; (exact panic_end rfl (step_bad ((HK2.out.trans (Kept.of_below HX4.out.1.open_.2.1 _)).trans (Kept.of_below ((Below.refl _ w4).drew.trans hb5) _)) HQ.out (by decide)))))
                  all_goals exact trivial
              · have hn4 := HMX.out.1 hm
                obtain ⟨c, hts⟩ : ∃ c, ts = [c] := List.length_eq_one_iff.1 (by have h1 := HLN.out; rw [HWS.out] at h1; simp at h1; omega)
                have hok3 : ∀ y ∈ [a, b, c], (numL y).2 ≠ 10 := by have h1 := HOK.out; rw [HWS.out, hts] at h1; exact h1
                have he : q = arcE r (x :: ws) := HE
                rw [HWS.out, hts] at he
                unfold arcE at he
                rw [if_pos hm, arcMax_form r x a b c hok3, if_neg (by rw [← HML.out]; exact HMANY.out)] at he
                have HE2 : QIs q _ := he
                have hf := HFB3.out
                rw [HWS.out, hts, fig_cons, fig_cons, fig_cons] at hf
                have d4 := hf.cell 4
                have d5 := hf.cell 5
                simp only [List.getElem?_toArray, List.getElem?_cons_zero, List.getElem?_cons_succ] at d4 d5
                have HOK3 := Lib.hid hok3
                clear hn4 hok3 he hf
                by_cases hbc : decide ((numL c).2 = 11) = false ∧ ((numL c).1 = -1 ∨ ((0 : Int) ≤ (numL c).1 ∧ (numL c).1 ≤ 2147483648))
                · obtain ⟨V, hV⟩ : ∃ V, V = bndV c := ⟨_, rfl⟩
                  have BY := Lib.hid (fun W => bound_yes (V := V) hbc (by rw [hV]; rfl) W)
                  have HBC := Lib.hid (bnd_of hbc (HOK3.out c (by simp)))
                  have HV := Lib.hid hV
                  clear hbc hV
                  go_wp2_with fail
                  refine (BY.out _).mono ?_
                  rintro e w5 ⟨rfl, hb5⟩
                  have r3 := (hb5.cell (p := ⟨ab, 3, none⟩) lab).trans p3
                  have s3 := (hb5.frozen (p := ⟨ab, 3, none⟩) lab).trans g3
                  have lab5 := Nat.lt_of_lt_of_le lab hb5.size
                  have hX6 := (HX.out.on hb5).set (z := ⟨Na, Nb, 0, V, 0⟩) 3 V rfl
                  have HX6 := Lib.hid hX6
                  clear hX6 p3 g3
                  go_wp2_with fail
                  go_meet
                  refine ⟨_, HX6.out, ?_⟩
                  have he : q = _ := HE2
                  rw [if_neg (by simp only [not_or, Classical.not_not]; exact ⟨HIN.out.1, HIN.out.2, HBC.out⟩), KA.out, KB.out, ← HV.out] at he
                  exact he
                · have BN := Lib.hid (fun W => bound_not hbc W)
                  have hq11 : q.1 = 11 := by
                    have he : q = _ := HE2
                    rw [if_pos (.inr (.inr (not_bnd hbc)))] at he
                    rw [he]
                  have HQ := Lib.hid hq11
                  clear hbc hq11
                  go_wp2_with fail
                  refine (BN.out _).mono ?_
                  rintro e w5 ⟨rfl, hb5⟩
                  exact panic_end rfl (step_bad ((HK2.out.trans (Kept.of_below HX.out.open_.2.1 _)).trans (Kept.of_below hb5 _)) HQ.out (by decide))
            case rest =>
              obtain ⟨y, hmid, hqe⟩ := hcut
              obtain ⟨hab4, hbw4, hle4⟩ := hmid.open_
              have hM4 := HM2.out.on hbw4
              have k4 := HK2.out.trans (Kept.of_below hbw4 (Rs B rb))
              obtain ⟨-, -, c2, -, -, -, -, -, -⟩ := hM4.k.nine
              have lr4 := hM4.k.lt
              have o0 := hab4.cell 0
              have o1 := hab4.cell 1
              have o2 := hab4.cell 2
              have o3 := hab4.cell 3
              have o4 := hab4.cell 4
              simp only [List.getElem?_toArray, List.getElem?_cons_zero, List.getElem?_cons_succ] at o0 o1 o2 o3 o4
              have lab4 := hab4.lt
              have hbd4 : ∀ o, Below wc.heap.size wc (wc.drew.alloc o) := fun o => (Below.refl _ wc).drew.alloc (Nat.le_refl _) o
              have HBD4 := Lib.hid hbd4
              have HM4 := Lib.hid hM4
              have HK4 := Lib.hid k4
              have HQE := Lib.hid (show QIs q _ from hqe)
              have hszB : B ≤ wc.heap.size := Nat.le_trans hB k4.size
              have hm256 := HMN.out
              have hinfo : (Tryz.prog.info? 42).map (fun i => (i.zero, i.size, i.bytes)) = some (some (.agg #[.int .i64 0, .int .i64 0, .int .i64 0, .int .i64 0, .int .i64 0]), 5, 40) := by kernel_rfl
              obtain ⟨i0, hi, hz0, hz1, hz2⟩ := info_parts hinfo
              clear hinfo hmid hqe hab4 hbw4 hle4 hM4 k4 hbd4 c0 p2 p3 p4 g2 g3 g4 lr3 lf3 lab
              go_wp2_with fail
              go_region_law
                (refine step_append_any _ (by rfl) (.tmp 85) (.tmp 87) 27 (by rfl) B 42 i0 (.agg #[.int .i64 0, .int .i64 0, .int .i64 0, .int .i64 0, .int .i64 0]) 5 40 Tryz.underlying27 hi hz0 hz1 hz2 rfl (by decide) (.slice A m cap) m (arcCells r.arcs) (by rfl) ((own_below HM4.out.a (Below.refl _ _).drew).alloc _) (wc.heap.size + 1) (some ⟨wc.heap.size, 0, none⟩) 1 1 [.int .i64 y.f, .int .i64 y.t, .int .i64 y.lo, .int .i64 y.cap, .int .i64 y.cost] (by rfl) (readsN wc.drew 42 [.int .i64 y.f, .int .i64 y.t, .int .i64 y.lo, .int .i64 y.cap, .int .i64 y.cost] 1 5 rfl) (by simp [Value.oneCell']) (by unfold maxLen; omega) (by omega) (by simp; omega) ?_; intro v' w5 hown5 hgrow5 hat5; obtain ⟨A5, c5, rfl⟩ := own_form hown5; have hB5 := (HM4.out.k.drew.alloc (.cells #[.int .i64 y.f, .int .i64 y.t, .int .i64 y.lo, .int .i64 y.cap, .int .i64 y.cost] 42)).grown hgrow5 (fun e => by have := (HM4.out.a.lt _ e.symm).1; omega); have r5 := (hB5.cell 2).trans (show _ = some (Value.slice A m cap) from rfl); have f5 := hB5.frozen 2; have l5 := hB5.lt; have HG5 := Lib.hid (And.intro hown5 hgrow5); clear hown5 hgrow5 hat5 hB5)
              all_goals
                have hall := rd_app (HM4.out.on (HBD4.out (.cells #[.int .i64 y.f, .int .i64 y.t, .int .i64 y.lo, .int .i64 y.cap, .int .i64 y.cost] 42))) HG5.out.2 HG5.out.1 hrB
                have hfin : Step B rb w q (.returned (.tuple #[])) (w5.setCell ⟨rb, 2, none⟩ (.slice A5 (m + 1) c5)) := step_good ((HK4.out.trans (Kept.of_below (HBD4.out _) (Rs B rb))).trans hall.2) HQE.out (.inr ⟨HBG.out, sb, hb, mb, m + 1, c5, clk, A5, ents, hall.1⟩)
                have HFin := Lib.hid hfin
                clear hall hfin
                go_wp2_with fail
                go_end0
                exact HFin.out
        · have OK0 := Lib.hid (YES0.out hiA)
          have NO1 := Lib.hid (NOT1.out hiB)
          have HQ := Lib.hid (HOFF.out fun h => not_in hiB h.2)
          clear hiA hiB YES0 YES1 NOT0 NOT1 HOFF
          go_upto_region 6 with fail
          go_region_law (first
            | (go_simp; go_at_call 76; ((with_reducible refine (OK0.out _ (by with_unfolding_all first | exact HBD.out | exact HBD.out.alloc (Nat.le_refl _) _)).mono ?_); rintro e w3 ⟨rfl, hb3⟩; have hbX : Below w2.heap.size w2 w3 := (by with_unfolding_all first | exact HBD.out.trans hb3 | exact (HBD.out.alloc (Nat.le_refl _) _).trans (hb3.mono (HBD.out.alloc (Nat.le_refl _) _).size)); have k2 := (hbX.cell (p := ⟨fb, 2, none⟩) lf2).trans d2'; have k3 := (hbX.cell (p := ⟨fb, 3, none⟩) lf2).trans d3'; have l3 := Nat.lt_of_lt_of_le lf2 hbX.size; (try have zz := box5 hb3 (ab := w2.heap.size) (by with_unfolding_all exact Blk.new w2 42 #[.int .i64 0, .int .i64 0, .int .i64 0, .int .i64 0, .int .i64 0])); (try have zb := blk_on hb3 (ab := w2.heap.size) (cs := #[.int .i64 0, .int .i64 0, .int .i64 0, .int .i64 0, .int .i64 0]) (by with_unfolding_all exact Blk.new w2 42 #[.int .i64 0, .int .i64 0, .int .i64 0, .int .i64 0, .int .i64 0]))))
            | (go_simp; go_at_call 76; ((with_reducible refine (NO1.out _ (by with_unfolding_all first | exact HBD.out | exact HBD.out.alloc (Nat.le_refl _) _)).mono ?_); rintro e w3 ⟨rfl, hb3⟩; have hbX : Below w2.heap.size w2 w3 := (by with_unfolding_all first | exact HBD.out.trans hb3 | exact (HBD.out.alloc (Nat.le_refl _) _).trans (hb3.mono (HBD.out.alloc (Nat.le_refl _) _).size)); refine panic_out w2 ?_ ?_; (exact panic_end rfl (step_bad (HK2.out.trans (Kept.of_below hbX _)) HQ.out (by decide)))))
            | (go_simp; go_at_call 76; ((with_reducible refine (NO1.out _ (by with_unfolding_all first | exact hbX | exact hbX.alloc hbX.size _)).mono ?_); rintro e w4 ⟨rfl, hb4⟩; have hbY : Below w2.heap.size w2 w4 := (by with_unfolding_all first | exact hbX.trans (hb4.mono hbX.size) | exact (hbX.alloc hbX.size _).trans (hb4.mono (hbX.alloc hbX.size _).size)); refine panic_out w2 ?_ ?_; (exact panic_end rfl (step_bad (HK2.out.trans (Kept.of_below hbY _)) HQ.out (by decide))))))
          all_goals exact trivial
      · have HQ := Lib.hid (HOFF.out fun h => not_in hiA h.1)
        by_cases hiB : decide ((numL b).2 = 11) = false ∧ 1 ≤ (numL b).1 ∧ (numL b).1 ≤ r.sup.length
        · have NO0 := Lib.hid (NOT0.out hiA)
          have OK1 := Lib.hid (YES1.out hiB)
          clear hiA hiB YES0 YES1 NOT0 NOT1 HOFF
          go_upto_region 6 with fail
          go_region_law (first
            | (go_simp; go_at_call 76; ((with_reducible refine (NO0.out _ (by with_unfolding_all first | exact HBD.out | exact HBD.out.alloc (Nat.le_refl _) _)).mono ?_); rintro e w3 ⟨rfl, hb3⟩; have hbX : Below w2.heap.size w2 w3 := (by with_unfolding_all first | exact HBD.out.trans hb3 | exact (HBD.out.alloc (Nat.le_refl _) _).trans (hb3.mono (HBD.out.alloc (Nat.le_refl _) _).size)); refine panic_out w2 ?_ ?_; (exact panic_end rfl (step_bad (HK2.out.trans (Kept.of_below hbX _)) HQ.out (by decide)))))
            | (go_simp; go_at_call 76; ((with_reducible refine (OK1.out _ (by with_unfolding_all first | exact HBD.out | exact HBD.out.alloc (Nat.le_refl _) _)).mono ?_); rintro e w3 ⟨rfl, hb3⟩; have hbX : Below w2.heap.size w2 w3 := (by with_unfolding_all first | exact HBD.out.trans hb3 | exact (HBD.out.alloc (Nat.le_refl _) _).trans (hb3.mono (HBD.out.alloc (Nat.le_refl _) _).size)); have k0 := (hbX.cell (p := ⟨fb, 0, none⟩) lf2).trans d0'; have k1 := (hbX.cell (p := ⟨fb, 1, none⟩) lf2).trans d1'; have l3 := Nat.lt_of_lt_of_le lf2 hbX.size; (try have zz := box5 hb3 (ab := w2.heap.size) (by with_unfolding_all exact Blk.new w2 42 #[.int .i64 0, .int .i64 0, .int .i64 0, .int .i64 0, .int .i64 0])); (try have zb := blk_on hb3 (ab := w2.heap.size) (cs := #[.int .i64 0, .int .i64 0, .int .i64 0, .int .i64 0, .int .i64 0]) (by with_unfolding_all exact Blk.new w2 42 #[.int .i64 0, .int .i64 0, .int .i64 0, .int .i64 0, .int .i64 0]))))
            | (go_simp; go_at_call 76; ((with_reducible refine (NO0.out _ (by with_unfolding_all first | exact hbX | exact hbX.alloc hbX.size _)).mono ?_); rintro e w4 ⟨rfl, hb4⟩; have hbY : Below w2.heap.size w2 w4 := (by with_unfolding_all first | exact hbX.trans (hb4.mono hbX.size) | exact (hbX.alloc hbX.size _).trans (hb4.mono (hbX.alloc hbX.size _).size)); refine panic_out w2 ?_ ?_; (exact panic_end rfl (step_bad (HK2.out.trans (Kept.of_below hbY _)) HQ.out (by decide))))))
          all_goals exact trivial
        · have NO0 := Lib.hid (NOT0.out hiA)
          have NO1 := Lib.hid (NOT1.out hiB)
          clear hiA hiB YES0 YES1 NOT0 NOT1 HOFF
          go_upto_region 6 with fail
          go_region_law (first
            | (go_simp; go_at_call 76; ((with_reducible refine (NO0.out _ (by with_unfolding_all first | exact HBD.out | exact HBD.out.alloc (Nat.le_refl _) _)).mono ?_); rintro e w3 ⟨rfl, hb3⟩; have hbX : Below w2.heap.size w2 w3 := (by with_unfolding_all first | exact HBD.out.trans hb3 | exact (HBD.out.alloc (Nat.le_refl _) _).trans (hb3.mono (HBD.out.alloc (Nat.le_refl _) _).size)); refine panic_out w2 ?_ ?_; (exact panic_end rfl (step_bad (HK2.out.trans (Kept.of_below hbX _)) HQ.out (by decide)))))
            | (go_simp; go_at_call 76; ((with_reducible refine (NO1.out _ (by with_unfolding_all first | exact HBD.out | exact HBD.out.alloc (Nat.le_refl _) _)).mono ?_); rintro e w3 ⟨rfl, hb3⟩; have hbX : Below w2.heap.size w2 w3 := (by with_unfolding_all first | exact HBD.out.trans hb3 | exact (HBD.out.alloc (Nat.le_refl _) _).trans (hb3.mono (HBD.out.alloc (Nat.le_refl _) _).size)); refine panic_out w2 ?_ ?_; (exact panic_end rfl (step_bad (HK2.out.trans (Kept.of_below hbX _)) HQ.out (by decide))))))
          all_goals exact trivial
theorem arc_any (B rb n : Nat) (r : RdV) (wb : Nat) (ws : List (List UInt8)) (w : World) (hE : Env w) (hR : RdIn B w rb r) (hO : RdOk r) (hW : Blk w wb 9 (ws.map strV).toArray) (hn : n = ws.length) (hlen : ∀ y ∈ ws, y.length ≤ 60000) (hB : B ≤ w.heap.size) (hrB : rb < B) :
    Calls Tryz.prog 58 #[.pointer (some ⟨rb, 0, none⟩), .slice (some ⟨wb, 0, none⟩) n n] w (Step B rb w (arcQ r ws)) := by
  by_cases hl : r.begun = false ∨ ¬ n = arcN r
  · exact arc_early B rb n r wb ws w hR hn hl
  · rw [not_or, Classical.not_not] at hl
    have h4 : 4 ≤ ws.length := by have := hl.2; unfold arcN at this; split at this <;> omega
    match ws, h4 with
    | x :: a :: b :: ts, _ => exact arc_main B rb n r wb x a b ts w hE (by simpa using hl.1) hR hO hW hlen hB hrB hn hl.2
end Go.Proofs.YtoagphighgejnaaGreatDoor
