/- adj: Out, In. -/
import Derived.Test.YtekajenmkpobgaaP
set_option linter.unusedSimpArgs false
set_option linter.unusedVariables false
namespace Go.Proofs.Ytekajenmkpobgaa
open Go.RowKit Go.Shelf
attribute [local go_sem] Oper.semAt_some
theorem Graph.more {w : World} {B B' g n : Nat} {arcs : List ArcV} (h : Graph w B g n arcs) (hB : B ≤ B') : Graph w B' g n arcs := by
  obtain ⟨h1, h2, A1, A2, A3, n1, c1, n2, c2, n3, c3, list, start, k1, k2, k3, k4, k5⟩ := h
  exact ⟨by omega, h2, A1, A2, A3, n1, c1, n2, c2, n3, c3, list, start, k1, k2.more hB, k3.more hB, k4.more hB, k5⟩

set_option maxRecDepth 100000 in
set_option maxHeartbeats 2000000 in
theorem In_in (n : Nat) (hn : 3 ≤ n) (B g N : Nat) (arcs : List ArcV) (x : Int) (w : World) (hG : Graph w B g N arcs) (hB : B ≤ w.heap.size) :
    CallsIn Fence.wide n Try.prog 27 #[.pointer (some ⟨g, 0, none⟩), .int .i64 x] w fun e W' => ∃ A c, e = .returned (.slice A (pieceOf N arcs x 1).length c) ∧ W'.ownsRow w.heap.size 3 1 (.slice A (pieceOf N arcs x 1).length c) (pieceOf N arcs x 1).length ((intsOf (pieceOf N arcs x 1)).map I) ∧ Below w.heap.size w W' := by
  have h1 : 1 ≤ n := by omega
  have hlen : (pieceOf N arcs x 1).length ≤ 1000000000 := by
    have := hG.small.2
    unfold pieceOf outs ins
    split <;> exact Nat.le_trans (List.length_filter_le _ _) (by simpa using this)
  obtain ⟨i0, hi, hz0, hz1, hz2⟩ := info_parts Try.info3
  refine callsIn_of_wp_marks Try.func27 rfl trivial ?_ rfl
  simp only [Try.ntmps27, List.size_toArray, List.length_cons, List.length_nil, Nat.reduceAdd, Nat.reduceSub, Array.replicate_succ, Array.replicate_zero, List.push_toArray, List.append_toArray, List.nil_append, List.cons_append]
  gi_wp2_with fail
  refine ⟨trivial, (callsIn_wide.2 (piece_any g x 1 _)).mono ?_⟩
  rintro e w' ⟨rfl, rfl⟩
  gi_wp2_with fail
  have bO := Boxed.new w 28 (.slice none 0 0)
  have bG := Boxed.new (w.alloc (.cells #[.slice none 0 0] 28)) 50 (.pointer (some ⟨g, 0, none⟩))
  have bN := Boxed.new ((w.alloc (.cells #[.slice none 0 0] 28)).alloc (.cells #[.pointer (some ⟨g, 0, none⟩)] 50)) 3 (.int .i64 x)
  have bW := Boxed.new (((w.alloc (.cells #[.slice none 0 0] 28)).alloc (.cells #[.pointer (some ⟨g, 0, none⟩)] 50)).alloc (.cells #[.int .i64 x] 3)) 3 (.int .i64 1)
  simp only [World.size_alloc] at bG bN bW
  have hB0 : Below w.heap.size w ((((w.alloc (.cells #[.slice none 0 0] 28)).alloc (.cells #[.pointer (some ⟨g, 0, none⟩)] 50)).alloc (.cells #[.int .i64 x] 3)).alloc (.cells #[.int .i64 1] 3)) := ((((Below.refl _ w).alloc (Nat.le_refl _) _).alloc (by simp) _).alloc (by simp; omega) _).alloc (by simp; omega) _
  refine wpIn_rangeFunc_ownG rfl h1 (gf := 61) (lb := #[.pointer (some ⟨w.heap.size + 1, 0, none⟩), .pointer (some ⟨w.heap.size + 1 + 1, 0, none⟩), .pointer (some ⟨w.heap.size + 1 + 1 + 1, 0, none⟩)]) rfl trivial (enters_of Try.func61 (by kernel_rfl) rfl)
    (piece_stops (n - 1) (by omega) (w.heap.size + 1) (w.heap.size + 1 + 1) (w.heap.size + 1 + 1 + 1) w.heap.size g N 1 x arcs (by omega) _ (by simp) (by simp) (by simp) (by simp; omega) ((bG.alloc _).alloc _).cell (bN.alloc _).cell bW.cell ((hG.more hB).keep hB0)) belowK_t (belowK_b (by simp; omega)) (Below.refl _ _) (fun _ => rfl)
    (fun pre W => (∃ v, Boxed W w.heap.size 28 v ∧ W.ownsRow w.heap.size 3 1 v pre.length (pre.map I) ∧ True) ∧ Below w.heap.size w W)
    (fun _ _ _ => False)
    (OwnFrom.and (Own.from (holdsRow_own w.heap.size w.heap.size 28 3 1 (fun pre : List Int => pre.length) (fun pre : List Int => pre.map I) (fun _ _ => True)) _) (ownFrom_below (Nat.le_refl _) (by simp; omega)))
    (fun _ _ _ _ _ hs _ _ => hs)
    ⟨⟨_, ((bO.alloc _).alloc _).alloc _, World.ownsRow_nil _ _ _ _, trivial⟩, hB0⟩
    (fun y => { tmps := #[.pointer (some ⟨g, 0, none⟩), .int .i64 x, undef, undef, .slice none 0 0, .pointer (some ⟨w.heap.size, 0, none⟩), .int .i64 y, .pointer (some ⟨g, 0, none⟩), .int .i64 x, .func (.func 61) #[] #[.pointer (some ⟨w.heap.size + 1, 0, none⟩), .pointer (some ⟨w.heap.size + 1 + 1, 0, none⟩), .pointer (some ⟨w.heap.size + 1 + 1 + 1, 0, none⟩)], .int .i64 y, undef, undef, undef, undef, undef], defers := [] }) ?assign ?body ?done ?stop
  case assign =>
    intro l y W K hK
    gi_wp2
    exact hK
  case body =>
    rintro l pre y W ⟨⟨v, hv, hrow, -⟩, hB⟩ hlt
    have hc := hv.cell
    gi_wp2_with (gi_at_builtin; refine wpListIn_append_own _ rfl _ _ 28 rfl w.heap.size 3 i0 (.int .i64 0) 1 8 Try.underlying28 hi hz0 hz1 hz2 rfl (by decide) _ _ _ rfl (hrow.alloc _) ⟨W.heap.size, 0, none⟩ 1 1 [.int .i64 y] rfl rfl (cell_one_new _ _ _) (by simp [Value.oneCell']) (by unfold maxLen; omega) (by omega) (by have := hB.size; simp; omega) ?_; intro v' w1 hown' hgrow _; obtain ⟨g', cap', rfl⟩ := ownsRow_succ hown'; obtain ⟨hv1, hv2, hr2, hk2, hb2⟩ := hv.appended (by decide) hrow hB.size (Nat.le_refl _) hown' hgrow; have hc1 := hv1.cell; have hf1 := hv1.frozen)
    exact ⟨hk2.from _, hb2, ⟨_, hv2, by simpa [I] using hr2, trivial⟩, hB.trans hb2⟩
  case done =>
    rintro D ys W hD rfl ⟨⟨v, hv, hrow, -⟩, hB⟩ hK
    have hc := hv.cell
    gi_wp2
    refine ⟨by simp, .inl ⟨_, _, rfl, run_takeDeferred hK, ?_⟩⟩
    have hl : (intsOf (pieceOf N arcs x 1)).length = (pieceOf N arcs x 1).length := by simp [intsOf]
    rw [hl] at hrow
    obtain ⟨A, c, rfl⟩ := own_form hrow
    exact ⟨_, results_tmp rfl _ _ _, A, c, rfl, ownsRow_putObj hrow _ hK rfl, hB.trans (belowK_b (w := w) (Nat.le_refl _) W D _ _ (by simp at hD; omega) hK rfl rfl)⟩
  case stop =>
    rintro D c pre W _ _ h _
    exact h.elim
theorem In_any (B g N : Nat) (arcs : List ArcV) (x : Int) (w : World) (hG : Graph w B g N arcs) (hB : B ≤ w.heap.size) :
    Calls Try.prog 27 #[.pointer (some ⟨g, 0, none⟩), .int .i64 x] w fun e W' => ∃ A c, e = .returned (.slice A (pieceOf N arcs x 1).length c) ∧ W'.ownsRow w.heap.size 3 1 (.slice A (pieceOf N arcs x 1).length c) (pieceOf N arcs x 1).length ((intsOf (pieceOf N arcs x 1)).map I) ∧ Below w.heap.size w W' :=
  callsIn_wide.1 (In_in 3 (Nat.le_refl _) B g N arcs x w hG hB)

set_option maxRecDepth 100000 in
set_option maxHeartbeats 2000000 in
theorem Out_in (n : Nat) (hn : 3 ≤ n) (B g N : Nat) (arcs : List ArcV) (x : Int) (w : World) (hG : Graph w B g N arcs) (hB : B ≤ w.heap.size) :
    CallsIn Fence.wide n Try.prog 31 #[.pointer (some ⟨g, 0, none⟩), .int .i64 x] w fun e W' => ∃ A c, e = .returned (.slice A (pieceOf N arcs x 0).length c) ∧ W'.ownsRow w.heap.size 3 1 (.slice A (pieceOf N arcs x 0).length c) (pieceOf N arcs x 0).length ((intsOf (pieceOf N arcs x 0)).map I) ∧ Below w.heap.size w W' := by
  have h1 : 1 ≤ n := by omega
  have hlen : (pieceOf N arcs x 0).length ≤ 1000000000 := by
    have := hG.small.2
    unfold pieceOf outs ins
    split <;> exact Nat.le_trans (List.length_filter_le _ _) (by simpa using this)
  obtain ⟨i0, hi, hz0, hz1, hz2⟩ := info_parts Try.info3
  refine callsIn_of_wp_marks Try.func31 rfl trivial ?_ rfl
  simp only [Try.ntmps31, List.size_toArray, List.length_cons, List.length_nil, Nat.reduceAdd, Nat.reduceSub, Array.replicate_succ, Array.replicate_zero, List.push_toArray, List.append_toArray, List.nil_append, List.cons_append]
  gi_wp2_with fail
  refine ⟨trivial, (callsIn_wide.2 (piece_any g x 0 _)).mono ?_⟩
  rintro e w' ⟨rfl, rfl⟩
  gi_wp2_with fail
  have bO := Boxed.new w 28 (.slice none 0 0)
  have bG := Boxed.new (w.alloc (.cells #[.slice none 0 0] 28)) 50 (.pointer (some ⟨g, 0, none⟩))
  have bN := Boxed.new ((w.alloc (.cells #[.slice none 0 0] 28)).alloc (.cells #[.pointer (some ⟨g, 0, none⟩)] 50)) 3 (.int .i64 x)
  have bW := Boxed.new (((w.alloc (.cells #[.slice none 0 0] 28)).alloc (.cells #[.pointer (some ⟨g, 0, none⟩)] 50)).alloc (.cells #[.int .i64 x] 3)) 3 (.int .i64 0)
  simp only [World.size_alloc] at bG bN bW
  have hB0 : Below w.heap.size w ((((w.alloc (.cells #[.slice none 0 0] 28)).alloc (.cells #[.pointer (some ⟨g, 0, none⟩)] 50)).alloc (.cells #[.int .i64 x] 3)).alloc (.cells #[.int .i64 0] 3)) := ((((Below.refl _ w).alloc (Nat.le_refl _) _).alloc (by simp) _).alloc (by simp; omega) _).alloc (by simp; omega) _
  refine wpIn_rangeFunc_ownG rfl h1 (gf := 61) (lb := #[.pointer (some ⟨w.heap.size + 1, 0, none⟩), .pointer (some ⟨w.heap.size + 1 + 1, 0, none⟩), .pointer (some ⟨w.heap.size + 1 + 1 + 1, 0, none⟩)]) rfl trivial (enters_of Try.func61 (by kernel_rfl) rfl)
    (piece_stops (n - 1) (by omega) (w.heap.size + 1) (w.heap.size + 1 + 1) (w.heap.size + 1 + 1 + 1) w.heap.size g N 0 x arcs (by omega) _ (by simp) (by simp) (by simp) (by simp; omega) ((bG.alloc _).alloc _).cell (bN.alloc _).cell bW.cell ((hG.more hB).keep hB0)) belowK_t (belowK_b (by simp; omega)) (Below.refl _ _) (fun _ => rfl)
    (fun pre W => (∃ v, Boxed W w.heap.size 28 v ∧ W.ownsRow w.heap.size 3 1 v pre.length (pre.map I) ∧ True) ∧ Below w.heap.size w W)
    (fun _ _ _ => False)
    (OwnFrom.and (Own.from (holdsRow_own w.heap.size w.heap.size 28 3 1 (fun pre : List Int => pre.length) (fun pre : List Int => pre.map I) (fun _ _ => True)) _) (ownFrom_below (Nat.le_refl _) (by simp; omega)))
    (fun _ _ _ _ _ hs _ _ => hs)
    ⟨⟨_, ((bO.alloc _).alloc _).alloc _, World.ownsRow_nil _ _ _ _, trivial⟩, hB0⟩
    (fun y => { tmps := #[.pointer (some ⟨g, 0, none⟩), .int .i64 x, undef, undef, .slice none 0 0, .pointer (some ⟨w.heap.size, 0, none⟩), .int .i64 y, .pointer (some ⟨g, 0, none⟩), .int .i64 x, .func (.func 61) #[] #[.pointer (some ⟨w.heap.size + 1, 0, none⟩), .pointer (some ⟨w.heap.size + 1 + 1, 0, none⟩), .pointer (some ⟨w.heap.size + 1 + 1 + 1, 0, none⟩)], .int .i64 y, undef, undef, undef, undef, undef], defers := [] }) ?assign ?body ?done ?stop
  case assign =>
    intro l y W K hK
    gi_wp2
    exact hK
  case body =>
    rintro l pre y W ⟨⟨v, hv, hrow, -⟩, hB⟩ hlt
    have hc := hv.cell
    gi_wp2_with (gi_at_builtin; refine wpListIn_append_own _ rfl _ _ 28 rfl w.heap.size 3 i0 (.int .i64 0) 1 8 Try.underlying28 hi hz0 hz1 hz2 rfl (by decide) _ _ _ rfl (hrow.alloc _) ⟨W.heap.size, 0, none⟩ 1 1 [.int .i64 y] rfl rfl (cell_one_new _ _ _) (by simp [Value.oneCell']) (by unfold maxLen; omega) (by omega) (by have := hB.size; simp; omega) ?_; intro v' w1 hown' hgrow _; obtain ⟨g', cap', rfl⟩ := ownsRow_succ hown'; obtain ⟨hv1, hv2, hr2, hk2, hb2⟩ := hv.appended (by decide) hrow hB.size (Nat.le_refl _) hown' hgrow; have hc1 := hv1.cell; have hf1 := hv1.frozen)
    exact ⟨hk2.from _, hb2, ⟨_, hv2, by simpa [I] using hr2, trivial⟩, hB.trans hb2⟩
  case done =>
    rintro D ys W hD rfl ⟨⟨v, hv, hrow, -⟩, hB⟩ hK
    have hc := hv.cell
    gi_wp2
    refine ⟨by simp, .inl ⟨_, _, rfl, run_takeDeferred hK, ?_⟩⟩
    have hl : (intsOf (pieceOf N arcs x 0)).length = (pieceOf N arcs x 0).length := by simp [intsOf]
    rw [hl] at hrow
    obtain ⟨A, c, rfl⟩ := own_form hrow
    exact ⟨_, results_tmp rfl _ _ _, A, c, rfl, ownsRow_putObj hrow _ hK rfl, hB.trans (belowK_b (w := w) (Nat.le_refl _) W D _ _ (by simp at hD; omega) hK rfl rfl)⟩
  case stop =>
    rintro D c pre W _ _ h _
    exact h.elim
theorem Out_any (B g N : Nat) (arcs : List ArcV) (x : Int) (w : World) (hG : Graph w B g N arcs) (hB : B ≤ w.heap.size) :
    Calls Try.prog 31 #[.pointer (some ⟨g, 0, none⟩), .int .i64 x] w fun e W' => ∃ A c, e = .returned (.slice A (pieceOf N arcs x 0).length c) ∧ W'.ownsRow w.heap.size 3 1 (.slice A (pieceOf N arcs x 0).length c) (pieceOf N arcs x 0).length ((intsOf (pieceOf N arcs x 0)).map I) ∧ Below w.heap.size w W' :=
  callsIn_wide.1 (Out_in 3 (Nat.le_refl _) B g N arcs x w hG hB)
end Go.Proofs.Ytekajenmkpobgaa
