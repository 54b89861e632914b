/- known: the example of the chapter. -/
import Derived.Test.YtekajenmkpobgaaO2
import Derived.Test.YtekajenmkpobgaaL2
set_option linter.unusedSimpArgs false
set_option linter.unusedVariables false
namespace Go.Proofs.Ytekajenmkpobgaa
open Go.RowKit Go.Shelf

def k2 : List ArcV := [⟨0, 1, 0, 0, 0⟩, ⟨1, 0, 0, 0, 0⟩]
theorem k2_two {v : Int} (h : hasB 2 v = true) : v = 0 ∨ v = 1 := by simp [hasB] at h; omega
theorem k2_order {told : List Int} (h : Greedy 2 k2 told) : told = [] := by
  cases told with
  | nil => rfl
  | cons x l =>
    exfalso
    have h1 := h 0 x rfl
    have h2 := k2_two h1.1
    rcases h2 with rfl | rfl
    · have := h1.2.2.1 ⟨1, 0, 0, 0, 0⟩ (by simp [k2]) (by decide) rfl
      simp at this
    · have := h1.2.2.1 ⟨0, 1, 0, 0, 0⟩ (by simp [k2]) (by decide) rfl
      simp at this
theorem k2_r01 : Rch (nb0 2 k2) 0 1 := fun P h1 h2 => h2 0 1 h1 (by decide)
theorem k2_r10 : Rch (nb0 2 k2) 1 0 := fun P h1 h2 => h2 1 0 h1 (by decide)
theorem k2_strong {ofl : List Int} (h : LowAll 2 k2 ofl) : ofl = [0, 0] := by
  obtain ⟨h1, h2⟩ := h
  obtain ⟨m0, e0, l0⟩ := h2 0 (by decide)
  obtain ⟨m1, e1, l1⟩ := h2 1 (by decide)
  have z0 : m0 = 0 := by
    have h3 := l0.2.2 0 ⟨Rch.refl _ _, Rch.refl _ _⟩ (by decide)
    have h4 := k2_two l0.2.1
    omega
  have z1 : m1 = 0 := by
    have h3 := l1.2.2 0 ⟨k2_r01, k2_r10⟩ (by decide)
    have h4 := k2_two l1.2.1
    omega
  subst z0 z1
  match ofl, h1 with
  | [a, b], _ =>
    simp at e0 e1
    rw [e0, e1]
theorem k2_back : k2.map (backOf 2 [0, 0]) = [true, true] := by decide

theorem blk_reads {w : World} {g B n : Nat} {t : TypeId} {xs : List Value} (h : Blk w g t xs.toArray) (hg : g < B) (hn : xs.length = n) : Reads w B 1 (some ⟨g, 0, none⟩) n xs :=
  ⟨by rw [hn]; omega, fun _ => ⟨g, 0, rfl, hg, fun j u hu => by rw [Nat.zero_add, h.cell j]; simpa using hu⟩⟩
theorem blk_reads5 {w : World} {g B n : Nat} {t : TypeId} {xs : List ArcV} (h : Blk w g t (arcCells xs).toArray) (hg : g < B) (hn : xs.length = n) : Reads w B 5 (some ⟨g, 0, none⟩) n (arcCells xs) :=
  ⟨by rw [arcCells_length, hn], fun _ => ⟨g, 0, rfl, hg, fun j u hu => by rw [Nat.zero_add, h.cell j]; simpa using hu⟩⟩

set_option maxRecDepth 100000 in
set_option maxHeartbeats 4000000 in
theorem known_any (w : World) : Calls Try.prog 13 #[] w fun e w' => e = .returned (.bool true) ∧ Below w.heap.size w w' := by
  have hmk : ∀ W : World, (Instr.makeSlice 23 (.int .i64 2) (.int .i64 2)).run Try.prog W = .ok (.slice (some ⟨W.heap.size, 0, none⟩) 2 2) (W.alloc (.cells #[.int .i64 0, .int .i64 0] 2)) := makeNums 2 (by omega)
  go_enter Try.func13, Try.ntmps13
  go_wp2_with fail
  have hI : InstR (((w.alloc (.cells #[.int .i64 0, .int .i64 0] 2)).alloc (.cells #[.int .i64 0, .int .i64 1, .int .i64 0, .int .i64 0, .int .i64 0, .int .i64 1, .int .i64 0, .int .i64 0, .int .i64 0, .int .i64 0] 36)).alloc (.cells #[.slice (some ⟨w.heap.size, 0, none⟩) 2 2, .slice (some ⟨w.heap.size + 1, 0, none⟩) 2 2] 26)) (w.heap.size + 1 + 1) (some ⟨w.heap.size, 0, none⟩) (some ⟨w.heap.size + 1, 0, none⟩) 2 2 [0, 0] k2 :=
    ⟨blk_reads (xs := [I 0, I 0]) (((Blk.new w 2 _).alloc _).alloc _) (by omega) rfl, blk_reads5 (xs := k2) ((blk_newN _ _ _ _ (World.size_alloc _ _)).alloc _) (by omega) rfl, by omega, by omega⟩
  have hbx : Blk (((w.alloc (.cells #[.int .i64 0, .int .i64 0] 2)).alloc (.cells #[.int .i64 0, .int .i64 1, .int .i64 0, .int .i64 0, .int .i64 0, .int .i64 1, .int .i64 0, .int .i64 0, .int .i64 0, .int .i64 0] 36)).alloc (.cells #[.slice (some ⟨w.heap.size, 0, none⟩) 2 2, .slice (some ⟨w.heap.size + 1, 0, none⟩) 2 2] 26)) (w.heap.size + 1 + 1) 26 #[.slice (some ⟨w.heap.size, 0, none⟩) 2 2, .slice (some ⟨w.heap.size + 1, 0, none⟩) 2 2] := blk_newN _ _ _ _ ((World.size_alloc _ _).trans (congrArg (· + 1) (World.size_alloc _ _)))
  have hb0 : Below w.heap.size w (((w.alloc (.cells #[.int .i64 0, .int .i64 0] 2)).alloc (.cells #[.int .i64 0, .int .i64 1, .int .i64 0, .int .i64 0, .int .i64 0, .int .i64 1, .int .i64 0, .int .i64 0, .int .i64 0, .int .i64 0] 36)).alloc (.cells #[.slice (some ⟨w.heap.size, 0, none⟩) 2 2, .slice (some ⟨w.heap.size + 1, 0, none⟩) 2 2] 26)) := (((Below.refl _ w).alloc (Nat.le_refl _) _).alloc (by simp) _).alloc (by simp; omega) _
  generalize ((w.alloc (.cells #[.int .i64 0, .int .i64 0] 2)).alloc (.cells #[.int .i64 0, .int .i64 1, .int .i64 0, .int .i64 0, .int .i64 0, .int .i64 1, .int .i64 0, .int .i64 0, .int .i64 0, .int .i64 0] 36)).alloc (.cells #[.slice (some ⟨w.heap.size, 0, none⟩) 2 2, .slice (some ⟨w.heap.size + 1, 0, none⟩) 2 2] 26) = W at *
  have hl1 := hbx.lt
  clear hmk
  refine (Order_any _ _ 2 2 2 2 (w.heap.size + 1 + 1) [0, 0] k2 W hI (by omega)).mono ?_
  rintro e w1 ⟨told, hg, -, hb1, hor⟩
  have ht := k2_order hg
  subst ht
  rcases hor with ⟨-, rfl⟩ | ⟨h1, -⟩
  case inr => simp at h1
  have hI1 := hI.keep (hb1.mono (by omega))
  have hbx1 := hbx.below hb1 hl1
  have q0 := hbx1.cell 0
  have q1 := hbx1.cell 1
  simp only [List.getElem?_toArray, List.getElem?_cons_zero, List.getElem?_cons_succ] at q0 q1
  have hz1 := hb1.size
  have hl2 : w.heap.size + 1 + 1 < w1.heap.size := by omega
  go_wp2_with fail
  refine (Strong_any _ _ 2 2 2 2 (w.heap.size + 1 + 1) [0, 0] k2 w1 hI1 (by omega)).mono ?_
  rintro e w2 ⟨ofb, ofl, rfl, hof, hle2, hlow, hb2⟩
  have he := k2_strong hlow
  subst he
  have hz2 := hb2.size
  have hbx2 := hbx1.below hb2 hl2
  clear q0 q1
  go_wp2_with fail
  refine (Ints_any _ _ 2 2 2 2 (w2.heap.size + 1) (w2.heap.size + 1) [0, 0] [0, 0] _ (blk_reads (hof.alloc _) (by have := hof.lt; omega) rfl) (by exact blk_reads (xs := [.int .i64 0, .int .i64 0]) (Blk.new _ _ _) (by omega) rfl) (by omega)).mono ?_
  rintro e w3 ⟨rfl, q, rfl⟩
  have e1 : decide ([(0 : Int), 0] = [0, 0]) = true := by decide
  rw [e1]
  clear e1
  have hbx3 := (hbx2.alloc (.cells #[.int .i64 0, .int .i64 0] 3)).drewN q
  have hI3 := (hI1.keep (hb2.mono (by omega))).keep (below_drewN (((Below.refl (w.heap.size + 1 + 1) w2).alloc (by omega) (.cells #[.int .i64 0, .int .i64 0] 3))) q)
  have hb3 : Below w.heap.size w ((w2.alloc (.cells #[.int .i64 0, .int .i64 0] 3)).drewN q) := below_drewN (((hb0.trans (hb1.mono hb0.size)).trans (hb2.mono (by omega))).alloc (by omega) _) q
  have hz3 : w2.heap.size + 1 ≤ ((w2.alloc (.cells #[.int .i64 0, .int .i64 0] 3)).drewN q).heap.size := by simp
  generalize (w2.alloc (.cells #[.int .i64 0, .int .i64 0] 3)).drewN q = w3 at *
  have q0 := hbx3.cell 0
  have q1 := hbx3.cell 1
  simp only [List.getElem?_toArray, List.getElem?_cons_zero, List.getElem?_cons_succ] at q0 q1
  go_wp2_with fail
  refine (Back_any _ _ 2 2 2 2 (w.heap.size + 1 + 1) [0, 0] k2 w3 hI3 (by omega)).mono ?_
  rintro e w4 ⟨mb, ofl, rfl, hmb, hle4, hlow, hb4⟩
  have he := k2_strong hlow
  subst he
  rw [k2_back] at hmb
  have hz4 := hb4.size
  clear q0 q1
  go_wp2_with fail
  refine (Bools_any _ _ 2 2 2 2 (w4.heap.size + 1) (w4.heap.size + 1) [true, true] [true, true] _ (blk_reads (hmb.alloc _) (by have := hmb.lt; omega) rfl) (by exact blk_reads (xs := [.bool true, .bool true]) (Blk.new _ _ _) (by omega) rfl) (by omega)).mono ?_
  rintro e w5 ⟨rfl, q, rfl⟩
  have e1 : decide ([true, true] = [true, true]) = true := by decide
  rw [e1]
  clear e1
  go_wp2_with fail
  go_ret
  exact ⟨rfl, below_drewN ((hb3.trans (hb4.mono hb3.size)).alloc (by omega) _) q⟩
end Go.Proofs.Ytekajenmkpobgaa
