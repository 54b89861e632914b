/- inst.Copy, slices.Clone at ints. -/
import Derived.Test.YtekajenmkpobgaaC
import Derived.Test.YtekajenmkpobgaaApp
import Derived.Deep.RegionHeld3
import Derived.RegionTactic
import Derived.Deep.RegionWith
set_option linter.unusedSimpArgs false
set_option linter.unusedVariables false
namespace Go.Proofs.Ytekajenmkpobgaa
open Go.RowKit

set_option maxHeartbeats 1000000 in
theorem Copy_any (A1 A2 : Option Addr) (n1 c1 n2 c2 B : Nat) (sup : List Int) (arcs : List ArcV) (w : World) (h1 : Reads w B 1 A1 n1 (sup.map I)) (h2 : Reads w B 5 A2 n2 (arcCells arcs)) (hB : B ≤ w.heap.size)
    (hn1 : n1 ≤ 2000000000) (hn2 : n2 ≤ 2000000000) :
    Calls Try.prog 41 #[.agg #[.slice A1 n1 c1, .slice A2 n2 c2]] w fun e w' => ∃ A1' A2' c1' c2', e = .returned (.agg #[.slice A1' n1 c1', .slice A2' n2 c2']) ∧ w'.ownsRow w.heap.size 36 5 (.slice A2' n2 c2') n2 (arcCells arcs) ∧ Below w.heap.size w w' := by
  have hW : ∀ X Y, Below B w ((w.alloc X).alloc Y).drew := fun X Y => (((Below.refl B w).alloc hB X).alloc (by simp; omega) Y).drew
  have HW := Lib.hid hW
  have HWl := Lib.hid (show ∀ X Y, Below w.heap.size w ((w.alloc X).alloc Y).drew from fun X Y => (((Below.refl _ w).alloc (Nat.le_refl _) X).alloc (by simp) Y).drew)
  clear hW
  go_enter Try.func41, Try.ntmps41
  go_wp2
  go_region_with (first
    | (go_at_call 57; refine (takeInts_any A1 n1 c1 B sup _ (by exact h1.below (HW.out _ _)) (by simp; omega) hn1).mono ?_; rintro e w1 ⟨A1', c1', rfl, o1, b1⟩; have b1s := b1.size; simp only [World.size_drew, World.size_alloc] at b1s; have l1 : w.heap.size + 1 < w1.heap.size := (by omega); have l0 : w.heap.size < w1.heap.size := (by omega); obtain ⟨hc1, hf1⟩ := bcellN (N := w.heap.size + 1 + 1) (b1.mono (by simp)))
    | (go_at_call 59; refine (takeArcs_any A2 n2 c2 B arcs _ (by exact (h2.below (HW.out _ _)).below (b1.mono (by simp; omega))) (by have := b1.size; simp at this; omega) hn2).mono ?_; rintro e w2 ⟨A2', c2', rfl, o2, b2⟩; have b2s := b2.size; obtain ⟨hc2, hf2⟩ := bcellN (N := w1.heap.size) (b2.mono (by simp))))
  all_goals
    go_wp2
    refine bodyPost_ret (v := .agg #[.slice A1' n1 c1', .slice A2' n2 c2']) (by simp [results, Try.results41, go_sem, hc2, hf2, hc1, hf1, l0, l1]) rfl ?_
    refine ⟨A1', A2', c1', c2', rfl, ?_, ?_⟩
    · exact own_mono (own_far (own_far o2 (by simpa using l1) _) (by simpa using l1) _) (by omega)
    · have h3 : Below w.heap.size w w2 := ((HWl.out _ _).trans (b1.mono (by simp; omega))).trans (b2.mono (by omega))
      exact (h3.setCell (by simp) _).setCell (by simp) _

set_option maxHeartbeats 1000000 in
theorem Clone_any (b off n c B : Nat) (xs : List Int) (w : World) (h : Reads w B 1 (some ⟨b, off, none⟩) n (xs.map I)) (hB : B ≤ w.heap.size) (hn : n ≤ 2000000000) (h0 : 0 < n) :
    Calls Try.prog 42 #[.slice (some ⟨b, off, none⟩) n c] w fun e w' => ∃ A' c', e = .returned (.slice A' n c') ∧ w'.ownsRow w.heap.size 3 1 (.slice A' n c') n (xs.map I) ∧ Below w.heap.size w w' := by
  obtain ⟨i0, hi, hz0, hz1, hz2⟩ := info_parts Try.info3
  have he := fun W => Lib.run_eql_slice_nil (P := Try.prog) W 28 3 (some ⟨b, off, none⟩) n c 0 0 Try.underlying28
  go_enter Try.func42, Try.ntmps42
  go_wp2_with (at_builtin; refine wpList_append_any _ rfl (.tmp 5) (.tmp 6) _ rfl w.heap.size 3 i0 _ 1 8 Try.underlying28 hi hz0 hz1 hz2 rfl (by omega) (.slice (some ⟨w.heap.size, 0, none⟩) 0 0) 0 [] rfl (World.ownsRow_made w #[] 0 (Nat.le_refl _) (by unfold maxLen; omega) rfl) B (some ⟨b, off, none⟩) n c (xs.map I) rfl (h.alloc hB _) ?c2 ?c3 ?c4 ?c5 ?_)
  case c2 => intro u hu; obtain ⟨x, -, rfl⟩ := List.mem_map.1 hu; rfl
  case c3 => unfold maxLen; omega
  case c4 => omega
  case c5 => simp
  intro v' w1 hown hg hat
  go_wp2
  go_ret
  obtain ⟨A', c', rfl⟩ := own_form hown
  exact ⟨A', c', rfl, hown, ((Below.refl _ _).alloc (Nat.le_refl _) _).grown hg (by simp) (by intro k hk; simp [Value.ownBlock] at hk; omega)⟩
end Go.Proofs.Ytekajenmkpobgaa
