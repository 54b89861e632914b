/- file: begins (14). Conditions: none. -/
import Derived.Test.YtoagphighgejnaaGreatDoorJ8
set_option linter.unusedSimpArgs false
set_option linter.unusedVariables false
namespace Go.Proofs.YtoagphighgejnaaGreatDoor
open Go.RowKit Go.Shelf

/-- the map of lines' beginnings -/
def begs : Array MapEntry := #[{ key := .string ⟨#[99]⟩, val := .func (.func 55) #[] #[], born := 0 }, { key := .string ⟨#[112]⟩, val := .func (.func 56) #[] #[], born := 1 }, { key := .string ⟨#[110]⟩, val := .func (.func 57) #[] #[], born := 2 }, { key := .string ⟨#[97]⟩, val := .func (.func 58) #[] #[], born := 3 }]
set_option maxHeartbeats 1600000 in
set_option maxRecDepth 100000 in
theorem begins_in (w : World) : Calls Tryz.prog 39 #[] w fun e w' => e = .returned (.map (some w.heap.size)) ∧ MapB w' w.heap.size begs 4 ∧ Below w.heap.size w w' ∧ w'.heap.size = w.heap.size + 1 := by
  have hmm := @run_makeMap Tryz.prog
  go_enter Tryz.func39, Tryz.ntmps39
  go_wp2_with fail
  have M0 := MapB.new w
  have b0 : Below w.heap.size w (w.alloc (.map #[] 0)) := (Below.refl _ w).alloc (Nat.le_refl _) _
  have s0 : (w.alloc (.map #[] 0)).heap.size = w.heap.size + 1 := by simp
  generalize w.alloc (.map #[] 0) = W0 at M0 b0 s0 ⊢
  rw [run_put Tryz.underlying78 Tryz.underlying9 M0 (by rfl)]
  have M1 := M0.set_ (#[].push { key := .string ⟨#[99]⟩, val := .func (.func 55) #[] #[], born := 0 }) (0 + 1)
  have b1 := below_setMap b0 (r := w.heap.size) (Nat.le_refl _) (#[].push { key := .string ⟨#[99]⟩, val := .func (.func 55) #[] #[], born := 0 }) (0 + 1)
  have s1 := (size_setMap W0 w.heap.size (#[].push { key := .string ⟨#[99]⟩, val := .func (.func 55) #[] #[], born := 0 }) (0 + 1)).trans s0
  generalize YtoagphighgejnaaGreatDoor.setMap W0 w.heap.size (#[].push { key := .string ⟨#[99]⟩, val := .func (.func 55) #[] #[], born := 0 }) (0 + 1) = W1 at M1 b1 s1 ⊢
  clear M0 b0 s0
  rw [show ((#[].push { key := .string ⟨#[99]⟩, val := .func (.func 55) #[] #[], born := 0 }) : Array MapEntry) = #[{ key := .string ⟨#[99]⟩, val := .func (.func 55) #[] #[], born := 0 }] from rfl] at M1
  go_wp2_with fail
  rw [run_put Tryz.underlying78 Tryz.underlying9 M1 (by rfl)]
  have M2 := M1.set_ (#[{ key := .string ⟨#[99]⟩, val := .func (.func 55) #[] #[], born := 0 }].push { key := .string ⟨#[112]⟩, val := .func (.func 56) #[] #[], born := 0 + 1 }) (0 + 1 + 1)
  have b2 := below_setMap b1 (r := w.heap.size) (Nat.le_refl _) (#[{ key := .string ⟨#[99]⟩, val := .func (.func 55) #[] #[], born := 0 }].push { key := .string ⟨#[112]⟩, val := .func (.func 56) #[] #[], born := 0 + 1 }) (0 + 1 + 1)
  have s2 := (size_setMap W1 w.heap.size (#[{ key := .string ⟨#[99]⟩, val := .func (.func 55) #[] #[], born := 0 }].push { key := .string ⟨#[112]⟩, val := .func (.func 56) #[] #[], born := 0 + 1 }) (0 + 1 + 1)).trans s1
  generalize YtoagphighgejnaaGreatDoor.setMap W1 w.heap.size (#[{ key := .string ⟨#[99]⟩, val := .func (.func 55) #[] #[], born := 0 }].push { key := .string ⟨#[112]⟩, val := .func (.func 56) #[] #[], born := 0 + 1 }) (0 + 1 + 1) = W2 at M2 b2 s2 ⊢
  clear M1 b1 s1
  rw [show ((#[{ key := .string ⟨#[99]⟩, val := .func (.func 55) #[] #[], born := 0 }].push { key := .string ⟨#[112]⟩, val := .func (.func 56) #[] #[], born := 0 + 1 }) : Array MapEntry) = #[{ key := .string ⟨#[99]⟩, val := .func (.func 55) #[] #[], born := 0 }, { key := .string ⟨#[112]⟩, val := .func (.func 56) #[] #[], born := 0 + 1 }] from rfl] at M2
  go_wp2_with fail
  rw [run_put Tryz.underlying78 Tryz.underlying9 M2 (by rfl)]
  have M3 := M2.set_ (#[{ key := .string ⟨#[99]⟩, val := .func (.func 55) #[] #[], born := 0 }, { key := .string ⟨#[112]⟩, val := .func (.func 56) #[] #[], born := 0 + 1 }].push { key := .string ⟨#[110]⟩, val := .func (.func 57) #[] #[], born := 0 + 1 + 1 }) (0 + 1 + 1 + 1)
  have b3 := below_setMap b2 (r := w.heap.size) (Nat.le_refl _) (#[{ key := .string ⟨#[99]⟩, val := .func (.func 55) #[] #[], born := 0 }, { key := .string ⟨#[112]⟩, val := .func (.func 56) #[] #[], born := 0 + 1 }].push { key := .string ⟨#[110]⟩, val := .func (.func 57) #[] #[], born := 0 + 1 + 1 }) (0 + 1 + 1 + 1)
  have s3 := (size_setMap W2 w.heap.size (#[{ key := .string ⟨#[99]⟩, val := .func (.func 55) #[] #[], born := 0 }, { key := .string ⟨#[112]⟩, val := .func (.func 56) #[] #[], born := 0 + 1 }].push { key := .string ⟨#[110]⟩, val := .func (.func 57) #[] #[], born := 0 + 1 + 1 }) (0 + 1 + 1 + 1)).trans s2
  generalize YtoagphighgejnaaGreatDoor.setMap W2 w.heap.size (#[{ key := .string ⟨#[99]⟩, val := .func (.func 55) #[] #[], born := 0 }, { key := .string ⟨#[112]⟩, val := .func (.func 56) #[] #[], born := 0 + 1 }].push { key := .string ⟨#[110]⟩, val := .func (.func 57) #[] #[], born := 0 + 1 + 1 }) (0 + 1 + 1 + 1) = W3 at M3 b3 s3 ⊢
  clear M2 b2 s2
  rw [show ((#[{ key := .string ⟨#[99]⟩, val := .func (.func 55) #[] #[], born := 0 }, { key := .string ⟨#[112]⟩, val := .func (.func 56) #[] #[], born := 0 + 1 }].push { key := .string ⟨#[110]⟩, val := .func (.func 57) #[] #[], born := 0 + 1 + 1 }) : Array MapEntry) = #[{ key := .string ⟨#[99]⟩, val := .func (.func 55) #[] #[], born := 0 }, { key := .string ⟨#[112]⟩, val := .func (.func 56) #[] #[], born := 0 + 1 }, { key := .string ⟨#[110]⟩, val := .func (.func 57) #[] #[], born := 0 + 1 + 1 }] from rfl] at M3
  go_wp2_with fail
  rw [run_put Tryz.underlying78 Tryz.underlying9 M3 (by rfl)]
  have M4 := M3.set_ (#[{ key := .string ⟨#[99]⟩, val := .func (.func 55) #[] #[], born := 0 }, { key := .string ⟨#[112]⟩, val := .func (.func 56) #[] #[], born := 0 + 1 }, { key := .string ⟨#[110]⟩, val := .func (.func 57) #[] #[], born := 0 + 1 + 1 }].push { key := .string ⟨#[97]⟩, val := .func (.func 58) #[] #[], born := 0 + 1 + 1 + 1 }) (0 + 1 + 1 + 1 + 1)
  have b4 := below_setMap b3 (r := w.heap.size) (Nat.le_refl _) (#[{ key := .string ⟨#[99]⟩, val := .func (.func 55) #[] #[], born := 0 }, { key := .string ⟨#[112]⟩, val := .func (.func 56) #[] #[], born := 0 + 1 }, { key := .string ⟨#[110]⟩, val := .func (.func 57) #[] #[], born := 0 + 1 + 1 }].push { key := .string ⟨#[97]⟩, val := .func (.func 58) #[] #[], born := 0 + 1 + 1 + 1 }) (0 + 1 + 1 + 1 + 1)
  have s4 := (size_setMap W3 w.heap.size (#[{ key := .string ⟨#[99]⟩, val := .func (.func 55) #[] #[], born := 0 }, { key := .string ⟨#[112]⟩, val := .func (.func 56) #[] #[], born := 0 + 1 }, { key := .string ⟨#[110]⟩, val := .func (.func 57) #[] #[], born := 0 + 1 + 1 }].push { key := .string ⟨#[97]⟩, val := .func (.func 58) #[] #[], born := 0 + 1 + 1 + 1 }) (0 + 1 + 1 + 1 + 1)).trans s3
  generalize YtoagphighgejnaaGreatDoor.setMap W3 w.heap.size (#[{ key := .string ⟨#[99]⟩, val := .func (.func 55) #[] #[], born := 0 }, { key := .string ⟨#[112]⟩, val := .func (.func 56) #[] #[], born := 0 + 1 }, { key := .string ⟨#[110]⟩, val := .func (.func 57) #[] #[], born := 0 + 1 + 1 }].push { key := .string ⟨#[97]⟩, val := .func (.func 58) #[] #[], born := 0 + 1 + 1 + 1 }) (0 + 1 + 1 + 1 + 1) = W4 at M4 b4 s4 ⊢
  clear M3 b3 s3
  rw [show ((#[{ key := .string ⟨#[99]⟩, val := .func (.func 55) #[] #[], born := 0 }, { key := .string ⟨#[112]⟩, val := .func (.func 56) #[] #[], born := 0 + 1 }, { key := .string ⟨#[110]⟩, val := .func (.func 57) #[] #[], born := 0 + 1 + 1 }].push { key := .string ⟨#[97]⟩, val := .func (.func 58) #[] #[], born := 0 + 1 + 1 + 1 }) : Array MapEntry) = #[{ key := .string ⟨#[99]⟩, val := .func (.func 55) #[] #[], born := 0 }, { key := .string ⟨#[112]⟩, val := .func (.func 56) #[] #[], born := 0 + 1 }, { key := .string ⟨#[110]⟩, val := .func (.func 57) #[] #[], born := 0 + 1 + 1 }, { key := .string ⟨#[97]⟩, val := .func (.func 58) #[] #[], born := 0 + 1 + 1 + 1 }] from rfl] at M4
  go_wp2_with fail
  go_ret
  exact ⟨rfl, M4, b4, s4⟩
end Go.Proofs.YtoagphighgejnaaGreatDoor
