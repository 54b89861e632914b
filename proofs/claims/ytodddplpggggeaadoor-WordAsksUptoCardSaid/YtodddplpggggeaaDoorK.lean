/- known (9): the chapter's examples. Conditions: none. -/
import Derived.Test.YtodddplpggggeaaDoorH
set_option linter.unusedSimpArgs false
set_option linter.unusedVariables false
namespace Go.Proofs.YtodddplpggggeaaDoor
open Go.RowKit Go.Shelf

theorem Lines_any (s : ByteArray) (hsz : s.size ≤ 4294967296) (w : World) :
    Calls Tryd.prog 10 #[.string s] w fun e w' => ∃ A m c, e = .returned (.slice A m c) ∧ m = (linesL s.data.toList).length ∧ m ≤ c ∧ Reads w' w'.heap.size 1 A m ((linesL s.data.toList).map strV) ∧ Below w.heap.size w w' :=
  callsIn_wide.1 (Lines_in 6 (Nat.le_refl _) s hsz w)

theorem num_minus0 : numL [45, 48] = (0, 10) := by decide +kernel
theorem num_least : numL [45, 57, 50, 50, 51, 51, 55, 50, 48, 51, 54, 56, 53, 52, 55, 55, 53, 56, 48, 56] = (-9223372036854775808, 0) := by decide +kernel
theorem num_over : numL [57, 50, 50, 51, 51, 55, 50, 48, 51, 54, 56, 53, 52, 55, 55, 53, 56, 48, 56] = (0, 11) := by decide +kernel
theorem cut_ab : cutL 32 [97, 32, 32, 98] = [[97], [], [98]] := by decide +kernel
theorem lines_a : (linesL [97, 10]).length = 1 := by decide +kernel

set_option maxHeartbeats 1600000 in
set_option maxRecDepth 100000 in
theorem known_in (w : World) (hE : Env w) : Calls Tryd.prog 9 #[] w fun e w' => e = .returned (.bool true) ∧ Below w.heap.size w w' := by
  go_enter Tryd.func9, Tryd.ntmps9
  go_wp2_with fail
  refine (Number_in _ (by decide) w hE).mono ?_
  rintro e w1 ⟨rfl, hb1⟩
  rw [show (numL (⟨#[45, 48]⟩ : ByteArray).data.toList) = (0, 10) from num_minus0]
  have hE1 := hE.on hb1
  go_wp2_with fail
  refine (Number_in _ (by decide) w1 hE1).mono ?_
  rintro e w2 ⟨rfl, hb2⟩
  rw [show (numL (⟨#[45, 57, 50, 50, 51, 51, 55, 50, 48, 51, 54, 56, 53, 52, 55, 55, 53, 56, 48, 56]⟩ : ByteArray).data.toList) = (-9223372036854775808, 0) from num_least]
  have hE2 := hE1.on hb2
  go_wp2_with fail
  refine (Number_in _ (by decide) w2 hE2).mono ?_
  rintro e w3 ⟨rfl, hb3⟩
  rw [show (numL (⟨#[57, 50, 50, 51, 51, 55, 50, 48, 51, 54, 56, 53, 52, 55, 55, 53, 56, 48, 56]⟩ : ByteArray).data.toList) = (0, 11) from num_over]
  have hE3 := hE2.on hb3
  go_wp2_with fail
  refine (Words_in _ (by decide) w3 hE3).mono ?_
  rintro e w4 ⟨A, m, c, rfl, hm, hmc, hR, hb4⟩
  rw [show cutL 32 (⟨#[97, 32, 32, 98]⟩ : ByteArray).data.toList = [[97], [], [98]] from cut_ab] at hm hR
  have hE4 := hE3.on hb4
  obtain rfl : m = 3 := hm
  go_wp2_with fail
  have kn := Blk.new w4 9 #[.string ⟨#[97]⟩, .string ⟨#[]⟩, .string ⟨#[98]⟩]
  have hR5 := hR.alloc (Nat.le_refl _) (.cells #[.string ⟨#[97]⟩, .string ⟨#[]⟩, .string ⟨#[98]⟩] 9)
  have hR6 : Reads (w4.alloc (.cells #[.string ⟨#[97]⟩, .string ⟨#[]⟩, .string ⟨#[98]⟩] 9)) (w4.heap.size + 1) 1 (some ⟨w4.heap.size, 0, none⟩) 3 (([[97], [], [98]] : List (List UInt8)).map strV) := by
    refine ⟨rfl, fun _ => ⟨w4.heap.size, 0, rfl, by omega, fun j u hu => ?_⟩⟩
    rw [kn.cell, Nat.zero_add, List.getElem?_toArray]
    exact hu
  refine (Same_in A _ 3 c 3 3 _ _ _ _ _ hR5 hR6 (by omega)).mono ?_
  rintro e w5 ⟨rfl, q5, rfl⟩
  rw [show decide (([[97], [], [98]] : List (List UInt8)) = [[97], [], [98]]) = true from by decide]
  have hb5 : Below w.heap.size w ((w4.alloc (.cells #[.string ⟨#[97]⟩, .string ⟨#[]⟩, .string ⟨#[98]⟩] 9)).drewN q5) := by
    have h4 : Below w.heap.size w w4 := ((hb1.trans (hb2.mono hb1.size)).trans (hb3.mono (by have := hb1.size; have := hb2.size; omega))).trans (hb4.mono (by have := hb1.size; have := hb2.size; have := hb3.size; omega))
    exact (h4.alloc (by have := h4.size; omega) _).trans ⟨rfl, rfl, rfl, Nat.le_refl _, fun _ _ => rfl⟩
  have hE5 := hE.below hb5 hE.size
  generalize ((w4.alloc (.cells #[.string ⟨#[97]⟩, .string ⟨#[]⟩, .string ⟨#[98]⟩] 9)).drewN q5) = W5 at hb5 hE5 ⊢
  clear kn hR5 hR6 hR hE4 hE3 hE2 hE1 hb4 hb3 hb2 hb1 hmc
  go_wp2_with fail
  refine (Text_in (-7) (by decide) (by decide) W5 hE5).mono ?_
  rintro e w6 ⟨rfl, hb6⟩
  rw [show (Lib.itoa (-7)) = [45, 55] from by decide +kernel]
  go_wp2_with fail
  refine (Lines_any _ (by decide) w6).mono ?_
  rintro e w7 ⟨A2, m2, c2, rfl, hm2, _, _, hb7⟩
  rw [show (linesL (⟨#[97, 10]⟩ : ByteArray).data.toList).length = 1 from lines_a] at hm2
  subst hm2
  go_wp2_with fail
  go_ret
  exact ⟨rfl, (hb5.trans (hb6.mono hb5.size)).trans (hb7.mono (by have := hb5.size; have := hb6.size; omega))⟩

end Go.Proofs.YtodddplpggggeaaDoor
