/- The document's answer: lines (35), read (36). Conditions: none. Printed by genF10.py. -/
import Derived.Test.YtpfbgoogajgciaaGreatDoorF9
set_option linter.unusedSimpArgs false
set_option linter.unusedVariables false
namespace Go.Proofs.YtpfbgoogajgciaaGreatDoor
open Go.RowKit Go.Shelf

set_option maxHeartbeats 1600000 in
theorem rlines_in (X : ByteArray) (w : World) : Calls Tryz.prog 35 #[.string X] w fun e w' => ∃ A n cp k, e = .returned (.tuple #[.slice A n cp, .int .i64 k]) ∧ Below w.heap.size w w' ∧
      ((wantF X.data.toList = none ∧ k = 0) ∨ ∃ fs, wantF X.data.toList = some (k, fs) ∧ 1 ≤ k ∧ k ≤ 3 ∧ n = fs.length ∧ 1 ≤ n ∧ n ≤ 2 ∧ Reads w' w'.heap.size 1 A n ((fs.map Fld.name).map strV)) := by
  by_cases h1 : X.data.toList = bestL
  · obtain rfl := (bs_eq_iff X bestL).2 h1
    clear h1
    have hr := reads_new w 9 [.string ⟨#[102, 108, 111, 119]⟩, .string ⟨#[112, 111, 116]⟩]
    have hb : Below w.heap.size w (w.alloc (.cells #[.string ⟨#[102, 108, 111, 119]⟩, .string ⟨#[112, 111, 116]⟩] 9)) := (Below.refl _ w).alloc (Nat.le_refl _) _
    have HR := Lib.hid hr
    clear hr
    unfold bestL
    go_enter Tryz.func35, Tryz.ntmps35
    go_wp2_with fail
    refine bodyPost_ret (v := .tuple #[.slice (some ⟨w.heap.size, 0, none⟩) 2 2, .int .i64 1]) (by simp [results, Tryz.results35, go_sem]) rfl ⟨_, _, _, 1, rfl, hb, .inr ⟨[.flow, .pot], rfl, by omega, by omega, rfl, by omega, by omega, ?_⟩⟩
    rw [World.size_alloc]; exact HR.out
  · by_cases h2 : X.data.toList = cutN
    · obtain rfl := (bs_eq_iff X cutN).2 h2
      clear h1 h2
      have hr := reads_new w 9 [.string ⟨#[115, 105, 100, 101]⟩]
      have hb : Below w.heap.size w (w.alloc (.cells #[.string ⟨#[115, 105, 100, 101]⟩] 9)) := (Below.refl _ w).alloc (Nat.le_refl _) _
      have HR := Lib.hid hr
      clear hr
      unfold cutN
      go_enter Tryz.func35, Tryz.ntmps35
      go_wp2_with fail
      refine bodyPost_ret (v := .tuple #[.slice (some ⟨w.heap.size, 0, none⟩) 1 1, .int .i64 2]) (by simp [results, Tryz.results35, go_sem]) rfl ⟨_, _, _, 2, rfl, hb, .inr ⟨[.side], rfl, by omega, by omega, rfl, by omega, by omega, ?_⟩⟩
      rw [World.size_alloc]; exact HR.out
    · by_cases h3 : X.data.toList = rayL
      · obtain rfl := (bs_eq_iff X rayL).2 h3
        clear h1 h2 h3
        have hr := reads_new w 9 [.string ⟨#[102, 108, 111, 119]⟩, .string ⟨#[99, 121, 99, 108, 101]⟩]
        have hb : Below w.heap.size w (w.alloc (.cells #[.string ⟨#[102, 108, 111, 119]⟩, .string ⟨#[99, 121, 99, 108, 101]⟩] 9)) := (Below.refl _ w).alloc (Nat.le_refl _) _
        have HR := Lib.hid hr
        clear hr
        unfold rayL
        go_enter Tryz.func35, Tryz.ntmps35
        go_wp2_with fail
        refine bodyPost_ret (v := .tuple #[.slice (some ⟨w.heap.size, 0, none⟩) 2 2, .int .i64 3]) (by simp [results, Tryz.results35, go_sem]) rfl ⟨_, _, _, 3, rfl, hb, .inr ⟨[.flow, .cycle], rfl, by omega, by omega, rfl, by omega, by omega, ?_⟩⟩
        rw [World.size_alloc]; exact HR.out
      · have e1 : (X.toList == [98, 101, 115, 116]) = false := str_ne X bestL h1
        have e2 : (X.toList == [99, 117, 116]) = false := str_ne X cutN h2
        have e3 : (X.toList == [114, 97, 121]) = false := str_ne X rayL h3
        have HK : Hid (wantF X.data.toList = none) := Lib.hid (by unfold wantF; rw [if_neg h1, if_neg h2, if_neg h3])
        clear h1 h2 h3
        go_enter Tryz.func35, Tryz.ntmps35
        go_wp2_with fail
        exact bodyPost_ret (v := .tuple #[.slice none 0 0, .int .i64 0]) (by simp [results, Tryz.results35, go_sem]) rfl ⟨_, _, _, 0, rfl, Below.refl _ _, .inl ⟨HK.out, rfl⟩⟩

end Go.Proofs.YtpfbgoogajgciaaGreatDoor
