/- The document's answer: side (41), places (39). Conditions: none. -/
import Derived.Test.YtpfbgoogajgciaaGreatDoorF7
set_option linter.unusedSimpArgs false
set_option linter.unusedVariables false
namespace Go.Proofs.YtpfbgoogajgciaaGreatDoor
open Go.RowKit Go.Shelf

set_option maxHeartbeats 1600000 in
set_option maxRecDepth 100000 in
theorem side_in (A : Option Addr) (n c B : Nat) (xs : List Int) (w : World) (hr : Reads w B 1 A n (xs.map Bv)) (hB : B ≤ w.heap.size) (hn : n ≤ 100000) (hx : ∀ x ∈ xs, x = 0 ∨ x = 1) :
    Calls Tryz.prog 41 #[.slice A n c] w fun e w' => ∃ A' cp, e = .returned (.slice A' n cp) ∧ w'.ownsRow w.heap.size 2 1 (.slice A' n cp) n (xs.map I) ∧ Below w.heap.size w w' := by
  have hlen : xs.length = n := by have := hr.1; simpa using this
  have HX := Lib.hid hx
  have HR := Lib.hid hr
  obtain ⟨i0, hi, hz0, hz1, hz2⟩ := info_parts info2
  have HI := Lib.hid hi
  have HZ0 := Lib.hid hz0
  have HZ1 := Lib.hid hz1
  have HZ2 := Lib.hid hz2
  clear hi hz0 hz1 hz2 hx hr
  go_enter Tryz.func41, Tryz.ntmps41
  go_wp2_with fail
  go_loopw [3, 4] (fun l i wr => ∃ k : Nat, k ≤ n ∧ i = .int .i64 k ∧ wr.ownsRow w.heap.size 2 1 l k ((xs.take k).map I) ∧ Below w.heap.size w wr) (fun _ i _ => n - (Lib.intOf i).toNat)
  case atStart => exact ⟨0, Nat.zero_le _, rfl, World.ownsRow_nil _ _ _ _, Below.refl _ _⟩
  case round =>
    obtain ⟨k, hk, rfl, hown, hbw⟩ := hrel
    have HO := Lib.hid hown
    clear hown
    obtain ⟨A', cp, rfl⟩ := own_form HO.out
    have hbs := hbw.size
    by_cases hlt : k < n
    · obtain ⟨b, off, u, rfl, -, hx, hcell⟩ := ((HR.out.more hB).below hbw).at_ hlt
      simp only [List.getElem?_map, Option.map_eq_some_iff] at hx
      obtain ⟨x, hx, rfl⟩ := hx
      have hxr := HX.out x (List.mem_of_getElem? hx)
      unfold Bv at hcell
      have HS : Hid ((xs.take (k + 1)).map I = (xs.take k).map I ++ [I x]) := Lib.hid (by rw [List.take_add_one, hx]; simp)
      clear hx
      have B1 : Hid (k + 1 ≤ maxLen) := Lib.hid (by unfold maxLen; omega)
      have B2 : Hid ((k + 1) * 8 ≤ 140737488355328) := Lib.hid (by omega)
      have B3 : ∀ o, w.heap.size ≤ (wr.alloc o).heap.size := fun o => by simp; omega
      have HB3 := Lib.hid B3
      clear B3
      rcases hxr with rfl | rfl
      · rw [show decide ((0 : Int) = 1) = false by decide] at hcell
        go_wp2_with (at_builtin; refine wpList_append_own _ rfl _ _ 28 rfl w.heap.size 2 i0 (.int .i64 0) 1 8 Tryz.underlying28 HI.out HZ0.out HZ1.out HZ2.out rfl (by decide) _ _ _ rfl (HO.out.alloc _) ⟨wr.heap.size, 0, none⟩ 1 1 [.int .i64 0] rfl rfl (cell_one_new _ _ _) (by simp [Value.oneCell']) B1.out B2.out (HB3.out _) ?_)
        intro v' w3 hown' hgrow' _
        have HOW := Lib.hid hown'
        clear hown'
        go_wp2_with fail
        refine ⟨⟨k + 1, by omega, rfl, ?_, (hbw.alloc hbs _).grown hgrow' (by simp; omega) (fun j hj => (HO.out.lt j hj).1)⟩, by simp [Lib.intOf]; omega⟩
        rw [HS.out]; simpa [List.map_take, I] using HOW.out
      · rw [show decide ((1 : Int) = 1) = true by decide] at hcell
        go_wp2_with (at_builtin; refine wpList_append_own _ rfl _ _ 28 rfl w.heap.size 2 i0 (.int .i64 0) 1 8 Tryz.underlying28 HI.out HZ0.out HZ1.out HZ2.out rfl (by decide) _ _ _ rfl (HO.out.alloc _) ⟨wr.heap.size, 0, none⟩ 1 1 [.int .i64 1] rfl rfl (cell_one_new _ _ _) (by simp [Value.oneCell']) B1.out B2.out (HB3.out _) ?_)
        intro v' w3 hown' hgrow' _
        have HOW := Lib.hid hown'
        clear hown'
        go_wp2_with fail
        refine ⟨⟨k + 1, by omega, rfl, ?_, (hbw.alloc hbs _).grown hgrow' (by simp; omega) (fun j hj => (HO.out.lt j hj).1)⟩, by simp [Lib.intOf]; omega⟩
        rw [HS.out]; simpa [List.map_take, I] using HOW.out
    · obtain rfl : k = n := by omega
      have hall : xs.take k = xs := List.take_of_length_le (by omega)
      rw [hall] at HO
      clear hall
      go_wp2_with fail
      go_ret
      exact ⟨A', cp, rfl, HO.out, hbw⟩

set_option maxHeartbeats 1600000 in
set_option maxRecDepth 100000 in
theorem places_in (A : Option Addr) (n c B : Nat) (xs : List Int) (w : World) (hr : Reads w B 1 A n (xs.map I)) (hB : B ≤ w.heap.size) (hn : n ≤ 100000) :
    Calls Tryz.prog 39 #[.slice A n c] w fun e w' => ∃ A' m cp, e = .returned (.tuple #[.slice A' m cp, .bool (!xs.any (fun a => decide (a < 0)))]) ∧ (xs.any (fun a => decide (a < 0)) = false → m = n ∧ w'.ownsRow w.heap.size 2 1 (.slice A' n cp) n (xs.map I)) ∧ Below w.heap.size w w' := by
  have hlen : xs.length = n := by have := hr.1; simpa using this
  have HR := Lib.hid hr
  obtain ⟨i0, hi, hz0, hz1, hz2⟩ := info_parts info2
  have HI := Lib.hid hi
  have HZ0 := Lib.hid hz0
  have HZ1 := Lib.hid hz1
  have HZ2 := Lib.hid hz2
  clear hi hz0 hz1 hz2 hr
  go_enter Tryz.func39, Tryz.ntmps39
  go_wp2_with fail
  go_loopw [4, 5] (fun l i wr => ∃ k : Nat, k ≤ n ∧ i = .int .i64 k ∧ (∀ j x, j < k → xs[j]? = some x → 0 ≤ x) ∧ wr.ownsRow w.heap.size 2 1 l k ((xs.take k).map I) ∧ Below w.heap.size w wr) (fun _ i _ => n - (Lib.intOf i).toNat)
  case atStart => exact ⟨0, Nat.zero_le _, rfl, fun j x hj => absurd hj (by omega), World.ownsRow_nil _ _ _ _, Below.refl _ _⟩
  case round =>
    obtain ⟨k, hk, rfl, hall, hown, hbw⟩ := hrel
    have HA := Lib.hid hall
    have HO := Lib.hid hown
    clear hown hall
    obtain ⟨A', cp, rfl⟩ := own_form HO.out
    have hbs := hbw.size
    by_cases hlt : k < n
    · obtain ⟨b, off, u, rfl, hbb, hx, hcell⟩ := ((HR.out.more hB).below hbw).at_ hlt
      simp only [List.getElem?_map, Option.map_eq_some_iff] at hx
      obtain ⟨x, hx, rfl⟩ := hx
      unfold I at hcell
      have HX := Lib.hid hx
      have HS : Hid ((xs.take (k + 1)).map I = (xs.take k).map I ++ [I x]) := Lib.hid (by rw [List.take_add_one, hx]; simp)
      clear hx
      by_cases hneg : x < 0
      · have hany : xs.any (fun a => decide (a < 0)) = true := List.any_eq_true.2 ⟨x, List.mem_of_getElem? HX.out, decide_eq_true hneg⟩
        have HAN := Lib.hid hany
        clear hany
        go_wp2_with fail
        refine bodyPost_ret (v := .tuple #[.slice none 0 0, .bool false]) (by simp [results, Tryz.results39, go_sem]) rfl ?_
        rw [HAN.out]
        exact ⟨none, 0, 0, rfl, (fun h => by cases h), hbw⟩
      · have B1 : Hid (k + 1 ≤ maxLen) := Lib.hid (by unfold maxLen; omega)
        have B2 : Hid ((k + 1) * 8 ≤ 140737488355328) := Lib.hid (by omega)
        have B3 : ∀ o, w.heap.size ≤ (wr.alloc o).heap.size := fun o => by simp; omega
        have HB3 := Lib.hid B3
        clear B3
        go_wp2_with (at_builtin; refine wpList_append_own _ rfl _ _ 28 rfl w.heap.size 2 i0 (.int .i64 0) 1 8 Tryz.underlying28 HI.out HZ0.out HZ1.out HZ2.out rfl (by decide) _ _ _ rfl (HO.out.alloc _) ⟨wr.heap.size, 0, none⟩ 1 1 [.int .i64 x] rfl rfl (cell_one_new _ _ _) (by simp [Value.oneCell']) B1.out B2.out (HB3.out _) ?_)
        intro v' w3 hown' hgrow' _
        have HOW := Lib.hid hown'
        clear hown'
        go_wp2_with fail
        refine ⟨⟨k + 1, by omega, rfl, fun j y hj hy => ?_, ?_, (hbw.alloc hbs _).grown hgrow' (by simp; omega) (fun j hj => (HO.out.lt j hj).1)⟩, by simp [Lib.intOf]; omega⟩
        · rcases Nat.lt_or_ge j k with h | h
          · exact HA.out j y h hy
          · obtain rfl : j = k := by omega
            rw [HX.out] at hy
            obtain rfl := Option.some.inj hy
            omega
        · rw [HS.out]; simpa [List.map_take, I] using HOW.out
    · obtain rfl : k = n := by omega
      have hall : xs.take k = xs := List.take_of_length_le (by omega)
      rw [hall] at HO
      have hany : xs.any (fun a => decide (a < 0)) = false := by
        rw [← Bool.not_eq_true]
        intro h
        obtain ⟨x, hx, hd⟩ := List.any_eq_true.1 h
        obtain ⟨j, hj⟩ := List.getElem?_of_mem hx
        have h1 := (List.getElem?_eq_some_iff.1 hj).1
        have := HA.out j x (by omega) hj
        have := of_decide_eq_true hd
        omega
      have HAN := Lib.hid hany
      clear hall hany
      go_wp2_with fail
      refine bodyPost_ret (v := .tuple #[.slice A' k cp, .bool true]) (by simp [results, Tryz.results39, go_sem]) rfl ?_
      rw [HAN.out]
      exact ⟨A', k, cp, rfl, fun _ => ⟨rfl, HO.out⟩, hbw⟩
end Go.Proofs.YtpfbgoogajgciaaGreatDoor
