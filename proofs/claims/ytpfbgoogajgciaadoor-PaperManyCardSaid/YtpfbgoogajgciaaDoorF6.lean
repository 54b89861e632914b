/- The document's answer: Nums (32), Bools (33), Ints (34), Plain (38), Same (18). Conditions: none. Printed by genF6.py. -/
import Derived.Test.YtpfbgoogajgciaaDoorQ9
set_option linter.unusedSimpArgs false
set_option linter.unusedVariables false
namespace Go.Proofs.YtpfbgoogajgciaaDoor
open Go.RowKit Go.Shelf

theorem map_eq_of {f : Int → Value} (P : Int → Prop) (hf : ∀ x y, P x → P y → f x = f y → x = y) : ∀ (xs ys : List Int), (∀ x ∈ xs, P x) → (∀ y ∈ ys, P y) → xs.map f = ys.map f → xs = ys
  | [], [], _, _, _ => rfl
  | [], _ :: _, _, _, h => by cases h
  | _ :: _, [], _, _, h => by cases h
  | x :: xs, y :: ys, hx, hy, h => by
    simp only [List.map_cons, List.cons.injEq] at h
    rw [hf x y (hx x (by simp)) (hy y (by simp)) h.1, map_eq_of P hf xs ys (fun z hz => hx z (by simp [hz])) (fun z hz => hy z (by simp [hz])) h.2]


set_option maxHeartbeats 1600000 in
theorem same32_in (A A' : Option Addr) (len cap len' cap' B B' : Nat) (xs ys : List Int) (w : World) (hr : Reads w B 1 A len (xs.map I)) (hr' : Reads w B' 1 A' len' (ys.map I)) (hm : len ≤ 4611686018427387904) (hx : ∀ x ∈ xs, True) (hy : ∀ x ∈ ys, True) :
    Calls Tryd.prog 28 #[.slice A len cap, .slice A' len' cap'] w fun e w' => e = .returned (.bool (decide (xs = ys))) ∧ ∃ k, w' = w.drewN k := by
  have hl : xs.length ≤ len ∧ len ≤ xs.length := by have := hr.1; simp at this; omega
  have hl' : ys.length ≤ len' ∧ len' ≤ ys.length := by have := hr'.1; simp at this; omega
  have HXX := Lib.hid hx
  have HYY := Lib.hid hy
  clear hx hy
  by_cases hne : len = len'
  · subst hne
    have hbq : ((len : Int) != (len : Int)) = false := by simp
    go_enter Tryd.func28, Tryd.ntmps28
    go_wp2
    go_loopw [5] (fun i wr => ∃ k : Nat, k ≤ len ∧ i = .int .i64 k ∧ (∀ j, j < k → xs[j]? = ys[j]?) ∧ ∃ q, wr = w.drewN q) (fun i _ => len - (Lib.intOf i).toNat)
    case atStart => exact ⟨0, Nat.zero_le _, rfl, fun j hj => by omega, 0, rfl⟩
    case round =>
      obtain ⟨k, hk, rfl, hne, q, rfl⟩ := hrel
      have HN := Lib.hid hne
      clear hne
      by_cases hlt : k < len
      · obtain ⟨b, off, u, rfl, -, hx, hcell⟩ := hr.at_ hlt
        obtain ⟨b', off', u', rfl, -, hx', hcell'⟩ := hr'.at_ hlt
        simp only [List.getElem?_map, Option.map_eq_some_iff] at hx hx'
        obtain ⟨x, hx, rfl⟩ := hx
        obtain ⟨y, hy, rfl⟩ := hx'
        have hpx := HXX.out x (List.mem_of_getElem? hx)
        have hpy := HYY.out y (List.mem_of_getElem? hy)
        have HX := Lib.hid hx
        have HY := Lib.hid hy
        clear hx hy
        unfold I at hcell hcell'
        by_cases hxy : x = y
        · subst hxy
          go_wp2
          go_quiet (fail)
          go_wp2
          go_roundw
          case rel =>
            exact ⟨k + 1, by omega, by go_num, fun j hj => by
              rcases Nat.lt_or_ge j k with h | h
              · exact HN.out j h
              · have : j = k := by omega
                subst this
                rw [HX.out, HY.out], _, rfl⟩
          case measure => simp [Lib.intOf]; omega
        · have HXY : Hid (xs ≠ ys) := Lib.hid (not_eq_of_at HX.out HY.out hxy)
          have hb : (x != y) = true := by simpa using hxy
          all_goals
            clear hxy HX HY
            go_wp2
            go_quiet (fail)
            go_wp2
            go_ret
            exact ⟨ret_bool (by simpa using HXY.out), _, World.drewN_drewN _ _ _⟩
      · go_wp2
        go_ret
        exact ⟨ret_bool (by simpa using eq_of_upto (k := k) (by omega) (by omega) HN.out), _, rfl⟩
  · have hbq : ((len : Int) != (len' : Int)) = true := by simp; omega
    have HN := Lib.hid hne
    clear hne
    go_enter Tryd.func28, Tryd.ntmps28
    go_wp2
    go_ret
    exact ⟨ret_bool (by have := HN.out; simp; rintro rfl; omega), 0, rfl⟩


set_option maxHeartbeats 1600000 in
theorem same33_in (A A' : Option Addr) (len cap len' cap' B B' : Nat) (xs ys : List Int) (w : World) (hr : Reads w B 1 A len (xs.map Bv)) (hr' : Reads w B' 1 A' len' (ys.map Bv)) (hm : len ≤ 4611686018427387904) (hx : ∀ x ∈ xs, x = 0 ∨ x = 1) (hy : ∀ x ∈ ys, x = 0 ∨ x = 1) :
    Calls Tryd.prog 29 #[.slice A len cap, .slice A' len' cap'] w fun e w' => e = .returned (.bool (decide (xs = ys))) ∧ ∃ k, w' = w.drewN k := by
  have hl : xs.length ≤ len ∧ len ≤ xs.length := by have := hr.1; simp at this; omega
  have hl' : ys.length ≤ len' ∧ len' ≤ ys.length := by have := hr'.1; simp at this; omega
  have HXX := Lib.hid hx
  have HYY := Lib.hid hy
  clear hx hy
  by_cases hne : len = len'
  · subst hne
    have hbq : ((len : Int) != (len : Int)) = false := by simp
    go_enter Tryd.func29, Tryd.ntmps29
    go_wp2
    go_loopw [5] (fun i wr => ∃ k : Nat, k ≤ len ∧ i = .int .i64 k ∧ (∀ j, j < k → xs[j]? = ys[j]?) ∧ ∃ q, wr = w.drewN q) (fun i _ => len - (Lib.intOf i).toNat)
    case atStart => exact ⟨0, Nat.zero_le _, rfl, fun j hj => by omega, 0, rfl⟩
    case round =>
      obtain ⟨k, hk, rfl, hne, q, rfl⟩ := hrel
      have HN := Lib.hid hne
      clear hne
      by_cases hlt : k < len
      · obtain ⟨b, off, u, rfl, -, hx, hcell⟩ := hr.at_ hlt
        obtain ⟨b', off', u', rfl, -, hx', hcell'⟩ := hr'.at_ hlt
        simp only [List.getElem?_map, Option.map_eq_some_iff] at hx hx'
        obtain ⟨x, hx, rfl⟩ := hx
        obtain ⟨y, hy, rfl⟩ := hx'
        have hpx := HXX.out x (List.mem_of_getElem? hx)
        have hpy := HYY.out y (List.mem_of_getElem? hy)
        have HX := Lib.hid hx
        have HY := Lib.hid hy
        clear hx hy
        unfold Bv at hcell hcell'
        by_cases hxy : x = y
        · subst hxy
          go_wp2
          go_quiet (fail)
          go_wp2
          go_roundw
          case rel =>
            exact ⟨k + 1, by omega, by go_num, fun j hj => by
              rcases Nat.lt_or_ge j k with h | h
              · exact HN.out j h
              · have : j = k := by omega
                subst this
                rw [HX.out, HY.out], _, rfl⟩
          case measure => simp [Lib.intOf]; omega
        · have HXY : Hid (xs ≠ ys) := Lib.hid (not_eq_of_at HX.out HY.out hxy)
          rcases (show (x = 0 ∧ y = 1) ∨ (x = 1 ∧ y = 0) by omega) with ⟨rfl, rfl⟩ | ⟨rfl, rfl⟩
          all_goals
            clear hxy HX HY
            go_wp2
            go_quiet (fail)
            go_wp2
            go_ret
            exact ⟨ret_bool (by simpa using HXY.out), _, World.drewN_drewN _ _ _⟩
      · go_wp2
        go_ret
        exact ⟨ret_bool (by simpa using eq_of_upto (k := k) (by omega) (by omega) HN.out), _, rfl⟩
  · have hbq : ((len : Int) != (len' : Int)) = true := by simp; omega
    have HN := Lib.hid hne
    clear hne
    go_enter Tryd.func29, Tryd.ntmps29
    go_wp2
    go_ret
    exact ⟨ret_bool (by have := HN.out; simp; rintro rfl; omega), 0, rfl⟩


set_option maxHeartbeats 1600000 in
theorem same34_in (A A' : Option Addr) (len cap len' cap' B B' : Nat) (xs ys : List Int) (w : World) (hr : Reads w B 1 A len (xs.map I)) (hr' : Reads w B' 1 A' len' (ys.map I)) (hm : len ≤ 4611686018427387904) (hx : ∀ x ∈ xs, True) (hy : ∀ x ∈ ys, True) :
    Calls Tryd.prog 30 #[.slice A len cap, .slice A' len' cap'] w fun e w' => e = .returned (.bool (decide (xs = ys))) ∧ ∃ k, w' = w.drewN k := by
  have hl : xs.length ≤ len ∧ len ≤ xs.length := by have := hr.1; simp at this; omega
  have hl' : ys.length ≤ len' ∧ len' ≤ ys.length := by have := hr'.1; simp at this; omega
  have HXX := Lib.hid hx
  have HYY := Lib.hid hy
  clear hx hy
  by_cases hne : len = len'
  · subst hne
    have hbq : ((len : Int) != (len : Int)) = false := by simp
    go_enter Tryd.func30, Tryd.ntmps30
    go_wp2
    go_loopw [5] (fun i wr => ∃ k : Nat, k ≤ len ∧ i = .int .i64 k ∧ (∀ j, j < k → xs[j]? = ys[j]?) ∧ ∃ q, wr = w.drewN q) (fun i _ => len - (Lib.intOf i).toNat)
    case atStart => exact ⟨0, Nat.zero_le _, rfl, fun j hj => by omega, 0, rfl⟩
    case round =>
      obtain ⟨k, hk, rfl, hne, q, rfl⟩ := hrel
      have HN := Lib.hid hne
      clear hne
      by_cases hlt : k < len
      · obtain ⟨b, off, u, rfl, -, hx, hcell⟩ := hr.at_ hlt
        obtain ⟨b', off', u', rfl, -, hx', hcell'⟩ := hr'.at_ hlt
        simp only [List.getElem?_map, Option.map_eq_some_iff] at hx hx'
        obtain ⟨x, hx, rfl⟩ := hx
        obtain ⟨y, hy, rfl⟩ := hx'
        have hpx := HXX.out x (List.mem_of_getElem? hx)
        have hpy := HYY.out y (List.mem_of_getElem? hy)
        have HX := Lib.hid hx
        have HY := Lib.hid hy
        clear hx hy
        unfold I at hcell hcell'
        by_cases hxy : x = y
        · subst hxy
          go_wp2
          go_quiet (fail)
          go_wp2
          go_roundw
          case rel =>
            exact ⟨k + 1, by omega, by go_num, fun j hj => by
              rcases Nat.lt_or_ge j k with h | h
              · exact HN.out j h
              · have : j = k := by omega
                subst this
                rw [HX.out, HY.out], _, rfl⟩
          case measure => simp [Lib.intOf]; omega
        · have HXY : Hid (xs ≠ ys) := Lib.hid (not_eq_of_at HX.out HY.out hxy)
          have hb : (x != y) = true := by simpa using hxy
          all_goals
            clear hxy HX HY
            go_wp2
            go_quiet (fail)
            go_wp2
            go_ret
            exact ⟨ret_bool (by simpa using HXY.out), _, World.drewN_drewN _ _ _⟩
      · go_wp2
        go_ret
        exact ⟨ret_bool (by simpa using eq_of_upto (k := k) (by omega) (by omega) HN.out), _, rfl⟩
  · have hbq : ((len : Int) != (len' : Int)) = true := by simp; omega
    have HN := Lib.hid hne
    clear hne
    go_enter Tryd.func30, Tryd.ntmps30
    go_wp2
    go_ret
    exact ⟨ret_bool (by have := HN.out; simp; rintro rfl; omega), 0, rfl⟩


end Go.Proofs.YtpfbgoogajgciaaDoor
