/- The plain comparers: Place, Bools, Ints. -/
import Derived.Test.YtekajenmkpobgaaBase
set_option linter.unusedSimpArgs false
set_option linter.unusedVariables false
namespace Go.Proofs.Ytekajenmkpobgaa
open Go.RowKit

set_option maxHeartbeats 400000 in
theorem Place_any (A : Option Addr) (len cap B : Nat) (xs : List Int) (n : Int) (w : World) (hr : Reads w B 1 A len (xs.map I)) (hm : len ≤ 4000000000) :
    Calls Try.prog 14 #[.slice A len cap, .int .i64 n] w fun e w' => e = .returned (.int .i64 (placeOf xs n)) ∧ w = w' := by
  have hl : xs.length ≤ len ∧ len ≤ xs.length := by have := hr.1; simp at this; omega
  go_enter Try.func14, Try.ntmps14
  go_wp2
  go_loop [5] (fun i => ∃ k : Nat, k ≤ len ∧ i = .int .i64 k ∧ ∀ j, j < k → xs[j]? ≠ some n) (fun i => len - (intOf i).toNat)
  case atStart => exact ⟨0, Nat.zero_le _, rfl, fun j hj => by omega⟩
  case round =>
    obtain ⟨k, hk, rfl, hne⟩ := hrel
    have HN := Lib.hid hne
    clear hne
    by_cases hlt : k < len
    · obtain ⟨b, off, u, rfl, -, hx, hcell⟩ := hr.at_ hlt
      simp only [List.getElem?_map, Option.map_eq_some_iff] at hx
      obtain ⟨x, hx, rfl⟩ := hx
      have HX := Lib.hid hx
      clear hx
      unfold I at hcell
      go_wp2
      · go_ret
        have hxn : x = n := by
          have : (x == n) = true := by assumption
          simpa using this
        exact ⟨ret_int (placeOf_hit (by rw [HX.out, hxn]) HN.out).symm, rfl⟩
      · go_round
        case rel =>
          have hxn : x ≠ n := by
            have : (x == n) = false := by assumption
            simpa using this
          exact ⟨k + 1, by omega, by go_num, fun j hj => by
            rcases Nat.lt_or_ge j k with h | h
            · exact HN.out j h
            · have : j = k := by omega
              subst this
              rw [HX.out]
              simpa using hxn⟩
        case measure => simp [intOf]; omega
    · go_wp2
      go_ret
      exact ⟨ret_int (placeOf_miss fun j hj => HN.out j (by omega)).symm, rfl⟩

theorem not_eq_of_at {α : Type} {xs ys : List α} {k : Nat} {x y : α} (hx : xs[k]? = some x) (hy : ys[k]? = some y) (h : x ≠ y) : xs ≠ ys := by
  rintro rfl; rw [hx] at hy; exact h (Option.some.inj hy)
theorem eq_of_upto {α : Type} {xs ys : List α} {k : Nat} (hx : xs.length ≤ k) (hy : ys.length ≤ k) (h : ∀ j, j < k → xs[j]? = ys[j]?) : xs = ys := by
  apply List.ext_getElem?
  intro j
  rcases Nat.lt_or_ge j k with hj | hj
  · exact h j hj
  · rw [List.getElem?_eq_none (by omega), List.getElem?_eq_none (by omega)]

set_option maxHeartbeats 400000 in
theorem Ints_any (A A' : Option Addr) (len cap len' cap' B B' : Nat) (xs ys : List Int) (w : World) (hr : Reads w B 1 A len (xs.map I)) (hr' : Reads w B' 1 A' len' (ys.map I)) (hm : len ≤ 4000000000) :
    Calls Try.prog 20 #[.slice A len cap, .slice A' len' cap'] w fun e w' => e = .returned (.bool (decide (xs = ys))) ∧ ∃ k, w' = w.drewN k := by
  have hl : xs.length ≤ len ∧ len ≤ xs.length := by have := hr.1; simp at this; omega
  have hl' : ys.length ≤ len' ∧ len' ≤ ys.length := by have := hr'.1; simp at this; omega
  by_cases hne : len = len'
  · subst hne
    have hbq : ((len : Int) != (len : Int)) = false := by simp
    go_enter Try.func20, Try.ntmps20
    go_wp2
    go_loopw [5] (fun i wr => ∃ k : Nat, k ≤ len ∧ i = .int .i64 k ∧ (∀ j, j < k → xs[j]? = ys[j]?) ∧ ∃ q, wr = w.drewN q) (fun i _ => len - (intOf i).toNat)
    case atStart => exact ⟨0, Nat.zero_le _, rfl, fun j hj => by omega, 0, rfl⟩
    case round =>
      obtain ⟨k, hk, rfl, hne, q, rfl⟩ := hrel
      have HN := Lib.hid hne
      clear hne
      by_cases hlt : k < len
      · obtain ⟨b, off, u, rfl, -, hx, hcell⟩ := hr.at_ hlt
        obtain ⟨b', off', u', rfl, -, hx', hcell'⟩ := hr'.at_ hlt
        simp only [List.getElem?_map, Option.map_eq_some_iff] at hx hx'
        obtain ⟨x, hx, rfl⟩ := hx
        obtain ⟨y, hy, rfl⟩ := hx'
        have HX := Lib.hid hx
        have HY := Lib.hid hy
        clear hx hy
        unfold I at hcell hcell'
        by_cases hxy : x = y
        · subst hxy
          have hb : (x != x) = false := by simp
          go_wp2
          go_quiet (fail)
          go_wp2
          go_roundw
          case rel =>
            exact ⟨k + 1, by omega, by go_num, fun j hj => by
              rcases Nat.lt_or_ge j k with h | h
              · exact HN.out j h
              · have : j = k := by omega
                subst this
                rw [HX.out, HY.out], _, rfl⟩
          case measure => simp [intOf]; omega
        · have hb : (x != y) = true := by simpa using hxy
          have HXY := Lib.hid hxy
          clear hxy
          go_wp2
          go_quiet (fail)
          go_wp2
          go_ret
          exact ⟨ret_bool (by simpa using not_eq_of_at HX.out HY.out HXY.out), _, World.drewN_drewN _ _ _⟩
      · go_wp2
        go_ret
        exact ⟨ret_bool (by simpa using eq_of_upto (k := k) (by omega) (by omega) HN.out), _, rfl⟩
  · have hbq : ((len : Int) != (len' : Int)) = true := by simp; omega
    have HN := Lib.hid hne
    clear hne
    go_enter Try.func20, Try.ntmps20
    go_wp2
    go_ret
    exact ⟨ret_bool (by have := HN.out; simp; rintro rfl; omega), 0, rfl⟩
def V (b : Bool) : Value := .bool b
set_option maxHeartbeats 400000 in
theorem Bools_any (A A' : Option Addr) (len cap len' cap' B B' : Nat) (xs ys : List Bool) (w : World) (hr : Reads w B 1 A len (xs.map V)) (hr' : Reads w B' 1 A' len' (ys.map V)) (hm : len ≤ 4000000000) :
    Calls Try.prog 18 #[.slice A len cap, .slice A' len' cap'] w fun e w' => e = .returned (.bool (decide (xs = ys))) ∧ ∃ k, w' = w.drewN k := by
  have hl : xs.length ≤ len ∧ len ≤ xs.length := by have := hr.1; simp at this; omega
  have hl' : ys.length ≤ len' ∧ len' ≤ ys.length := by have := hr'.1; simp at this; omega
  by_cases hne : len = len'
  · subst hne
    have hbq : ((len : Int) != (len : Int)) = false := by simp
    go_enter Try.func18, Try.ntmps18
    go_wp2
    go_loopw [5] (fun i wr => ∃ k : Nat, k ≤ len ∧ i = .int .i64 k ∧ (∀ j, j < k → xs[j]? = ys[j]?) ∧ ∃ q, wr = w.drewN q) (fun i _ => len - (intOf i).toNat)
    case atStart => exact ⟨0, Nat.zero_le _, rfl, fun j hj => by omega, 0, rfl⟩
    case round =>
      obtain ⟨k, hk, rfl, hne, q, rfl⟩ := hrel
      have HN := Lib.hid hne
      clear hne
      by_cases hlt : k < len
      · obtain ⟨b, off, u, rfl, -, hx, hcell⟩ := hr.at_ hlt
        obtain ⟨b', off', u', rfl, -, hx', hcell'⟩ := hr'.at_ hlt
        simp only [List.getElem?_map, Option.map_eq_some_iff] at hx hx'
        obtain ⟨x, hx, rfl⟩ := hx
        obtain ⟨y, hy, rfl⟩ := hx'
        have HX := Lib.hid hx
        have HY := Lib.hid hy
        clear hx hy
        unfold V at hcell hcell'
        by_cases hxy : x = y
        · subst hxy
          have hb : (!x == x) = false := by simp
          go_wp2
          go_quiet (fail)
          go_wp2
          go_roundw
          case rel =>
            exact ⟨k + 1, by omega, by go_num, fun j hj => by
              rcases Nat.lt_or_ge j k with h | h
              · exact HN.out j h
              · have : j = k := by omega
                subst this
                rw [HX.out, HY.out], _, rfl⟩
          case measure => simp [intOf]; omega
        · have hb : (!x == y) = true := by simpa using hxy
          have HXY := Lib.hid hxy
          clear hxy
          go_wp2
          go_quiet (fail)
          go_wp2
          go_ret
          exact ⟨ret_bool (by simpa using not_eq_of_at HX.out HY.out HXY.out), _, World.drewN_drewN _ _ _⟩
      · go_wp2
        go_ret
        exact ⟨ret_bool (by simpa using eq_of_upto (k := k) (by omega) (by omega) HN.out), _, rfl⟩
  · have hbq : ((len : Int) != (len' : Int)) = true := by simp; omega
    have HN := Lib.hid hne
    clear hne
    go_enter Try.func18, Try.ntmps18
    go_wp2
    go_ret
    exact ⟨ret_bool (by have := HN.out; simp; rintro rfl; omega), 0, rfl⟩
end Go.Proofs.Ytekajenmkpobgaa
