/- Same (14). Conditions: none. -/
import Derived.Test.YtodddplpggggeaaDoorC
set_option linter.unusedSimpArgs false
set_option linter.unusedVariables false
namespace Go.Proofs.YtodddplpggggeaaDoor
open Go.RowKit Go.Shelf

theorem ret_bool {a b : Bool} (h : a = b) : Ending.returned (.bool a) = .returned (.bool b) := by rw [h]
theorem eq_of_upto {α : Type} {xs ys : List α} {k : Nat} (hx : xs.length ≤ k) (hy : ys.length ≤ k) (h : ∀ j, j < k → xs[j]? = ys[j]?) : xs = ys := by
  apply List.ext_getElem?
  intro j
  rcases Nat.lt_or_ge j k with hj | hj
  · exact h j hj
  · rw [List.getElem?_eq_none (by omega), List.getElem?_eq_none (by omega)]
theorem not_eq_of_at {α : Type} {xs ys : List α} {k : Nat} {x y : α} (hx : xs[k]? = some x) (hy : ys[k]? = some y) (h : x ≠ y) : xs ≠ ys := by
  rintro rfl; rw [hx] at hy; exact h (Option.some.inj hy)

theorem bs_ne_iff (x y : List UInt8) : ((⟨x.toArray⟩ : ByteArray).toList == (⟨y.toArray⟩ : ByteArray).toList) = (x == y) := by
  rw [Lib.toList_data, Lib.toList_data]

set_option maxHeartbeats 1600000 in
theorem Same_in (A A' : Option Addr) (len cap len' cap' B B' : Nat) (xs ys : List (List UInt8)) (w : World) (hr : Reads w B 1 A len (xs.map strV)) (hr' : Reads w B' 1 A' len' (ys.map strV)) (hm : len ≤ 4611686018427387904) :
    Calls Tryd.prog 14 #[.slice A len cap, .slice A' len' cap'] w fun e w' => e = .returned (.bool (decide (xs = ys))) ∧ ∃ k, w' = w.drewN k := by
  have hl : xs.length ≤ len ∧ len ≤ xs.length := by have := hr.1; simp at this; omega
  have hl' : ys.length ≤ len' ∧ len' ≤ ys.length := by have := hr'.1; simp at this; omega
  by_cases hne : len = len'
  · subst hne
    have hbq : ((len : Int) != (len : Int)) = false := by simp
    go_enter Tryd.func14, Tryd.ntmps14
    go_wp2
    go_loopw [5] (fun i wr => ∃ k : Nat, k ≤ len ∧ i = .int .i64 k ∧ (∀ j, j < k → xs[j]? = ys[j]?) ∧ ∃ q, wr = w.drewN q) (fun i _ => len - (Lib.intOf i).toNat)
    case atStart => exact ⟨0, Nat.zero_le _, rfl, fun j hj => by omega, 0, rfl⟩
    case round =>
      obtain ⟨k, hk, rfl, hne, q, rfl⟩ := hrel
      have HN := Lib.hid hne
      clear hne
      by_cases hlt : k < len
      · obtain ⟨b, off, u, rfl, -, hx, hcell⟩ := hr.at_ hlt
        obtain ⟨b', off', u', rfl, -, hx', hcell'⟩ := hr'.at_ hlt
        simp only [List.getElem?_map, Option.map_eq_some_iff] at hx hx'
        obtain ⟨x, hx, rfl⟩ := hx
        obtain ⟨y, hy, rfl⟩ := hx'
        have HX := Lib.hid hx
        have HY := Lib.hid hy
        clear hx hy
        unfold strV at hcell hcell'
        have hbs := bs_ne_iff x y
        have hinj : (⟨x.toArray⟩ : ByteArray) = ⟨y.toArray⟩ → x = y := fun h => strV_inj (congrArg Value.string h)
        by_cases hxy : x = y
        · subst hxy
          have hb : ((⟨x.toArray⟩ : ByteArray).toList == (⟨x.toArray⟩ : ByteArray).toList) = true := by simp
          clear hbs hinj
          generalize (⟨x.toArray⟩ : ByteArray) = X at hcell hcell' hb
          go_wp2
          go_quiet (fail)
          go_wp2
          go_roundw
          case rel =>
            exact ⟨k + 1, by omega, by go_num, fun j hj => by
              rcases Nat.lt_or_ge j k with h | h
              · exact HN.out j h
              · have : j = k := by omega
                subst this
                rw [HX.out, HY.out], _, rfl⟩
          case measure => simp [Lib.intOf]; omega
        · have hb : ((⟨x.toArray⟩ : ByteArray).toList == (⟨y.toArray⟩ : ByteArray).toList) = false := by rw [hbs]; simpa using hxy
          have HXY := Lib.hid hxy
          clear hxy hbs hinj
          generalize (⟨x.toArray⟩ : ByteArray) = X at hcell hb
          generalize (⟨y.toArray⟩ : ByteArray) = Y at hcell' hb
          go_wp2
          go_quiet (fail)
          go_wp2
          go_ret
          exact ⟨ret_bool (by simpa using not_eq_of_at HX.out HY.out HXY.out), _, World.drewN_drewN _ _ _⟩
      · go_wp2
        go_ret
        exact ⟨ret_bool (by simpa using eq_of_upto (k := k) (by omega) (by omega) HN.out), _, rfl⟩
  · have hbq : ((len : Int) != (len' : Int)) = true := by simp; omega
    have HN := Lib.hid hne
    clear hne
    go_enter Tryd.func14, Tryd.ntmps14
    go_wp2
    go_ret
    exact ⟨ret_bool (by have := HN.out; simp; rintro rfl; omega), 0, rfl⟩

end Go.Proofs.YtodddplpggggeaaDoor
