/- The document's answer: Nums (32), Bools (33), Ints (34), Plain (38), Same (18). Conditions: none. Printed by genF6.py. -/
import Derived.Test.YtpfbgoogajgciaaGreatDoorQ9
set_option linter.unusedSimpArgs false
set_option linter.unusedVariables false
namespace Go.Proofs.YtpfbgoogajgciaaGreatDoor
open Go.RowKit Go.Shelf

theorem map_eq_of {f : Int → Value} (P : Int → Prop) (hf : ∀ x y, P x → P y → f x = f y → x = y) : ∀ (xs ys : List Int), (∀ x ∈ xs, P x) → (∀ y ∈ ys, P y) → xs.map f = ys.map f → xs = ys
  | [], [], _, _, _ => rfl
  | [], _ :: _, _, _, h => by cases h
  | _ :: _, [], _, _, h => by cases h
  | x :: xs, y :: ys, hx, hy, h => by
    simp only [List.map_cons, List.cons.injEq] at h
    rw [hf x y (hx x (by simp)) (hy y (by simp)) h.1, map_eq_of P hf xs ys (fun z hz => hx z (by simp [hz])) (fun z hz => hy z (by simp [hz])) h.2]


set_option maxHeartbeats 1600000 in
theorem same32_in (A A' : Option Addr) (len cap len' cap' B B' : Nat) (xs ys : List Int) (w : World) (hr : Reads w B 1 A len (xs.map I)) (hr' : Reads w B' 1 A' len' (ys.map I)) (hm : len ≤ 4611686018427387904) (hx : ∀ x ∈ xs, True) (hy : ∀ x ∈ ys, True) :
    Calls Tryz.prog 32 #[.slice A len cap, .slice A' len' cap'] w fun e w' => e = .returned (.bool (decide (xs = ys))) ∧ ∃ k, w' = w.drewN k := by
  have hl : xs.length ≤ len ∧ len ≤ xs.length := by have := hr.1; simp at this; omega
  have hl' : ys.length ≤ len' ∧ len' ≤ ys.length := by have := hr'.1; simp at this; omega
  have HXX := Lib.hid hx
  have HYY := Lib.hid hy
  clear hx hy
  by_cases hne : len = len'
  · subst hne
    have hbq : ((len : Int) != (len : Int)) = false := by simp
    go_enter Tryz.func32, Tryz.ntmps32
    go_wp2
    go_loopw [5] (fun i wr => ∃ k : Nat, k ≤ len ∧ i = .int .i64 k ∧ (∀ j, j < k → xs[j]? = ys[j]?) ∧ ∃ q, wr = w.drewN q) (fun i _ => len - (Lib.intOf i).toNat)
    case atStart => exact ⟨0, Nat.zero_le _, rfl, fun j hj => by omega, 0, rfl⟩
    case round =>
      obtain ⟨k, hk, rfl, hne, q, rfl⟩ := hrel
      have HN := Lib.hid hne
      clear hne
      by_cases hlt : k < len
      · obtain ⟨b, off, u, rfl, -, hx, hcell⟩ := hr.at_ hlt
        obtain ⟨b', off', u', rfl, -, hx', hcell'⟩ := hr'.at_ hlt
        simp only [List.getElem?_map, Option.map_eq_some_iff] at hx hx'
        obtain ⟨x, hx, rfl⟩ := hx
        obtain ⟨y, hy, rfl⟩ := hx'
        have hpx := HXX.out x (List.mem_of_getElem? hx)
        have hpy := HYY.out y (List.mem_of_getElem? hy)
        have HX := Lib.hid hx
        have HY := Lib.hid hy
        clear hx hy
        unfold I at hcell hcell'
        by_cases hxy : x = y
        · subst hxy
          go_wp2
          go_quiet (fail)
          go_wp2
          go_roundw
          case rel =>
            exact ⟨k + 1, by omega, by go_num, fun j hj => by
              rcases Nat.lt_or_ge j k with h | h
              · exact HN.out j h
              · have : j = k := by omega
                subst this
                rw [HX.out, HY.out], _, rfl⟩
          case measure => simp [Lib.intOf]; omega
        · have HXY : Hid (xs ≠ ys) := Lib.hid (not_eq_of_at HX.out HY.out hxy)
          have hb : (x != y) = true := by simpa using hxy
          all_goals
            clear hxy HX HY
            go_wp2
            go_quiet (fail)
            go_wp2
            go_ret
            exact ⟨ret_bool (by simpa using HXY.out), _, World.drewN_drewN _ _ _⟩
      · go_wp2
        go_ret
        exact ⟨ret_bool (by simpa using eq_of_upto (k := k) (by omega) (by omega) HN.out), _, rfl⟩
  · have hbq : ((len : Int) != (len' : Int)) = true := by simp; omega
    have HN := Lib.hid hne
    clear hne
    go_enter Tryz.func32, Tryz.ntmps32
    go_wp2
    go_ret
    exact ⟨ret_bool (by have := HN.out; simp; rintro rfl; omega), 0, rfl⟩


set_option maxHeartbeats 1600000 in
theorem same33_in (A A' : Option Addr) (len cap len' cap' B B' : Nat) (xs ys : List Int) (w : World) (hr : Reads w B 1 A len (xs.map Bv)) (hr' : Reads w B' 1 A' len' (ys.map Bv)) (hm : len ≤ 4611686018427387904) (hx : ∀ x ∈ xs, x = 0 ∨ x = 1) (hy : ∀ x ∈ ys, x = 0 ∨ x = 1) :
    Calls Tryz.prog 33 #[.slice A len cap, .slice A' len' cap'] w fun e w' => e = .returned (.bool (decide (xs = ys))) ∧ ∃ k, w' = w.drewN k := by
  have hl : xs.length ≤ len ∧ len ≤ xs.length := by have := hr.1; simp at this; omega
  have hl' : ys.length ≤ len' ∧ len' ≤ ys.length := by have := hr'.1; simp at this; omega
  have HXX := Lib.hid hx
  have HYY := Lib.hid hy
  clear hx hy
  by_cases hne : len = len'
  · subst hne
    have hbq : ((len : Int) != (len : Int)) = false := by simp
    go_enter Tryz.func33, Tryz.ntmps33
    go_wp2
    go_loopw [5] (fun i wr => ∃ k : Nat, k ≤ len ∧ i = .int .i64 k ∧ (∀ j, j < k → xs[j]? = ys[j]?) ∧ ∃ q, wr = w.drewN q) (fun i _ => len - (Lib.intOf i).toNat)
    case atStart => exact ⟨0, Nat.zero_le _, rfl, fun j hj => by omega, 0, rfl⟩
    case round =>
      obtain ⟨k, hk, rfl, hne, q, rfl⟩ := hrel
      have HN := Lib.hid hne
      clear hne
      by_cases hlt : k < len
      · obtain ⟨b, off, u, rfl, -, hx, hcell⟩ := hr.at_ hlt
        obtain ⟨b', off', u', rfl, -, hx', hcell'⟩ := hr'.at_ hlt
        simp only [List.getElem?_map, Option.map_eq_some_iff] at hx hx'
        obtain ⟨x, hx, rfl⟩ := hx
        obtain ⟨y, hy, rfl⟩ := hx'
        have hpx := HXX.out x (List.mem_of_getElem? hx)
        have hpy := HYY.out y (List.mem_of_getElem? hy)
        have HX := Lib.hid hx
        have HY := Lib.hid hy
        clear hx hy
        unfold Bv at hcell hcell'
        by_cases hxy : x = y
        · subst hxy
          go_wp2
          go_quiet (fail)
          go_wp2
          go_roundw
          case rel =>
            exact ⟨k + 1, by omega, by go_num, fun j hj => by
              rcases Nat.lt_or_ge j k with h | h
              · exact HN.out j h
              · have : j = k := by omega
                subst this
                rw [HX.out, HY.out], _, rfl⟩
          case measure => simp [Lib.intOf]; omega
        · have HXY : Hid (xs ≠ ys) := Lib.hid (not_eq_of_at HX.out HY.out hxy)
          rcases (show (x = 0 ∧ y = 1) ∨ (x = 1 ∧ y = 0) by omega) with ⟨rfl, rfl⟩ | ⟨rfl, rfl⟩
          all_goals
            clear hxy HX HY
            go_wp2
            go_quiet (fail)
            go_wp2
            go_ret
            exact ⟨ret_bool (by simpa using HXY.out), _, World.drewN_drewN _ _ _⟩
      · go_wp2
        go_ret
        exact ⟨ret_bool (by simpa using eq_of_upto (k := k) (by omega) (by omega) HN.out), _, rfl⟩
  · have hbq : ((len : Int) != (len' : Int)) = true := by simp; omega
    have HN := Lib.hid hne
    clear hne
    go_enter Tryz.func33, Tryz.ntmps33
    go_wp2
    go_ret
    exact ⟨ret_bool (by have := HN.out; simp; rintro rfl; omega), 0, rfl⟩


set_option maxHeartbeats 1600000 in
theorem same34_in (A A' : Option Addr) (len cap len' cap' B B' : Nat) (xs ys : List Int) (w : World) (hr : Reads w B 1 A len (xs.map I)) (hr' : Reads w B' 1 A' len' (ys.map I)) (hm : len ≤ 4611686018427387904) (hx : ∀ x ∈ xs, True) (hy : ∀ x ∈ ys, True) :
    Calls Tryz.prog 34 #[.slice A len cap, .slice A' len' cap'] w fun e w' => e = .returned (.bool (decide (xs = ys))) ∧ ∃ k, w' = w.drewN k := by
  have hl : xs.length ≤ len ∧ len ≤ xs.length := by have := hr.1; simp at this; omega
  have hl' : ys.length ≤ len' ∧ len' ≤ ys.length := by have := hr'.1; simp at this; omega
  have HXX := Lib.hid hx
  have HYY := Lib.hid hy
  clear hx hy
  by_cases hne : len = len'
  · subst hne
    have hbq : ((len : Int) != (len : Int)) = false := by simp
    go_enter Tryz.func34, Tryz.ntmps34
    go_wp2
    go_loopw [5] (fun i wr => ∃ k : Nat, k ≤ len ∧ i = .int .i64 k ∧ (∀ j, j < k → xs[j]? = ys[j]?) ∧ ∃ q, wr = w.drewN q) (fun i _ => len - (Lib.intOf i).toNat)
    case atStart => exact ⟨0, Nat.zero_le _, rfl, fun j hj => by omega, 0, rfl⟩
    case round =>
      obtain ⟨k, hk, rfl, hne, q, rfl⟩ := hrel
      have HN := Lib.hid hne
      clear hne
      by_cases hlt : k < len
      · obtain ⟨b, off, u, rfl, -, hx, hcell⟩ := hr.at_ hlt
        obtain ⟨b', off', u', rfl, -, hx', hcell'⟩ := hr'.at_ hlt
        simp only [List.getElem?_map, Option.map_eq_some_iff] at hx hx'
        obtain ⟨x, hx, rfl⟩ := hx
        obtain ⟨y, hy, rfl⟩ := hx'
        have hpx := HXX.out x (List.mem_of_getElem? hx)
        have hpy := HYY.out y (List.mem_of_getElem? hy)
        have HX := Lib.hid hx
        have HY := Lib.hid hy
        clear hx hy
        unfold I at hcell hcell'
        by_cases hxy : x = y
        · subst hxy
          go_wp2
          go_quiet (fail)
          go_wp2
          go_roundw
          case rel =>
            exact ⟨k + 1, by omega, by go_num, fun j hj => by
              rcases Nat.lt_or_ge j k with h | h
              · exact HN.out j h
              · have : j = k := by omega
                subst this
                rw [HX.out, HY.out], _, rfl⟩
          case measure => simp [Lib.intOf]; omega
        · have HXY : Hid (xs ≠ ys) := Lib.hid (not_eq_of_at HX.out HY.out hxy)
          have hb : (x != y) = true := by simpa using hxy
          all_goals
            clear hxy HX HY
            go_wp2
            go_quiet (fail)
            go_wp2
            go_ret
            exact ⟨ret_bool (by simpa using HXY.out), _, World.drewN_drewN _ _ _⟩
      · go_wp2
        go_ret
        exact ⟨ret_bool (by simpa using eq_of_upto (k := k) (by omega) (by omega) HN.out), _, rfl⟩
  · have hbq : ((len : Int) != (len' : Int)) = true := by simp; omega
    have HN := Lib.hid hne
    clear hne
    go_enter Tryz.func34, Tryz.ntmps34
    go_wp2
    go_ret
    exact ⟨ret_bool (by have := HN.out; simp; rintro rfl; omega), 0, rfl⟩


set_option maxHeartbeats 1600000 in
set_option maxRecDepth 100000 in
theorem rPlain_in (k : Int) (A1 A2 A3 A4 : Option Addr) (n1 n2 n3 n4 c1 c2 c3 c4 : Nat) (w : World) :
    Calls Tryz.prog 38 #[.agg #[.int .i64 k, .slice A1 n1 c1, .slice A2 n2 c2, .slice A3 n3 c3, .slice A4 n4 c4]] w fun e w' => e = .returned (.bool (plainN k n1 n2 n3 n4)) ∧ Below w.heap.size w w' := by
  obtain ⟨⟨q0, q1, q2, q3, q4⟩, -⟩ := (Blk.new w 32 #[.int .i64 k, .slice A1 n1 c1, .slice A2 n2 c2, .slice A3 n3 c3, .slice A4 n4 c4]).five
  have hb0 : Below w.heap.size w (w.alloc (.cells #[.int .i64 k, .slice A1 n1 c1, .slice A2 n2 c2, .slice A3 n3 c3, .slice A4 n4 c4] 32)) := (Below.refl _ w).alloc (Nat.le_refl _) _
  have hz : ∀ n : Nat, ((n : Int) == 0) = decide (n = 0) := fun n => by by_cases h : n = 0 <;> simp [h]
  have z1 := hz n1
  have z2 := hz n2
  have z3 := hz n3
  have z4 := hz n4
  obtain ⟨b1, hb1⟩ : ∃ b, decide (n1 = 0) = b := ⟨_, rfl⟩
  obtain ⟨b2, hb2⟩ : ∃ b, decide (n2 = 0) = b := ⟨_, rfl⟩
  obtain ⟨b3, hb3⟩ : ∃ b, decide (n3 = 0) = b := ⟨_, rfl⟩
  obtain ⟨b4, hb4⟩ : ∃ b, decide (n4 = 0) = b := ⟨_, rfl⟩
  rw [hb1] at z1
  rw [hb2] at z2
  rw [hb3] at z3
  rw [hb4] at z4
  have HPN : Hid (plainN k n1 n2 n3 n4 = if k = 1 then b3 && b4 else if k = 2 then b1 && (b2 && b4) else if k = 3 then b2 && b3 else false) := Lib.hid (by unfold plainN; rw [hb1, hb2, hb3, hb4])
  clear hz hb1 hb2 hb3 hb4
  by_cases hk1 : k = 1
  · subst hk1
    rw [if_pos rfl] at HPN
    cases b3 <;> cases b4
    all_goals
      go_enter Tryz.func38, Tryz.ntmps38
      go_wp2_with fail
      go_ret
      exact ⟨by rw [HPN.out]; rfl, hb0⟩
  by_cases hk2 : k = 2
  · subst hk2
    rw [if_neg (by decide), if_pos rfl] at HPN
    cases b1 <;> cases b2 <;> cases b4
    all_goals
      go_enter Tryz.func38, Tryz.ntmps38
      go_wp2_with fail
      go_ret
      exact ⟨by rw [HPN.out]; rfl, hb0⟩
  by_cases hk3 : k = 3
  · subst hk3
    rw [if_neg (by decide), if_neg (by decide), if_pos rfl] at HPN
    cases b2 <;> cases b3
    all_goals
      go_enter Tryz.func38, Tryz.ntmps38
      go_wp2_with fail
      go_ret
      exact ⟨by rw [HPN.out]; rfl, hb0⟩
  rw [if_neg hk1, if_neg hk2, if_neg hk3] at HPN
  have e1 : (k == 1) = false := by simpa using hk1
  have e2 : (k == 2) = false := by simpa using hk2
  have e3 : (k == 3) = false := by simpa using hk3
  clear hk1 hk2 hk3
  go_enter Tryz.func38, Tryz.ntmps38
  go_wp2_with fail
  go_ret
  exact ⟨by rw [HPN.out]; rfl, hb0⟩

end Go.Proofs.YtpfbgoogajgciaaGreatDoor
