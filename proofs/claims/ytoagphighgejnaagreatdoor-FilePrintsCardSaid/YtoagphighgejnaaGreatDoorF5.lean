/- The document's answer: Text (19). Conditions: none. -/
import Derived.Test.YtoagphighgejnaaGreatDoorF3
set_option linter.unusedSimpArgs false
set_option linter.unusedVariables false
namespace Go.Proofs.YtoagphighgejnaaGreatDoor
open Go.RowKit Go.Shelf


theorem dig_slice_fin : ∀ d : Fin 10, (⟨#[48, 49, 50, 51, 52, 53, 54, 55, 56, 57]⟩ : ByteArray).extract d.val (d.val + 1) = ⟨#[UInt8.ofNat (48 + d.val)]⟩ := by decide +kernel
theorem dig_slice (d : Nat) (h : d < 10) : (⟨#[48, 49, 50, 51, 52, 53, 54, 55, 56, 57]⟩ : ByteArray).extract d (d + 1) = ⟨#[UInt8.ofNat (48 + d)]⟩ := dig_slice_fin ⟨d, h⟩

theorem itoa_pos_step {n q : Int} {d : Nat} (h : 10 ≤ n) (hq : n = 10 * q + d) (hd : d < 10) : Lib.itoa n = Lib.itoa q ++ [UInt8.ofNat (48 + d)] := by
  obtain ⟨u, rfl⟩ : ∃ u : Nat, q = u := ⟨q.toNat, by omega⟩
  obtain rfl : n = ((10 * u + d : Nat) : Int) := by omega
  rw [Lib.itoa_nonneg, Lib.itoa_nonneg, decDigits_push u d (by omega) hd]
theorem itoa_neg_step {n q : Int} {d : Nat} (h : n ≤ -10) (hq : n = 10 * q - d) (hd : d < 10) : Lib.itoa n = Lib.itoa q ++ [UInt8.ofNat (48 + d)] := by
  obtain ⟨u, rfl⟩ : ∃ u : Nat, q = -(u : Int) := ⟨q.natAbs, by omega⟩
  obtain rfl : n = -((10 * u + d : Nat) : Int) := by omega
  rw [Lib.itoa_neg _ (by omega), Lib.itoa_neg _ (by omega), decDigits_push u d (by omega) hd]; rfl

theorem wrapI {x : Int} (h0 : -9223372036854775808 ≤ x) (h1 : x ≤ 9223372036854775807) : IntKind.i64.wrap x = x := by
  simp [IntKind.wrap, IntKind.signed, IntKind.bits]; omega
theorem one_dig (d : Nat) : strV [UInt8.ofNat (48 + d)] = .string ⟨#[UInt8.ofNat (48 + d)]⟩ := rfl
set_option maxHeartbeats 1600000 in
set_option maxRecDepth 100000 in
theorem rText_small (d : Nat) (hs : d < 10) (w : World) :
    Calls Tryz.prog 26 #[.int .i64 d] w fun e w' => e = .returned (strV (Lib.itoa d)) ∧ ∃ q, w' = w.drewN q := by
  have HD := Lib.hid (dig_slice d (by omega))
  have HI := Lib.hid ((Lib.itoa_nonneg d).trans (Lib.decDigits_one (show d < 10 by omega)))
  go_enter Tryz.func26, Tryz.ntmps26
  go_wp2
  go_ret
  refine ⟨congrArg Ending.returned ?_, 0, rfl⟩
  rw [HI.out, one_dig, ← HD.out]; rfl

set_option maxHeartbeats 1600000 in
set_option maxRecDepth 100000 in
theorem rText_pos : ∀ (m : Nat) (n : Int), n.natAbs ≤ m → 0 ≤ n → n ≤ 9223372036854775807 → ∀ w : World,
    Calls Tryz.prog 26 #[.int .i64 n] w fun e w' => e = .returned (strV (Lib.itoa n)) ∧ ∃ q, w' = w.drewN q := by
  intro m
  induction m with
  | zero =>
    intro n hm h0 h1 w
    obtain rfl : n = ((0 : Nat) : Int) := by omega
    exact rText_small 0 (by omega) w
  | succ m ih =>
    intro n hm h0 h1 w
    by_cases hs : n < 10
    · obtain ⟨d, rfl⟩ : ∃ d : Nat, n = d := ⟨n.toNat, by omega⟩
      exact rText_small d (by omega) w
    · obtain ⟨q, hq, hq0, hq1⟩ : ∃ q : Int, n.tdiv 10 = q ∧ 0 ≤ q ∧ q.natAbs ≤ m := ⟨_, rfl, Int.tdiv_nonneg h0 (by omega), by rw [Int.tdiv_eq_ediv_of_nonneg h0]; omega⟩
      obtain ⟨d, hd, hd9⟩ : ∃ d : Nat, n.tmod 10 = (d : Int) ∧ d < 10 := ⟨(n % 10).toNat, by rw [Int.tmod_eq_emod_of_nonneg h0]; omega, by omega⟩
      have hnq : n = 10 * q + d := by rw [← hq, ← hd]; exact (Int.mul_tdiv_add_tmod n 10).symm
      have HI := Lib.hid (itoa_pos_step (by omega) hnq hd9)
      have HD := Lib.hid (dig_slice d hd9)
      have hql : q ≤ 9223372036854775807 := by omega
      have hil := Lib.itoa_length_le q (by omega) hql
      obtain ⟨X, hX⟩ : ∃ X : ByteArray, X = ⟨(Lib.itoa q).toArray⟩ := ⟨_, rfl⟩
      have hXs : X.size ≤ 21 := by rw [hX]; exact hil
      have hXl : X.data.toList = Lib.itoa q := by rw [hX]
      have HC : Hid (∀ W, Calls Tryz.prog 26 #[.int .i64 q] W fun e w' => e = .returned (.string X) ∧ ∃ q, w' = W.drewN q) := Lib.hid (fun W => by rw [hX]; exact ih q hq1 hq0 hql W)
      have HX := Lib.hid hXl
      have hds : ((⟨#[48, 49, 50, 51, 52, 53, 54, 55, 56, 57]⟩ : ByteArray).extract d (d + 1)).size = 1 := by rw [HD.out]; rfl
      have hw1 : IntKind.i64.wrap q = q := wrapI (by omega) (by omega)
      have hw2 : IntKind.i64.wrap ((d : Int) + 1) = (d : Int) + 1 := wrapI (by omega) (by omega)
      clear ih hm hnq hq1 hil hX hXl
      go_enter Tryz.func26, Tryz.ntmps26
      go_wp2_with fail
      go_region_with (go_at_call 26; refine (HC.out _).mono ?_; rintro e w1 ⟨rfl, q1, rfl⟩)
      all_goals
        go_wp2
        go_ret
        refine ⟨congrArg Ending.returned ?_, ?_⟩
        · show Value.string (X ++ ByteArray.extract ⟨#[48, 49, 50, 51, 52, 53, 54, 55, 56, 57]⟩ d (d + 1)) = _
          rw [HI.out, HD.out, ← strV_data]
          refine congrArg strV ?_
          simp [HX.out]
        · first
            | exact ⟨q1 + 1, (World.drewN_drewN w 1 q1).symm ▸ rfl⟩
            | exact ⟨_, World.drewN_drewN w 1 q1⟩
            | exact ⟨_, rfl⟩

set_option maxHeartbeats 1600000 in
set_option maxRecDepth 100000 in
theorem rText_small_neg (d : Nat) (hs : d < 10) (h1 : 1 ≤ d) (w : World) :
    Calls Tryz.prog 26 #[.int .i64 (-(d : Int))] w fun e w' => e = .returned (strV (Lib.itoa (-(d : Int)))) ∧ ∃ q, w' = w.drewN q := by
  have HD := Lib.hid (dig_slice d (by omega))
  have HI : Hid (Lib.itoa (-(d : Int)) = 45 :: [UInt8.ofNat (48 + d)]) := Lib.hid (by rw [Lib.itoa_neg d h1, Lib.decDigits_one hs])
  have hds : ((⟨#[48, 49, 50, 51, 52, 53, 54, 55, 56, 57]⟩ : ByteArray).extract d (d + 1)).size = 1 := by rw [HD.out]; rfl
  go_enter Tryz.func26, Tryz.ntmps26
  go_wp2
  go_ret
  refine ⟨congrArg Ending.returned ?_, 0, rfl⟩
  show Value.string (⟨#[45]⟩ ++ ByteArray.extract ⟨#[48, 49, 50, 51, 52, 53, 54, 55, 56, 57]⟩ d (d + 1)) = _
  rw [HI.out, HD.out, ← strV_data]
  refine congrArg strV ?_
  simp

set_option maxHeartbeats 1600000 in
set_option maxRecDepth 100000 in
theorem rText_neg : ∀ (m : Nat) (n : Int), n.natAbs ≤ m → n < 0 → -9223372036854775808 ≤ n → ∀ w : World,
    Calls Tryz.prog 26 #[.int .i64 n] w fun e w' => e = .returned (strV (Lib.itoa n)) ∧ ∃ q, w' = w.drewN q := by
  intro m
  induction m with
  | zero => intro n hm h0 h1 w; omega
  | succ m ih =>
    intro n hm h0 h1 w
    by_cases hs : -10 < n
    · obtain ⟨d, rfl⟩ : ∃ d : Nat, n = -(d : Int) := ⟨n.natAbs, by omega⟩
      exact rText_small_neg d (by omega) (by omega) w
    · have e1 : n.tdiv 10 = -((-n) / 10) := by
        rw [show n.tdiv 10 = -((-n).tdiv 10) by rw [Int.neg_tdiv]; omega, Int.tdiv_eq_ediv_of_nonneg (by omega)]
      obtain ⟨q, hq, hq0, hq1⟩ : ∃ q : Int, n.tdiv 10 = q ∧ q < 0 ∧ q.natAbs ≤ m := ⟨_, rfl, by omega, by omega⟩
      have e2 := Int.mul_tdiv_add_tmod n 10
      obtain ⟨d, hd, hd9⟩ : ∃ d : Nat, n.tmod 10 = -(d : Int) ∧ d < 10 := ⟨(n.tmod 10).natAbs, by omega, by omega⟩
      have hnq : n = 10 * q - d := by rw [← hq]; omega
      have HI := Lib.hid (itoa_neg_step (by omega) hnq hd9)
      have HD := Lib.hid (dig_slice d hd9)
      have hql : -9223372036854775808 ≤ q := by omega
      have hil := Lib.itoa_length_le q hql (by omega)
      obtain ⟨X, hX⟩ : ∃ X : ByteArray, X = ⟨(Lib.itoa q).toArray⟩ := ⟨_, rfl⟩
      have hXs : X.size ≤ 21 := by rw [hX]; exact hil
      have hXl : X.data.toList = Lib.itoa q := by rw [hX]
      have HC : Hid (∀ W, Calls Tryz.prog 26 #[.int .i64 q] W fun e w' => e = .returned (.string X) ∧ ∃ q, w' = W.drewN q) := Lib.hid (fun W => by rw [hX]; exact ih q hq1 hq0 hql W)
      have HX := Lib.hid hXl
      have hds : ((⟨#[48, 49, 50, 51, 52, 53, 54, 55, 56, 57]⟩ : ByteArray).extract d (d + 1)).size = 1 := by rw [HD.out]; rfl
      have hw1 : IntKind.i64.wrap q = q := wrapI (by omega) (by omega)
      have hw2 : IntKind.i64.wrap ((d : Int) + 1) = (d : Int) + 1 := wrapI (by omega) (by omega)
      clear ih hm hnq hq1 hil hX hXl e1 e2
      go_enter Tryz.func26, Tryz.ntmps26
      go_wp2_with fail
      go_region_with (go_at_call 26; refine (HC.out _).mono ?_; rintro e w1 ⟨rfl, q1, rfl⟩)
      all_goals
        go_wp2
        go_ret
        refine ⟨congrArg Ending.returned ?_, ?_⟩
        · show Value.string (X ++ ByteArray.extract ⟨#[48, 49, 50, 51, 52, 53, 54, 55, 56, 57]⟩ d (d + 1)) = _
          rw [HI.out, HD.out, ← strV_data]
          refine congrArg strV ?_
          simp [HX.out]
        · first
            | exact ⟨q1 + 1, (World.drewN_drewN w 1 q1).symm ▸ rfl⟩
            | exact ⟨_, World.drewN_drewN w 1 q1⟩
            | exact ⟨_, rfl⟩

theorem rText_in (n : Int) (h0 : -9223372036854775808 ≤ n) (h1 : n ≤ 9223372036854775807) (w : World) :
    Calls Tryz.prog 26 #[.int .i64 n] w fun e w' => e = .returned (strV (Lib.itoa n)) ∧ ∃ q, w' = w.drewN q := by
  rcases Int.lt_or_le n 0 with h | h
  · exact rText_neg _ n (Nat.le_refl _) h h0 w
  · exact rText_pos _ n (Nat.le_refl _) h h1 w
end Go.Proofs.YtoagphighgejnaaGreatDoor
