/- WordDigits (4). Conditions: none. Printed by genN4.py. -/
import Derived.Test.YtodddplpggggeaaDoorK
import Derived.Test.YtodddplpggggeaaDoorPT
set_option linter.unusedSimpArgs false
set_option linter.unusedVariables false
namespace Go.Proofs.YtodddplpggggeaaDoor
open Go.RowKit Go.Shelf

theorem asText (l : List UInt8) (h : l ≠ []) : ∃ X : ByteArray, X = ⟨l.toArray⟩ ∧ X.toList.isEmpty = false ∧ X.size = l.length := by
  refine ⟨_, rfl, ?_, rfl⟩
  rw [Lib.toList_data]
  cases l with
  | nil => exact absurd rfl h
  | cons _ _ => rfl
theorem cat_data (x y : ByteArray) : (x ++ y).data.toList = x.data.toList ++ y.data.toList := by simp
theorem wrap64_of {x : Int} (h0 : -9223372036854775808 ≤ x) (h1 : x ≤ 9223372036854775807) : wrap64 x = x := by unfold wrap64; omega
theorem num_one (D : Nat) (hD : D < 10) : numL (Lib.decDigits D) = ((D : Int), 0) := by rw [num_dec, if_pos (by omega)]
theorem num_one' (D : Nat) (hD : D < 10) : numL ([UInt8.ofNat (48 + D)]) = ((D : Int), 0) := by rw [← Lib.decDigits_one hD]; exact num_one D hD

set_option maxHeartbeats 1600000 in
set_option maxRecDepth 100000 in
theorem digits_neg_false_big_lt (n d : Int) (K D : Nat) (w : World) (hE : Env w) (hq : n.tdiv 10 = -(K : Int)) (hd : d.tmod 10 = (D : Int)) (hD : D < 10) (hK : 1 ≤ K) (hF : (K : Int) < 922337203685477580) :
    Calls Tryd.prog 4 #[.int .i64 n, .int .u8 d, .bool false] w fun e w' => e = .returned (.bool true) ∧ Below w.heap.size w w' := by
  have hnum : numL (Lib.decDigits (10 * K + D)) = (10 * (K : Int) + D, 0) := by
    rw [num_dec, if_pos (by omega)]; exact Prod.ext (by simp only []; omega) rfl
  rw [decDigits_push K D (by omega) (by omega)] at hnum
  obtain ⟨k, hk⟩ : ∃ k : Int, k = (K : Int) := ⟨_, rfl⟩
  rw [← hk] at hq hF hnum
  have hk1 : 1 ≤ k := by omega
  have HKK := Lib.hid hk
  clear hk hK
  have HN := Lib.hid hnum
  clear hnum
  go_enter Tryd.func4, Tryd.ntmps4
  go_wp2_with fail
  refine (Text_in (k) (by first | omega | (have := HF.out; omega)) (by first | omega | (have := HF.out; omega)) w hE).mono ?_
  rintro e w1 ⟨rfl, hb1⟩
  have hE1 := hE.on hb1

  rw [show Lib.itoa k = Lib.decDigits K from (by rw [HKK.out]; exact Lib.itoa_nonneg K)]
  obtain ⟨X, hX, hne, hXs0⟩ := asText (Lib.decDigits K) (dec_ne K)
  have hXs : X.size ≤ 21 := by
    have h := Lib.itoa_length_le k (by first | omega | (have := HF.out; omega)) (by first | omega | (have := HF.out; omega))
    rw [show Lib.itoa k = Lib.decDigits K from (by rw [HKK.out]; exact Lib.itoa_nonneg K)] at h
    omega
  clear hXs0
  rw [← hX]
  have HX := Lib.hid hX
  clear hX
  go_wp2_with fail
  refine (Text_in ((D : Int)) (by omega) (by omega) w1 hE1).mono ?_
  rintro e w2 ⟨rfl, hb2⟩
  have hE2 := hE1.on hb2
  rw [show Lib.itoa (D : Int) = Lib.decDigits D from Lib.itoa_nonneg D]
  obtain ⟨Y, hY, hneY, hYs0⟩ := asText (Lib.decDigits D) (dec_ne D)
  rw [Lib.decDigits_one (show D < 10 by omega)] at hYs0
  rw [← hY]
  have hYs : Y.size = 1 := hYs0
  clear hYs0
  have HY := Lib.hid hY
  clear hY
  go_wp2_with fail
  have hnum : numL (X ++ Y).data.toList = (10 * k + D, 0) := by
    rw [cat_data, HX.out, HY.out, Lib.decDigits_one (show D < 10 by omega)]
    exact HN.out
  refine (Number_in (X ++ Y) (by rw [ByteArray.size_append]; omega) w2 hE2).mono ?_
  rw [hnum]
  clear hnum
  rintro e w3 ⟨rfl, hb3⟩
  have hE3 := hE2.on hb3
  go_wp2_with fail
  refine (known_in w3 hE3).mono ?_
  rintro e w4 ⟨rfl, hb4⟩
  go_wp2_with fail
  go_ret
  exact ⟨rfl, ((hb1.trans (hb2.mono hb1.size)).trans (hb3.mono (by have := hb1.size; have := hb2.size; omega))).trans (hb4.mono (by have := hb1.size; have := hb2.size; have := hb3.size; omega))⟩

set_option maxHeartbeats 1600000 in
set_option maxRecDepth 100000 in
theorem digits_neg_false_big_eq7 (n d : Int) (K D : Nat) (w : World) (hE : Env w) (hq : n.tdiv 10 = -(K : Int)) (hd : d.tmod 10 = (D : Int)) (hD : D < 10) (hK : 1 ≤ K) (hF : K = 922337203685477580) (hD7 : D ≤ 7) :
    Calls Tryd.prog 4 #[.int .i64 n, .int .u8 d, .bool false] w fun e w' => e = .returned (.bool true) ∧ Below w.heap.size w w' := by
  subst hF
  have hnum : numL (Lib.decDigits (10 * 922337203685477580 + D)) = (9223372036854775800 + (D : Int), 0) := by
    rw [num_dec, if_pos (by omega)]; exact Prod.ext (by simp only []; omega) rfl
  rw [decDigits_push 922337203685477580 D (by omega) (by omega)] at hnum
  have HN := Lib.hid hnum
  clear hnum
  go_enter Tryd.func4, Tryd.ntmps4
  go_wp2_with fail
  refine (Text_in (922337203685477580) (by first | omega | (have := HF.out; omega)) (by first | omega | (have := HF.out; omega)) w hE).mono ?_
  rintro e w1 ⟨rfl, hb1⟩
  have hE1 := hE.on hb1

  rw [show Lib.itoa 922337203685477580 = Lib.decDigits 922337203685477580 from Lib.itoa_nonneg 922337203685477580]
  obtain ⟨X, hX, hne, hXs0⟩ := asText (Lib.decDigits 922337203685477580) (dec_ne 922337203685477580)
  have hXs : X.size ≤ 21 := by
    have h := Lib.itoa_length_le 922337203685477580 (by first | omega | (have := HF.out; omega)) (by first | omega | (have := HF.out; omega))
    rw [show Lib.itoa 922337203685477580 = Lib.decDigits 922337203685477580 from Lib.itoa_nonneg 922337203685477580] at h
    omega
  clear hXs0
  rw [← hX]
  have HX := Lib.hid hX
  clear hX
  go_wp2_with fail
  refine (Text_in ((D : Int)) (by omega) (by omega) w1 hE1).mono ?_
  rintro e w2 ⟨rfl, hb2⟩
  have hE2 := hE1.on hb2
  rw [show Lib.itoa (D : Int) = Lib.decDigits D from Lib.itoa_nonneg D]
  obtain ⟨Y, hY, hneY, hYs0⟩ := asText (Lib.decDigits D) (dec_ne D)
  rw [Lib.decDigits_one (show D < 10 by omega)] at hYs0
  rw [← hY]
  have hYs : Y.size = 1 := hYs0
  clear hYs0
  have HY := Lib.hid hY
  clear hY
  go_wp2_with fail
  have hnum : numL (X ++ Y).data.toList = (9223372036854775800 + (D : Int), 0) := by
    rw [cat_data, HX.out, HY.out, Lib.decDigits_one (show D < 10 by omega)]
    exact HN.out
  refine (Number_in (X ++ Y) (by rw [ByteArray.size_append]; omega) w2 hE2).mono ?_
  rw [hnum]
  clear hnum
  rintro e w3 ⟨rfl, hb3⟩
  have hE3 := hE2.on hb3
  go_wp2_with fail
  refine (known_in w3 hE3).mono ?_
  rintro e w4 ⟨rfl, hb4⟩
  go_wp2_with fail
  go_ret
  exact ⟨rfl, ((hb1.trans (hb2.mono hb1.size)).trans (hb3.mono (by have := hb1.size; have := hb2.size; omega))).trans (hb4.mono (by have := hb1.size; have := hb2.size; have := hb3.size; omega))⟩

set_option maxHeartbeats 1600000 in
set_option maxRecDepth 100000 in
theorem digits_neg_false_big_eq8 (n d : Int) (K D : Nat) (w : World) (hE : Env w) (hq : n.tdiv 10 = -(K : Int)) (hd : d.tmod 10 = (D : Int)) (hD : D < 10) (hK : 1 ≤ K) (hF : K = 922337203685477580) (hD7 : D = 8) :
    Calls Tryd.prog 4 #[.int .i64 n, .int .u8 d, .bool false] w fun e w' => e = .returned (.bool true) ∧ Below w.heap.size w w' := by
  subst hF
  subst hD7
  have hwrap : wrap64 (-wrap64 9223372036854775808) = -9223372036854775808 := by decide +kernel
  have hnum : numL (Lib.decDigits (10 * 922337203685477580 + 8)) = (0, 11) := by
    rw [num_dec, if_neg (by omega)]
  rw [decDigits_push 922337203685477580 8 (by omega) (by omega)] at hnum
  have HN := Lib.hid hnum
  clear hnum
  go_enter Tryd.func4, Tryd.ntmps4
  go_wp2_with fail
  refine (Text_in (922337203685477580) (by first | omega | (have := HF.out; omega)) (by first | omega | (have := HF.out; omega)) w hE).mono ?_
  rintro e w1 ⟨rfl, hb1⟩
  have hE1 := hE.on hb1

  rw [show Lib.itoa 922337203685477580 = Lib.decDigits 922337203685477580 from Lib.itoa_nonneg 922337203685477580]
  obtain ⟨X, hX, hne, hXs0⟩ := asText (Lib.decDigits 922337203685477580) (dec_ne 922337203685477580)
  have hXs : X.size ≤ 21 := by
    have h := Lib.itoa_length_le 922337203685477580 (by first | omega | (have := HF.out; omega)) (by first | omega | (have := HF.out; omega))
    rw [show Lib.itoa 922337203685477580 = Lib.decDigits 922337203685477580 from Lib.itoa_nonneg 922337203685477580] at h
    omega
  clear hXs0
  rw [← hX]
  have HX := Lib.hid hX
  clear hX
  go_wp2_with fail
  refine (Text_in (8) (by omega) (by omega) w1 hE1).mono ?_
  rintro e w2 ⟨rfl, hb2⟩
  have hE2 := hE1.on hb2
  rw [show Lib.itoa 8 = Lib.decDigits 8 from Lib.itoa_nonneg 8]
  obtain ⟨Y, hY, hneY, hYs0⟩ := asText (Lib.decDigits 8) (dec_ne 8)
  rw [Lib.decDigits_one (show 8 < 10 by omega)] at hYs0
  rw [← hY]
  have hYs : Y.size = 1 := hYs0
  clear hYs0
  have HY := Lib.hid hY
  clear hY
  go_wp2_with fail
  have hnum : numL (X ++ Y).data.toList = (0, 11) := by
    rw [cat_data, HX.out, HY.out, Lib.decDigits_one (show 8 < 10 by omega)]
    exact HN.out
  refine (Number_in (X ++ Y) (by rw [ByteArray.size_append]; omega) w2 hE2).mono ?_
  rw [hnum]
  clear hnum
  rintro e w3 ⟨rfl, hb3⟩
  have hE3 := hE2.on hb3
  go_wp2_with fail
  refine (known_in w3 hE3).mono ?_
  rintro e w4 ⟨rfl, hb4⟩
  go_wp2_with fail
  go_ret
  exact ⟨rfl, ((hb1.trans (hb2.mono hb1.size)).trans (hb3.mono (by have := hb1.size; have := hb2.size; omega))).trans (hb4.mono (by have := hb1.size; have := hb2.size; have := hb3.size; omega))⟩

set_option maxHeartbeats 1600000 in
set_option maxRecDepth 100000 in
theorem digits_neg_false_big_eq9 (n d : Int) (K D : Nat) (w : World) (hE : Env w) (hq : n.tdiv 10 = -(K : Int)) (hd : d.tmod 10 = (D : Int)) (hD : D < 10) (hK : 1 ≤ K) (hF : K = 922337203685477580) (hD7 : D = 9) :
    Calls Tryd.prog 4 #[.int .i64 n, .int .u8 d, .bool false] w fun e w' => e = .returned (.bool true) ∧ Below w.heap.size w w' := by
  subst hF
  subst hD7
  have hwrap : wrap64 (-wrap64 9223372036854775808) = -9223372036854775808 := by decide +kernel
  have hnum : numL (Lib.decDigits (10 * 922337203685477580 + 9)) = (0, 11) := by
    rw [num_dec, if_neg (by omega)]
  rw [decDigits_push 922337203685477580 9 (by omega) (by omega)] at hnum
  have HN := Lib.hid hnum
  clear hnum
  go_enter Tryd.func4, Tryd.ntmps4
  go_wp2_with fail
  refine (Text_in (922337203685477580) (by first | omega | (have := HF.out; omega)) (by first | omega | (have := HF.out; omega)) w hE).mono ?_
  rintro e w1 ⟨rfl, hb1⟩
  have hE1 := hE.on hb1

  rw [show Lib.itoa 922337203685477580 = Lib.decDigits 922337203685477580 from Lib.itoa_nonneg 922337203685477580]
  obtain ⟨X, hX, hne, hXs0⟩ := asText (Lib.decDigits 922337203685477580) (dec_ne 922337203685477580)
  have hXs : X.size ≤ 21 := by
    have h := Lib.itoa_length_le 922337203685477580 (by first | omega | (have := HF.out; omega)) (by first | omega | (have := HF.out; omega))
    rw [show Lib.itoa 922337203685477580 = Lib.decDigits 922337203685477580 from Lib.itoa_nonneg 922337203685477580] at h
    omega
  clear hXs0
  rw [← hX]
  have HX := Lib.hid hX
  clear hX
  go_wp2_with fail
  refine (Text_in (9) (by omega) (by omega) w1 hE1).mono ?_
  rintro e w2 ⟨rfl, hb2⟩
  have hE2 := hE1.on hb2
  rw [show Lib.itoa 9 = Lib.decDigits 9 from Lib.itoa_nonneg 9]
  obtain ⟨Y, hY, hneY, hYs0⟩ := asText (Lib.decDigits 9) (dec_ne 9)
  rw [Lib.decDigits_one (show 9 < 10 by omega)] at hYs0
  rw [← hY]
  have hYs : Y.size = 1 := hYs0
  clear hYs0
  have HY := Lib.hid hY
  clear hY
  go_wp2_with fail
  have hnum : numL (X ++ Y).data.toList = (0, 11) := by
    rw [cat_data, HX.out, HY.out, Lib.decDigits_one (show 9 < 10 by omega)]
    exact HN.out
  refine (Number_in (X ++ Y) (by rw [ByteArray.size_append]; omega) w2 hE2).mono ?_
  rw [hnum]
  clear hnum
  rintro e w3 ⟨rfl, hb3⟩
  have hE3 := hE2.on hb3
  go_wp2_with fail
  refine (known_in w3 hE3).mono ?_
  rintro e w4 ⟨rfl, hb4⟩
  go_wp2_with fail
  go_ret
  exact ⟨rfl, ((hb1.trans (hb2.mono hb1.size)).trans (hb3.mono (by have := hb1.size; have := hb2.size; omega))).trans (hb4.mono (by have := hb1.size; have := hb2.size; have := hb3.size; omega))⟩

set_option maxHeartbeats 1600000 in
set_option maxRecDepth 100000 in
theorem digits_neg_true_big_lt (n d : Int) (K D : Nat) (w : World) (hE : Env w) (hq : n.tdiv 10 = -(K : Int)) (hd : d.tmod 10 = (D : Int)) (hD : D < 10) (hK : 1 ≤ K) (hF : (K : Int) < 922337203685477580) :
    Calls Tryd.prog 4 #[.int .i64 n, .int .u8 d, .bool true] w fun e w' => e = .returned (.bool true) ∧ Below w.heap.size w w' := by
  have hnum : numL (45 :: Lib.decDigits (10 * K + D)) = (-(10 * (K : Int) + D), 0) := by
    rw [num_minus _ (by omega), if_pos (by omega)]; exact Prod.ext (by simp only []; omega) rfl
  rw [decDigits_push K D (by omega) (by omega)] at hnum
  obtain ⟨k, hk⟩ : ∃ k : Int, k = (K : Int) := ⟨_, rfl⟩
  rw [← hk] at hq hF hnum
  have hk1 : 1 ≤ k := by omega
  have HKK := Lib.hid hk
  clear hk hK
  have HN := Lib.hid hnum
  clear hnum
  go_enter Tryd.func4, Tryd.ntmps4
  go_wp2_with fail
  refine (Text_in (k) (by first | omega | (have := HF.out; omega)) (by first | omega | (have := HF.out; omega)) w hE).mono ?_
  rintro e w1 ⟨rfl, hb1⟩
  have hE1 := hE.on hb1

  rw [show Lib.itoa k = Lib.decDigits K from (by rw [HKK.out]; exact Lib.itoa_nonneg K)]
  obtain ⟨X, hX, hne, hXs0⟩ := asText (Lib.decDigits K) (dec_ne K)
  have hXs : X.size ≤ 21 := by
    have h := Lib.itoa_length_le k (by first | omega | (have := HF.out; omega)) (by first | omega | (have := HF.out; omega))
    rw [show Lib.itoa k = Lib.decDigits K from (by rw [HKK.out]; exact Lib.itoa_nonneg K)] at h
    omega
  clear hXs0
  rw [← hX]
  have HX := Lib.hid hX
  clear hX
  go_wp2_with fail
  obtain ⟨Z, hZ⟩ : ∃ Z : ByteArray, Z = ⟨#[45]⟩ ++ X := ⟨_, rfl⟩
  rw [← hZ]
  have hZs : Z.size ≤ 22 := by rw [hZ, ByteArray.size_append]; show 1 + X.size ≤ 22; omega
  have hZl : Z.data.toList = 45 :: Lib.decDigits K := by rw [hZ, HX.out]; simp
  have hneZ : Z.toList.isEmpty = false := by rw [Lib.toList_data, hZl]; rfl
  have HZ := Lib.hid hZl
  clear hZ hZl
  refine (Text_in ((D : Int)) (by omega) (by omega) w1 hE1).mono ?_
  rintro e w2 ⟨rfl, hb2⟩
  have hE2 := hE1.on hb2
  rw [show Lib.itoa (D : Int) = Lib.decDigits D from Lib.itoa_nonneg D]
  obtain ⟨Y, hY, hneY, hYs0⟩ := asText (Lib.decDigits D) (dec_ne D)
  rw [Lib.decDigits_one (show D < 10 by omega)] at hYs0
  rw [← hY]
  have hYs : Y.size = 1 := hYs0
  clear hYs0
  have HY := Lib.hid hY
  clear hY
  go_wp2_with fail
  have hnum : numL (Z ++ Y).data.toList = (-(10 * k + D), 0) := by
    rw [cat_data, HZ.out, HY.out, Lib.decDigits_one (show D < 10 by omega)]
    exact HN.out
  refine (Number_in (Z ++ Y) (by rw [ByteArray.size_append]; omega) w2 hE2).mono ?_
  rw [hnum]
  clear hnum
  rintro e w3 ⟨rfl, hb3⟩
  have hE3 := hE2.on hb3
  go_wp2_with fail
  refine (known_in w3 hE3).mono ?_
  rintro e w4 ⟨rfl, hb4⟩
  go_wp2_with fail
  go_ret
  exact ⟨rfl, ((hb1.trans (hb2.mono hb1.size)).trans (hb3.mono (by have := hb1.size; have := hb2.size; omega))).trans (hb4.mono (by have := hb1.size; have := hb2.size; have := hb3.size; omega))⟩

set_option maxHeartbeats 1600000 in
set_option maxRecDepth 100000 in
theorem digits_neg_true_big_eq7 (n d : Int) (K D : Nat) (w : World) (hE : Env w) (hq : n.tdiv 10 = -(K : Int)) (hd : d.tmod 10 = (D : Int)) (hD : D < 10) (hK : 1 ≤ K) (hF : K = 922337203685477580) (hD7 : D ≤ 7) :
    Calls Tryd.prog 4 #[.int .i64 n, .int .u8 d, .bool true] w fun e w' => e = .returned (.bool true) ∧ Below w.heap.size w w' := by
  subst hF
  have hnum : numL (45 :: Lib.decDigits (10 * 922337203685477580 + D)) = (-(9223372036854775800 + (D : Int)), 0) := by
    rw [num_minus _ (by omega), if_pos (by omega)]; exact Prod.ext (by simp only []; omega) rfl
  rw [decDigits_push 922337203685477580 D (by omega) (by omega)] at hnum
  have HN := Lib.hid hnum
  clear hnum
  go_enter Tryd.func4, Tryd.ntmps4
  go_wp2_with fail
  refine (Text_in (922337203685477580) (by first | omega | (have := HF.out; omega)) (by first | omega | (have := HF.out; omega)) w hE).mono ?_
  rintro e w1 ⟨rfl, hb1⟩
  have hE1 := hE.on hb1

  rw [show Lib.itoa 922337203685477580 = Lib.decDigits 922337203685477580 from Lib.itoa_nonneg 922337203685477580]
  obtain ⟨X, hX, hne, hXs0⟩ := asText (Lib.decDigits 922337203685477580) (dec_ne 922337203685477580)
  have hXs : X.size ≤ 21 := by
    have h := Lib.itoa_length_le 922337203685477580 (by first | omega | (have := HF.out; omega)) (by first | omega | (have := HF.out; omega))
    rw [show Lib.itoa 922337203685477580 = Lib.decDigits 922337203685477580 from Lib.itoa_nonneg 922337203685477580] at h
    omega
  clear hXs0
  rw [← hX]
  have HX := Lib.hid hX
  clear hX
  go_wp2_with fail
  obtain ⟨Z, hZ⟩ : ∃ Z : ByteArray, Z = ⟨#[45]⟩ ++ X := ⟨_, rfl⟩
  rw [← hZ]
  have hZs : Z.size ≤ 22 := by rw [hZ, ByteArray.size_append]; show 1 + X.size ≤ 22; omega
  have hZl : Z.data.toList = 45 :: Lib.decDigits 922337203685477580 := by rw [hZ, HX.out]; simp
  have hneZ : Z.toList.isEmpty = false := by rw [Lib.toList_data, hZl]; rfl
  have HZ := Lib.hid hZl
  clear hZ hZl
  refine (Text_in ((D : Int)) (by omega) (by omega) w1 hE1).mono ?_
  rintro e w2 ⟨rfl, hb2⟩
  have hE2 := hE1.on hb2
  rw [show Lib.itoa (D : Int) = Lib.decDigits D from Lib.itoa_nonneg D]
  obtain ⟨Y, hY, hneY, hYs0⟩ := asText (Lib.decDigits D) (dec_ne D)
  rw [Lib.decDigits_one (show D < 10 by omega)] at hYs0
  rw [← hY]
  have hYs : Y.size = 1 := hYs0
  clear hYs0
  have HY := Lib.hid hY
  clear hY
  go_wp2_with fail
  have hnum : numL (Z ++ Y).data.toList = (-(9223372036854775800 + (D : Int)), 0) := by
    rw [cat_data, HZ.out, HY.out, Lib.decDigits_one (show D < 10 by omega)]
    exact HN.out
  refine (Number_in (Z ++ Y) (by rw [ByteArray.size_append]; omega) w2 hE2).mono ?_
  rw [hnum]
  clear hnum
  rintro e w3 ⟨rfl, hb3⟩
  have hE3 := hE2.on hb3
  go_wp2_with fail
  refine (known_in w3 hE3).mono ?_
  rintro e w4 ⟨rfl, hb4⟩
  go_wp2_with fail
  go_ret
  exact ⟨rfl, ((hb1.trans (hb2.mono hb1.size)).trans (hb3.mono (by have := hb1.size; have := hb2.size; omega))).trans (hb4.mono (by have := hb1.size; have := hb2.size; have := hb3.size; omega))⟩

set_option maxHeartbeats 1600000 in
set_option maxRecDepth 100000 in
theorem digits_neg_true_big_eq8 (n d : Int) (K D : Nat) (w : World) (hE : Env w) (hq : n.tdiv 10 = -(K : Int)) (hd : d.tmod 10 = (D : Int)) (hD : D < 10) (hK : 1 ≤ K) (hF : K = 922337203685477580) (hD7 : D = 8) :
    Calls Tryd.prog 4 #[.int .i64 n, .int .u8 d, .bool true] w fun e w' => e = .returned (.bool true) ∧ Below w.heap.size w w' := by
  subst hF
  subst hD7
  have hwrap : wrap64 (-wrap64 9223372036854775808) = -9223372036854775808 := by decide +kernel
  have hnum : numL (45 :: Lib.decDigits (10 * 922337203685477580 + 8)) = (-9223372036854775808, 0) := by
    rw [num_minus _ (by omega), if_pos (by omega)]; exact Prod.ext (by simp only []; omega) rfl
  rw [decDigits_push 922337203685477580 8 (by omega) (by omega)] at hnum
  have HN := Lib.hid hnum
  clear hnum
  go_enter Tryd.func4, Tryd.ntmps4
  go_wp2_with fail
  refine (Text_in (922337203685477580) (by first | omega | (have := HF.out; omega)) (by first | omega | (have := HF.out; omega)) w hE).mono ?_
  rintro e w1 ⟨rfl, hb1⟩
  have hE1 := hE.on hb1

  rw [show Lib.itoa 922337203685477580 = Lib.decDigits 922337203685477580 from Lib.itoa_nonneg 922337203685477580]
  obtain ⟨X, hX, hne, hXs0⟩ := asText (Lib.decDigits 922337203685477580) (dec_ne 922337203685477580)
  have hXs : X.size ≤ 21 := by
    have h := Lib.itoa_length_le 922337203685477580 (by first | omega | (have := HF.out; omega)) (by first | omega | (have := HF.out; omega))
    rw [show Lib.itoa 922337203685477580 = Lib.decDigits 922337203685477580 from Lib.itoa_nonneg 922337203685477580] at h
    omega
  clear hXs0
  rw [← hX]
  have HX := Lib.hid hX
  clear hX
  go_wp2_with fail
  obtain ⟨Z, hZ⟩ : ∃ Z : ByteArray, Z = ⟨#[45]⟩ ++ X := ⟨_, rfl⟩
  rw [← hZ]
  have hZs : Z.size ≤ 22 := by rw [hZ, ByteArray.size_append]; show 1 + X.size ≤ 22; omega
  have hZl : Z.data.toList = 45 :: Lib.decDigits 922337203685477580 := by rw [hZ, HX.out]; simp
  have hneZ : Z.toList.isEmpty = false := by rw [Lib.toList_data, hZl]; rfl
  have HZ := Lib.hid hZl
  clear hZ hZl
  refine (Text_in (8) (by omega) (by omega) w1 hE1).mono ?_
  rintro e w2 ⟨rfl, hb2⟩
  have hE2 := hE1.on hb2
  rw [show Lib.itoa 8 = Lib.decDigits 8 from Lib.itoa_nonneg 8]
  obtain ⟨Y, hY, hneY, hYs0⟩ := asText (Lib.decDigits 8) (dec_ne 8)
  rw [Lib.decDigits_one (show 8 < 10 by omega)] at hYs0
  rw [← hY]
  have hYs : Y.size = 1 := hYs0
  clear hYs0
  have HY := Lib.hid hY
  clear hY
  go_wp2_with fail
  have hnum : numL (Z ++ Y).data.toList = (-9223372036854775808, 0) := by
    rw [cat_data, HZ.out, HY.out, Lib.decDigits_one (show 8 < 10 by omega)]
    exact HN.out
  refine (Number_in (Z ++ Y) (by rw [ByteArray.size_append]; omega) w2 hE2).mono ?_
  rw [hnum]
  clear hnum
  rintro e w3 ⟨rfl, hb3⟩
  have hE3 := hE2.on hb3
  go_wp2_with fail
  refine (known_in w3 hE3).mono ?_
  rintro e w4 ⟨rfl, hb4⟩
  go_wp2_with fail
  go_ret
  exact ⟨rfl, ((hb1.trans (hb2.mono hb1.size)).trans (hb3.mono (by have := hb1.size; have := hb2.size; omega))).trans (hb4.mono (by have := hb1.size; have := hb2.size; have := hb3.size; omega))⟩

set_option maxHeartbeats 1600000 in
set_option maxRecDepth 100000 in
theorem digits_neg_true_big_eq9 (n d : Int) (K D : Nat) (w : World) (hE : Env w) (hq : n.tdiv 10 = -(K : Int)) (hd : d.tmod 10 = (D : Int)) (hD : D < 10) (hK : 1 ≤ K) (hF : K = 922337203685477580) (hD7 : D = 9) :
    Calls Tryd.prog 4 #[.int .i64 n, .int .u8 d, .bool true] w fun e w' => e = .returned (.bool true) ∧ Below w.heap.size w w' := by
  subst hF
  subst hD7
  have hwrap : wrap64 (-wrap64 9223372036854775808) = -9223372036854775808 := by decide +kernel
  have hnum : numL (45 :: Lib.decDigits (10 * 922337203685477580 + 9)) = (0, 11) := by
    rw [num_minus _ (by omega), if_neg (by omega)]
  rw [decDigits_push 922337203685477580 9 (by omega) (by omega)] at hnum
  have HN := Lib.hid hnum
  clear hnum
  go_enter Tryd.func4, Tryd.ntmps4
  go_wp2_with fail
  refine (Text_in (922337203685477580) (by first | omega | (have := HF.out; omega)) (by first | omega | (have := HF.out; omega)) w hE).mono ?_
  rintro e w1 ⟨rfl, hb1⟩
  have hE1 := hE.on hb1

  rw [show Lib.itoa 922337203685477580 = Lib.decDigits 922337203685477580 from Lib.itoa_nonneg 922337203685477580]
  obtain ⟨X, hX, hne, hXs0⟩ := asText (Lib.decDigits 922337203685477580) (dec_ne 922337203685477580)
  have hXs : X.size ≤ 21 := by
    have h := Lib.itoa_length_le 922337203685477580 (by first | omega | (have := HF.out; omega)) (by first | omega | (have := HF.out; omega))
    rw [show Lib.itoa 922337203685477580 = Lib.decDigits 922337203685477580 from Lib.itoa_nonneg 922337203685477580] at h
    omega
  clear hXs0
  rw [← hX]
  have HX := Lib.hid hX
  clear hX
  go_wp2_with fail
  obtain ⟨Z, hZ⟩ : ∃ Z : ByteArray, Z = ⟨#[45]⟩ ++ X := ⟨_, rfl⟩
  rw [← hZ]
  have hZs : Z.size ≤ 22 := by rw [hZ, ByteArray.size_append]; show 1 + X.size ≤ 22; omega
  have hZl : Z.data.toList = 45 :: Lib.decDigits 922337203685477580 := by rw [hZ, HX.out]; simp
  have hneZ : Z.toList.isEmpty = false := by rw [Lib.toList_data, hZl]; rfl
  have HZ := Lib.hid hZl
  clear hZ hZl
  refine (Text_in (9) (by omega) (by omega) w1 hE1).mono ?_
  rintro e w2 ⟨rfl, hb2⟩
  have hE2 := hE1.on hb2
  rw [show Lib.itoa 9 = Lib.decDigits 9 from Lib.itoa_nonneg 9]
  obtain ⟨Y, hY, hneY, hYs0⟩ := asText (Lib.decDigits 9) (dec_ne 9)
  rw [Lib.decDigits_one (show 9 < 10 by omega)] at hYs0
  rw [← hY]
  have hYs : Y.size = 1 := hYs0
  clear hYs0
  have HY := Lib.hid hY
  clear hY
  go_wp2_with fail
  have hnum : numL (Z ++ Y).data.toList = (0, 11) := by
    rw [cat_data, HZ.out, HY.out, Lib.decDigits_one (show 9 < 10 by omega)]
    exact HN.out
  refine (Number_in (Z ++ Y) (by rw [ByteArray.size_append]; omega) w2 hE2).mono ?_
  rw [hnum]
  clear hnum
  rintro e w3 ⟨rfl, hb3⟩
  have hE3 := hE2.on hb3
  go_wp2_with fail
  refine (known_in w3 hE3).mono ?_
  rintro e w4 ⟨rfl, hb4⟩
  go_wp2_with fail
  go_ret
  exact ⟨rfl, ((hb1.trans (hb2.mono hb1.size)).trans (hb3.mono (by have := hb1.size; have := hb2.size; omega))).trans (hb4.mono (by have := hb1.size; have := hb2.size; have := hb3.size; omega))⟩

set_option maxHeartbeats 1600000 in
set_option maxRecDepth 100000 in
theorem digits_pos_false_zero_fit (n d : Int) (K D : Nat) (w : World) (hE : Env w) (hq : n.tdiv 10 = 0) (hd : d.tmod 10 = (D : Int)) (hD : D < 10) :
    Calls Tryd.prog 4 #[.int .i64 n, .int .u8 d, .bool false] w fun e w' => e = .returned (.bool true) ∧ Below w.heap.size w w' := by
  have hnum := num_one' D hD
  have hlt : D ≤ 9 := by omega
  have HN := Lib.hid hnum
  clear hnum
  go_enter Tryd.func4, Tryd.ntmps4
  go_wp2_with fail
  refine (Text_in (0) (by first | omega | (have := HF.out; omega)) (by first | omega | (have := HF.out; omega)) w hE).mono ?_
  rintro e w1 ⟨rfl, hb1⟩
  have hE1 := hE.on hb1

  go_wp2_with fail
  refine (Text_in ((D : Int)) (by omega) (by omega) w1 hE1).mono ?_
  rintro e w2 ⟨rfl, hb2⟩
  have hE2 := hE1.on hb2
  rw [show Lib.itoa (D : Int) = Lib.decDigits D from Lib.itoa_nonneg D]
  obtain ⟨Y, hY, hneY, hYs0⟩ := asText (Lib.decDigits D) (dec_ne D)
  rw [Lib.decDigits_one (show D < 10 by omega)] at hYs0
  rw [← hY]
  have hYs : Y.size = 1 := hYs0
  clear hYs0
  have HY := Lib.hid hY
  clear hY
  go_wp2_with fail
  have hnum : numL ((⟨#[]⟩ : ByteArray) ++ Y).data.toList = ((D : Int), 0) := by
    rw [cat_data, HY.out, Lib.decDigits_one (show D < 10 by omega)]
    exact HN.out
  refine (Number_in ((⟨#[]⟩ : ByteArray) ++ Y) (by rw [ByteArray.size_append]; show 0 + Y.size ≤ _; omega) w2 hE2).mono ?_
  rw [hnum]
  clear hnum
  rintro e w3 ⟨rfl, hb3⟩
  have hE3 := hE2.on hb3
  go_wp2_with fail
  refine (known_in w3 hE3).mono ?_
  rintro e w4 ⟨rfl, hb4⟩
  go_wp2_with fail
  go_ret
  exact ⟨rfl, ((hb1.trans (hb2.mono hb1.size)).trans (hb3.mono (by have := hb1.size; have := hb2.size; omega))).trans (hb4.mono (by have := hb1.size; have := hb2.size; have := hb3.size; omega))⟩

set_option maxHeartbeats 1600000 in
set_option maxRecDepth 100000 in
theorem digits_pos_false_big_lt (n d : Int) (K D : Nat) (w : World) (hE : Env w) (hq : n.tdiv 10 = (K : Int)) (hd : d.tmod 10 = (D : Int)) (hD : D < 10) (hK : 1 ≤ K) (hF : (K : Int) < 922337203685477580) :
    Calls Tryd.prog 4 #[.int .i64 n, .int .u8 d, .bool false] w fun e w' => e = .returned (.bool true) ∧ Below w.heap.size w w' := by
  have hnum : numL (Lib.decDigits (10 * K + D)) = (10 * (K : Int) + D, 0) := by
    rw [num_dec, if_pos (by omega)]; exact Prod.ext (by simp only []; omega) rfl
  rw [decDigits_push K D (by omega) (by omega)] at hnum
  obtain ⟨k, hk⟩ : ∃ k : Int, k = (K : Int) := ⟨_, rfl⟩
  rw [← hk] at hq hF hnum
  have hk1 : 1 ≤ k := by omega
  have HKK := Lib.hid hk
  clear hk hK
  have HN := Lib.hid hnum
  clear hnum
  go_enter Tryd.func4, Tryd.ntmps4
  go_wp2_with fail
  refine (Text_in (k) (by first | omega | (have := HF.out; omega)) (by first | omega | (have := HF.out; omega)) w hE).mono ?_
  rintro e w1 ⟨rfl, hb1⟩
  have hE1 := hE.on hb1

  rw [show Lib.itoa k = Lib.decDigits K from (by rw [HKK.out]; exact Lib.itoa_nonneg K)]
  obtain ⟨X, hX, hne, hXs0⟩ := asText (Lib.decDigits K) (dec_ne K)
  have hXs : X.size ≤ 21 := by
    have h := Lib.itoa_length_le k (by first | omega | (have := HF.out; omega)) (by first | omega | (have := HF.out; omega))
    rw [show Lib.itoa k = Lib.decDigits K from (by rw [HKK.out]; exact Lib.itoa_nonneg K)] at h
    omega
  clear hXs0
  rw [← hX]
  have HX := Lib.hid hX
  clear hX
  go_wp2_with fail
  refine (Text_in ((D : Int)) (by omega) (by omega) w1 hE1).mono ?_
  rintro e w2 ⟨rfl, hb2⟩
  have hE2 := hE1.on hb2
  rw [show Lib.itoa (D : Int) = Lib.decDigits D from Lib.itoa_nonneg D]
  obtain ⟨Y, hY, hneY, hYs0⟩ := asText (Lib.decDigits D) (dec_ne D)
  rw [Lib.decDigits_one (show D < 10 by omega)] at hYs0
  rw [← hY]
  have hYs : Y.size = 1 := hYs0
  clear hYs0
  have HY := Lib.hid hY
  clear hY
  go_wp2_with fail
  have hnum : numL (X ++ Y).data.toList = (10 * k + D, 0) := by
    rw [cat_data, HX.out, HY.out, Lib.decDigits_one (show D < 10 by omega)]
    exact HN.out
  refine (Number_in (X ++ Y) (by rw [ByteArray.size_append]; omega) w2 hE2).mono ?_
  rw [hnum]
  clear hnum
  rintro e w3 ⟨rfl, hb3⟩
  have hE3 := hE2.on hb3
  go_wp2_with fail
  refine (known_in w3 hE3).mono ?_
  rintro e w4 ⟨rfl, hb4⟩
  go_wp2_with fail
  go_ret
  exact ⟨rfl, ((hb1.trans (hb2.mono hb1.size)).trans (hb3.mono (by have := hb1.size; have := hb2.size; omega))).trans (hb4.mono (by have := hb1.size; have := hb2.size; have := hb3.size; omega))⟩

set_option maxHeartbeats 1600000 in
set_option maxRecDepth 100000 in
theorem digits_pos_false_big_eq7 (n d : Int) (K D : Nat) (w : World) (hE : Env w) (hq : n.tdiv 10 = (K : Int)) (hd : d.tmod 10 = (D : Int)) (hD : D < 10) (hK : 1 ≤ K) (hF : K = 922337203685477580) (hD7 : D ≤ 7) :
    Calls Tryd.prog 4 #[.int .i64 n, .int .u8 d, .bool false] w fun e w' => e = .returned (.bool true) ∧ Below w.heap.size w w' := by
  subst hF
  have hnum : numL (Lib.decDigits (10 * 922337203685477580 + D)) = (9223372036854775800 + (D : Int), 0) := by
    rw [num_dec, if_pos (by omega)]; exact Prod.ext (by simp only []; omega) rfl
  rw [decDigits_push 922337203685477580 D (by omega) (by omega)] at hnum
  have HN := Lib.hid hnum
  clear hnum
  go_enter Tryd.func4, Tryd.ntmps4
  go_wp2_with fail
  refine (Text_in (922337203685477580) (by first | omega | (have := HF.out; omega)) (by first | omega | (have := HF.out; omega)) w hE).mono ?_
  rintro e w1 ⟨rfl, hb1⟩
  have hE1 := hE.on hb1

  rw [show Lib.itoa 922337203685477580 = Lib.decDigits 922337203685477580 from Lib.itoa_nonneg 922337203685477580]
  obtain ⟨X, hX, hne, hXs0⟩ := asText (Lib.decDigits 922337203685477580) (dec_ne 922337203685477580)
  have hXs : X.size ≤ 21 := by
    have h := Lib.itoa_length_le 922337203685477580 (by first | omega | (have := HF.out; omega)) (by first | omega | (have := HF.out; omega))
    rw [show Lib.itoa 922337203685477580 = Lib.decDigits 922337203685477580 from Lib.itoa_nonneg 922337203685477580] at h
    omega
  clear hXs0
  rw [← hX]
  have HX := Lib.hid hX
  clear hX
  go_wp2_with fail
  refine (Text_in ((D : Int)) (by omega) (by omega) w1 hE1).mono ?_
  rintro e w2 ⟨rfl, hb2⟩
  have hE2 := hE1.on hb2
  rw [show Lib.itoa (D : Int) = Lib.decDigits D from Lib.itoa_nonneg D]
  obtain ⟨Y, hY, hneY, hYs0⟩ := asText (Lib.decDigits D) (dec_ne D)
  rw [Lib.decDigits_one (show D < 10 by omega)] at hYs0
  rw [← hY]
  have hYs : Y.size = 1 := hYs0
  clear hYs0
  have HY := Lib.hid hY
  clear hY
  go_wp2_with fail
  have hnum : numL (X ++ Y).data.toList = (9223372036854775800 + (D : Int), 0) := by
    rw [cat_data, HX.out, HY.out, Lib.decDigits_one (show D < 10 by omega)]
    exact HN.out
  refine (Number_in (X ++ Y) (by rw [ByteArray.size_append]; omega) w2 hE2).mono ?_
  rw [hnum]
  clear hnum
  rintro e w3 ⟨rfl, hb3⟩
  have hE3 := hE2.on hb3
  go_wp2_with fail
  refine (known_in w3 hE3).mono ?_
  rintro e w4 ⟨rfl, hb4⟩
  go_wp2_with fail
  go_ret
  exact ⟨rfl, ((hb1.trans (hb2.mono hb1.size)).trans (hb3.mono (by have := hb1.size; have := hb2.size; omega))).trans (hb4.mono (by have := hb1.size; have := hb2.size; have := hb3.size; omega))⟩

set_option maxHeartbeats 1600000 in
set_option maxRecDepth 100000 in
theorem digits_pos_false_big_eq8 (n d : Int) (K D : Nat) (w : World) (hE : Env w) (hq : n.tdiv 10 = (K : Int)) (hd : d.tmod 10 = (D : Int)) (hD : D < 10) (hK : 1 ≤ K) (hF : K = 922337203685477580) (hD7 : D = 8) :
    Calls Tryd.prog 4 #[.int .i64 n, .int .u8 d, .bool false] w fun e w' => e = .returned (.bool true) ∧ Below w.heap.size w w' := by
  subst hF
  subst hD7
  have hwrap : wrap64 (-wrap64 9223372036854775808) = -9223372036854775808 := by decide +kernel
  have hnum : numL (Lib.decDigits (10 * 922337203685477580 + 8)) = (0, 11) := by
    rw [num_dec, if_neg (by omega)]
  rw [decDigits_push 922337203685477580 8 (by omega) (by omega)] at hnum
  have HN := Lib.hid hnum
  clear hnum
  go_enter Tryd.func4, Tryd.ntmps4
  go_wp2_with fail
  refine (Text_in (922337203685477580) (by first | omega | (have := HF.out; omega)) (by first | omega | (have := HF.out; omega)) w hE).mono ?_
  rintro e w1 ⟨rfl, hb1⟩
  have hE1 := hE.on hb1

  rw [show Lib.itoa 922337203685477580 = Lib.decDigits 922337203685477580 from Lib.itoa_nonneg 922337203685477580]
  obtain ⟨X, hX, hne, hXs0⟩ := asText (Lib.decDigits 922337203685477580) (dec_ne 922337203685477580)
  have hXs : X.size ≤ 21 := by
    have h := Lib.itoa_length_le 922337203685477580 (by first | omega | (have := HF.out; omega)) (by first | omega | (have := HF.out; omega))
    rw [show Lib.itoa 922337203685477580 = Lib.decDigits 922337203685477580 from Lib.itoa_nonneg 922337203685477580] at h
    omega
  clear hXs0
  rw [← hX]
  have HX := Lib.hid hX
  clear hX
  go_wp2_with fail
  refine (Text_in (8) (by omega) (by omega) w1 hE1).mono ?_
  rintro e w2 ⟨rfl, hb2⟩
  have hE2 := hE1.on hb2
  rw [show Lib.itoa 8 = Lib.decDigits 8 from Lib.itoa_nonneg 8]
  obtain ⟨Y, hY, hneY, hYs0⟩ := asText (Lib.decDigits 8) (dec_ne 8)
  rw [Lib.decDigits_one (show 8 < 10 by omega)] at hYs0
  rw [← hY]
  have hYs : Y.size = 1 := hYs0
  clear hYs0
  have HY := Lib.hid hY
  clear hY
  go_wp2_with fail
  have hnum : numL (X ++ Y).data.toList = (0, 11) := by
    rw [cat_data, HX.out, HY.out, Lib.decDigits_one (show 8 < 10 by omega)]
    exact HN.out
  refine (Number_in (X ++ Y) (by rw [ByteArray.size_append]; omega) w2 hE2).mono ?_
  rw [hnum]
  clear hnum
  rintro e w3 ⟨rfl, hb3⟩
  have hE3 := hE2.on hb3
  go_wp2_with fail
  refine (known_in w3 hE3).mono ?_
  rintro e w4 ⟨rfl, hb4⟩
  go_wp2_with fail
  go_ret
  exact ⟨rfl, ((hb1.trans (hb2.mono hb1.size)).trans (hb3.mono (by have := hb1.size; have := hb2.size; omega))).trans (hb4.mono (by have := hb1.size; have := hb2.size; have := hb3.size; omega))⟩

set_option maxHeartbeats 1600000 in
set_option maxRecDepth 100000 in
theorem digits_pos_false_big_eq9 (n d : Int) (K D : Nat) (w : World) (hE : Env w) (hq : n.tdiv 10 = (K : Int)) (hd : d.tmod 10 = (D : Int)) (hD : D < 10) (hK : 1 ≤ K) (hF : K = 922337203685477580) (hD7 : D = 9) :
    Calls Tryd.prog 4 #[.int .i64 n, .int .u8 d, .bool false] w fun e w' => e = .returned (.bool true) ∧ Below w.heap.size w w' := by
  subst hF
  subst hD7
  have hwrap : wrap64 (-wrap64 9223372036854775808) = -9223372036854775808 := by decide +kernel
  have hnum : numL (Lib.decDigits (10 * 922337203685477580 + 9)) = (0, 11) := by
    rw [num_dec, if_neg (by omega)]
  rw [decDigits_push 922337203685477580 9 (by omega) (by omega)] at hnum
  have HN := Lib.hid hnum
  clear hnum
  go_enter Tryd.func4, Tryd.ntmps4
  go_wp2_with fail
  refine (Text_in (922337203685477580) (by first | omega | (have := HF.out; omega)) (by first | omega | (have := HF.out; omega)) w hE).mono ?_
  rintro e w1 ⟨rfl, hb1⟩
  have hE1 := hE.on hb1

  rw [show Lib.itoa 922337203685477580 = Lib.decDigits 922337203685477580 from Lib.itoa_nonneg 922337203685477580]
  obtain ⟨X, hX, hne, hXs0⟩ := asText (Lib.decDigits 922337203685477580) (dec_ne 922337203685477580)
  have hXs : X.size ≤ 21 := by
    have h := Lib.itoa_length_le 922337203685477580 (by first | omega | (have := HF.out; omega)) (by first | omega | (have := HF.out; omega))
    rw [show Lib.itoa 922337203685477580 = Lib.decDigits 922337203685477580 from Lib.itoa_nonneg 922337203685477580] at h
    omega
  clear hXs0
  rw [← hX]
  have HX := Lib.hid hX
  clear hX
  go_wp2_with fail
  refine (Text_in (9) (by omega) (by omega) w1 hE1).mono ?_
  rintro e w2 ⟨rfl, hb2⟩
  have hE2 := hE1.on hb2
  rw [show Lib.itoa 9 = Lib.decDigits 9 from Lib.itoa_nonneg 9]
  obtain ⟨Y, hY, hneY, hYs0⟩ := asText (Lib.decDigits 9) (dec_ne 9)
  rw [Lib.decDigits_one (show 9 < 10 by omega)] at hYs0
  rw [← hY]
  have hYs : Y.size = 1 := hYs0
  clear hYs0
  have HY := Lib.hid hY
  clear hY
  go_wp2_with fail
  have hnum : numL (X ++ Y).data.toList = (0, 11) := by
    rw [cat_data, HX.out, HY.out, Lib.decDigits_one (show 9 < 10 by omega)]
    exact HN.out
  refine (Number_in (X ++ Y) (by rw [ByteArray.size_append]; omega) w2 hE2).mono ?_
  rw [hnum]
  clear hnum
  rintro e w3 ⟨rfl, hb3⟩
  have hE3 := hE2.on hb3
  go_wp2_with fail
  refine (known_in w3 hE3).mono ?_
  rintro e w4 ⟨rfl, hb4⟩
  go_wp2_with fail
  go_ret
  exact ⟨rfl, ((hb1.trans (hb2.mono hb1.size)).trans (hb3.mono (by have := hb1.size; have := hb2.size; omega))).trans (hb4.mono (by have := hb1.size; have := hb2.size; have := hb3.size; omega))⟩

set_option maxHeartbeats 1600000 in
set_option maxRecDepth 100000 in
theorem digits_pos_true_zero_fit (n d : Int) (K D : Nat) (w : World) (hE : Env w) (hq : n.tdiv 10 = 0) (hd : d.tmod 10 = (D : Int)) (hD : D < 10) :
    Calls Tryd.prog 4 #[.int .i64 n, .int .u8 d, .bool true] w fun e w' => e = .returned (.bool true) ∧ Below w.heap.size w w' := by
  have hnum := num_one' D hD
  have hlt : D ≤ 9 := by omega
  have HN := Lib.hid hnum
  clear hnum
  go_enter Tryd.func4, Tryd.ntmps4
  go_wp2_with fail
  refine (Text_in (0) (by first | omega | (have := HF.out; omega)) (by first | omega | (have := HF.out; omega)) w hE).mono ?_
  rintro e w1 ⟨rfl, hb1⟩
  have hE1 := hE.on hb1

  go_wp2_with fail
  refine (Text_in ((D : Int)) (by omega) (by omega) w1 hE1).mono ?_
  rintro e w2 ⟨rfl, hb2⟩
  have hE2 := hE1.on hb2
  rw [show Lib.itoa (D : Int) = Lib.decDigits D from Lib.itoa_nonneg D]
  obtain ⟨Y, hY, hneY, hYs0⟩ := asText (Lib.decDigits D) (dec_ne D)
  rw [Lib.decDigits_one (show D < 10 by omega)] at hYs0
  rw [← hY]
  have hYs : Y.size = 1 := hYs0
  clear hYs0
  have HY := Lib.hid hY
  clear hY
  go_wp2_with fail
  have hnum : numL ((⟨#[]⟩ : ByteArray) ++ Y).data.toList = ((D : Int), 0) := by
    rw [cat_data, HY.out, Lib.decDigits_one (show D < 10 by omega)]
    exact HN.out
  refine (Number_in ((⟨#[]⟩ : ByteArray) ++ Y) (by rw [ByteArray.size_append]; show 0 + Y.size ≤ _; omega) w2 hE2).mono ?_
  rw [hnum]
  clear hnum
  rintro e w3 ⟨rfl, hb3⟩
  have hE3 := hE2.on hb3
  go_wp2_with fail
  refine (known_in w3 hE3).mono ?_
  rintro e w4 ⟨rfl, hb4⟩
  go_wp2_with fail
  go_ret
  exact ⟨rfl, ((hb1.trans (hb2.mono hb1.size)).trans (hb3.mono (by have := hb1.size; have := hb2.size; omega))).trans (hb4.mono (by have := hb1.size; have := hb2.size; have := hb3.size; omega))⟩

set_option maxHeartbeats 1600000 in
set_option maxRecDepth 100000 in
theorem digits_pos_true_big_lt (n d : Int) (K D : Nat) (w : World) (hE : Env w) (hq : n.tdiv 10 = (K : Int)) (hd : d.tmod 10 = (D : Int)) (hD : D < 10) (hK : 1 ≤ K) (hF : (K : Int) < 922337203685477580) :
    Calls Tryd.prog 4 #[.int .i64 n, .int .u8 d, .bool true] w fun e w' => e = .returned (.bool true) ∧ Below w.heap.size w w' := by
  have hnum : numL (45 :: Lib.decDigits (10 * K + D)) = (-(10 * (K : Int) + D), 0) := by
    rw [num_minus _ (by omega), if_pos (by omega)]; exact Prod.ext (by simp only []; omega) rfl
  rw [decDigits_push K D (by omega) (by omega)] at hnum
  obtain ⟨k, hk⟩ : ∃ k : Int, k = (K : Int) := ⟨_, rfl⟩
  rw [← hk] at hq hF hnum
  have hk1 : 1 ≤ k := by omega
  have HKK := Lib.hid hk
  clear hk hK
  have HN := Lib.hid hnum
  clear hnum
  go_enter Tryd.func4, Tryd.ntmps4
  go_wp2_with fail
  refine (Text_in (k) (by first | omega | (have := HF.out; omega)) (by first | omega | (have := HF.out; omega)) w hE).mono ?_
  rintro e w1 ⟨rfl, hb1⟩
  have hE1 := hE.on hb1

  rw [show Lib.itoa k = Lib.decDigits K from (by rw [HKK.out]; exact Lib.itoa_nonneg K)]
  obtain ⟨X, hX, hne, hXs0⟩ := asText (Lib.decDigits K) (dec_ne K)
  have hXs : X.size ≤ 21 := by
    have h := Lib.itoa_length_le k (by first | omega | (have := HF.out; omega)) (by first | omega | (have := HF.out; omega))
    rw [show Lib.itoa k = Lib.decDigits K from (by rw [HKK.out]; exact Lib.itoa_nonneg K)] at h
    omega
  clear hXs0
  rw [← hX]
  have HX := Lib.hid hX
  clear hX
  go_wp2_with fail
  obtain ⟨Z, hZ⟩ : ∃ Z : ByteArray, Z = ⟨#[45]⟩ ++ X := ⟨_, rfl⟩
  rw [← hZ]
  have hZs : Z.size ≤ 22 := by rw [hZ, ByteArray.size_append]; show 1 + X.size ≤ 22; omega
  have hZl : Z.data.toList = 45 :: Lib.decDigits K := by rw [hZ, HX.out]; simp
  have hneZ : Z.toList.isEmpty = false := by rw [Lib.toList_data, hZl]; rfl
  have HZ := Lib.hid hZl
  clear hZ hZl
  refine (Text_in ((D : Int)) (by omega) (by omega) w1 hE1).mono ?_
  rintro e w2 ⟨rfl, hb2⟩
  have hE2 := hE1.on hb2
  rw [show Lib.itoa (D : Int) = Lib.decDigits D from Lib.itoa_nonneg D]
  obtain ⟨Y, hY, hneY, hYs0⟩ := asText (Lib.decDigits D) (dec_ne D)
  rw [Lib.decDigits_one (show D < 10 by omega)] at hYs0
  rw [← hY]
  have hYs : Y.size = 1 := hYs0
  clear hYs0
  have HY := Lib.hid hY
  clear hY
  go_wp2_with fail
  have hnum : numL (Z ++ Y).data.toList = (-(10 * k + D), 0) := by
    rw [cat_data, HZ.out, HY.out, Lib.decDigits_one (show D < 10 by omega)]
    exact HN.out
  refine (Number_in (Z ++ Y) (by rw [ByteArray.size_append]; omega) w2 hE2).mono ?_
  rw [hnum]
  clear hnum
  rintro e w3 ⟨rfl, hb3⟩
  have hE3 := hE2.on hb3
  go_wp2_with fail
  refine (known_in w3 hE3).mono ?_
  rintro e w4 ⟨rfl, hb4⟩
  go_wp2_with fail
  go_ret
  exact ⟨rfl, ((hb1.trans (hb2.mono hb1.size)).trans (hb3.mono (by have := hb1.size; have := hb2.size; omega))).trans (hb4.mono (by have := hb1.size; have := hb2.size; have := hb3.size; omega))⟩

set_option maxHeartbeats 1600000 in
set_option maxRecDepth 100000 in
theorem digits_pos_true_big_eq7 (n d : Int) (K D : Nat) (w : World) (hE : Env w) (hq : n.tdiv 10 = (K : Int)) (hd : d.tmod 10 = (D : Int)) (hD : D < 10) (hK : 1 ≤ K) (hF : K = 922337203685477580) (hD7 : D ≤ 7) :
    Calls Tryd.prog 4 #[.int .i64 n, .int .u8 d, .bool true] w fun e w' => e = .returned (.bool true) ∧ Below w.heap.size w w' := by
  subst hF
  have hnum : numL (45 :: Lib.decDigits (10 * 922337203685477580 + D)) = (-(9223372036854775800 + (D : Int)), 0) := by
    rw [num_minus _ (by omega), if_pos (by omega)]; exact Prod.ext (by simp only []; omega) rfl
  rw [decDigits_push 922337203685477580 D (by omega) (by omega)] at hnum
  have HN := Lib.hid hnum
  clear hnum
  go_enter Tryd.func4, Tryd.ntmps4
  go_wp2_with fail
  refine (Text_in (922337203685477580) (by first | omega | (have := HF.out; omega)) (by first | omega | (have := HF.out; omega)) w hE).mono ?_
  rintro e w1 ⟨rfl, hb1⟩
  have hE1 := hE.on hb1

  rw [show Lib.itoa 922337203685477580 = Lib.decDigits 922337203685477580 from Lib.itoa_nonneg 922337203685477580]
  obtain ⟨X, hX, hne, hXs0⟩ := asText (Lib.decDigits 922337203685477580) (dec_ne 922337203685477580)
  have hXs : X.size ≤ 21 := by
    have h := Lib.itoa_length_le 922337203685477580 (by first | omega | (have := HF.out; omega)) (by first | omega | (have := HF.out; omega))
    rw [show Lib.itoa 922337203685477580 = Lib.decDigits 922337203685477580 from Lib.itoa_nonneg 922337203685477580] at h
    omega
  clear hXs0
  rw [← hX]
  have HX := Lib.hid hX
  clear hX
  go_wp2_with fail
  obtain ⟨Z, hZ⟩ : ∃ Z : ByteArray, Z = ⟨#[45]⟩ ++ X := ⟨_, rfl⟩
  rw [← hZ]
  have hZs : Z.size ≤ 22 := by rw [hZ, ByteArray.size_append]; show 1 + X.size ≤ 22; omega
  have hZl : Z.data.toList = 45 :: Lib.decDigits 922337203685477580 := by rw [hZ, HX.out]; simp
  have hneZ : Z.toList.isEmpty = false := by rw [Lib.toList_data, hZl]; rfl
  have HZ := Lib.hid hZl
  clear hZ hZl
  refine (Text_in ((D : Int)) (by omega) (by omega) w1 hE1).mono ?_
  rintro e w2 ⟨rfl, hb2⟩
  have hE2 := hE1.on hb2
  rw [show Lib.itoa (D : Int) = Lib.decDigits D from Lib.itoa_nonneg D]
  obtain ⟨Y, hY, hneY, hYs0⟩ := asText (Lib.decDigits D) (dec_ne D)
  rw [Lib.decDigits_one (show D < 10 by omega)] at hYs0
  rw [← hY]
  have hYs : Y.size = 1 := hYs0
  clear hYs0
  have HY := Lib.hid hY
  clear hY
  go_wp2_with fail
  have hnum : numL (Z ++ Y).data.toList = (-(9223372036854775800 + (D : Int)), 0) := by
    rw [cat_data, HZ.out, HY.out, Lib.decDigits_one (show D < 10 by omega)]
    exact HN.out
  refine (Number_in (Z ++ Y) (by rw [ByteArray.size_append]; omega) w2 hE2).mono ?_
  rw [hnum]
  clear hnum
  rintro e w3 ⟨rfl, hb3⟩
  have hE3 := hE2.on hb3
  go_wp2_with fail
  refine (known_in w3 hE3).mono ?_
  rintro e w4 ⟨rfl, hb4⟩
  go_wp2_with fail
  go_ret
  exact ⟨rfl, ((hb1.trans (hb2.mono hb1.size)).trans (hb3.mono (by have := hb1.size; have := hb2.size; omega))).trans (hb4.mono (by have := hb1.size; have := hb2.size; have := hb3.size; omega))⟩

set_option maxHeartbeats 1600000 in
set_option maxRecDepth 100000 in
theorem digits_pos_true_big_eq8 (n d : Int) (K D : Nat) (w : World) (hE : Env w) (hq : n.tdiv 10 = (K : Int)) (hd : d.tmod 10 = (D : Int)) (hD : D < 10) (hK : 1 ≤ K) (hF : K = 922337203685477580) (hD7 : D = 8) :
    Calls Tryd.prog 4 #[.int .i64 n, .int .u8 d, .bool true] w fun e w' => e = .returned (.bool true) ∧ Below w.heap.size w w' := by
  subst hF
  subst hD7
  have hwrap : wrap64 (-wrap64 9223372036854775808) = -9223372036854775808 := by decide +kernel
  have hnum : numL (45 :: Lib.decDigits (10 * 922337203685477580 + 8)) = (-9223372036854775808, 0) := by
    rw [num_minus _ (by omega), if_pos (by omega)]; exact Prod.ext (by simp only []; omega) rfl
  rw [decDigits_push 922337203685477580 8 (by omega) (by omega)] at hnum
  have HN := Lib.hid hnum
  clear hnum
  go_enter Tryd.func4, Tryd.ntmps4
  go_wp2_with fail
  refine (Text_in (922337203685477580) (by first | omega | (have := HF.out; omega)) (by first | omega | (have := HF.out; omega)) w hE).mono ?_
  rintro e w1 ⟨rfl, hb1⟩
  have hE1 := hE.on hb1

  rw [show Lib.itoa 922337203685477580 = Lib.decDigits 922337203685477580 from Lib.itoa_nonneg 922337203685477580]
  obtain ⟨X, hX, hne, hXs0⟩ := asText (Lib.decDigits 922337203685477580) (dec_ne 922337203685477580)
  have hXs : X.size ≤ 21 := by
    have h := Lib.itoa_length_le 922337203685477580 (by first | omega | (have := HF.out; omega)) (by first | omega | (have := HF.out; omega))
    rw [show Lib.itoa 922337203685477580 = Lib.decDigits 922337203685477580 from Lib.itoa_nonneg 922337203685477580] at h
    omega
  clear hXs0
  rw [← hX]
  have HX := Lib.hid hX
  clear hX
  go_wp2_with fail
  obtain ⟨Z, hZ⟩ : ∃ Z : ByteArray, Z = ⟨#[45]⟩ ++ X := ⟨_, rfl⟩
  rw [← hZ]
  have hZs : Z.size ≤ 22 := by rw [hZ, ByteArray.size_append]; show 1 + X.size ≤ 22; omega
  have hZl : Z.data.toList = 45 :: Lib.decDigits 922337203685477580 := by rw [hZ, HX.out]; simp
  have hneZ : Z.toList.isEmpty = false := by rw [Lib.toList_data, hZl]; rfl
  have HZ := Lib.hid hZl
  clear hZ hZl
  refine (Text_in (8) (by omega) (by omega) w1 hE1).mono ?_
  rintro e w2 ⟨rfl, hb2⟩
  have hE2 := hE1.on hb2
  rw [show Lib.itoa 8 = Lib.decDigits 8 from Lib.itoa_nonneg 8]
  obtain ⟨Y, hY, hneY, hYs0⟩ := asText (Lib.decDigits 8) (dec_ne 8)
  rw [Lib.decDigits_one (show 8 < 10 by omega)] at hYs0
  rw [← hY]
  have hYs : Y.size = 1 := hYs0
  clear hYs0
  have HY := Lib.hid hY
  clear hY
  go_wp2_with fail
  have hnum : numL (Z ++ Y).data.toList = (-9223372036854775808, 0) := by
    rw [cat_data, HZ.out, HY.out, Lib.decDigits_one (show 8 < 10 by omega)]
    exact HN.out
  refine (Number_in (Z ++ Y) (by rw [ByteArray.size_append]; omega) w2 hE2).mono ?_
  rw [hnum]
  clear hnum
  rintro e w3 ⟨rfl, hb3⟩
  have hE3 := hE2.on hb3
  go_wp2_with fail
  refine (known_in w3 hE3).mono ?_
  rintro e w4 ⟨rfl, hb4⟩
  go_wp2_with fail
  go_ret
  exact ⟨rfl, ((hb1.trans (hb2.mono hb1.size)).trans (hb3.mono (by have := hb1.size; have := hb2.size; omega))).trans (hb4.mono (by have := hb1.size; have := hb2.size; have := hb3.size; omega))⟩

set_option maxHeartbeats 1600000 in
set_option maxRecDepth 100000 in
theorem digits_pos_true_big_eq9 (n d : Int) (K D : Nat) (w : World) (hE : Env w) (hq : n.tdiv 10 = (K : Int)) (hd : d.tmod 10 = (D : Int)) (hD : D < 10) (hK : 1 ≤ K) (hF : K = 922337203685477580) (hD7 : D = 9) :
    Calls Tryd.prog 4 #[.int .i64 n, .int .u8 d, .bool true] w fun e w' => e = .returned (.bool true) ∧ Below w.heap.size w w' := by
  subst hF
  subst hD7
  have hwrap : wrap64 (-wrap64 9223372036854775808) = -9223372036854775808 := by decide +kernel
  have hnum : numL (45 :: Lib.decDigits (10 * 922337203685477580 + 9)) = (0, 11) := by
    rw [num_minus _ (by omega), if_neg (by omega)]
  rw [decDigits_push 922337203685477580 9 (by omega) (by omega)] at hnum
  have HN := Lib.hid hnum
  clear hnum
  go_enter Tryd.func4, Tryd.ntmps4
  go_wp2_with fail
  refine (Text_in (922337203685477580) (by first | omega | (have := HF.out; omega)) (by first | omega | (have := HF.out; omega)) w hE).mono ?_
  rintro e w1 ⟨rfl, hb1⟩
  have hE1 := hE.on hb1

  rw [show Lib.itoa 922337203685477580 = Lib.decDigits 922337203685477580 from Lib.itoa_nonneg 922337203685477580]
  obtain ⟨X, hX, hne, hXs0⟩ := asText (Lib.decDigits 922337203685477580) (dec_ne 922337203685477580)
  have hXs : X.size ≤ 21 := by
    have h := Lib.itoa_length_le 922337203685477580 (by first | omega | (have := HF.out; omega)) (by first | omega | (have := HF.out; omega))
    rw [show Lib.itoa 922337203685477580 = Lib.decDigits 922337203685477580 from Lib.itoa_nonneg 922337203685477580] at h
    omega
  clear hXs0
  rw [← hX]
  have HX := Lib.hid hX
  clear hX
  go_wp2_with fail
  obtain ⟨Z, hZ⟩ : ∃ Z : ByteArray, Z = ⟨#[45]⟩ ++ X := ⟨_, rfl⟩
  rw [← hZ]
  have hZs : Z.size ≤ 22 := by rw [hZ, ByteArray.size_append]; show 1 + X.size ≤ 22; omega
  have hZl : Z.data.toList = 45 :: Lib.decDigits 922337203685477580 := by rw [hZ, HX.out]; simp
  have hneZ : Z.toList.isEmpty = false := by rw [Lib.toList_data, hZl]; rfl
  have HZ := Lib.hid hZl
  clear hZ hZl
  refine (Text_in (9) (by omega) (by omega) w1 hE1).mono ?_
  rintro e w2 ⟨rfl, hb2⟩
  have hE2 := hE1.on hb2
  rw [show Lib.itoa 9 = Lib.decDigits 9 from Lib.itoa_nonneg 9]
  obtain ⟨Y, hY, hneY, hYs0⟩ := asText (Lib.decDigits 9) (dec_ne 9)
  rw [Lib.decDigits_one (show 9 < 10 by omega)] at hYs0
  rw [← hY]
  have hYs : Y.size = 1 := hYs0
  clear hYs0
  have HY := Lib.hid hY
  clear hY
  go_wp2_with fail
  have hnum : numL (Z ++ Y).data.toList = (0, 11) := by
    rw [cat_data, HZ.out, HY.out, Lib.decDigits_one (show 9 < 10 by omega)]
    exact HN.out
  refine (Number_in (Z ++ Y) (by rw [ByteArray.size_append]; omega) w2 hE2).mono ?_
  rw [hnum]
  clear hnum
  rintro e w3 ⟨rfl, hb3⟩
  have hE3 := hE2.on hb3
  go_wp2_with fail
  refine (known_in w3 hE3).mono ?_
  rintro e w4 ⟨rfl, hb4⟩
  go_wp2_with fail
  go_ret
  exact ⟨rfl, ((hb1.trans (hb2.mono hb1.size)).trans (hb3.mono (by have := hb1.size; have := hb2.size; omega))).trans (hb4.mono (by have := hb1.size; have := hb2.size; have := hb3.size; omega))⟩

theorem WordDigits_in (n d : Int) (minus : Bool) (w : World) (hE : Env w) (h0 : -9223372036854775808 ≤ n) (h1 : n ≤ 9223372036854775807) (d0 : 0 ≤ d) (d1 : d ≤ 255) :
    Calls Tryd.prog 4 #[.int .i64 n, .int .u8 d, .bool minus] w fun e w' => e = .returned (.bool true) ∧ Below w.heap.size w w' := by
  obtain ⟨D, hD, hd⟩ : ∃ D : Nat, D < 10 ∧ d.tmod 10 = (D : Int) := ⟨d.toNat % 10, by omega, by rw [Int.tmod_eq_emod_of_nonneg d0]; omega⟩
  by_cases hn : n.tdiv 10 < 0
  · obtain ⟨K, hK, hq⟩ : ∃ K : Nat, 1 ≤ K ∧ n.tdiv 10 = -(K : Int) := ⟨(n.tdiv 10).natAbs, by omega, by omega⟩
    have hle : (K : Int) ≤ 922337203685477580 := by
      have : n.tdiv 10 = -((-n).tdiv 10) := by rw [Int.neg_tdiv]; omega
      have hnn : 0 ≤ -n := by
        rcases Int.lt_or_le n 0 with h | h
        · omega
        · have := Int.tdiv_nonneg h (show (0 : Int) ≤ 10 by omega); omega
      rw [Int.tdiv_eq_ediv_of_nonneg hnn] at this
      omega
    rcases Int.lt_or_eq_of_le hle with hF | hF
    · cases minus
      · exact digits_neg_false_big_lt n d K D w hE hq hd hD hK hF
      · exact digits_neg_true_big_lt n d K D w hE hq hd hD hK hF
    · have hF : K = 922337203685477580 := by omega
      rcases (show D ≤ 7 ∨ D = 8 ∨ D = 9 by omega) with h | h | h
      · cases minus
        · exact digits_neg_false_big_eq7 n d K D w hE hq hd hD hK hF h
        · exact digits_neg_true_big_eq7 n d K D w hE hq hd hD hK hF h
      · cases minus
        · exact digits_neg_false_big_eq8 n d K D w hE hq hd hD hK hF h
        · exact digits_neg_true_big_eq8 n d K D w hE hq hd hD hK hF h
      · cases minus
        · exact digits_neg_false_big_eq9 n d K D w hE hq hd hD hK hF h
        · exact digits_neg_true_big_eq9 n d K D w hE hq hd hD hK hF h
  · obtain ⟨K, hq⟩ : ∃ K : Nat, n.tdiv 10 = (K : Int) := ⟨(n.tdiv 10).natAbs, by omega⟩
    rcases Nat.eq_zero_or_pos K with rfl | hK
    · cases minus
      · exact digits_pos_false_zero_fit n d 0 D w hE hq hd hD
      · exact digits_pos_true_zero_fit n d 0 D w hE hq hd hD
    have hle : (K : Int) ≤ 922337203685477580 := by
      rcases Int.lt_or_le n 0 with h | h
      · have e : n.tdiv 10 = -((-n).tdiv 10) := by rw [Int.neg_tdiv]; omega
        have := Int.tdiv_nonneg (show (0 : Int) ≤ -n by omega) (show (0 : Int) ≤ 10 by omega); omega
      · rw [Int.tdiv_eq_ediv_of_nonneg h] at hq; omega
    rcases Int.lt_or_eq_of_le hle with hF | hF
    · cases minus
      · exact digits_pos_false_big_lt n d K D w hE hq hd hD hK hF
      · exact digits_pos_true_big_lt n d K D w hE hq hd hD hK hF
    · have hF : K = 922337203685477580 := by omega
      rcases (show D ≤ 7 ∨ D = 8 ∨ D = 9 by omega) with h | h | h
      · cases minus
        · exact digits_pos_false_big_eq7 n d K D w hE hq hd hD hK hF h
        · exact digits_pos_true_big_eq7 n d K D w hE hq hd hD hK hF h
      · cases minus
        · exact digits_pos_false_big_eq8 n d K D w hE hq hd hD hK hF h
        · exact digits_pos_true_big_eq8 n d K D w hE hq hd hD hK hF h
      · cases minus
        · exact digits_pos_false_big_eq9 n d K D w hE hq hd hD hK hF h
        · exact digits_pos_true_big_eq9 n d K D w hE hq hd hD hK hF h
end Go.Proofs.YtodddplpggggeaaDoor
