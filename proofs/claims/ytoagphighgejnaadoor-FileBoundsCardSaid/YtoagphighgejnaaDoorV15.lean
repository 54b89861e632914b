/- FileBounds (4): the first two letters. Conditions: none. -/
import Derived.Test.YtoagphighgejnaaDoorFP7
set_option linter.unusedSimpArgs false
set_option linter.unusedVariables false
namespace Go.Proofs.YtoagphighgejnaaDoor
open Go.RowKit Go.Shelf

set_option maxHeartbeats 3200000 in
set_option maxRecDepth 100000 in
theorem bnd_0_0 (n k m : Int) (w : World) (hE : Env w) (hm : n.tmod 2147483651 = m) (h0 : -2147483651 ≤ m) (h1 : m ≤ 2147483651) (hk : k.tmod 4 = 0) (hkk : 0 ≤ k ∧ k ≤ 255) (hr : m < -2147483648) :
    Calls Tryd.prog 4 #[.int .i64 n, .int .u8 k] w fun e w' => e = .returned (.bool true) ∧ Below w.heap.size w w' := by
  have c1 : m ≤ 2147483648 := by omega
  have c2 : ¬ -2147483648 ≤ m := by omega
  have dc2 : decide (-2147483648 ≤ m) = false := decide_eq_false c2
  have c3 : ¬ -1 ≤ m := by omega
  have dc3 : decide (-1 ≤ m) = false := decide_eq_false c3
  have c4 : ¬ 0 ≤ m := by omega
  have dc4 : decide (0 ≤ m) = false := decide_eq_false c4
  have c5 : ¬ m = -1 := by omega
  have HT := Lib.hid (fun W => rText_in m (by omega) (by omega) W)
  have HT2 := Lib.hid (fun W => rText_in (-m) (by omega) (by omega) W)
  have hneg : IntKind.i64.wrap (-m) = -m := IntWalk.i64_in _ (by omega)
  obtain ⟨S, hS⟩ : ∃ S : ByteArray, S = ⟨(Lib.itoa m).toArray⟩ := ⟨_, rfl⟩
  obtain ⟨S2, hS2⟩ : ∃ S : ByteArray, S = ⟨(Lib.itoa (-m)).toArray⟩ := ⟨_, rfl⟩
  have hsS : S.size ≤ 21 := by rw [hS]; exact itoa_lt m (by omega) (by omega)
  have hsS2 : S2.size ≤ 21 := by rw [hS2]; exact itoa_lt (-m) (by omega) (by omega)
  have hlS : S.data.toList = Lib.itoa m := by rw [hS]
  have hlS2 : S2.data.toList = Lib.itoa (-m) := by rw [hS2]
  unfold strV at HT HT2
  rw [← hS] at HT
  rw [← hS2] at HT2
  obtain ⟨p, x, hq, harc⟩ := tell0 m (by omega) (by omega)
  rw [if_neg (by simp [fitJ]; omega)] at hq
  have HP := Lib.hid (fun W (hb : Below w.heap.size w W) => Parse_any (⟨#[112, 32, 109, 105, 110, 32, 50, 32, 49, 10]⟩ ++ ((((⟨#[110, 32, 49, 32]⟩ ++ S) ++ ⟨#[10, 110, 32, 50, 32]⟩) ++ S2) ++ ⟨#[10, 97, 32, 49, 32, 50, 32, 48, 32, 53, 32, 49, 10]⟩)) W (hE.on hb))
  rw [txt0 S S2 m hlS hlS2, hq] at HP
  unfold ParTells at HP
  simp only at HP
  have HK := Lib.hid (fun W (hb : Below w.heap.size w W) => known_in W (hE.on hb))
  have HA := Lib.hid harc
  have hk1 : k % 4 = 0 := by rw [← Int.tmod_eq_emod_of_nonneg hkk.1]; exact hk
  clear hE hS hS2 hlS hlS2 hq harc h0 h1
  go_enter Tryd.func4, Tryd.ntmps4
  go_wp2_with fail
  refine (HT.out _).mono ?_
  rintro e w1 ⟨rfl, q1, rfl⟩
  go_wp2_with fail
  refine (HT2.out _).mono ?_
  rintro e w2 ⟨rfl, q2, rfl⟩
  have hcell : ((w.drewN (q1 + q2)).alloc (.cells #[.string ((((⟨#[110, 32, 49, 32]⟩ ++ S) ++ ⟨#[10, 110, 32, 50, 32]⟩) ++ S2) ++ ⟨#[10, 97, 32, 49, 32, 50, 32, 48, 32, 53, 32, 49, 10]⟩), .string ((⟨#[97, 32, 49, 32, 50, 32, 48, 32, 53, 32]⟩ ++ S) ++ ⟨#[10]⟩), .string ((⟨#[97, 32, 49, 32, 50, 32, 48, 32]⟩ ++ S) ++ ⟨#[32, 49, 10]⟩), .string ((⟨#[97, 32, 49, 32, 50, 32]⟩ ++ S) ++ ⟨#[32, 45, 49, 32, 49, 10]⟩)] 9)).cell? ⟨w.heap.size, 0, none⟩ = some (.string ((((⟨#[110, 32, 49, 32]⟩ ++ S) ++ ⟨#[10, 110, 32, 50, 32]⟩) ++ S2) ++ ⟨#[10, 97, 32, 49, 32, 50, 32, 48, 32, 53, 32, 49, 10]⟩)) := (Blk.new (w.drewN (q1 + q2)) 9 #[.string ((((⟨#[110, 32, 49, 32]⟩ ++ S) ++ ⟨#[10, 110, 32, 50, 32]⟩) ++ S2) ++ ⟨#[10, 97, 32, 49, 32, 50, 32, 48, 32, 53, 32, 49, 10]⟩), .string ((⟨#[97, 32, 49, 32, 50, 32, 48, 32, 53, 32]⟩ ++ S) ++ ⟨#[10]⟩), .string ((⟨#[97, 32, 49, 32, 50, 32, 48, 32]⟩ ++ S) ++ ⟨#[32, 49, 10]⟩), .string ((⟨#[97, 32, 49, 32, 50, 32]⟩ ++ S) ++ ⟨#[32, 45, 49, 32, 49, 10]⟩)]).cell 0
  have hb2 : Below w.heap.size w ((w.drewN (q1 + q2)).alloc (.cells #[.string ((((⟨#[110, 32, 49, 32]⟩ ++ S) ++ ⟨#[10, 110, 32, 50, 32]⟩) ++ S2) ++ ⟨#[10, 97, 32, 49, 32, 50, 32, 48, 32, 53, 32, 49, 10]⟩), .string ((⟨#[97, 32, 49, 32, 50, 32, 48, 32, 53, 32]⟩ ++ S) ++ ⟨#[10]⟩), .string ((⟨#[97, 32, 49, 32, 50, 32, 48, 32]⟩ ++ S) ++ ⟨#[32, 49, 10]⟩), .string ((⟨#[97, 32, 49, 32, 50, 32]⟩ ++ S) ++ ⟨#[32, 45, 49, 32, 49, 10]⟩)] 9)) := (below_drN w (q1 + q2)).alloc (Nat.le_refl _) _
  have HB2 := Lib.hid hb2
  clear hb2
  go_wp2_with fail
  refine (HP.out _ HB2.out).mono ?_
  rintro e w3 ⟨v, rfl, hv, hb3⟩
  obtain ⟨A1, n1, c1, A2, m2, c2, rfl, hn1, hm2, hc1, hc2, r1, r2⟩ := hv
  obtain ⟨mx, hmx⟩ : ∃ x, x = p.max := ⟨_, rfl⟩
  obtain ⟨ps, hps⟩ : ∃ x, x = p.s := ⟨_, rfl⟩
  obtain ⟨pt, hpt⟩ : ∃ x, x = p.t := ⟨_, rfl⟩
  rw [← hmx, ← hps, ← hpt]
  unfold probV
  have hbw3 := HB2.out.trans (hb3.mono HB2.out.size)
  have hb4 : Below w3.heap.size w3 (w3.alloc (.cells #[.bool mx, .slice A1 n1 c1, .slice A2 m2 c2, .int .i64 ps, .int .i64 pt] 34)) := (Below.refl _ w3).alloc (Nat.le_refl _) _
  have HB4 := Lib.hid (hbw3.trans (hb4.mono hbw3.size))
  clear r1 r2 hn1 hm2 hc1 hc2 hbw3 hb3 hb4 hmx hps hpt hcell
  go_wp2_with fail
  refine (HK.out _ HB4.out).mono ?_
  rintro e w5 ⟨rfl, hb5⟩
  have HB5 := Lib.hid (HB4.out.trans (hb5.mono HB4.out.size))
  clear hb5
  go_wp2_with fail
  go_ret
  exact ⟨rfl, HB5.out⟩
set_option maxHeartbeats 3200000 in
set_option maxRecDepth 100000 in
theorem bnd_0_1 (n k m : Int) (w : World) (hE : Env w) (hm : n.tmod 2147483651 = m) (h0 : -2147483651 ≤ m) (h1 : m ≤ 2147483651) (hk : k.tmod 4 = 0) (hkk : 0 ≤ k ∧ k ≤ 255) (hr : -2147483648 ≤ m ∧ m < -1) :
    Calls Tryd.prog 4 #[.int .i64 n, .int .u8 k] w fun e w' => e = .returned (.bool true) ∧ Below w.heap.size w w' := by
  have c1 : m ≤ 2147483648 := by omega
  have c2 : -2147483648 ≤ m := by omega
  have c3 : ¬ -1 ≤ m := by omega
  have dc3 : decide (-1 ≤ m) = false := decide_eq_false c3
  have c4 : ¬ 0 ≤ m := by omega
  have dc4 : decide (0 ≤ m) = false := decide_eq_false c4
  have c5 : ¬ m = -1 := by omega
  have HT := Lib.hid (fun W => rText_in m (by omega) (by omega) W)
  have HT2 := Lib.hid (fun W => rText_in (-m) (by omega) (by omega) W)
  have hneg : IntKind.i64.wrap (-m) = -m := IntWalk.i64_in _ (by omega)
  obtain ⟨S, hS⟩ : ∃ S : ByteArray, S = ⟨(Lib.itoa m).toArray⟩ := ⟨_, rfl⟩
  obtain ⟨S2, hS2⟩ : ∃ S : ByteArray, S = ⟨(Lib.itoa (-m)).toArray⟩ := ⟨_, rfl⟩
  have hsS : S.size ≤ 21 := by rw [hS]; exact itoa_lt m (by omega) (by omega)
  have hsS2 : S2.size ≤ 21 := by rw [hS2]; exact itoa_lt (-m) (by omega) (by omega)
  have hlS : S.data.toList = Lib.itoa m := by rw [hS]
  have hlS2 : S2.data.toList = Lib.itoa (-m) := by rw [hS2]
  unfold strV at HT HT2
  rw [← hS] at HT
  rw [← hS2] at HT2
  obtain ⟨p, x, hq, harc⟩ := tell0 m (by omega) (by omega)
  rw [if_pos (by simp [fitJ]; omega)] at hq
  have HP := Lib.hid (fun W (hb : Below w.heap.size w W) => Parse_any (⟨#[112, 32, 109, 105, 110, 32, 50, 32, 49, 10]⟩ ++ ((((⟨#[110, 32, 49, 32]⟩ ++ S) ++ ⟨#[10, 110, 32, 50, 32]⟩) ++ S2) ++ ⟨#[10, 97, 32, 49, 32, 50, 32, 48, 32, 53, 32, 49, 10]⟩)) W (hE.on hb))
  rw [txt0 S S2 m hlS hlS2, hq] at HP
  unfold ParTells at HP
  simp only at HP
  have HK := Lib.hid (fun W (hb : Below w.heap.size w W) => known_in W (hE.on hb))
  have HA := Lib.hid harc
  have hk1 : k % 4 = 0 := by rw [← Int.tmod_eq_emod_of_nonneg hkk.1]; exact hk
  clear hE hS hS2 hlS hlS2 hq harc h0 h1
  go_enter Tryd.func4, Tryd.ntmps4
  go_wp2_with fail
  refine (HT.out _).mono ?_
  rintro e w1 ⟨rfl, q1, rfl⟩
  go_wp2_with fail
  refine (HT2.out _).mono ?_
  rintro e w2 ⟨rfl, q2, rfl⟩
  have hcell : ((w.drewN (q1 + q2)).alloc (.cells #[.string ((((⟨#[110, 32, 49, 32]⟩ ++ S) ++ ⟨#[10, 110, 32, 50, 32]⟩) ++ S2) ++ ⟨#[10, 97, 32, 49, 32, 50, 32, 48, 32, 53, 32, 49, 10]⟩), .string ((⟨#[97, 32, 49, 32, 50, 32, 48, 32, 53, 32]⟩ ++ S) ++ ⟨#[10]⟩), .string ((⟨#[97, 32, 49, 32, 50, 32, 48, 32]⟩ ++ S) ++ ⟨#[32, 49, 10]⟩), .string ((⟨#[97, 32, 49, 32, 50, 32]⟩ ++ S) ++ ⟨#[32, 45, 49, 32, 49, 10]⟩)] 9)).cell? ⟨w.heap.size, 0, none⟩ = some (.string ((((⟨#[110, 32, 49, 32]⟩ ++ S) ++ ⟨#[10, 110, 32, 50, 32]⟩) ++ S2) ++ ⟨#[10, 97, 32, 49, 32, 50, 32, 48, 32, 53, 32, 49, 10]⟩)) := (Blk.new (w.drewN (q1 + q2)) 9 #[.string ((((⟨#[110, 32, 49, 32]⟩ ++ S) ++ ⟨#[10, 110, 32, 50, 32]⟩) ++ S2) ++ ⟨#[10, 97, 32, 49, 32, 50, 32, 48, 32, 53, 32, 49, 10]⟩), .string ((⟨#[97, 32, 49, 32, 50, 32, 48, 32, 53, 32]⟩ ++ S) ++ ⟨#[10]⟩), .string ((⟨#[97, 32, 49, 32, 50, 32, 48, 32]⟩ ++ S) ++ ⟨#[32, 49, 10]⟩), .string ((⟨#[97, 32, 49, 32, 50, 32]⟩ ++ S) ++ ⟨#[32, 45, 49, 32, 49, 10]⟩)]).cell 0
  have hb2 : Below w.heap.size w ((w.drewN (q1 + q2)).alloc (.cells #[.string ((((⟨#[110, 32, 49, 32]⟩ ++ S) ++ ⟨#[10, 110, 32, 50, 32]⟩) ++ S2) ++ ⟨#[10, 97, 32, 49, 32, 50, 32, 48, 32, 53, 32, 49, 10]⟩), .string ((⟨#[97, 32, 49, 32, 50, 32, 48, 32, 53, 32]⟩ ++ S) ++ ⟨#[10]⟩), .string ((⟨#[97, 32, 49, 32, 50, 32, 48, 32]⟩ ++ S) ++ ⟨#[32, 49, 10]⟩), .string ((⟨#[97, 32, 49, 32, 50, 32]⟩ ++ S) ++ ⟨#[32, 45, 49, 32, 49, 10]⟩)] 9)) := (below_drN w (q1 + q2)).alloc (Nat.le_refl _) _
  have HB2 := Lib.hid hb2
  clear hb2
  go_wp2_with fail
  refine (HP.out _ HB2.out).mono ?_
  rintro e w3 ⟨v, rfl, hv, hb3⟩
  obtain ⟨A1, n1, c1, A2, m2, c2, rfl, hn1, hm2, hc1, hc2, r1, r2⟩ := hv
  obtain ⟨mx, hmx⟩ : ∃ x, x = p.max := ⟨_, rfl⟩
  obtain ⟨ps, hps⟩ : ∃ x, x = p.s := ⟨_, rfl⟩
  obtain ⟨pt, hpt⟩ : ∃ x, x = p.t := ⟨_, rfl⟩
  rw [← hmx, ← hps, ← hpt]
  unfold probV
  have hbw3 := HB2.out.trans (hb3.mono HB2.out.size)
  have hb4 : Below w3.heap.size w3 (w3.alloc (.cells #[.bool mx, .slice A1 n1 c1, .slice A2 m2 c2, .int .i64 ps, .int .i64 pt] 34)) := (Below.refl _ w3).alloc (Nat.le_refl _) _
  have HB4 := Lib.hid (hbw3.trans (hb4.mono hbw3.size))
  clear r1 r2 hn1 hm2 hc1 hc2 hbw3 hb3 hb4 hmx hps hpt hcell
  go_wp2_with fail
  refine (HK.out _ HB4.out).mono ?_
  rintro e w5 ⟨rfl, hb5⟩
  have HB5 := Lib.hid (HB4.out.trans (hb5.mono HB4.out.size))
  clear hb5
  go_wp2_with fail
  go_ret
  exact ⟨rfl, HB5.out⟩
set_option maxHeartbeats 3200000 in
set_option maxRecDepth 100000 in
theorem bnd_0_2 (n k m : Int) (w : World) (hE : Env w) (hm : n.tmod 2147483651 = m) (h0 : -2147483651 ≤ m) (h1 : m ≤ 2147483651) (hk : k.tmod 4 = 0) (hkk : 0 ≤ k ∧ k ≤ 255) (hr : m = -1) :
    Calls Tryd.prog 4 #[.int .i64 n, .int .u8 k] w fun e w' => e = .returned (.bool true) ∧ Below w.heap.size w w' := by
  subst hr
  have HT := Lib.hid (fun W => rText_in (-1) (by omega) (by omega) W)
  have HT2 := Lib.hid (fun W => rText_in (-(-1)) (by omega) (by omega) W)
  have hneg : IntKind.i64.wrap (-(-1)) = -(-1) := IntWalk.i64_in _ (by omega)
  obtain ⟨S, hS⟩ : ∃ S : ByteArray, S = ⟨(Lib.itoa (-1)).toArray⟩ := ⟨_, rfl⟩
  obtain ⟨S2, hS2⟩ : ∃ S : ByteArray, S = ⟨(Lib.itoa (-(-1))).toArray⟩ := ⟨_, rfl⟩
  have hsS : S.size ≤ 21 := by rw [hS]; exact itoa_lt (-1) (by omega) (by omega)
  have hsS2 : S2.size ≤ 21 := by rw [hS2]; exact itoa_lt (-(-1)) (by omega) (by omega)
  have hlS : S.data.toList = Lib.itoa (-1) := by rw [hS]
  have hlS2 : S2.data.toList = Lib.itoa (-(-1)) := by rw [hS2]
  unfold strV at HT HT2
  rw [← hS] at HT
  rw [← hS2] at HT2
  obtain ⟨p, x, hq, harc⟩ := tell0 (-1) (by omega) (by omega)
  rw [if_pos (by simp [fitJ])] at hq
  have HP := Lib.hid (fun W (hb : Below w.heap.size w W) => Parse_any (⟨#[112, 32, 109, 105, 110, 32, 50, 32, 49, 10]⟩ ++ ((((⟨#[110, 32, 49, 32]⟩ ++ S) ++ ⟨#[10, 110, 32, 50, 32]⟩) ++ S2) ++ ⟨#[10, 97, 32, 49, 32, 50, 32, 48, 32, 53, 32, 49, 10]⟩)) W (hE.on hb))
  rw [txt0 S S2 (-1) hlS hlS2, hq] at HP
  unfold ParTells at HP
  simp only at HP
  have HK := Lib.hid (fun W (hb : Below w.heap.size w W) => known_in W (hE.on hb))
  have HA := Lib.hid harc
  have hk1 : k % 4 = 0 := by rw [← Int.tmod_eq_emod_of_nonneg hkk.1]; exact hk
  clear hE hS hS2 hlS hlS2 hq harc h0 h1
  go_enter Tryd.func4, Tryd.ntmps4
  go_wp2_with fail
  refine (HT.out _).mono ?_
  rintro e w1 ⟨rfl, q1, rfl⟩
  go_wp2_with fail
  refine (HT2.out _).mono ?_
  rintro e w2 ⟨rfl, q2, rfl⟩
  have hcell : ((w.drewN (q1 + q2)).alloc (.cells #[.string ((((⟨#[110, 32, 49, 32]⟩ ++ S) ++ ⟨#[10, 110, 32, 50, 32]⟩) ++ S2) ++ ⟨#[10, 97, 32, 49, 32, 50, 32, 48, 32, 53, 32, 49, 10]⟩), .string ((⟨#[97, 32, 49, 32, 50, 32, 48, 32, 53, 32]⟩ ++ S) ++ ⟨#[10]⟩), .string ((⟨#[97, 32, 49, 32, 50, 32, 48, 32]⟩ ++ S) ++ ⟨#[32, 49, 10]⟩), .string ((⟨#[97, 32, 49, 32, 50, 32]⟩ ++ S) ++ ⟨#[32, 45, 49, 32, 49, 10]⟩)] 9)).cell? ⟨w.heap.size, 0, none⟩ = some (.string ((((⟨#[110, 32, 49, 32]⟩ ++ S) ++ ⟨#[10, 110, 32, 50, 32]⟩) ++ S2) ++ ⟨#[10, 97, 32, 49, 32, 50, 32, 48, 32, 53, 32, 49, 10]⟩)) := (Blk.new (w.drewN (q1 + q2)) 9 #[.string ((((⟨#[110, 32, 49, 32]⟩ ++ S) ++ ⟨#[10, 110, 32, 50, 32]⟩) ++ S2) ++ ⟨#[10, 97, 32, 49, 32, 50, 32, 48, 32, 53, 32, 49, 10]⟩), .string ((⟨#[97, 32, 49, 32, 50, 32, 48, 32, 53, 32]⟩ ++ S) ++ ⟨#[10]⟩), .string ((⟨#[97, 32, 49, 32, 50, 32, 48, 32]⟩ ++ S) ++ ⟨#[32, 49, 10]⟩), .string ((⟨#[97, 32, 49, 32, 50, 32]⟩ ++ S) ++ ⟨#[32, 45, 49, 32, 49, 10]⟩)]).cell 0
  have hb2 : Below w.heap.size w ((w.drewN (q1 + q2)).alloc (.cells #[.string ((((⟨#[110, 32, 49, 32]⟩ ++ S) ++ ⟨#[10, 110, 32, 50, 32]⟩) ++ S2) ++ ⟨#[10, 97, 32, 49, 32, 50, 32, 48, 32, 53, 32, 49, 10]⟩), .string ((⟨#[97, 32, 49, 32, 50, 32, 48, 32, 53, 32]⟩ ++ S) ++ ⟨#[10]⟩), .string ((⟨#[97, 32, 49, 32, 50, 32, 48, 32]⟩ ++ S) ++ ⟨#[32, 49, 10]⟩), .string ((⟨#[97, 32, 49, 32, 50, 32]⟩ ++ S) ++ ⟨#[32, 45, 49, 32, 49, 10]⟩)] 9)) := (below_drN w (q1 + q2)).alloc (Nat.le_refl _) _
  have HB2 := Lib.hid hb2
  clear hb2
  go_wp2_with fail
  refine (HP.out _ HB2.out).mono ?_
  rintro e w3 ⟨v, rfl, hv, hb3⟩
  obtain ⟨A1, n1, c1, A2, m2, c2, rfl, hn1, hm2, hc1, hc2, r1, r2⟩ := hv
  obtain ⟨mx, hmx⟩ : ∃ x, x = p.max := ⟨_, rfl⟩
  obtain ⟨ps, hps⟩ : ∃ x, x = p.s := ⟨_, rfl⟩
  obtain ⟨pt, hpt⟩ : ∃ x, x = p.t := ⟨_, rfl⟩
  rw [← hmx, ← hps, ← hpt]
  unfold probV
  have hbw3 := HB2.out.trans (hb3.mono HB2.out.size)
  have hb4 : Below w3.heap.size w3 (w3.alloc (.cells #[.bool mx, .slice A1 n1 c1, .slice A2 m2 c2, .int .i64 ps, .int .i64 pt] 34)) := (Below.refl _ w3).alloc (Nat.le_refl _) _
  have HB4 := Lib.hid (hbw3.trans (hb4.mono hbw3.size))
  clear r1 r2 hn1 hm2 hc1 hc2 hbw3 hb3 hb4 hmx hps hpt hcell
  go_wp2_with fail
  refine (HK.out _ HB4.out).mono ?_
  rintro e w5 ⟨rfl, hb5⟩
  have HB5 := Lib.hid (HB4.out.trans (hb5.mono HB4.out.size))
  clear hb5
  go_wp2_with fail
  go_ret
  exact ⟨rfl, HB5.out⟩
set_option maxHeartbeats 3200000 in
set_option maxRecDepth 100000 in
theorem bnd_0_3 (n k m : Int) (w : World) (hE : Env w) (hm : n.tmod 2147483651 = m) (h0 : -2147483651 ≤ m) (h1 : m ≤ 2147483651) (hk : k.tmod 4 = 0) (hkk : 0 ≤ k ∧ k ≤ 255) (hr : 0 ≤ m ∧ m ≤ 2147483648) :
    Calls Tryd.prog 4 #[.int .i64 n, .int .u8 k] w fun e w' => e = .returned (.bool true) ∧ Below w.heap.size w w' := by
  have c1 : m ≤ 2147483648 := by omega
  have c2 : -2147483648 ≤ m := by omega
  have c3 : -1 ≤ m := by omega
  have c4 : 0 ≤ m := by omega
  have c5 : ¬ m = -1 := by omega
  have HT := Lib.hid (fun W => rText_in m (by omega) (by omega) W)
  have HT2 := Lib.hid (fun W => rText_in (-m) (by omega) (by omega) W)
  have hneg : IntKind.i64.wrap (-m) = -m := IntWalk.i64_in _ (by omega)
  obtain ⟨S, hS⟩ : ∃ S : ByteArray, S = ⟨(Lib.itoa m).toArray⟩ := ⟨_, rfl⟩
  obtain ⟨S2, hS2⟩ : ∃ S : ByteArray, S = ⟨(Lib.itoa (-m)).toArray⟩ := ⟨_, rfl⟩
  have hsS : S.size ≤ 21 := by rw [hS]; exact itoa_lt m (by omega) (by omega)
  have hsS2 : S2.size ≤ 21 := by rw [hS2]; exact itoa_lt (-m) (by omega) (by omega)
  have hlS : S.data.toList = Lib.itoa m := by rw [hS]
  have hlS2 : S2.data.toList = Lib.itoa (-m) := by rw [hS2]
  unfold strV at HT HT2
  rw [← hS] at HT
  rw [← hS2] at HT2
  obtain ⟨p, x, hq, harc⟩ := tell0 m (by omega) (by omega)
  rw [if_pos (by simp [fitJ]; omega)] at hq
  have HP := Lib.hid (fun W (hb : Below w.heap.size w W) => Parse_any (⟨#[112, 32, 109, 105, 110, 32, 50, 32, 49, 10]⟩ ++ ((((⟨#[110, 32, 49, 32]⟩ ++ S) ++ ⟨#[10, 110, 32, 50, 32]⟩) ++ S2) ++ ⟨#[10, 97, 32, 49, 32, 50, 32, 48, 32, 53, 32, 49, 10]⟩)) W (hE.on hb))
  rw [txt0 S S2 m hlS hlS2, hq] at HP
  unfold ParTells at HP
  simp only at HP
  have HK := Lib.hid (fun W (hb : Below w.heap.size w W) => known_in W (hE.on hb))
  have HA := Lib.hid harc
  have hk1 : k % 4 = 0 := by rw [← Int.tmod_eq_emod_of_nonneg hkk.1]; exact hk
  clear hE hS hS2 hlS hlS2 hq harc h0 h1
  go_enter Tryd.func4, Tryd.ntmps4
  go_wp2_with fail
  refine (HT.out _).mono ?_
  rintro e w1 ⟨rfl, q1, rfl⟩
  go_wp2_with fail
  refine (HT2.out _).mono ?_
  rintro e w2 ⟨rfl, q2, rfl⟩
  have hcell : ((w.drewN (q1 + q2)).alloc (.cells #[.string ((((⟨#[110, 32, 49, 32]⟩ ++ S) ++ ⟨#[10, 110, 32, 50, 32]⟩) ++ S2) ++ ⟨#[10, 97, 32, 49, 32, 50, 32, 48, 32, 53, 32, 49, 10]⟩), .string ((⟨#[97, 32, 49, 32, 50, 32, 48, 32, 53, 32]⟩ ++ S) ++ ⟨#[10]⟩), .string ((⟨#[97, 32, 49, 32, 50, 32, 48, 32]⟩ ++ S) ++ ⟨#[32, 49, 10]⟩), .string ((⟨#[97, 32, 49, 32, 50, 32]⟩ ++ S) ++ ⟨#[32, 45, 49, 32, 49, 10]⟩)] 9)).cell? ⟨w.heap.size, 0, none⟩ = some (.string ((((⟨#[110, 32, 49, 32]⟩ ++ S) ++ ⟨#[10, 110, 32, 50, 32]⟩) ++ S2) ++ ⟨#[10, 97, 32, 49, 32, 50, 32, 48, 32, 53, 32, 49, 10]⟩)) := (Blk.new (w.drewN (q1 + q2)) 9 #[.string ((((⟨#[110, 32, 49, 32]⟩ ++ S) ++ ⟨#[10, 110, 32, 50, 32]⟩) ++ S2) ++ ⟨#[10, 97, 32, 49, 32, 50, 32, 48, 32, 53, 32, 49, 10]⟩), .string ((⟨#[97, 32, 49, 32, 50, 32, 48, 32, 53, 32]⟩ ++ S) ++ ⟨#[10]⟩), .string ((⟨#[97, 32, 49, 32, 50, 32, 48, 32]⟩ ++ S) ++ ⟨#[32, 49, 10]⟩), .string ((⟨#[97, 32, 49, 32, 50, 32]⟩ ++ S) ++ ⟨#[32, 45, 49, 32, 49, 10]⟩)]).cell 0
  have hb2 : Below w.heap.size w ((w.drewN (q1 + q2)).alloc (.cells #[.string ((((⟨#[110, 32, 49, 32]⟩ ++ S) ++ ⟨#[10, 110, 32, 50, 32]⟩) ++ S2) ++ ⟨#[10, 97, 32, 49, 32, 50, 32, 48, 32, 53, 32, 49, 10]⟩), .string ((⟨#[97, 32, 49, 32, 50, 32, 48, 32, 53, 32]⟩ ++ S) ++ ⟨#[10]⟩), .string ((⟨#[97, 32, 49, 32, 50, 32, 48, 32]⟩ ++ S) ++ ⟨#[32, 49, 10]⟩), .string ((⟨#[97, 32, 49, 32, 50, 32]⟩ ++ S) ++ ⟨#[32, 45, 49, 32, 49, 10]⟩)] 9)) := (below_drN w (q1 + q2)).alloc (Nat.le_refl _) _
  have HB2 := Lib.hid hb2
  clear hb2
  go_wp2_with fail
  refine (HP.out _ HB2.out).mono ?_
  rintro e w3 ⟨v, rfl, hv, hb3⟩
  obtain ⟨A1, n1, c1, A2, m2, c2, rfl, hn1, hm2, hc1, hc2, r1, r2⟩ := hv
  obtain ⟨mx, hmx⟩ : ∃ x, x = p.max := ⟨_, rfl⟩
  obtain ⟨ps, hps⟩ : ∃ x, x = p.s := ⟨_, rfl⟩
  obtain ⟨pt, hpt⟩ : ∃ x, x = p.t := ⟨_, rfl⟩
  rw [← hmx, ← hps, ← hpt]
  unfold probV
  have hbw3 := HB2.out.trans (hb3.mono HB2.out.size)
  have hb4 : Below w3.heap.size w3 (w3.alloc (.cells #[.bool mx, .slice A1 n1 c1, .slice A2 m2 c2, .int .i64 ps, .int .i64 pt] 34)) := (Below.refl _ w3).alloc (Nat.le_refl _) _
  have HB4 := Lib.hid (hbw3.trans (hb4.mono hbw3.size))
  clear r1 r2 hn1 hm2 hc1 hc2 hbw3 hb3 hb4 hmx hps hpt hcell
  go_wp2_with fail
  refine (HK.out _ HB4.out).mono ?_
  rintro e w5 ⟨rfl, hb5⟩
  have HB5 := Lib.hid (HB4.out.trans (hb5.mono HB4.out.size))
  clear hb5
  go_wp2_with fail
  go_ret
  exact ⟨rfl, HB5.out⟩
set_option maxHeartbeats 3200000 in
set_option maxRecDepth 100000 in
theorem bnd_0_4 (n k m : Int) (w : World) (hE : Env w) (hm : n.tmod 2147483651 = m) (h0 : -2147483651 ≤ m) (h1 : m ≤ 2147483651) (hk : k.tmod 4 = 0) (hkk : 0 ≤ k ∧ k ≤ 255) (hr : 2147483648 < m) :
    Calls Tryd.prog 4 #[.int .i64 n, .int .u8 k] w fun e w' => e = .returned (.bool true) ∧ Below w.heap.size w w' := by
  have c1 : ¬ m ≤ 2147483648 := by omega
  have dc1 : decide (m ≤ 2147483648) = false := decide_eq_false c1
  have c2 : -2147483648 ≤ m := by omega
  have c3 : -1 ≤ m := by omega
  have c4 : 0 ≤ m := by omega
  have c5 : ¬ m = -1 := by omega
  have HT := Lib.hid (fun W => rText_in m (by omega) (by omega) W)
  have HT2 := Lib.hid (fun W => rText_in (-m) (by omega) (by omega) W)
  have hneg : IntKind.i64.wrap (-m) = -m := IntWalk.i64_in _ (by omega)
  obtain ⟨S, hS⟩ : ∃ S : ByteArray, S = ⟨(Lib.itoa m).toArray⟩ := ⟨_, rfl⟩
  obtain ⟨S2, hS2⟩ : ∃ S : ByteArray, S = ⟨(Lib.itoa (-m)).toArray⟩ := ⟨_, rfl⟩
  have hsS : S.size ≤ 21 := by rw [hS]; exact itoa_lt m (by omega) (by omega)
  have hsS2 : S2.size ≤ 21 := by rw [hS2]; exact itoa_lt (-m) (by omega) (by omega)
  have hlS : S.data.toList = Lib.itoa m := by rw [hS]
  have hlS2 : S2.data.toList = Lib.itoa (-m) := by rw [hS2]
  unfold strV at HT HT2
  rw [← hS] at HT
  rw [← hS2] at HT2
  obtain ⟨p, x, hq, harc⟩ := tell0 m (by omega) (by omega)
  rw [if_neg (by simp [fitJ]; omega)] at hq
  have HP := Lib.hid (fun W (hb : Below w.heap.size w W) => Parse_any (⟨#[112, 32, 109, 105, 110, 32, 50, 32, 49, 10]⟩ ++ ((((⟨#[110, 32, 49, 32]⟩ ++ S) ++ ⟨#[10, 110, 32, 50, 32]⟩) ++ S2) ++ ⟨#[10, 97, 32, 49, 32, 50, 32, 48, 32, 53, 32, 49, 10]⟩)) W (hE.on hb))
  rw [txt0 S S2 m hlS hlS2, hq] at HP
  unfold ParTells at HP
  simp only at HP
  have HK := Lib.hid (fun W (hb : Below w.heap.size w W) => known_in W (hE.on hb))
  have HA := Lib.hid harc
  have hk1 : k % 4 = 0 := by rw [← Int.tmod_eq_emod_of_nonneg hkk.1]; exact hk
  clear hE hS hS2 hlS hlS2 hq harc h0 h1
  go_enter Tryd.func4, Tryd.ntmps4
  go_wp2_with fail
  refine (HT.out _).mono ?_
  rintro e w1 ⟨rfl, q1, rfl⟩
  go_wp2_with fail
  refine (HT2.out _).mono ?_
  rintro e w2 ⟨rfl, q2, rfl⟩
  have hcell : ((w.drewN (q1 + q2)).alloc (.cells #[.string ((((⟨#[110, 32, 49, 32]⟩ ++ S) ++ ⟨#[10, 110, 32, 50, 32]⟩) ++ S2) ++ ⟨#[10, 97, 32, 49, 32, 50, 32, 48, 32, 53, 32, 49, 10]⟩), .string ((⟨#[97, 32, 49, 32, 50, 32, 48, 32, 53, 32]⟩ ++ S) ++ ⟨#[10]⟩), .string ((⟨#[97, 32, 49, 32, 50, 32, 48, 32]⟩ ++ S) ++ ⟨#[32, 49, 10]⟩), .string ((⟨#[97, 32, 49, 32, 50, 32]⟩ ++ S) ++ ⟨#[32, 45, 49, 32, 49, 10]⟩)] 9)).cell? ⟨w.heap.size, 0, none⟩ = some (.string ((((⟨#[110, 32, 49, 32]⟩ ++ S) ++ ⟨#[10, 110, 32, 50, 32]⟩) ++ S2) ++ ⟨#[10, 97, 32, 49, 32, 50, 32, 48, 32, 53, 32, 49, 10]⟩)) := (Blk.new (w.drewN (q1 + q2)) 9 #[.string ((((⟨#[110, 32, 49, 32]⟩ ++ S) ++ ⟨#[10, 110, 32, 50, 32]⟩) ++ S2) ++ ⟨#[10, 97, 32, 49, 32, 50, 32, 48, 32, 53, 32, 49, 10]⟩), .string ((⟨#[97, 32, 49, 32, 50, 32, 48, 32, 53, 32]⟩ ++ S) ++ ⟨#[10]⟩), .string ((⟨#[97, 32, 49, 32, 50, 32, 48, 32]⟩ ++ S) ++ ⟨#[32, 49, 10]⟩), .string ((⟨#[97, 32, 49, 32, 50, 32]⟩ ++ S) ++ ⟨#[32, 45, 49, 32, 49, 10]⟩)]).cell 0
  have hb2 : Below w.heap.size w ((w.drewN (q1 + q2)).alloc (.cells #[.string ((((⟨#[110, 32, 49, 32]⟩ ++ S) ++ ⟨#[10, 110, 32, 50, 32]⟩) ++ S2) ++ ⟨#[10, 97, 32, 49, 32, 50, 32, 48, 32, 53, 32, 49, 10]⟩), .string ((⟨#[97, 32, 49, 32, 50, 32, 48, 32, 53, 32]⟩ ++ S) ++ ⟨#[10]⟩), .string ((⟨#[97, 32, 49, 32, 50, 32, 48, 32]⟩ ++ S) ++ ⟨#[32, 49, 10]⟩), .string ((⟨#[97, 32, 49, 32, 50, 32]⟩ ++ S) ++ ⟨#[32, 45, 49, 32, 49, 10]⟩)] 9)) := (below_drN w (q1 + q2)).alloc (Nat.le_refl _) _
  have HB2 := Lib.hid hb2
  clear hb2
  go_wp2_with fail
  refine (HP.out _ HB2.out).mono ?_
  rintro e w3 ⟨v, rfl, hv, hb3⟩
  obtain ⟨A1, n1, c1, A2, m2, c2, rfl, hn1, hm2, hc1, hc2, r1, r2⟩ := hv
  obtain ⟨mx, hmx⟩ : ∃ x, x = p.max := ⟨_, rfl⟩
  obtain ⟨ps, hps⟩ : ∃ x, x = p.s := ⟨_, rfl⟩
  obtain ⟨pt, hpt⟩ : ∃ x, x = p.t := ⟨_, rfl⟩
  rw [← hmx, ← hps, ← hpt]
  unfold probV
  have hbw3 := HB2.out.trans (hb3.mono HB2.out.size)
  have hb4 : Below w3.heap.size w3 (w3.alloc (.cells #[.bool mx, .slice A1 n1 c1, .slice A2 m2 c2, .int .i64 ps, .int .i64 pt] 34)) := (Below.refl _ w3).alloc (Nat.le_refl _) _
  have HB4 := Lib.hid (hbw3.trans (hb4.mono hbw3.size))
  clear r1 r2 hn1 hm2 hc1 hc2 hbw3 hb3 hb4 hmx hps hpt hcell
  go_wp2_with fail
  refine (HK.out _ HB4.out).mono ?_
  rintro e w5 ⟨rfl, hb5⟩
  have HB5 := Lib.hid (HB4.out.trans (hb5.mono HB4.out.size))
  clear hb5
  go_wp2_with fail
  go_ret
  exact ⟨rfl, HB5.out⟩
set_option maxHeartbeats 3200000 in
set_option maxRecDepth 100000 in
theorem bnd_1_0 (n k m : Int) (w : World) (hE : Env w) (hm : n.tmod 2147483651 = m) (h0 : -2147483651 ≤ m) (h1 : m ≤ 2147483651) (hk : k.tmod 4 = 1) (hkk : 0 ≤ k ∧ k ≤ 255) (hr : m < -2147483648) :
    Calls Tryd.prog 4 #[.int .i64 n, .int .u8 k] w fun e w' => e = .returned (.bool true) ∧ Below w.heap.size w w' := by
  have c1 : m ≤ 2147483648 := by omega
  have c2 : ¬ -2147483648 ≤ m := by omega
  have dc2 : decide (-2147483648 ≤ m) = false := decide_eq_false c2
  have c3 : ¬ -1 ≤ m := by omega
  have dc3 : decide (-1 ≤ m) = false := decide_eq_false c3
  have c4 : ¬ 0 ≤ m := by omega
  have dc4 : decide (0 ≤ m) = false := decide_eq_false c4
  have c5 : ¬ m = -1 := by omega
  have HT := Lib.hid (fun W => rText_in m (by omega) (by omega) W)
  have HT2 := Lib.hid (fun W => rText_in (-m) (by omega) (by omega) W)
  have hneg : IntKind.i64.wrap (-m) = -m := IntWalk.i64_in _ (by omega)
  obtain ⟨S, hS⟩ : ∃ S : ByteArray, S = ⟨(Lib.itoa m).toArray⟩ := ⟨_, rfl⟩
  obtain ⟨S2, hS2⟩ : ∃ S : ByteArray, S = ⟨(Lib.itoa (-m)).toArray⟩ := ⟨_, rfl⟩
  have hsS : S.size ≤ 21 := by rw [hS]; exact itoa_lt m (by omega) (by omega)
  have hsS2 : S2.size ≤ 21 := by rw [hS2]; exact itoa_lt (-m) (by omega) (by omega)
  have hlS : S.data.toList = Lib.itoa m := by rw [hS]
  have hlS2 : S2.data.toList = Lib.itoa (-m) := by rw [hS2]
  unfold strV at HT HT2
  rw [← hS] at HT
  rw [← hS2] at HT2
  obtain ⟨p, x, hq, harc⟩ := tell1 m (by omega) (by omega)
  rw [if_neg (by simp [fitJ]; omega)] at hq
  have HP := Lib.hid (fun W (hb : Below w.heap.size w W) => Parse_any (⟨#[112, 32, 109, 105, 110, 32, 50, 32, 49, 10]⟩ ++ ((⟨#[97, 32, 49, 32, 50, 32, 48, 32, 53, 32]⟩ ++ S) ++ ⟨#[10]⟩)) W (hE.on hb))
  rw [txt1 S S2 m hlS hlS2, hq] at HP
  unfold ParTells at HP
  simp only at HP
  have HK := Lib.hid (fun W (hb : Below w.heap.size w W) => known_in W (hE.on hb))
  have HA := Lib.hid harc
  have hk1 : k % 4 = 1 := by rw [← Int.tmod_eq_emod_of_nonneg hkk.1]; exact hk
  clear hE hS hS2 hlS hlS2 hq harc h0 h1
  go_enter Tryd.func4, Tryd.ntmps4
  go_wp2_with fail
  refine (HT.out _).mono ?_
  rintro e w1 ⟨rfl, q1, rfl⟩
  go_wp2_with fail
  refine (HT2.out _).mono ?_
  rintro e w2 ⟨rfl, q2, rfl⟩
  have hcell : ((w.drewN (q1 + q2)).alloc (.cells #[.string ((((⟨#[110, 32, 49, 32]⟩ ++ S) ++ ⟨#[10, 110, 32, 50, 32]⟩) ++ S2) ++ ⟨#[10, 97, 32, 49, 32, 50, 32, 48, 32, 53, 32, 49, 10]⟩), .string ((⟨#[97, 32, 49, 32, 50, 32, 48, 32, 53, 32]⟩ ++ S) ++ ⟨#[10]⟩), .string ((⟨#[97, 32, 49, 32, 50, 32, 48, 32]⟩ ++ S) ++ ⟨#[32, 49, 10]⟩), .string ((⟨#[97, 32, 49, 32, 50, 32]⟩ ++ S) ++ ⟨#[32, 45, 49, 32, 49, 10]⟩)] 9)).cell? ⟨w.heap.size, 1, none⟩ = some (.string ((⟨#[97, 32, 49, 32, 50, 32, 48, 32, 53, 32]⟩ ++ S) ++ ⟨#[10]⟩)) := (Blk.new (w.drewN (q1 + q2)) 9 #[.string ((((⟨#[110, 32, 49, 32]⟩ ++ S) ++ ⟨#[10, 110, 32, 50, 32]⟩) ++ S2) ++ ⟨#[10, 97, 32, 49, 32, 50, 32, 48, 32, 53, 32, 49, 10]⟩), .string ((⟨#[97, 32, 49, 32, 50, 32, 48, 32, 53, 32]⟩ ++ S) ++ ⟨#[10]⟩), .string ((⟨#[97, 32, 49, 32, 50, 32, 48, 32]⟩ ++ S) ++ ⟨#[32, 49, 10]⟩), .string ((⟨#[97, 32, 49, 32, 50, 32]⟩ ++ S) ++ ⟨#[32, 45, 49, 32, 49, 10]⟩)]).cell 1
  have hb2 : Below w.heap.size w ((w.drewN (q1 + q2)).alloc (.cells #[.string ((((⟨#[110, 32, 49, 32]⟩ ++ S) ++ ⟨#[10, 110, 32, 50, 32]⟩) ++ S2) ++ ⟨#[10, 97, 32, 49, 32, 50, 32, 48, 32, 53, 32, 49, 10]⟩), .string ((⟨#[97, 32, 49, 32, 50, 32, 48, 32, 53, 32]⟩ ++ S) ++ ⟨#[10]⟩), .string ((⟨#[97, 32, 49, 32, 50, 32, 48, 32]⟩ ++ S) ++ ⟨#[32, 49, 10]⟩), .string ((⟨#[97, 32, 49, 32, 50, 32]⟩ ++ S) ++ ⟨#[32, 45, 49, 32, 49, 10]⟩)] 9)) := (below_drN w (q1 + q2)).alloc (Nat.le_refl _) _
  have HB2 := Lib.hid hb2
  clear hb2
  go_wp2_with fail
  refine (HP.out _ HB2.out).mono ?_
  rintro e w3 ⟨v, rfl, hv, hb3⟩
  obtain ⟨A1, n1, c1, A2, m2, c2, rfl, hn1, hm2, hc1, hc2, r1, r2⟩ := hv
  obtain ⟨mx, hmx⟩ : ∃ x, x = p.max := ⟨_, rfl⟩
  obtain ⟨ps, hps⟩ : ∃ x, x = p.s := ⟨_, rfl⟩
  obtain ⟨pt, hpt⟩ : ∃ x, x = p.t := ⟨_, rfl⟩
  rw [← hmx, ← hps, ← hpt]
  unfold probV
  have hbw3 := HB2.out.trans (hb3.mono HB2.out.size)
  have hb4 : Below w3.heap.size w3 (w3.alloc (.cells #[.bool mx, .slice A1 n1 c1, .slice A2 m2 c2, .int .i64 ps, .int .i64 pt] 34)) := (Below.refl _ w3).alloc (Nat.le_refl _) _
  have HB4 := Lib.hid (hbw3.trans (hb4.mono hbw3.size))
  clear r1 r2 hn1 hm2 hc1 hc2 hbw3 hb3 hb4 hmx hps hpt hcell
  go_wp2_with fail
  refine (HK.out _ HB4.out).mono ?_
  rintro e w5 ⟨rfl, hb5⟩
  have HB5 := Lib.hid (HB4.out.trans (hb5.mono HB4.out.size))
  clear hb5
  go_wp2_with fail
  go_ret
  exact ⟨rfl, HB5.out⟩
set_option maxHeartbeats 3200000 in
set_option maxRecDepth 100000 in
theorem bnd_1_1 (n k m : Int) (w : World) (hE : Env w) (hm : n.tmod 2147483651 = m) (h0 : -2147483651 ≤ m) (h1 : m ≤ 2147483651) (hk : k.tmod 4 = 1) (hkk : 0 ≤ k ∧ k ≤ 255) (hr : -2147483648 ≤ m ∧ m < -1) :
    Calls Tryd.prog 4 #[.int .i64 n, .int .u8 k] w fun e w' => e = .returned (.bool true) ∧ Below w.heap.size w w' := by
  have c1 : m ≤ 2147483648 := by omega
  have c2 : -2147483648 ≤ m := by omega
  have c3 : ¬ -1 ≤ m := by omega
  have dc3 : decide (-1 ≤ m) = false := decide_eq_false c3
  have c4 : ¬ 0 ≤ m := by omega
  have dc4 : decide (0 ≤ m) = false := decide_eq_false c4
  have c5 : ¬ m = -1 := by omega
  have HT := Lib.hid (fun W => rText_in m (by omega) (by omega) W)
  have HT2 := Lib.hid (fun W => rText_in (-m) (by omega) (by omega) W)
  have hneg : IntKind.i64.wrap (-m) = -m := IntWalk.i64_in _ (by omega)
  obtain ⟨S, hS⟩ : ∃ S : ByteArray, S = ⟨(Lib.itoa m).toArray⟩ := ⟨_, rfl⟩
  obtain ⟨S2, hS2⟩ : ∃ S : ByteArray, S = ⟨(Lib.itoa (-m)).toArray⟩ := ⟨_, rfl⟩
  have hsS : S.size ≤ 21 := by rw [hS]; exact itoa_lt m (by omega) (by omega)
  have hsS2 : S2.size ≤ 21 := by rw [hS2]; exact itoa_lt (-m) (by omega) (by omega)
  have hlS : S.data.toList = Lib.itoa m := by rw [hS]
  have hlS2 : S2.data.toList = Lib.itoa (-m) := by rw [hS2]
  unfold strV at HT HT2
  rw [← hS] at HT
  rw [← hS2] at HT2
  obtain ⟨p, x, hq, harc⟩ := tell1 m (by omega) (by omega)
  rw [if_pos (by simp [fitJ]; omega)] at hq
  have HP := Lib.hid (fun W (hb : Below w.heap.size w W) => Parse_any (⟨#[112, 32, 109, 105, 110, 32, 50, 32, 49, 10]⟩ ++ ((⟨#[97, 32, 49, 32, 50, 32, 48, 32, 53, 32]⟩ ++ S) ++ ⟨#[10]⟩)) W (hE.on hb))
  rw [txt1 S S2 m hlS hlS2, hq] at HP
  unfold ParTells at HP
  simp only at HP
  have HK := Lib.hid (fun W (hb : Below w.heap.size w W) => known_in W (hE.on hb))
  have HA := Lib.hid harc
  have hk1 : k % 4 = 1 := by rw [← Int.tmod_eq_emod_of_nonneg hkk.1]; exact hk
  clear hE hS hS2 hlS hlS2 hq harc h0 h1
  go_enter Tryd.func4, Tryd.ntmps4
  go_wp2_with fail
  refine (HT.out _).mono ?_
  rintro e w1 ⟨rfl, q1, rfl⟩
  go_wp2_with fail
  refine (HT2.out _).mono ?_
  rintro e w2 ⟨rfl, q2, rfl⟩
  have hcell : ((w.drewN (q1 + q2)).alloc (.cells #[.string ((((⟨#[110, 32, 49, 32]⟩ ++ S) ++ ⟨#[10, 110, 32, 50, 32]⟩) ++ S2) ++ ⟨#[10, 97, 32, 49, 32, 50, 32, 48, 32, 53, 32, 49, 10]⟩), .string ((⟨#[97, 32, 49, 32, 50, 32, 48, 32, 53, 32]⟩ ++ S) ++ ⟨#[10]⟩), .string ((⟨#[97, 32, 49, 32, 50, 32, 48, 32]⟩ ++ S) ++ ⟨#[32, 49, 10]⟩), .string ((⟨#[97, 32, 49, 32, 50, 32]⟩ ++ S) ++ ⟨#[32, 45, 49, 32, 49, 10]⟩)] 9)).cell? ⟨w.heap.size, 1, none⟩ = some (.string ((⟨#[97, 32, 49, 32, 50, 32, 48, 32, 53, 32]⟩ ++ S) ++ ⟨#[10]⟩)) := (Blk.new (w.drewN (q1 + q2)) 9 #[.string ((((⟨#[110, 32, 49, 32]⟩ ++ S) ++ ⟨#[10, 110, 32, 50, 32]⟩) ++ S2) ++ ⟨#[10, 97, 32, 49, 32, 50, 32, 48, 32, 53, 32, 49, 10]⟩), .string ((⟨#[97, 32, 49, 32, 50, 32, 48, 32, 53, 32]⟩ ++ S) ++ ⟨#[10]⟩), .string ((⟨#[97, 32, 49, 32, 50, 32, 48, 32]⟩ ++ S) ++ ⟨#[32, 49, 10]⟩), .string ((⟨#[97, 32, 49, 32, 50, 32]⟩ ++ S) ++ ⟨#[32, 45, 49, 32, 49, 10]⟩)]).cell 1
  have hb2 : Below w.heap.size w ((w.drewN (q1 + q2)).alloc (.cells #[.string ((((⟨#[110, 32, 49, 32]⟩ ++ S) ++ ⟨#[10, 110, 32, 50, 32]⟩) ++ S2) ++ ⟨#[10, 97, 32, 49, 32, 50, 32, 48, 32, 53, 32, 49, 10]⟩), .string ((⟨#[97, 32, 49, 32, 50, 32, 48, 32, 53, 32]⟩ ++ S) ++ ⟨#[10]⟩), .string ((⟨#[97, 32, 49, 32, 50, 32, 48, 32]⟩ ++ S) ++ ⟨#[32, 49, 10]⟩), .string ((⟨#[97, 32, 49, 32, 50, 32]⟩ ++ S) ++ ⟨#[32, 45, 49, 32, 49, 10]⟩)] 9)) := (below_drN w (q1 + q2)).alloc (Nat.le_refl _) _
  have HB2 := Lib.hid hb2
  clear hb2
  go_wp2_with fail
  refine (HP.out _ HB2.out).mono ?_
  rintro e w3 ⟨v, rfl, hv, hb3⟩
  obtain ⟨A1, n1, c1, A2, m2, c2, rfl, hn1, hm2, hc1, hc2, r1, r2⟩ := hv
  obtain ⟨mx, hmx⟩ : ∃ x, x = p.max := ⟨_, rfl⟩
  obtain ⟨ps, hps⟩ : ∃ x, x = p.s := ⟨_, rfl⟩
  obtain ⟨pt, hpt⟩ : ∃ x, x = p.t := ⟨_, rfl⟩
  rw [← hmx, ← hps, ← hpt]
  unfold probV
  have hbw3 := HB2.out.trans (hb3.mono HB2.out.size)
  have hb4 : Below w3.heap.size w3 (w3.alloc (.cells #[.bool mx, .slice A1 n1 c1, .slice A2 m2 c2, .int .i64 ps, .int .i64 pt] 34)) := (Below.refl _ w3).alloc (Nat.le_refl _) _
  have HB4 := Lib.hid (hbw3.trans (hb4.mono hbw3.size))
  clear r1 r2 hn1 hm2 hc1 hc2 hbw3 hb3 hb4 hmx hps hpt hcell
  go_wp2_with fail
  refine (HK.out _ HB4.out).mono ?_
  rintro e w5 ⟨rfl, hb5⟩
  have HB5 := Lib.hid (HB4.out.trans (hb5.mono HB4.out.size))
  clear hb5
  go_wp2_with fail
  go_ret
  exact ⟨rfl, HB5.out⟩
set_option maxHeartbeats 3200000 in
set_option maxRecDepth 100000 in
theorem bnd_1_2 (n k m : Int) (w : World) (hE : Env w) (hm : n.tmod 2147483651 = m) (h0 : -2147483651 ≤ m) (h1 : m ≤ 2147483651) (hk : k.tmod 4 = 1) (hkk : 0 ≤ k ∧ k ≤ 255) (hr : m = -1) :
    Calls Tryd.prog 4 #[.int .i64 n, .int .u8 k] w fun e w' => e = .returned (.bool true) ∧ Below w.heap.size w w' := by
  subst hr
  have HT := Lib.hid (fun W => rText_in (-1) (by omega) (by omega) W)
  have HT2 := Lib.hid (fun W => rText_in (-(-1)) (by omega) (by omega) W)
  have hneg : IntKind.i64.wrap (-(-1)) = -(-1) := IntWalk.i64_in _ (by omega)
  obtain ⟨S, hS⟩ : ∃ S : ByteArray, S = ⟨(Lib.itoa (-1)).toArray⟩ := ⟨_, rfl⟩
  obtain ⟨S2, hS2⟩ : ∃ S : ByteArray, S = ⟨(Lib.itoa (-(-1))).toArray⟩ := ⟨_, rfl⟩
  have hsS : S.size ≤ 21 := by rw [hS]; exact itoa_lt (-1) (by omega) (by omega)
  have hsS2 : S2.size ≤ 21 := by rw [hS2]; exact itoa_lt (-(-1)) (by omega) (by omega)
  have hlS : S.data.toList = Lib.itoa (-1) := by rw [hS]
  have hlS2 : S2.data.toList = Lib.itoa (-(-1)) := by rw [hS2]
  unfold strV at HT HT2
  rw [← hS] at HT
  rw [← hS2] at HT2
  obtain ⟨p, x, hq, harc⟩ := tell1 (-1) (by omega) (by omega)
  rw [if_pos (by simp [fitJ])] at hq
  have HP := Lib.hid (fun W (hb : Below w.heap.size w W) => Parse_any (⟨#[112, 32, 109, 105, 110, 32, 50, 32, 49, 10]⟩ ++ ((⟨#[97, 32, 49, 32, 50, 32, 48, 32, 53, 32]⟩ ++ S) ++ ⟨#[10]⟩)) W (hE.on hb))
  rw [txt1 S S2 (-1) hlS hlS2, hq] at HP
  unfold ParTells at HP
  simp only at HP
  have HK := Lib.hid (fun W (hb : Below w.heap.size w W) => known_in W (hE.on hb))
  have HA := Lib.hid harc
  have hk1 : k % 4 = 1 := by rw [← Int.tmod_eq_emod_of_nonneg hkk.1]; exact hk
  clear hE hS hS2 hlS hlS2 hq harc h0 h1
  go_enter Tryd.func4, Tryd.ntmps4
  go_wp2_with fail
  refine (HT.out _).mono ?_
  rintro e w1 ⟨rfl, q1, rfl⟩
  go_wp2_with fail
  refine (HT2.out _).mono ?_
  rintro e w2 ⟨rfl, q2, rfl⟩
  have hcell : ((w.drewN (q1 + q2)).alloc (.cells #[.string ((((⟨#[110, 32, 49, 32]⟩ ++ S) ++ ⟨#[10, 110, 32, 50, 32]⟩) ++ S2) ++ ⟨#[10, 97, 32, 49, 32, 50, 32, 48, 32, 53, 32, 49, 10]⟩), .string ((⟨#[97, 32, 49, 32, 50, 32, 48, 32, 53, 32]⟩ ++ S) ++ ⟨#[10]⟩), .string ((⟨#[97, 32, 49, 32, 50, 32, 48, 32]⟩ ++ S) ++ ⟨#[32, 49, 10]⟩), .string ((⟨#[97, 32, 49, 32, 50, 32]⟩ ++ S) ++ ⟨#[32, 45, 49, 32, 49, 10]⟩)] 9)).cell? ⟨w.heap.size, 1, none⟩ = some (.string ((⟨#[97, 32, 49, 32, 50, 32, 48, 32, 53, 32]⟩ ++ S) ++ ⟨#[10]⟩)) := (Blk.new (w.drewN (q1 + q2)) 9 #[.string ((((⟨#[110, 32, 49, 32]⟩ ++ S) ++ ⟨#[10, 110, 32, 50, 32]⟩) ++ S2) ++ ⟨#[10, 97, 32, 49, 32, 50, 32, 48, 32, 53, 32, 49, 10]⟩), .string ((⟨#[97, 32, 49, 32, 50, 32, 48, 32, 53, 32]⟩ ++ S) ++ ⟨#[10]⟩), .string ((⟨#[97, 32, 49, 32, 50, 32, 48, 32]⟩ ++ S) ++ ⟨#[32, 49, 10]⟩), .string ((⟨#[97, 32, 49, 32, 50, 32]⟩ ++ S) ++ ⟨#[32, 45, 49, 32, 49, 10]⟩)]).cell 1
  have hb2 : Below w.heap.size w ((w.drewN (q1 + q2)).alloc (.cells #[.string ((((⟨#[110, 32, 49, 32]⟩ ++ S) ++ ⟨#[10, 110, 32, 50, 32]⟩) ++ S2) ++ ⟨#[10, 97, 32, 49, 32, 50, 32, 48, 32, 53, 32, 49, 10]⟩), .string ((⟨#[97, 32, 49, 32, 50, 32, 48, 32, 53, 32]⟩ ++ S) ++ ⟨#[10]⟩), .string ((⟨#[97, 32, 49, 32, 50, 32, 48, 32]⟩ ++ S) ++ ⟨#[32, 49, 10]⟩), .string ((⟨#[97, 32, 49, 32, 50, 32]⟩ ++ S) ++ ⟨#[32, 45, 49, 32, 49, 10]⟩)] 9)) := (below_drN w (q1 + q2)).alloc (Nat.le_refl _) _
  have HB2 := Lib.hid hb2
  clear hb2
  go_wp2_with fail
  refine (HP.out _ HB2.out).mono ?_
  rintro e w3 ⟨v, rfl, hv, hb3⟩
  obtain ⟨A1, n1, c1, A2, m2, c2, rfl, hn1, hm2, hc1, hc2, r1, r2⟩ := hv
  obtain ⟨mx, hmx⟩ : ∃ x, x = p.max := ⟨_, rfl⟩
  obtain ⟨ps, hps⟩ : ∃ x, x = p.s := ⟨_, rfl⟩
  obtain ⟨pt, hpt⟩ : ∃ x, x = p.t := ⟨_, rfl⟩
  rw [← hmx, ← hps, ← hpt]
  unfold probV
  have hbw3 := HB2.out.trans (hb3.mono HB2.out.size)
  have hb4 : Below w3.heap.size w3 (w3.alloc (.cells #[.bool mx, .slice A1 n1 c1, .slice A2 m2 c2, .int .i64 ps, .int .i64 pt] 34)) := (Below.refl _ w3).alloc (Nat.le_refl _) _
  have HB4 := Lib.hid (hbw3.trans (hb4.mono hbw3.size))
  clear r1 r2 hn1 hm2 hc1 hc2 hbw3 hb3 hb4 hmx hps hpt hcell
  go_wp2_with fail
  refine (HK.out _ HB4.out).mono ?_
  rintro e w5 ⟨rfl, hb5⟩
  have HB5 := Lib.hid (HB4.out.trans (hb5.mono HB4.out.size))
  clear hb5
  go_wp2_with fail
  go_ret
  exact ⟨rfl, HB5.out⟩
set_option maxHeartbeats 3200000 in
set_option maxRecDepth 100000 in
theorem bnd_1_3 (n k m : Int) (w : World) (hE : Env w) (hm : n.tmod 2147483651 = m) (h0 : -2147483651 ≤ m) (h1 : m ≤ 2147483651) (hk : k.tmod 4 = 1) (hkk : 0 ≤ k ∧ k ≤ 255) (hr : 0 ≤ m ∧ m ≤ 2147483648) :
    Calls Tryd.prog 4 #[.int .i64 n, .int .u8 k] w fun e w' => e = .returned (.bool true) ∧ Below w.heap.size w w' := by
  have c1 : m ≤ 2147483648 := by omega
  have c2 : -2147483648 ≤ m := by omega
  have c3 : -1 ≤ m := by omega
  have c4 : 0 ≤ m := by omega
  have c5 : ¬ m = -1 := by omega
  have HT := Lib.hid (fun W => rText_in m (by omega) (by omega) W)
  have HT2 := Lib.hid (fun W => rText_in (-m) (by omega) (by omega) W)
  have hneg : IntKind.i64.wrap (-m) = -m := IntWalk.i64_in _ (by omega)
  obtain ⟨S, hS⟩ : ∃ S : ByteArray, S = ⟨(Lib.itoa m).toArray⟩ := ⟨_, rfl⟩
  obtain ⟨S2, hS2⟩ : ∃ S : ByteArray, S = ⟨(Lib.itoa (-m)).toArray⟩ := ⟨_, rfl⟩
  have hsS : S.size ≤ 21 := by rw [hS]; exact itoa_lt m (by omega) (by omega)
  have hsS2 : S2.size ≤ 21 := by rw [hS2]; exact itoa_lt (-m) (by omega) (by omega)
  have hlS : S.data.toList = Lib.itoa m := by rw [hS]
  have hlS2 : S2.data.toList = Lib.itoa (-m) := by rw [hS2]
  unfold strV at HT HT2
  rw [← hS] at HT
  rw [← hS2] at HT2
  obtain ⟨p, x, hq, harc⟩ := tell1 m (by omega) (by omega)
  rw [if_pos (by simp [fitJ]; omega)] at hq
  have HP := Lib.hid (fun W (hb : Below w.heap.size w W) => Parse_any (⟨#[112, 32, 109, 105, 110, 32, 50, 32, 49, 10]⟩ ++ ((⟨#[97, 32, 49, 32, 50, 32, 48, 32, 53, 32]⟩ ++ S) ++ ⟨#[10]⟩)) W (hE.on hb))
  rw [txt1 S S2 m hlS hlS2, hq] at HP
  unfold ParTells at HP
  simp only at HP
  have HK := Lib.hid (fun W (hb : Below w.heap.size w W) => known_in W (hE.on hb))
  have HA := Lib.hid harc
  have hk1 : k % 4 = 1 := by rw [← Int.tmod_eq_emod_of_nonneg hkk.1]; exact hk
  clear hE hS hS2 hlS hlS2 hq harc h0 h1
  go_enter Tryd.func4, Tryd.ntmps4
  go_wp2_with fail
  refine (HT.out _).mono ?_
  rintro e w1 ⟨rfl, q1, rfl⟩
  go_wp2_with fail
  refine (HT2.out _).mono ?_
  rintro e w2 ⟨rfl, q2, rfl⟩
  have hcell : ((w.drewN (q1 + q2)).alloc (.cells #[.string ((((⟨#[110, 32, 49, 32]⟩ ++ S) ++ ⟨#[10, 110, 32, 50, 32]⟩) ++ S2) ++ ⟨#[10, 97, 32, 49, 32, 50, 32, 48, 32, 53, 32, 49, 10]⟩), .string ((⟨#[97, 32, 49, 32, 50, 32, 48, 32, 53, 32]⟩ ++ S) ++ ⟨#[10]⟩), .string ((⟨#[97, 32, 49, 32, 50, 32, 48, 32]⟩ ++ S) ++ ⟨#[32, 49, 10]⟩), .string ((⟨#[97, 32, 49, 32, 50, 32]⟩ ++ S) ++ ⟨#[32, 45, 49, 32, 49, 10]⟩)] 9)).cell? ⟨w.heap.size, 1, none⟩ = some (.string ((⟨#[97, 32, 49, 32, 50, 32, 48, 32, 53, 32]⟩ ++ S) ++ ⟨#[10]⟩)) := (Blk.new (w.drewN (q1 + q2)) 9 #[.string ((((⟨#[110, 32, 49, 32]⟩ ++ S) ++ ⟨#[10, 110, 32, 50, 32]⟩) ++ S2) ++ ⟨#[10, 97, 32, 49, 32, 50, 32, 48, 32, 53, 32, 49, 10]⟩), .string ((⟨#[97, 32, 49, 32, 50, 32, 48, 32, 53, 32]⟩ ++ S) ++ ⟨#[10]⟩), .string ((⟨#[97, 32, 49, 32, 50, 32, 48, 32]⟩ ++ S) ++ ⟨#[32, 49, 10]⟩), .string ((⟨#[97, 32, 49, 32, 50, 32]⟩ ++ S) ++ ⟨#[32, 45, 49, 32, 49, 10]⟩)]).cell 1
  have hb2 : Below w.heap.size w ((w.drewN (q1 + q2)).alloc (.cells #[.string ((((⟨#[110, 32, 49, 32]⟩ ++ S) ++ ⟨#[10, 110, 32, 50, 32]⟩) ++ S2) ++ ⟨#[10, 97, 32, 49, 32, 50, 32, 48, 32, 53, 32, 49, 10]⟩), .string ((⟨#[97, 32, 49, 32, 50, 32, 48, 32, 53, 32]⟩ ++ S) ++ ⟨#[10]⟩), .string ((⟨#[97, 32, 49, 32, 50, 32, 48, 32]⟩ ++ S) ++ ⟨#[32, 49, 10]⟩), .string ((⟨#[97, 32, 49, 32, 50, 32]⟩ ++ S) ++ ⟨#[32, 45, 49, 32, 49, 10]⟩)] 9)) := (below_drN w (q1 + q2)).alloc (Nat.le_refl _) _
  have HB2 := Lib.hid hb2
  clear hb2
  go_wp2_with fail
  refine (HP.out _ HB2.out).mono ?_
  rintro e w3 ⟨v, rfl, hv, hb3⟩
  obtain ⟨A1, n1, c1, A2, m2, c2, rfl, hn1, hm2, hc1, hc2, r1, r2⟩ := hv
  obtain ⟨mx, hmx⟩ : ∃ x, x = p.max := ⟨_, rfl⟩
  obtain ⟨ps, hps⟩ : ∃ x, x = p.s := ⟨_, rfl⟩
  obtain ⟨pt, hpt⟩ : ∃ x, x = p.t := ⟨_, rfl⟩
  rw [← hmx, ← hps, ← hpt]
  unfold probV
  have hbw3 := HB2.out.trans (hb3.mono HB2.out.size)
  have hb4 : Below w3.heap.size w3 (w3.alloc (.cells #[.bool mx, .slice A1 n1 c1, .slice A2 m2 c2, .int .i64 ps, .int .i64 pt] 34)) := (Below.refl _ w3).alloc (Nat.le_refl _) _
  have HB4 := Lib.hid (hbw3.trans (hb4.mono hbw3.size))
  clear r1 r2 hn1 hm2 hc1 hc2 hbw3 hb3 hb4 hmx hps hpt hcell
  go_wp2_with fail
  refine (HK.out _ HB4.out).mono ?_
  rintro e w5 ⟨rfl, hb5⟩
  have HB5 := Lib.hid (HB4.out.trans (hb5.mono HB4.out.size))
  clear hb5
  go_wp2_with fail
  go_ret
  exact ⟨rfl, HB5.out⟩
set_option maxHeartbeats 3200000 in
set_option maxRecDepth 100000 in
theorem bnd_1_4 (n k m : Int) (w : World) (hE : Env w) (hm : n.tmod 2147483651 = m) (h0 : -2147483651 ≤ m) (h1 : m ≤ 2147483651) (hk : k.tmod 4 = 1) (hkk : 0 ≤ k ∧ k ≤ 255) (hr : 2147483648 < m) :
    Calls Tryd.prog 4 #[.int .i64 n, .int .u8 k] w fun e w' => e = .returned (.bool true) ∧ Below w.heap.size w w' := by
  have c1 : ¬ m ≤ 2147483648 := by omega
  have dc1 : decide (m ≤ 2147483648) = false := decide_eq_false c1
  have c2 : -2147483648 ≤ m := by omega
  have c3 : -1 ≤ m := by omega
  have c4 : 0 ≤ m := by omega
  have c5 : ¬ m = -1 := by omega
  have HT := Lib.hid (fun W => rText_in m (by omega) (by omega) W)
  have HT2 := Lib.hid (fun W => rText_in (-m) (by omega) (by omega) W)
  have hneg : IntKind.i64.wrap (-m) = -m := IntWalk.i64_in _ (by omega)
  obtain ⟨S, hS⟩ : ∃ S : ByteArray, S = ⟨(Lib.itoa m).toArray⟩ := ⟨_, rfl⟩
  obtain ⟨S2, hS2⟩ : ∃ S : ByteArray, S = ⟨(Lib.itoa (-m)).toArray⟩ := ⟨_, rfl⟩
  have hsS : S.size ≤ 21 := by rw [hS]; exact itoa_lt m (by omega) (by omega)
  have hsS2 : S2.size ≤ 21 := by rw [hS2]; exact itoa_lt (-m) (by omega) (by omega)
  have hlS : S.data.toList = Lib.itoa m := by rw [hS]
  have hlS2 : S2.data.toList = Lib.itoa (-m) := by rw [hS2]
  unfold strV at HT HT2
  rw [← hS] at HT
  rw [← hS2] at HT2
  obtain ⟨p, x, hq, harc⟩ := tell1 m (by omega) (by omega)
  rw [if_neg (by simp [fitJ]; omega)] at hq
  have HP := Lib.hid (fun W (hb : Below w.heap.size w W) => Parse_any (⟨#[112, 32, 109, 105, 110, 32, 50, 32, 49, 10]⟩ ++ ((⟨#[97, 32, 49, 32, 50, 32, 48, 32, 53, 32]⟩ ++ S) ++ ⟨#[10]⟩)) W (hE.on hb))
  rw [txt1 S S2 m hlS hlS2, hq] at HP
  unfold ParTells at HP
  simp only at HP
  have HK := Lib.hid (fun W (hb : Below w.heap.size w W) => known_in W (hE.on hb))
  have HA := Lib.hid harc
  have hk1 : k % 4 = 1 := by rw [← Int.tmod_eq_emod_of_nonneg hkk.1]; exact hk
  clear hE hS hS2 hlS hlS2 hq harc h0 h1
  go_enter Tryd.func4, Tryd.ntmps4
  go_wp2_with fail
  refine (HT.out _).mono ?_
  rintro e w1 ⟨rfl, q1, rfl⟩
  go_wp2_with fail
  refine (HT2.out _).mono ?_
  rintro e w2 ⟨rfl, q2, rfl⟩
  have hcell : ((w.drewN (q1 + q2)).alloc (.cells #[.string ((((⟨#[110, 32, 49, 32]⟩ ++ S) ++ ⟨#[10, 110, 32, 50, 32]⟩) ++ S2) ++ ⟨#[10, 97, 32, 49, 32, 50, 32, 48, 32, 53, 32, 49, 10]⟩), .string ((⟨#[97, 32, 49, 32, 50, 32, 48, 32, 53, 32]⟩ ++ S) ++ ⟨#[10]⟩), .string ((⟨#[97, 32, 49, 32, 50, 32, 48, 32]⟩ ++ S) ++ ⟨#[32, 49, 10]⟩), .string ((⟨#[97, 32, 49, 32, 50, 32]⟩ ++ S) ++ ⟨#[32, 45, 49, 32, 49, 10]⟩)] 9)).cell? ⟨w.heap.size, 1, none⟩ = some (.string ((⟨#[97, 32, 49, 32, 50, 32, 48, 32, 53, 32]⟩ ++ S) ++ ⟨#[10]⟩)) := (Blk.new (w.drewN (q1 + q2)) 9 #[.string ((((⟨#[110, 32, 49, 32]⟩ ++ S) ++ ⟨#[10, 110, 32, 50, 32]⟩) ++ S2) ++ ⟨#[10, 97, 32, 49, 32, 50, 32, 48, 32, 53, 32, 49, 10]⟩), .string ((⟨#[97, 32, 49, 32, 50, 32, 48, 32, 53, 32]⟩ ++ S) ++ ⟨#[10]⟩), .string ((⟨#[97, 32, 49, 32, 50, 32, 48, 32]⟩ ++ S) ++ ⟨#[32, 49, 10]⟩), .string ((⟨#[97, 32, 49, 32, 50, 32]⟩ ++ S) ++ ⟨#[32, 45, 49, 32, 49, 10]⟩)]).cell 1
  have hb2 : Below w.heap.size w ((w.drewN (q1 + q2)).alloc (.cells #[.string ((((⟨#[110, 32, 49, 32]⟩ ++ S) ++ ⟨#[10, 110, 32, 50, 32]⟩) ++ S2) ++ ⟨#[10, 97, 32, 49, 32, 50, 32, 48, 32, 53, 32, 49, 10]⟩), .string ((⟨#[97, 32, 49, 32, 50, 32, 48, 32, 53, 32]⟩ ++ S) ++ ⟨#[10]⟩), .string ((⟨#[97, 32, 49, 32, 50, 32, 48, 32]⟩ ++ S) ++ ⟨#[32, 49, 10]⟩), .string ((⟨#[97, 32, 49, 32, 50, 32]⟩ ++ S) ++ ⟨#[32, 45, 49, 32, 49, 10]⟩)] 9)) := (below_drN w (q1 + q2)).alloc (Nat.le_refl _) _
  have HB2 := Lib.hid hb2
  clear hb2
  go_wp2_with fail
  refine (HP.out _ HB2.out).mono ?_
  rintro e w3 ⟨v, rfl, hv, hb3⟩
  obtain ⟨A1, n1, c1, A2, m2, c2, rfl, hn1, hm2, hc1, hc2, r1, r2⟩ := hv
  obtain ⟨mx, hmx⟩ : ∃ x, x = p.max := ⟨_, rfl⟩
  obtain ⟨ps, hps⟩ : ∃ x, x = p.s := ⟨_, rfl⟩
  obtain ⟨pt, hpt⟩ : ∃ x, x = p.t := ⟨_, rfl⟩
  rw [← hmx, ← hps, ← hpt]
  unfold probV
  have hbw3 := HB2.out.trans (hb3.mono HB2.out.size)
  have hb4 : Below w3.heap.size w3 (w3.alloc (.cells #[.bool mx, .slice A1 n1 c1, .slice A2 m2 c2, .int .i64 ps, .int .i64 pt] 34)) := (Below.refl _ w3).alloc (Nat.le_refl _) _
  have HB4 := Lib.hid (hbw3.trans (hb4.mono hbw3.size))
  clear r1 r2 hn1 hm2 hc1 hc2 hbw3 hb3 hb4 hmx hps hpt hcell
  go_wp2_with fail
  refine (HK.out _ HB4.out).mono ?_
  rintro e w5 ⟨rfl, hb5⟩
  have HB5 := Lib.hid (HB4.out.trans (hb5.mono HB4.out.size))
  clear hb5
  go_wp2_with fail
  go_ret
  exact ⟨rfl, HB5.out⟩
end Go.Proofs.YtoagphighgejnaaDoor
