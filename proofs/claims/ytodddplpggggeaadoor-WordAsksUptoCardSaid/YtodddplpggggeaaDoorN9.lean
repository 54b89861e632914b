/- WordAsks (7). Conditions: the texts have less than 2^62 signs in all. -/
import Derived.Test.YtodddplpggggeaaDoorN7
set_option linter.unusedSimpArgs false
set_option linter.unusedVariables false
namespace Go.Proofs.YtodddplpggggeaaDoor
open Go.RowKit Go.Shelf

theorem join_take_le (L : List (List UInt8)) (sep : List UInt8) (k : Nat) : (Lib.join (L.take k) sep).length ≤ totL L + L.length * sep.length := by
  have h1 := join_le (L.take k) sep
  have h2 := totL_take L k
  have h3 : (L.take k).length * sep.length ≤ L.length * sep.length := Nat.mul_le_mul_right _ (by rw [List.length_take]; omega)
  omega

set_option maxHeartbeats 3200000 in
set_option maxRecDepth 100000 in
theorem WordAsks_in (s bt : ByteArray) (A : Option Addr) (len cap : Nat) (L : List (List UInt8)) (n most : Int) (A' : Option Addr) (len' cap' : Nat) (ys : List Int) (w : World) (hE : Env w)
    (hs : s.size ≤ 140737488355328) (hbt : bt.size ≤ 140737488355328) (hr : Reads w w.heap.size 1 A len (L.map strV)) (hcap : len ≤ cap) (hm : totL L ≤ 4611686018427387904)
    (h0 : -9223372036854775808 ≤ n) (h1 : n ≤ 9223372036854775807) (hr' : Reads w w.heap.size 1 A' len' (ys.map (fun x : Int => .int .u8 x))) (hy : ∀ x ∈ ys, 0 ≤ x ∧ x ≤ 255) (hl' : len' ≤ 9223372036854775807) :
    Calls Tryd.prog 7 #[.string s, .string bt, .slice A len cap, .int .i64 n, .int .i64 most, .slice A' len' cap'] w fun e w' => e = .returned (.bool true) ∧ Below w.heap.size w w' := by
  have hlen : L.length = len := by have := hr.1; simpa using this
  have HY := Lib.hid hy
  clear hy
  by_cases hbig : (300 : Int) < (s.size : Int) + bt.size
  · go_enter Tryd.func7, Tryd.ntmps7
    go_wp2_with fail
    refine (known_in w hE).mono ?_
    rintro e w1 ⟨rfl, hb1⟩
    go_wp2_with fail
    go_ret
    exact ⟨rfl, hb1⟩
  · have hR := many_in A len cap w.heap.size L w hr hm
    by_cases hmany : 200 < totL L
    · rw [decide_eq_true hmany] at hR
      clear hm hmany
      go_enter Tryd.func7, Tryd.ntmps7
      go_wp2_with fail
      refine hR.mono ?_
      rintro e w3 ⟨rfl, q, rfl⟩
      have hb3 := below_drewN w q
      have hE3 := hE.on hb3
      generalize w.drewN q = W at hb3 hE3 ⊢
      go_wp2_with fail
      refine (known_in W hE3).mono ?_
      rintro e w4 ⟨rfl, hb4⟩
      go_wp2_with fail
      go_ret
      exact ⟨rfl, hb3.trans (hb4.mono hb3.size)⟩
    · rw [decide_eq_false hmany] at hR
      have htl : totL L ≤ 200 := by omega
      have hll : len ≤ 200 := by have := totL_len L; omega
      clear hm hmany
      have hil := Lib.itoa_length_le n h0 h1
      go_enter Tryd.func7, Tryd.ntmps7
      go_wp2_with fail
      refine hR.mono ?_
      rintro e w1 ⟨rfl, q, rfl⟩
      have hb1 := below_drewN w q
      have hE1 := hE.on hb1
      have HR1 := Lib.hid (hr.below hb1)
      have HQ1 := Lib.hid (hr'.below hb1)
      generalize w.drewN q = W1 at hb1 hE1 HR1 HQ1 ⊢
      clear hR hr hr'
      go_wp2_with fail
      refine (known_in W1 hE1).mono ?_
      rintro e w2 ⟨rfl, hb2⟩
      have hb2' := hb1.trans (hb2.mono hb1.size)
      have HR2 := Lib.hid (HR1.out.below (hb2.mono hb1.size))
      have HQ2 := Lib.hid (HQ1.out.below (hb2.mono hb1.size))
      have hE2 := hE.on hb2'
      clear hb1 hb2 hE1 HR1 HQ1
      go_wp2_with fail
      refine (asks_in s most (by omega) w2 hE2).mono ?_
      rintro e w3 ⟨rfl, hb3⟩
      have hb3' := hb2'.trans (hb3.mono hb2'.size)
      have HR3 := Lib.hid (HR2.out.below (hb3.mono hb2'.size))
      have HQ3 := Lib.hid (HQ2.out.below (hb3.mono hb2'.size))
      have hE3 := hE.on hb3'
      clear hb2' hb3 hE2 HR2 HQ2
      go_wp2_with fail
      refine (Near_in A' len' cap' ys w3 (HQ3.out.more hb3'.size) HY.out hl').mono ?_
      rintro e w4 ⟨T, rfl, hT, hb4⟩
      have hb4' := hb3'.trans (hb4.mono hb3'.size)
      have HR4 := Lib.hid (HR3.out.below (hb4.mono hb3'.size))
      have hE4 := hE.on hb4'
      clear hb3' hb4 hE3 HR3 HQ3
      go_wp2_with fail
      refine (asks_in T most (by omega) w4 hE4).mono ?_
      rintro e w5 ⟨rfl, hb5⟩
      have hb5' := hb4'.trans (hb5.mono hb4'.size)
      have HR5 := Lib.hid (HR4.out.below (hb5.mono hb4'.size))
      have hE5 := hE.on hb5'
      clear hb4' hb5 hE4 HR4
      go_wp2_with fail
      refine (Text_in n h0 h1 w5 hE5).mono ?_
      rintro e w6 ⟨rfl, hb6⟩
      have hb6' := hb5'.trans (hb6.mono hb5'.size)
      have HR6 := Lib.hid (HR5.out.below (hb6.mono hb5'.size))
      have hE6 := hE.on hb6'
      clear hb5' hb6 hE5 HR5
      obtain ⟨X, hX⟩ : ∃ X : ByteArray, X = ⟨(Lib.itoa n).toArray⟩ := ⟨_, rfl⟩
      have hXs : X.size ≤ 21 := by rw [hX]; exact hil
      rw [← hX]
      have HX := Lib.hid hX
      clear hX hil
      go_wp2_with fail
      refine (asks_in X n (by omega) w6 hE6).mono ?_
      rintro e w7 ⟨rfl, hb7⟩
      have hb7' := hb6'.trans (hb7.mono hb6'.size)
      have HR7 := Lib.hid (HR6.out.below (hb7.mono hb6'.size))
      have hE7 := hE.on hb7'
      clear hb6' hb7 hE6 HR6
      go_wp2_with fail
      refine (Text_in n h0 h1 w7 hE7).mono ?_
      rw [← HX.out]
      rintro e w8 ⟨rfl, hb8⟩
      have hb8' := hb7'.trans (hb8.mono hb7'.size)
      have HR8 := Lib.hid (HR7.out.below (hb8.mono hb7'.size))
      clear hb7' hb8 hE7 HR7
      go_wp2_with fail
      refine (rText_in n h0 h1 w8).mono ?_
      rw [show strV (Lib.itoa n) = .string X by rw [HX.out]; rfl]
      rintro e w9 ⟨rfl, q9, rfl⟩
      have hb9 := hb8'.trans ((below_drewN w8 q9).mono hb8'.size)
      have HR9 := Lib.hid (show Reads (w8.drewN q9) w.heap.size 1 A len (L.map strV) from HR8.out.drewN q9)
      generalize w8.drewN q9 = W9 at hb9 HR9 ⊢
      clear hb8' HR8
      have hXX : (X.toList == X.toList) = true := by simp
      go_wp2_with fail
      have hbs : bt.size ≤ 300 := by omega
      have hjl : (Lib.join L bt.data.toList).length ≤ 100000 := by
        have h := join_le L bt.data.toList
        have h2 : L.length * bt.data.toList.length ≤ 200 * 300 := Nat.mul_le_mul (by omega) (by show bt.size ≤ 300; omega)
        omega
      have hjt : ∀ k, (Lib.join (L.take k) bt.data.toList).length + bt.size ≤ 1000000000 := by
        intro k
        have h := join_take_le L bt.data.toList k
        have h2 : L.length * bt.data.toList.length ≤ 200 * 300 := Nat.mul_le_mul (by omega) (by show bt.size ≤ 300; omega)
        omega
      refine (Join_in A len cap L bt W9 hlen.symm hcap (HR9.out.more hb9.size) (by omega) (by omega)).mono ?_
      rintro e w10 ⟨rfl, hb10⟩
      have hb10' := hb9.trans (hb10.mono hb9.size)
      have HR10 := Lib.hid (HR9.out.below (hb10.mono hb9.size))
      have HJ : Hid (∀ W, Reads W w.heap.size 1 A len (L.map strV) → Calls Tryd.prog 20 #[.slice A len cap, .string bt] W fun e w' => e = .returned (strV (Lib.join L bt.data.toList)) ∧ ∃ q, w' = W.drewN q) :=
        Lib.hid (fun W hW => rJoin_in A len cap _ L bt W hW (by omega) hjt)
      obtain ⟨J, hJ⟩ : ∃ J : ByteArray, J = ⟨(Lib.join L bt.data.toList).toArray⟩ := ⟨_, rfl⟩
      rw [show strV (Lib.join L bt.data.toList) = .string J by rw [hJ]; rfl] at HJ ⊢
      have hJJ : (J.toList == J.toList) = true := by simp
      clear hb9 hb10 HR9 hjl hjt hJ
      go_wp2_with fail
      refine (HJ.out w10 HR10.out).mono ?_
      rintro e w11 ⟨rfl, q11, rfl⟩
      have hb11 := hb10'.trans ((below_drewN w10 q11).mono hb10'.size)
      generalize w10.drewN q11 = W11 at hb11 ⊢
      go_wp2_with fail
      go_ret
      exact ⟨by first | rfl | exact ret_bool (by simp), hb11⟩
end Go.Proofs.YtodddplpggggeaaDoor
