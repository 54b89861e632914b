/- WordBack (5). Conditions: the texts have less than 2^62 signs in all. -/
import Derived.Test.YtodddplpggggeaaDoorN13
set_option linter.unusedSimpArgs false
set_option linter.unusedVariables false
namespace Go.Proofs.YtodddplpggggeaaDoor
open Go.RowKit Go.Shelf

def noBl (x : List UInt8) : Bool := x.all (fun b => decide (b ≠ 32))
theorem noBl_iff (x : List UInt8) : noBl x = true ↔ (32 : UInt8) ∉ x := by
  unfold noBl
  rw [List.all_eq_true]
  constructor
  · intro h hm; exact of_decide_eq_true (h 32 hm) rfl
  · intro h b hb; exact decide_eq_true (fun e => h (e ▸ hb))
theorem noBl_succ {x : List UInt8} {j : Nat} {b : UInt8} (h : x[j]? = some b) : noBl (x.take (j + 1)) = (noBl (x.take j) && decide (b ≠ 32)) := by
  unfold noBl; rw [List.take_add_one, h, List.all_append]; simp
theorem all_succ {L : List (List UInt8)} {k : Nat} {x : List UInt8} (h : L[k]? = some x) : (L.take (k + 1)).all noBl = ((L.take k).all noBl && noBl x) := by
  rw [List.take_add_one, h, List.all_append]; simp

set_option maxHeartbeats 1600000 in
set_option maxRecDepth 100000 in
theorem WordBack_in (n : Int) (s : ByteArray) (A : Option Addr) (len cap : Nat) (L : List (List UInt8)) (w : World) (hE : Env w) (h0 : -9223372036854775808 ≤ n) (h1 : n ≤ 9223372036854775807) (hs : s.size ≤ 9223372036854775807) (hr : Reads w w.heap.size 1 A len (L.map strV)) (hcap : len ≤ cap) (hm : totL L ≤ 4611686018427387904) :
    Calls Tryd.prog 5 #[.int .i64 n, .string s, .slice A len cap] w fun e w' => e = .returned (.bool true) ∧ Below w.heap.size w w' := by
  have hlen : L.length = len := by have := hr.1; simpa using this
  have hil := Lib.itoa_length_le n h0 h1
  go_enter Tryd.func5, Tryd.ntmps5
  go_wp2_with fail
  refine (Text_in n h0 h1 w hE).mono ?_
  rintro e w1 ⟨rfl, hb1⟩
  have hE1 := hE.on hb1
  go_wp2_with fail
  refine (Number_in _ (by show (Lib.itoa n).length ≤ _; omega) w1 hE1).mono ?_
  rw [show numL (⟨(Lib.itoa n).toArray⟩ : ByteArray).data.toList = (n, 0) from num_itoa n h0 h1]
  rintro e w2 ⟨rfl, hb2⟩
  have hb2' : Below w.heap.size w w2 := hb1.trans (hb2.mono hb1.size)
  have hr2 := hr.below hb2'
  have hE2 := hE.on hb2'
  generalize (⟨(Lib.itoa n).toArray⟩ : ByteArray) = X0
  clear hb1 hb2 hE1 hr hil
  have hR := many_in A len cap w.heap.size L w2 hr2 hm
  by_cases hmany : 200 < totL L
  · rw [decide_eq_true hmany] at hR
    clear hm hmany
    go_wp2_with fail
    refine hR.mono ?_
    rintro e w3 ⟨rfl, q, rfl⟩
    have hb3 : Below w.heap.size w (w2.drewN q) := hb2'.trans ((below_drewN w2 q).mono hb2'.size)
    have hE3 := hE.on hb3
    generalize w2.drewN q = W at hb3 hE3 ⊢
    go_wp2_with fail
    refine (known_in W hE3).mono ?_
    rintro e w4 ⟨rfl, hb4⟩
    go_wp2_with fail
    go_ret
    exact ⟨rfl, hb3.trans (hb4.mono hb3.size)⟩
  · rw [decide_eq_false hmany] at hR
    have htl : totL L ≤ 200 := by omega
    clear hm hmany
    by_cases hbig : (60 : Int) < s.size
    · go_wp2_with fail
      refine hR.mono ?_
      rintro e w3 ⟨rfl, q, rfl⟩
      have hb3 : Below w.heap.size w (w2.drewN q) := hb2'.trans ((below_drewN w2 q).mono hb2'.size)
      have hE3 := hE.on hb3
      generalize w2.drewN q = W at hb3 hE3 ⊢
      go_wp2_with fail
      refine (known_in W hE3).mono ?_
      rintro e w4 ⟨rfl, hb4⟩
      go_wp2_with fail
      go_ret
      exact ⟨rfl, hb3.trans (hb4.mono hb3.size)⟩
    · go_wp2_with fail
      refine hR.mono ?_
      rintro e w3 ⟨rfl, q, rfl⟩
      have hb3 : Below w.heap.size w (w2.drewN q) := hb2'.trans ((below_drewN w2 q).mono hb2'.size)
      have hE3 := hE.on hb3
      have hr3 : Reads (w2.drewN q) w.heap.size 1 A len (L.map strV) := hr2.drewN q
      clear hb2' hE2 hr2 hR
      generalize w2.drewN q = W at hb3 hE3 hr3 ⊢
      go_wp2_with fail
      refine (Number_in s (by omega) W hE3).mono ?_
      rintro e w4 ⟨rfl, hb4⟩
      have hb4' : Below w.heap.size w w4 := hb3.trans (hb4.mono hb3.size)
      have hr4 : Reads w4 w.heap.size 1 A len (L.map strV) := hr3.below (hb4.mono hb3.size)
      have hE4 := hE.on hb4'
      clear hb4 hb3 hr3 hE3
      have hnb := @num_back s.data.toList
      generalize hN : numL s.data.toList = N at hnb ⊢
      obtain ⟨kk, ff⟩ := N
      have HN := Lib.hid hN
      clear hN
      have hlen200 : len ≤ 200 := by have := totL_len L; omega
      go_wp2_with fail
      go_loopw [11, 12] (fun c i wr => ∃ k : Nat, k ≤ len ∧ i = .int .i64 k ∧ c = .bool (decide (0 < len) && (L.take k).all noBl) ∧ ∃ q, wr = w4.drewN q) (fun _ i _ => len - (Lib.intOf i).toNat)
      case atStart => exact ⟨0, Nat.zero_le _, rfl, by simp, 0, rfl⟩
      case round =>
        obtain ⟨k, hk, rfl, rfl, q, rfl⟩ := hrel
        by_cases hlt : k < len
        · obtain ⟨b, off, u, rfl, -, hx, hcell⟩ := hr4.at_ hlt
          simp only [List.getElem?_map, Option.map_eq_some_iff] at hx
          obtain ⟨x, hx, rfl⟩ := hx
          have HS := Lib.hid (all_succ hx)
          have hxl : x.length ≤ 200 := by
            have := totL_succ hx
            have := totL_take L (k + 1)
            omega
          obtain ⟨X, hX⟩ : ∃ X : ByteArray, X = ⟨x.toArray⟩ := ⟨_, rfl⟩
          have hXl : X.data.toList = x := by rw [hX]
          have hXs : X.size ≤ 200 := by rw [hX]; exact hxl
          unfold strV at hcell
          rw [← hX] at hcell
          have HX := Lib.hid hXl
          obtain ⟨C0, hC0⟩ : ∃ C0, (decide (0 < len) && (L.take k).all noBl) = C0 := ⟨_, rfl⟩
          rw [hC0]
          have HC0 := Lib.hid hC0
          clear hC0
          clear hX hXl hxl hx
          go_wp2_with fail
          go_loopw [11, 13] (fun c j wr => ∃ i : Nat, i ≤ X.size ∧ j = .int .i64 i ∧ c = .bool (C0 && noBl (x.take i)) ∧ ∃ q, wr = w4.drewN q) (fun _ j _ => X.size - (Lib.intOf j).toNat)
          case atStart => exact ⟨0, Nat.zero_le _, rfl, by simp [noBl], q, rfl⟩
          case round =>
            obtain ⟨i, hi, rfl, rfl, q2, rfl⟩ := hrel
            by_cases hlti : i < X.size
            · have hg := get_at hlti
              rw [HX.out] at hg
              have HI := Lib.hid (noBl_succ hg)
              clear hg
              obtain ⟨C1, hC1⟩ : ∃ C1, (C0 && noBl (x.take i)) = C1 := ⟨_, rfl⟩
              rw [hC1]
              have HC1 := Lib.hid hC1
              clear hC1
              cases C1
              · go_wp2
                refine ⟨⟨i + 1, by omega, rfl, ?_, q2, rfl⟩, by simp [Lib.intOf]; omega⟩
                rw [HI.out, ← Bool.and_assoc, HC1.out]; rfl
              · by_cases hb : X[i]'hlti = 32
                · have hb' : ((X[i]'hlti).toNat : Int) = 32 := by rw [hb]; rfl
                  rw [decide_eq_false (by simp [hb])] at HI
                  go_wp2
                  refine ⟨⟨i + 1, by omega, rfl, ?_, q2, rfl⟩, by simp [Lib.intOf]; omega⟩
                  rw [HI.out]; simp
                · have hb' : ¬ ((X[i]'hlti).toNat : Int) = 32 := fun e => hb (UInt8.toNat_inj.1 (by show (X[i]'hlti).toNat = 32; omega))
                  rw [decide_eq_true hb] at HI
                  go_wp2
                  refine ⟨⟨i + 1, by omega, rfl, ?_, q2, rfl⟩, by simp [Lib.intOf]; omega⟩
                  rw [HI.out, Bool.and_true, HC1.out]
                  simpa using hb'
            · have htk : x.take i = x := List.take_of_length_le (by rw [← HX.out]; show X.size ≤ i; omega)
              rw [htk]
              clear htk
              go_wp2
              refine ⟨⟨k + 1, by omega, rfl, ?_, q2, rfl⟩, by simp [Lib.intOf]; omega⟩
              rw [HS.out, ← Bool.and_assoc, HC0.out]
        · have htk : L.take k = L := List.take_of_length_le (by omega)
          rw [htk]
          clear htk
          have hbq : Below w.heap.size w (w4.drewN q) := hb4'.trans ((below_drewN w4 q).mono hb4'.size)
          have hEq := hE.on hbq
          have hrq : Reads (w4.drewN q) w.heap.size 1 A len (L.map strV) := hr4.drewN q
          clear hb4' hE4 hr4
          generalize w4.drewN q = V at hbq hEq hrq ⊢
          obtain ⟨C, hC⟩ : ∃ C, (decide (0 < len) && L.all noBl) = C := ⟨_, rfl⟩
          rw [hC]
          have HC := Lib.hid hC
          clear hC
          by_cases hff : ff = 0
          · subst hff
            have hkk : strV (Lib.itoa kk) = .string s := by rw [hnb rfl, strV_data]
            have hkr : -9223372036854775808 ≤ kk ∧ kk ≤ 9223372036854775807 := by
              have := HN.out
              unfold numL at this
              split at this
              · simp at this
              · split at this
                · rename_i h; have e : valL s.data.toList = kk := (Prod.mk.inj this).1; rw [← e]; exact h
                · simp at this
            have HNB := Lib.hid hkk
            clear hnb hkk
            have hss : (s.toList == s.toList) = true := by simp
            go_wp2_with fail
            refine (known_in V hEq).mono ?_
            rintro e w5 ⟨rfl, hb5⟩
            have hb5' := hbq.trans (hb5.mono hbq.size)
            have hr5 := hrq.below (hb5.mono hbq.size)
            have hE5 := hE.on hb5'
            clear hb5 hbq hrq hEq
            go_wp2_with fail
            refine (Text_in kk hkr.1 hkr.2 w5 hE5).mono ?_
            rintro e w6 ⟨rfl, hb6⟩
            rw [show (Value.string ⟨(Lib.itoa kk).toArray⟩) = .string s from HNB.out]
            have hb6' := hb5'.trans (hb6.mono hb5'.size)
            have hr6 := hr5.below (hb6.mono hb5'.size)
            have hE6 := hE.on hb6'
            clear hb6 hb5' hr5 hE5
            cases C
            · go_wp2_with fail
              go_ret
              exact ⟨rfl, hb6'⟩
            · have hLne : L ≠ [] := by
                have h := HC.out
                rw [Bool.and_eq_true] at h
                have := of_decide_eq_true h.1
                rintro rfl
                simp at hlen; omega
              have hfr : ∀ x ∈ L, (32 : UInt8) ∉ x := by
                have h := HC.out
                rw [Bool.and_eq_true] at h
                intro x hx
                exact (noBl_iff x).1 (List.all_eq_true.1 h.2 x hx)
              have hjl : (Lib.join L [32]).length ≤ 400 := by
                have h := join_le L [32]
                simp only [List.length_cons, List.length_nil] at h
                omega
              go_wp2_with fail
              refine (Join_in A len cap L ⟨#[32]⟩ w6 hlen.symm hcap (hr6.more hb6'.size) (by omega) (by show (Lib.join L [32]).length ≤ _; omega)).mono ?_
              rintro e w7 ⟨rfl, hb7⟩
              have hb7' := hb6'.trans (hb7.mono hb6'.size)
              have hr7 := hr6.below (hb7.mono hb6'.size)
              have hE7 := hE.on hb7'
              clear hb7 hb6' hr6 hE6
              obtain ⟨J, hJ⟩ : ∃ J : ByteArray, J = ⟨(Lib.join L [32]).toArray⟩ := ⟨_, rfl⟩
              have hJs : J.size ≤ 400 := by rw [hJ]; exact hjl
              have hJc : cutL 32 J.data.toList = L := by rw [hJ]; exact cut_join 32 L hLne hfr
              rw [show strV (Lib.join L (⟨#[32]⟩ : ByteArray).data.toList) = .string J by rw [hJ]; rfl]
              have HJ := Lib.hid hJc
              clear hJ hJc hjl
              go_wp2_with fail
              refine (Words_in J (by omega) w7 hE7).mono ?_
              rw [HJ.out]
              rintro e w8 ⟨A8, m8, c8, rfl, hm8, hc8, hr8, hb8⟩
              have hb8' := hb7'.trans (hb8.mono hb7'.size)
              have hr78 := hr7.below (hb8.mono hb7'.size)
              rw [hlen] at hm8
              subst hm8
              clear hb8 hb7' hr7 hE7
              go_wp2_with fail
              refine (Same_in A8 A _ c8 _ cap _ _ L L w8 hr8 hr78 (by omega)).mono ?_
              rintro e w9 ⟨rfl, q9, rfl⟩
              rw [show decide (L = L) = true by simp]
              have hb9 := hb8'.trans ((below_drewN w8 q9).mono hb8'.size)
              go_wp2_with fail
              go_ret
              exact ⟨rfl, hb9⟩
          · have hff' : (ff == 0) = false := by simpa using hff
            clear hnb
            go_wp2_with fail
            refine (known_in V hEq).mono ?_
            rintro e w6 ⟨rfl, hb5⟩
            have hb6' := hbq.trans (hb5.mono hbq.size)
            have hr6 := hrq.below (hb5.mono hbq.size)
            have hE6 := hE.on hb6'
            clear hb5 hbq hrq hEq
            cases C
            · go_wp2_with fail
              go_ret
              exact ⟨rfl, hb6'⟩
            · have hLne : L ≠ [] := by
                have h := HC.out
                rw [Bool.and_eq_true] at h
                have := of_decide_eq_true h.1
                rintro rfl
                simp at hlen; omega
              have hfr : ∀ x ∈ L, (32 : UInt8) ∉ x := by
                have h := HC.out
                rw [Bool.and_eq_true] at h
                intro x hx
                exact (noBl_iff x).1 (List.all_eq_true.1 h.2 x hx)
              have hjl : (Lib.join L [32]).length ≤ 400 := by
                have h := join_le L [32]
                simp only [List.length_cons, List.length_nil] at h
                omega
              go_wp2_with fail
              refine (Join_in A len cap L ⟨#[32]⟩ w6 hlen.symm hcap (hr6.more hb6'.size) (by omega) (by show (Lib.join L [32]).length ≤ _; omega)).mono ?_
              rintro e w7 ⟨rfl, hb7⟩
              have hb7' := hb6'.trans (hb7.mono hb6'.size)
              have hr7 := hr6.below (hb7.mono hb6'.size)
              have hE7 := hE.on hb7'
              clear hb7 hb6' hr6 hE6
              obtain ⟨J, hJ⟩ : ∃ J : ByteArray, J = ⟨(Lib.join L [32]).toArray⟩ := ⟨_, rfl⟩
              have hJs : J.size ≤ 400 := by rw [hJ]; exact hjl
              have hJc : cutL 32 J.data.toList = L := by rw [hJ]; exact cut_join 32 L hLne hfr
              rw [show strV (Lib.join L (⟨#[32]⟩ : ByteArray).data.toList) = .string J by rw [hJ]; rfl]
              have HJ := Lib.hid hJc
              clear hJ hJc hjl
              go_wp2_with fail
              refine (Words_in J (by omega) w7 hE7).mono ?_
              rw [HJ.out]
              rintro e w8 ⟨A8, m8, c8, rfl, hm8, hc8, hr8, hb8⟩
              have hb8' := hb7'.trans (hb8.mono hb7'.size)
              have hr78 := hr7.below (hb8.mono hb7'.size)
              rw [hlen] at hm8
              subst hm8
              clear hb8 hb7' hr7 hE7
              go_wp2_with fail
              refine (Same_in A8 A _ c8 _ cap _ _ L L w8 hr8 hr78 (by omega)).mono ?_
              rintro e w9 ⟨rfl, q9, rfl⟩
              rw [show decide (L = L) = true by simp]
              have hb9 := hb8'.trans ((below_drewN w8 q9).mono hb8'.size)
              go_wp2_with fail
              go_ret
              exact ⟨rfl, hb9⟩
end Go.Proofs.YtodddplpggggeaaDoor
