/- WordCounts (8). Conditions: none. -/
import Derived.Test.YtodddplpggggeaaDoorK
import Derived.Test.YtodddplpggggeaaDoorPT
import Derived.Lib.SlBytesRow
set_option linter.unusedSimpArgs false
set_option linter.unusedVariables false
namespace Go.Proofs.YtodddplpggggeaaDoor
open Go.RowKit Go.Shelf

theorem cnt_dec (u : Nat) (most : Int) (h : u ≤ 9223372036854775807) : cntL (Lib.decDigits u) most = if (u : Int) ≤ most then ((u : Int), true) else (0, false) := by
  have e : numL (Lib.decDigits u) = ((u : Int), 0) := by rw [num_dec, if_pos h]
  by_cases hm : (u : Int) ≤ most
  · rw [if_pos hm, cntL_yes (by rw [e]; simp; omega), e]
  · rw [if_neg hm, cntL_no (by rw [e]; simp; omega)]
theorem digs_head {l : List UInt8} {b : UInt8} (h : isDig b = false) : digsL (b :: l) = false := by unfold digsL; simp [h]
/-- a sign ahead of a number's word: none from nought on -/
theorem cnt_lead (b : UInt8) (hb : b = 48 ∨ b = 45 ∨ b = 43 ∨ b = 32) (u : Nat) (most : Int) : (cntL (b :: Lib.decDigits u) most).2 = false := by
  have hno : ∀ l, formL l = false → (cntL l most).2 = false := fun l h => by rw [cntL_no (by rw [numL_no h]; simp)]
  obtain ⟨c, r, e, hc, hd⟩ := dec_no45 u
  rcases hb with rfl | rfl | rfl | rfl
  · refine hno _ ?_
    unfold formL
    rw [trim_other 48 _ (by decide), e]
    simp [digsL]
  · rcases Nat.eq_zero_or_pos u with rfl | hu
    · refine hno _ (by decide +kernel)
    · rw [cntL_no]
      rw [num_minus u hu]
      by_cases h : u ≤ 9223372036854775808
      · rw [if_pos h]; right; left; show -(u : Int) < 0; omega
      · rw [if_neg h]; left; simp
  · refine hno _ ?_
    unfold formL
    rw [trim_other 43 _ (by decide), digs_head (by decide)]
    simp
  · refine hno _ ?_
    unfold formL
    rw [trim_other 32 _ (by decide), digs_head (by decide)]
    simp

theorem cat_data8 (x y : ByteArray) : (x ++ y).data.toList = x.data.toList ++ y.data.toList := by simp
theorem conv1 (w : World) (b : UInt8) : (convert 36 9 (.slice (some ⟨w.heap.size, 0, none⟩) 1 1)).run Tryd.prog (w.alloc (.cells #[.int .u8 (b.toNat : Int)] 5)) = .ok (.string ⟨#[b]⟩) (w.alloc (.cells #[.int .u8 (b.toNat : Int)] 5)) := by
  refine Lib.run_convert_whole (P := Tryd.prog) _ 36 5 9 Tryd.underlying36 Tryd.underlying5 Tryd.underlying9 w.heap.size 0 (⟨#[b]⟩ : ByteArray) ?_ 1
  intro i hi
  have h0 : i = 0 := by have : i < 1 := hi; omega
  subst h0
  exact (Blk.new w 5 #[.int .u8 (b.toNat : Int)]).cell 0
set_option maxHeartbeats 1600000 in
set_option maxRecDepth 100000 in
theorem WordCounts_a0 (k most more : Nat) (lead : Int) (w : World) (hE : Env w) (hk : k ≤ 65535) (hm : most ≤ 65535) (hmo : more ≤ 65535) (hl : lead.tmod 4 = 0) (h1 : k ≤ most) :
    Calls Tryd.prog 8 #[.int .u16 k, .int .u16 most, .int .u16 more, .int .u8 lead] w fun e w' => e = .returned (.bool true) ∧ Below w.heap.size w w' := by
  go_enter Tryd.func8, Tryd.ntmps8
  go_wp2_with fail
  refine (Text_in k (by omega) (by omega) w hE).mono ?_
  rintro e w1 ⟨rfl, hb1⟩
  have hE1 := hE.on hb1
  rw [show Lib.itoa k = Lib.decDigits k from Lib.itoa_nonneg k]
  have hXs : (⟨(Lib.decDigits k).toArray⟩ : ByteArray).size ≤ 21 := by
    have h := Lib.itoa_length_le k (by omega) (by omega)
    rw [show Lib.itoa k = Lib.decDigits k from Lib.itoa_nonneg k] at h
    exact h
  obtain ⟨X, hX⟩ : ∃ X : ByteArray, X = ⟨(Lib.decDigits k).toArray⟩ := ⟨_, rfl⟩
  rw [← hX] at hXs ⊢
  have HX : Hid (X.data.toList = Lib.decDigits k) := Lib.hid (by rw [hX])
  clear hX
  go_wp2_with fail
  refine (Count_in X most (by omega) w1 hE1).mono ?_
  rw [HX.out, cnt_dec k most (by omega), if_pos (by omega)]
  rintro e w2 ⟨rfl, hb2⟩
  have hE2 := hE1.on hb2
  go_wp2_with fail
  refine (Count_in X (most + more) (by omega) w2 hE2).mono ?_
  rw [HX.out, cnt_dec k (most + more) (by omega), if_pos (by omega)]
  rintro e w3 ⟨rfl, hb3⟩
  have hE3 := hE2.on hb3
  have kc := conv1 w3 48
  have kb : ((⟨#[48, 45, 43, 32]⟩ : ByteArray)[0]'(by decide)) = 48 := by decide +kernel
  have kn : ((48 : UInt8).toNat : Int) = 48 := rfl
  rw [kn] at kc
  go_wp2_with fail
  obtain ⟨z, hz⟩ : ∃ z, cntL ((⟨#[48]⟩ : ByteArray) ++ X).data.toList 1073741824 = (z, false) := by
    refine ⟨(cntL ((⟨#[48]⟩ : ByteArray) ++ X).data.toList 1073741824).1, ?_⟩
    refine Prod.ext rfl ?_
    rw [cat_data8, HX.out]
    exact cnt_lead 48 (by decide) k _
  have hb3' : Below w.heap.size w (w3.alloc (.cells #[.int .u8 48] 5)) := by
    have h3 : Below w.heap.size w w3 := (hb1.trans (hb2.mono hb1.size)).trans (hb3.mono (by have := hb1.size; have := hb2.size; omega))
    exact h3.alloc (by have := h3.size; omega) _
  have hE3' := hE.below hb3' hE.size
  clear kc hb1 hb2 hb3 hE1 hE2 hE3
  generalize (w3.alloc (.cells #[.int .u8 48] 5)) = W3 at hb3' hE3' ⊢
  refine (Count_in _ 1073741824 (by rw [ByteArray.size_append]; show 1 + X.size ≤ _; omega) W3 hE3').mono ?_
  rw [hz]
  clear hz
  rintro e w4 ⟨rfl, hb4⟩
  have hE4 := hE3'.on hb4
  go_wp2_with fail
  refine (known_in w4 hE4).mono ?_
  rintro e w5 ⟨rfl, hb5⟩
  go_wp2_with fail
  refine (Join_in none 0 0 [] X w5 rfl (Nat.le_refl _) Reads.none_ (by omega) (by simp [Lib.join])).mono ?_
  rintro e w6 ⟨rfl, hb6⟩
  rw [show strV (Lib.join [] X.data.toList) = .string ⟨#[]⟩ from rfl]
  go_wp2_with fail
  go_ret
  exact ⟨(by first | rfl | exact (show Ending.returned (.bool (!decide (k ≤ most))) = _ from ret_bool (by simp; omega))), ((hb3'.trans (hb4.mono hb3'.size)).trans (hb5.mono (by have := hb3'.size; have := hb4.size; omega))).trans (hb6.mono (by have := hb3'.size; have := hb4.size; have := hb5.size; omega))⟩

set_option maxHeartbeats 1600000 in
set_option maxRecDepth 100000 in
theorem WordCounts_a1 (k most more : Nat) (lead : Int) (w : World) (hE : Env w) (hk : k ≤ 65535) (hm : most ≤ 65535) (hmo : more ≤ 65535) (hl : lead.tmod 4 = 1) (h1 : k ≤ most) :
    Calls Tryd.prog 8 #[.int .u16 k, .int .u16 most, .int .u16 more, .int .u8 lead] w fun e w' => e = .returned (.bool true) ∧ Below w.heap.size w w' := by
  go_enter Tryd.func8, Tryd.ntmps8
  go_wp2_with fail
  refine (Text_in k (by omega) (by omega) w hE).mono ?_
  rintro e w1 ⟨rfl, hb1⟩
  have hE1 := hE.on hb1
  rw [show Lib.itoa k = Lib.decDigits k from Lib.itoa_nonneg k]
  have hXs : (⟨(Lib.decDigits k).toArray⟩ : ByteArray).size ≤ 21 := by
    have h := Lib.itoa_length_le k (by omega) (by omega)
    rw [show Lib.itoa k = Lib.decDigits k from Lib.itoa_nonneg k] at h
    exact h
  obtain ⟨X, hX⟩ : ∃ X : ByteArray, X = ⟨(Lib.decDigits k).toArray⟩ := ⟨_, rfl⟩
  rw [← hX] at hXs ⊢
  have HX : Hid (X.data.toList = Lib.decDigits k) := Lib.hid (by rw [hX])
  clear hX
  go_wp2_with fail
  refine (Count_in X most (by omega) w1 hE1).mono ?_
  rw [HX.out, cnt_dec k most (by omega), if_pos (by omega)]
  rintro e w2 ⟨rfl, hb2⟩
  have hE2 := hE1.on hb2
  go_wp2_with fail
  refine (Count_in X (most + more) (by omega) w2 hE2).mono ?_
  rw [HX.out, cnt_dec k (most + more) (by omega), if_pos (by omega)]
  rintro e w3 ⟨rfl, hb3⟩
  have hE3 := hE2.on hb3
  have kc := conv1 w3 45
  have kb : ((⟨#[48, 45, 43, 32]⟩ : ByteArray)[1]'(by decide)) = 45 := by decide +kernel
  have kn : ((45 : UInt8).toNat : Int) = 45 := rfl
  rw [kn] at kc
  go_wp2_with fail
  obtain ⟨z, hz⟩ : ∃ z, cntL ((⟨#[45]⟩ : ByteArray) ++ X).data.toList 1073741824 = (z, false) := by
    refine ⟨(cntL ((⟨#[45]⟩ : ByteArray) ++ X).data.toList 1073741824).1, ?_⟩
    refine Prod.ext rfl ?_
    rw [cat_data8, HX.out]
    exact cnt_lead 45 (by decide) k _
  have hb3' : Below w.heap.size w (w3.alloc (.cells #[.int .u8 45] 5)) := by
    have h3 : Below w.heap.size w w3 := (hb1.trans (hb2.mono hb1.size)).trans (hb3.mono (by have := hb1.size; have := hb2.size; omega))
    exact h3.alloc (by have := h3.size; omega) _
  have hE3' := hE.below hb3' hE.size
  clear kc hb1 hb2 hb3 hE1 hE2 hE3
  generalize (w3.alloc (.cells #[.int .u8 45] 5)) = W3 at hb3' hE3' ⊢
  refine (Count_in _ 1073741824 (by rw [ByteArray.size_append]; show 1 + X.size ≤ _; omega) W3 hE3').mono ?_
  rw [hz]
  clear hz
  rintro e w4 ⟨rfl, hb4⟩
  have hE4 := hE3'.on hb4
  go_wp2_with fail
  refine (known_in w4 hE4).mono ?_
  rintro e w5 ⟨rfl, hb5⟩
  go_wp2_with fail
  refine (Join_in none 0 0 [] X w5 rfl (Nat.le_refl _) Reads.none_ (by omega) (by simp [Lib.join])).mono ?_
  rintro e w6 ⟨rfl, hb6⟩
  rw [show strV (Lib.join [] X.data.toList) = .string ⟨#[]⟩ from rfl]
  go_wp2_with fail
  go_ret
  exact ⟨(by first | rfl | exact (show Ending.returned (.bool (!decide (k ≤ most))) = _ from ret_bool (by simp; omega))), ((hb3'.trans (hb4.mono hb3'.size)).trans (hb5.mono (by have := hb3'.size; have := hb4.size; omega))).trans (hb6.mono (by have := hb3'.size; have := hb4.size; have := hb5.size; omega))⟩

set_option maxHeartbeats 1600000 in
set_option maxRecDepth 100000 in
theorem WordCounts_a2 (k most more : Nat) (lead : Int) (w : World) (hE : Env w) (hk : k ≤ 65535) (hm : most ≤ 65535) (hmo : more ≤ 65535) (hl : lead.tmod 4 = 2) (h1 : k ≤ most) :
    Calls Tryd.prog 8 #[.int .u16 k, .int .u16 most, .int .u16 more, .int .u8 lead] w fun e w' => e = .returned (.bool true) ∧ Below w.heap.size w w' := by
  go_enter Tryd.func8, Tryd.ntmps8
  go_wp2_with fail
  refine (Text_in k (by omega) (by omega) w hE).mono ?_
  rintro e w1 ⟨rfl, hb1⟩
  have hE1 := hE.on hb1
  rw [show Lib.itoa k = Lib.decDigits k from Lib.itoa_nonneg k]
  have hXs : (⟨(Lib.decDigits k).toArray⟩ : ByteArray).size ≤ 21 := by
    have h := Lib.itoa_length_le k (by omega) (by omega)
    rw [show Lib.itoa k = Lib.decDigits k from Lib.itoa_nonneg k] at h
    exact h
  obtain ⟨X, hX⟩ : ∃ X : ByteArray, X = ⟨(Lib.decDigits k).toArray⟩ := ⟨_, rfl⟩
  rw [← hX] at hXs ⊢
  have HX : Hid (X.data.toList = Lib.decDigits k) := Lib.hid (by rw [hX])
  clear hX
  go_wp2_with fail
  refine (Count_in X most (by omega) w1 hE1).mono ?_
  rw [HX.out, cnt_dec k most (by omega), if_pos (by omega)]
  rintro e w2 ⟨rfl, hb2⟩
  have hE2 := hE1.on hb2
  go_wp2_with fail
  refine (Count_in X (most + more) (by omega) w2 hE2).mono ?_
  rw [HX.out, cnt_dec k (most + more) (by omega), if_pos (by omega)]
  rintro e w3 ⟨rfl, hb3⟩
  have hE3 := hE2.on hb3
  have kc := conv1 w3 43
  have kb : ((⟨#[48, 45, 43, 32]⟩ : ByteArray)[2]'(by decide)) = 43 := by decide +kernel
  have kn : ((43 : UInt8).toNat : Int) = 43 := rfl
  rw [kn] at kc
  go_wp2_with fail
  obtain ⟨z, hz⟩ : ∃ z, cntL ((⟨#[43]⟩ : ByteArray) ++ X).data.toList 1073741824 = (z, false) := by
    refine ⟨(cntL ((⟨#[43]⟩ : ByteArray) ++ X).data.toList 1073741824).1, ?_⟩
    refine Prod.ext rfl ?_
    rw [cat_data8, HX.out]
    exact cnt_lead 43 (by decide) k _
  have hb3' : Below w.heap.size w (w3.alloc (.cells #[.int .u8 43] 5)) := by
    have h3 : Below w.heap.size w w3 := (hb1.trans (hb2.mono hb1.size)).trans (hb3.mono (by have := hb1.size; have := hb2.size; omega))
    exact h3.alloc (by have := h3.size; omega) _
  have hE3' := hE.below hb3' hE.size
  clear kc hb1 hb2 hb3 hE1 hE2 hE3
  generalize (w3.alloc (.cells #[.int .u8 43] 5)) = W3 at hb3' hE3' ⊢
  refine (Count_in _ 1073741824 (by rw [ByteArray.size_append]; show 1 + X.size ≤ _; omega) W3 hE3').mono ?_
  rw [hz]
  clear hz
  rintro e w4 ⟨rfl, hb4⟩
  have hE4 := hE3'.on hb4
  go_wp2_with fail
  refine (known_in w4 hE4).mono ?_
  rintro e w5 ⟨rfl, hb5⟩
  go_wp2_with fail
  refine (Join_in none 0 0 [] X w5 rfl (Nat.le_refl _) Reads.none_ (by omega) (by simp [Lib.join])).mono ?_
  rintro e w6 ⟨rfl, hb6⟩
  rw [show strV (Lib.join [] X.data.toList) = .string ⟨#[]⟩ from rfl]
  go_wp2_with fail
  go_ret
  exact ⟨(by first | rfl | exact (show Ending.returned (.bool (!decide (k ≤ most))) = _ from ret_bool (by simp; omega))), ((hb3'.trans (hb4.mono hb3'.size)).trans (hb5.mono (by have := hb3'.size; have := hb4.size; omega))).trans (hb6.mono (by have := hb3'.size; have := hb4.size; have := hb5.size; omega))⟩

set_option maxHeartbeats 1600000 in
set_option maxRecDepth 100000 in
theorem WordCounts_a3 (k most more : Nat) (lead : Int) (w : World) (hE : Env w) (hk : k ≤ 65535) (hm : most ≤ 65535) (hmo : more ≤ 65535) (hl : lead.tmod 4 = 3) (h1 : k ≤ most) :
    Calls Tryd.prog 8 #[.int .u16 k, .int .u16 most, .int .u16 more, .int .u8 lead] w fun e w' => e = .returned (.bool true) ∧ Below w.heap.size w w' := by
  go_enter Tryd.func8, Tryd.ntmps8
  go_wp2_with fail
  refine (Text_in k (by omega) (by omega) w hE).mono ?_
  rintro e w1 ⟨rfl, hb1⟩
  have hE1 := hE.on hb1
  rw [show Lib.itoa k = Lib.decDigits k from Lib.itoa_nonneg k]
  have hXs : (⟨(Lib.decDigits k).toArray⟩ : ByteArray).size ≤ 21 := by
    have h := Lib.itoa_length_le k (by omega) (by omega)
    rw [show Lib.itoa k = Lib.decDigits k from Lib.itoa_nonneg k] at h
    exact h
  obtain ⟨X, hX⟩ : ∃ X : ByteArray, X = ⟨(Lib.decDigits k).toArray⟩ := ⟨_, rfl⟩
  rw [← hX] at hXs ⊢
  have HX : Hid (X.data.toList = Lib.decDigits k) := Lib.hid (by rw [hX])
  clear hX
  go_wp2_with fail
  refine (Count_in X most (by omega) w1 hE1).mono ?_
  rw [HX.out, cnt_dec k most (by omega), if_pos (by omega)]
  rintro e w2 ⟨rfl, hb2⟩
  have hE2 := hE1.on hb2
  go_wp2_with fail
  refine (Count_in X (most + more) (by omega) w2 hE2).mono ?_
  rw [HX.out, cnt_dec k (most + more) (by omega), if_pos (by omega)]
  rintro e w3 ⟨rfl, hb3⟩
  have hE3 := hE2.on hb3
  have kc := conv1 w3 32
  have kb : ((⟨#[48, 45, 43, 32]⟩ : ByteArray)[3]'(by decide)) = 32 := by decide +kernel
  have kn : ((32 : UInt8).toNat : Int) = 32 := rfl
  rw [kn] at kc
  go_wp2_with fail
  obtain ⟨z, hz⟩ : ∃ z, cntL ((⟨#[32]⟩ : ByteArray) ++ X).data.toList 1073741824 = (z, false) := by
    refine ⟨(cntL ((⟨#[32]⟩ : ByteArray) ++ X).data.toList 1073741824).1, ?_⟩
    refine Prod.ext rfl ?_
    rw [cat_data8, HX.out]
    exact cnt_lead 32 (by decide) k _
  have hb3' : Below w.heap.size w (w3.alloc (.cells #[.int .u8 32] 5)) := by
    have h3 : Below w.heap.size w w3 := (hb1.trans (hb2.mono hb1.size)).trans (hb3.mono (by have := hb1.size; have := hb2.size; omega))
    exact h3.alloc (by have := h3.size; omega) _
  have hE3' := hE.below hb3' hE.size
  clear kc hb1 hb2 hb3 hE1 hE2 hE3
  generalize (w3.alloc (.cells #[.int .u8 32] 5)) = W3 at hb3' hE3' ⊢
  refine (Count_in _ 1073741824 (by rw [ByteArray.size_append]; show 1 + X.size ≤ _; omega) W3 hE3').mono ?_
  rw [hz]
  clear hz
  rintro e w4 ⟨rfl, hb4⟩
  have hE4 := hE3'.on hb4
  go_wp2_with fail
  refine (known_in w4 hE4).mono ?_
  rintro e w5 ⟨rfl, hb5⟩
  go_wp2_with fail
  refine (Join_in none 0 0 [] X w5 rfl (Nat.le_refl _) Reads.none_ (by omega) (by simp [Lib.join])).mono ?_
  rintro e w6 ⟨rfl, hb6⟩
  rw [show strV (Lib.join [] X.data.toList) = .string ⟨#[]⟩ from rfl]
  go_wp2_with fail
  go_ret
  exact ⟨(by first | rfl | exact (show Ending.returned (.bool (!decide (k ≤ most))) = _ from ret_bool (by simp; omega))), ((hb3'.trans (hb4.mono hb3'.size)).trans (hb5.mono (by have := hb3'.size; have := hb4.size; omega))).trans (hb6.mono (by have := hb3'.size; have := hb4.size; have := hb5.size; omega))⟩

set_option maxHeartbeats 1600000 in
set_option maxRecDepth 100000 in
theorem WordCounts_b0 (k most more : Nat) (lead : Int) (w : World) (hE : Env w) (hk : k ≤ 65535) (hm : most ≤ 65535) (hmo : more ≤ 65535) (hl : lead.tmod 4 = 0) (h1 : most < k) (h2 : k ≤ most + more) :
    Calls Tryd.prog 8 #[.int .u16 k, .int .u16 most, .int .u16 more, .int .u8 lead] w fun e w' => e = .returned (.bool true) ∧ Below w.heap.size w w' := by
  go_enter Tryd.func8, Tryd.ntmps8
  go_wp2_with fail
  refine (Text_in k (by omega) (by omega) w hE).mono ?_
  rintro e w1 ⟨rfl, hb1⟩
  have hE1 := hE.on hb1
  rw [show Lib.itoa k = Lib.decDigits k from Lib.itoa_nonneg k]
  have hXs : (⟨(Lib.decDigits k).toArray⟩ : ByteArray).size ≤ 21 := by
    have h := Lib.itoa_length_le k (by omega) (by omega)
    rw [show Lib.itoa k = Lib.decDigits k from Lib.itoa_nonneg k] at h
    exact h
  obtain ⟨X, hX⟩ : ∃ X : ByteArray, X = ⟨(Lib.decDigits k).toArray⟩ := ⟨_, rfl⟩
  rw [← hX] at hXs ⊢
  have HX : Hid (X.data.toList = Lib.decDigits k) := Lib.hid (by rw [hX])
  clear hX
  go_wp2_with fail
  refine (Count_in X most (by omega) w1 hE1).mono ?_
  rw [HX.out, cnt_dec k most (by omega), if_neg (by omega)]
  rintro e w2 ⟨rfl, hb2⟩
  have hE2 := hE1.on hb2
  go_wp2_with fail
  refine (Count_in X (most + more) (by omega) w2 hE2).mono ?_
  rw [HX.out, cnt_dec k (most + more) (by omega), if_pos (by omega)]
  rintro e w3 ⟨rfl, hb3⟩
  have hE3 := hE2.on hb3
  have kc := conv1 w3 48
  have kb : ((⟨#[48, 45, 43, 32]⟩ : ByteArray)[0]'(by decide)) = 48 := by decide +kernel
  have kn : ((48 : UInt8).toNat : Int) = 48 := rfl
  rw [kn] at kc
  go_wp2_with fail
  obtain ⟨z, hz⟩ : ∃ z, cntL ((⟨#[48]⟩ : ByteArray) ++ X).data.toList 1073741824 = (z, false) := by
    refine ⟨(cntL ((⟨#[48]⟩ : ByteArray) ++ X).data.toList 1073741824).1, ?_⟩
    refine Prod.ext rfl ?_
    rw [cat_data8, HX.out]
    exact cnt_lead 48 (by decide) k _
  have hb3' : Below w.heap.size w (w3.alloc (.cells #[.int .u8 48] 5)) := by
    have h3 : Below w.heap.size w w3 := (hb1.trans (hb2.mono hb1.size)).trans (hb3.mono (by have := hb1.size; have := hb2.size; omega))
    exact h3.alloc (by have := h3.size; omega) _
  have hE3' := hE.below hb3' hE.size
  clear kc hb1 hb2 hb3 hE1 hE2 hE3
  generalize (w3.alloc (.cells #[.int .u8 48] 5)) = W3 at hb3' hE3' ⊢
  refine (Count_in _ 1073741824 (by rw [ByteArray.size_append]; show 1 + X.size ≤ _; omega) W3 hE3').mono ?_
  rw [hz]
  clear hz
  rintro e w4 ⟨rfl, hb4⟩
  have hE4 := hE3'.on hb4
  go_wp2_with fail
  refine (known_in w4 hE4).mono ?_
  rintro e w5 ⟨rfl, hb5⟩
  go_wp2_with fail
  refine (Join_in none 0 0 [] X w5 rfl (Nat.le_refl _) Reads.none_ (by omega) (by simp [Lib.join])).mono ?_
  rintro e w6 ⟨rfl, hb6⟩
  rw [show strV (Lib.join [] X.data.toList) = .string ⟨#[]⟩ from rfl]
  go_wp2_with fail
  go_ret
  exact ⟨(by first | rfl | exact (show Ending.returned (.bool (!decide (k ≤ most))) = _ from ret_bool (by simp; omega))), ((hb3'.trans (hb4.mono hb3'.size)).trans (hb5.mono (by have := hb3'.size; have := hb4.size; omega))).trans (hb6.mono (by have := hb3'.size; have := hb4.size; have := hb5.size; omega))⟩

set_option maxHeartbeats 1600000 in
set_option maxRecDepth 100000 in
theorem WordCounts_b1 (k most more : Nat) (lead : Int) (w : World) (hE : Env w) (hk : k ≤ 65535) (hm : most ≤ 65535) (hmo : more ≤ 65535) (hl : lead.tmod 4 = 1) (h1 : most < k) (h2 : k ≤ most + more) :
    Calls Tryd.prog 8 #[.int .u16 k, .int .u16 most, .int .u16 more, .int .u8 lead] w fun e w' => e = .returned (.bool true) ∧ Below w.heap.size w w' := by
  go_enter Tryd.func8, Tryd.ntmps8
  go_wp2_with fail
  refine (Text_in k (by omega) (by omega) w hE).mono ?_
  rintro e w1 ⟨rfl, hb1⟩
  have hE1 := hE.on hb1
  rw [show Lib.itoa k = Lib.decDigits k from Lib.itoa_nonneg k]
  have hXs : (⟨(Lib.decDigits k).toArray⟩ : ByteArray).size ≤ 21 := by
    have h := Lib.itoa_length_le k (by omega) (by omega)
    rw [show Lib.itoa k = Lib.decDigits k from Lib.itoa_nonneg k] at h
    exact h
  obtain ⟨X, hX⟩ : ∃ X : ByteArray, X = ⟨(Lib.decDigits k).toArray⟩ := ⟨_, rfl⟩
  rw [← hX] at hXs ⊢
  have HX : Hid (X.data.toList = Lib.decDigits k) := Lib.hid (by rw [hX])
  clear hX
  go_wp2_with fail
  refine (Count_in X most (by omega) w1 hE1).mono ?_
  rw [HX.out, cnt_dec k most (by omega), if_neg (by omega)]
  rintro e w2 ⟨rfl, hb2⟩
  have hE2 := hE1.on hb2
  go_wp2_with fail
  refine (Count_in X (most + more) (by omega) w2 hE2).mono ?_
  rw [HX.out, cnt_dec k (most + more) (by omega), if_pos (by omega)]
  rintro e w3 ⟨rfl, hb3⟩
  have hE3 := hE2.on hb3
  have kc := conv1 w3 45
  have kb : ((⟨#[48, 45, 43, 32]⟩ : ByteArray)[1]'(by decide)) = 45 := by decide +kernel
  have kn : ((45 : UInt8).toNat : Int) = 45 := rfl
  rw [kn] at kc
  go_wp2_with fail
  obtain ⟨z, hz⟩ : ∃ z, cntL ((⟨#[45]⟩ : ByteArray) ++ X).data.toList 1073741824 = (z, false) := by
    refine ⟨(cntL ((⟨#[45]⟩ : ByteArray) ++ X).data.toList 1073741824).1, ?_⟩
    refine Prod.ext rfl ?_
    rw [cat_data8, HX.out]
    exact cnt_lead 45 (by decide) k _
  have hb3' : Below w.heap.size w (w3.alloc (.cells #[.int .u8 45] 5)) := by
    have h3 : Below w.heap.size w w3 := (hb1.trans (hb2.mono hb1.size)).trans (hb3.mono (by have := hb1.size; have := hb2.size; omega))
    exact h3.alloc (by have := h3.size; omega) _
  have hE3' := hE.below hb3' hE.size
  clear kc hb1 hb2 hb3 hE1 hE2 hE3
  generalize (w3.alloc (.cells #[.int .u8 45] 5)) = W3 at hb3' hE3' ⊢
  refine (Count_in _ 1073741824 (by rw [ByteArray.size_append]; show 1 + X.size ≤ _; omega) W3 hE3').mono ?_
  rw [hz]
  clear hz
  rintro e w4 ⟨rfl, hb4⟩
  have hE4 := hE3'.on hb4
  go_wp2_with fail
  refine (known_in w4 hE4).mono ?_
  rintro e w5 ⟨rfl, hb5⟩
  go_wp2_with fail
  refine (Join_in none 0 0 [] X w5 rfl (Nat.le_refl _) Reads.none_ (by omega) (by simp [Lib.join])).mono ?_
  rintro e w6 ⟨rfl, hb6⟩
  rw [show strV (Lib.join [] X.data.toList) = .string ⟨#[]⟩ from rfl]
  go_wp2_with fail
  go_ret
  exact ⟨(by first | rfl | exact (show Ending.returned (.bool (!decide (k ≤ most))) = _ from ret_bool (by simp; omega))), ((hb3'.trans (hb4.mono hb3'.size)).trans (hb5.mono (by have := hb3'.size; have := hb4.size; omega))).trans (hb6.mono (by have := hb3'.size; have := hb4.size; have := hb5.size; omega))⟩

set_option maxHeartbeats 1600000 in
set_option maxRecDepth 100000 in
theorem WordCounts_b2 (k most more : Nat) (lead : Int) (w : World) (hE : Env w) (hk : k ≤ 65535) (hm : most ≤ 65535) (hmo : more ≤ 65535) (hl : lead.tmod 4 = 2) (h1 : most < k) (h2 : k ≤ most + more) :
    Calls Tryd.prog 8 #[.int .u16 k, .int .u16 most, .int .u16 more, .int .u8 lead] w fun e w' => e = .returned (.bool true) ∧ Below w.heap.size w w' := by
  go_enter Tryd.func8, Tryd.ntmps8
  go_wp2_with fail
  refine (Text_in k (by omega) (by omega) w hE).mono ?_
  rintro e w1 ⟨rfl, hb1⟩
  have hE1 := hE.on hb1
  rw [show Lib.itoa k = Lib.decDigits k from Lib.itoa_nonneg k]
  have hXs : (⟨(Lib.decDigits k).toArray⟩ : ByteArray).size ≤ 21 := by
    have h := Lib.itoa_length_le k (by omega) (by omega)
    rw [show Lib.itoa k = Lib.decDigits k from Lib.itoa_nonneg k] at h
    exact h
  obtain ⟨X, hX⟩ : ∃ X : ByteArray, X = ⟨(Lib.decDigits k).toArray⟩ := ⟨_, rfl⟩
  rw [← hX] at hXs ⊢
  have HX : Hid (X.data.toList = Lib.decDigits k) := Lib.hid (by rw [hX])
  clear hX
  go_wp2_with fail
  refine (Count_in X most (by omega) w1 hE1).mono ?_
  rw [HX.out, cnt_dec k most (by omega), if_neg (by omega)]
  rintro e w2 ⟨rfl, hb2⟩
  have hE2 := hE1.on hb2
  go_wp2_with fail
  refine (Count_in X (most + more) (by omega) w2 hE2).mono ?_
  rw [HX.out, cnt_dec k (most + more) (by omega), if_pos (by omega)]
  rintro e w3 ⟨rfl, hb3⟩
  have hE3 := hE2.on hb3
  have kc := conv1 w3 43
  have kb : ((⟨#[48, 45, 43, 32]⟩ : ByteArray)[2]'(by decide)) = 43 := by decide +kernel
  have kn : ((43 : UInt8).toNat : Int) = 43 := rfl
  rw [kn] at kc
  go_wp2_with fail
  obtain ⟨z, hz⟩ : ∃ z, cntL ((⟨#[43]⟩ : ByteArray) ++ X).data.toList 1073741824 = (z, false) := by
    refine ⟨(cntL ((⟨#[43]⟩ : ByteArray) ++ X).data.toList 1073741824).1, ?_⟩
    refine Prod.ext rfl ?_
    rw [cat_data8, HX.out]
    exact cnt_lead 43 (by decide) k _
  have hb3' : Below w.heap.size w (w3.alloc (.cells #[.int .u8 43] 5)) := by
    have h3 : Below w.heap.size w w3 := (hb1.trans (hb2.mono hb1.size)).trans (hb3.mono (by have := hb1.size; have := hb2.size; omega))
    exact h3.alloc (by have := h3.size; omega) _
  have hE3' := hE.below hb3' hE.size
  clear kc hb1 hb2 hb3 hE1 hE2 hE3
  generalize (w3.alloc (.cells #[.int .u8 43] 5)) = W3 at hb3' hE3' ⊢
  refine (Count_in _ 1073741824 (by rw [ByteArray.size_append]; show 1 + X.size ≤ _; omega) W3 hE3').mono ?_
  rw [hz]
  clear hz
  rintro e w4 ⟨rfl, hb4⟩
  have hE4 := hE3'.on hb4
  go_wp2_with fail
  refine (known_in w4 hE4).mono ?_
  rintro e w5 ⟨rfl, hb5⟩
  go_wp2_with fail
  refine (Join_in none 0 0 [] X w5 rfl (Nat.le_refl _) Reads.none_ (by omega) (by simp [Lib.join])).mono ?_
  rintro e w6 ⟨rfl, hb6⟩
  rw [show strV (Lib.join [] X.data.toList) = .string ⟨#[]⟩ from rfl]
  go_wp2_with fail
  go_ret
  exact ⟨(by first | rfl | exact (show Ending.returned (.bool (!decide (k ≤ most))) = _ from ret_bool (by simp; omega))), ((hb3'.trans (hb4.mono hb3'.size)).trans (hb5.mono (by have := hb3'.size; have := hb4.size; omega))).trans (hb6.mono (by have := hb3'.size; have := hb4.size; have := hb5.size; omega))⟩

set_option maxHeartbeats 1600000 in
set_option maxRecDepth 100000 in
theorem WordCounts_b3 (k most more : Nat) (lead : Int) (w : World) (hE : Env w) (hk : k ≤ 65535) (hm : most ≤ 65535) (hmo : more ≤ 65535) (hl : lead.tmod 4 = 3) (h1 : most < k) (h2 : k ≤ most + more) :
    Calls Tryd.prog 8 #[.int .u16 k, .int .u16 most, .int .u16 more, .int .u8 lead] w fun e w' => e = .returned (.bool true) ∧ Below w.heap.size w w' := by
  go_enter Tryd.func8, Tryd.ntmps8
  go_wp2_with fail
  refine (Text_in k (by omega) (by omega) w hE).mono ?_
  rintro e w1 ⟨rfl, hb1⟩
  have hE1 := hE.on hb1
  rw [show Lib.itoa k = Lib.decDigits k from Lib.itoa_nonneg k]
  have hXs : (⟨(Lib.decDigits k).toArray⟩ : ByteArray).size ≤ 21 := by
    have h := Lib.itoa_length_le k (by omega) (by omega)
    rw [show Lib.itoa k = Lib.decDigits k from Lib.itoa_nonneg k] at h
    exact h
  obtain ⟨X, hX⟩ : ∃ X : ByteArray, X = ⟨(Lib.decDigits k).toArray⟩ := ⟨_, rfl⟩
  rw [← hX] at hXs ⊢
  have HX : Hid (X.data.toList = Lib.decDigits k) := Lib.hid (by rw [hX])
  clear hX
  go_wp2_with fail
  refine (Count_in X most (by omega) w1 hE1).mono ?_
  rw [HX.out, cnt_dec k most (by omega), if_neg (by omega)]
  rintro e w2 ⟨rfl, hb2⟩
  have hE2 := hE1.on hb2
  go_wp2_with fail
  refine (Count_in X (most + more) (by omega) w2 hE2).mono ?_
  rw [HX.out, cnt_dec k (most + more) (by omega), if_pos (by omega)]
  rintro e w3 ⟨rfl, hb3⟩
  have hE3 := hE2.on hb3
  have kc := conv1 w3 32
  have kb : ((⟨#[48, 45, 43, 32]⟩ : ByteArray)[3]'(by decide)) = 32 := by decide +kernel
  have kn : ((32 : UInt8).toNat : Int) = 32 := rfl
  rw [kn] at kc
  go_wp2_with fail
  obtain ⟨z, hz⟩ : ∃ z, cntL ((⟨#[32]⟩ : ByteArray) ++ X).data.toList 1073741824 = (z, false) := by
    refine ⟨(cntL ((⟨#[32]⟩ : ByteArray) ++ X).data.toList 1073741824).1, ?_⟩
    refine Prod.ext rfl ?_
    rw [cat_data8, HX.out]
    exact cnt_lead 32 (by decide) k _
  have hb3' : Below w.heap.size w (w3.alloc (.cells #[.int .u8 32] 5)) := by
    have h3 : Below w.heap.size w w3 := (hb1.trans (hb2.mono hb1.size)).trans (hb3.mono (by have := hb1.size; have := hb2.size; omega))
    exact h3.alloc (by have := h3.size; omega) _
  have hE3' := hE.below hb3' hE.size
  clear kc hb1 hb2 hb3 hE1 hE2 hE3
  generalize (w3.alloc (.cells #[.int .u8 32] 5)) = W3 at hb3' hE3' ⊢
  refine (Count_in _ 1073741824 (by rw [ByteArray.size_append]; show 1 + X.size ≤ _; omega) W3 hE3').mono ?_
  rw [hz]
  clear hz
  rintro e w4 ⟨rfl, hb4⟩
  have hE4 := hE3'.on hb4
  go_wp2_with fail
  refine (known_in w4 hE4).mono ?_
  rintro e w5 ⟨rfl, hb5⟩
  go_wp2_with fail
  refine (Join_in none 0 0 [] X w5 rfl (Nat.le_refl _) Reads.none_ (by omega) (by simp [Lib.join])).mono ?_
  rintro e w6 ⟨rfl, hb6⟩
  rw [show strV (Lib.join [] X.data.toList) = .string ⟨#[]⟩ from rfl]
  go_wp2_with fail
  go_ret
  exact ⟨(by first | rfl | exact (show Ending.returned (.bool (!decide (k ≤ most))) = _ from ret_bool (by simp; omega))), ((hb3'.trans (hb4.mono hb3'.size)).trans (hb5.mono (by have := hb3'.size; have := hb4.size; omega))).trans (hb6.mono (by have := hb3'.size; have := hb4.size; have := hb5.size; omega))⟩

set_option maxHeartbeats 1600000 in
set_option maxRecDepth 100000 in
theorem WordCounts_c0 (k most more : Nat) (lead : Int) (w : World) (hE : Env w) (hk : k ≤ 65535) (hm : most ≤ 65535) (hmo : more ≤ 65535) (hl : lead.tmod 4 = 0) (h1 : most + more < k) :
    Calls Tryd.prog 8 #[.int .u16 k, .int .u16 most, .int .u16 more, .int .u8 lead] w fun e w' => e = .returned (.bool true) ∧ Below w.heap.size w w' := by
  go_enter Tryd.func8, Tryd.ntmps8
  go_wp2_with fail
  refine (Text_in k (by omega) (by omega) w hE).mono ?_
  rintro e w1 ⟨rfl, hb1⟩
  have hE1 := hE.on hb1
  rw [show Lib.itoa k = Lib.decDigits k from Lib.itoa_nonneg k]
  have hXs : (⟨(Lib.decDigits k).toArray⟩ : ByteArray).size ≤ 21 := by
    have h := Lib.itoa_length_le k (by omega) (by omega)
    rw [show Lib.itoa k = Lib.decDigits k from Lib.itoa_nonneg k] at h
    exact h
  obtain ⟨X, hX⟩ : ∃ X : ByteArray, X = ⟨(Lib.decDigits k).toArray⟩ := ⟨_, rfl⟩
  rw [← hX] at hXs ⊢
  have HX : Hid (X.data.toList = Lib.decDigits k) := Lib.hid (by rw [hX])
  clear hX
  go_wp2_with fail
  refine (Count_in X most (by omega) w1 hE1).mono ?_
  rw [HX.out, cnt_dec k most (by omega), if_neg (by omega)]
  rintro e w2 ⟨rfl, hb2⟩
  have hE2 := hE1.on hb2
  go_wp2_with fail
  refine (Count_in X (most + more) (by omega) w2 hE2).mono ?_
  rw [HX.out, cnt_dec k (most + more) (by omega), if_neg (by omega)]
  rintro e w3 ⟨rfl, hb3⟩
  have hE3 := hE2.on hb3
  have kc := conv1 w3 48
  have kb : ((⟨#[48, 45, 43, 32]⟩ : ByteArray)[0]'(by decide)) = 48 := by decide +kernel
  have kn : ((48 : UInt8).toNat : Int) = 48 := rfl
  rw [kn] at kc
  go_wp2_with fail
  obtain ⟨z, hz⟩ : ∃ z, cntL ((⟨#[48]⟩ : ByteArray) ++ X).data.toList 1073741824 = (z, false) := by
    refine ⟨(cntL ((⟨#[48]⟩ : ByteArray) ++ X).data.toList 1073741824).1, ?_⟩
    refine Prod.ext rfl ?_
    rw [cat_data8, HX.out]
    exact cnt_lead 48 (by decide) k _
  have hb3' : Below w.heap.size w (w3.alloc (.cells #[.int .u8 48] 5)) := by
    have h3 : Below w.heap.size w w3 := (hb1.trans (hb2.mono hb1.size)).trans (hb3.mono (by have := hb1.size; have := hb2.size; omega))
    exact h3.alloc (by have := h3.size; omega) _
  have hE3' := hE.below hb3' hE.size
  clear kc hb1 hb2 hb3 hE1 hE2 hE3
  generalize (w3.alloc (.cells #[.int .u8 48] 5)) = W3 at hb3' hE3' ⊢
  refine (Count_in _ 1073741824 (by rw [ByteArray.size_append]; show 1 + X.size ≤ _; omega) W3 hE3').mono ?_
  rw [hz]
  clear hz
  rintro e w4 ⟨rfl, hb4⟩
  have hE4 := hE3'.on hb4
  go_wp2_with fail
  refine (known_in w4 hE4).mono ?_
  rintro e w5 ⟨rfl, hb5⟩
  go_wp2_with fail
  refine (Join_in none 0 0 [] X w5 rfl (Nat.le_refl _) Reads.none_ (by omega) (by simp [Lib.join])).mono ?_
  rintro e w6 ⟨rfl, hb6⟩
  rw [show strV (Lib.join [] X.data.toList) = .string ⟨#[]⟩ from rfl]
  go_wp2_with fail
  go_ret
  exact ⟨(by first | rfl | exact (show Ending.returned (.bool (!decide (k ≤ most))) = _ from ret_bool (by simp; omega))), ((hb3'.trans (hb4.mono hb3'.size)).trans (hb5.mono (by have := hb3'.size; have := hb4.size; omega))).trans (hb6.mono (by have := hb3'.size; have := hb4.size; have := hb5.size; omega))⟩

set_option maxHeartbeats 1600000 in
set_option maxRecDepth 100000 in
theorem WordCounts_c1 (k most more : Nat) (lead : Int) (w : World) (hE : Env w) (hk : k ≤ 65535) (hm : most ≤ 65535) (hmo : more ≤ 65535) (hl : lead.tmod 4 = 1) (h1 : most + more < k) :
    Calls Tryd.prog 8 #[.int .u16 k, .int .u16 most, .int .u16 more, .int .u8 lead] w fun e w' => e = .returned (.bool true) ∧ Below w.heap.size w w' := by
  go_enter Tryd.func8, Tryd.ntmps8
  go_wp2_with fail
  refine (Text_in k (by omega) (by omega) w hE).mono ?_
  rintro e w1 ⟨rfl, hb1⟩
  have hE1 := hE.on hb1
  rw [show Lib.itoa k = Lib.decDigits k from Lib.itoa_nonneg k]
  have hXs : (⟨(Lib.decDigits k).toArray⟩ : ByteArray).size ≤ 21 := by
    have h := Lib.itoa_length_le k (by omega) (by omega)
    rw [show Lib.itoa k = Lib.decDigits k from Lib.itoa_nonneg k] at h
    exact h
  obtain ⟨X, hX⟩ : ∃ X : ByteArray, X = ⟨(Lib.decDigits k).toArray⟩ := ⟨_, rfl⟩
  rw [← hX] at hXs ⊢
  have HX : Hid (X.data.toList = Lib.decDigits k) := Lib.hid (by rw [hX])
  clear hX
  go_wp2_with fail
  refine (Count_in X most (by omega) w1 hE1).mono ?_
  rw [HX.out, cnt_dec k most (by omega), if_neg (by omega)]
  rintro e w2 ⟨rfl, hb2⟩
  have hE2 := hE1.on hb2
  go_wp2_with fail
  refine (Count_in X (most + more) (by omega) w2 hE2).mono ?_
  rw [HX.out, cnt_dec k (most + more) (by omega), if_neg (by omega)]
  rintro e w3 ⟨rfl, hb3⟩
  have hE3 := hE2.on hb3
  have kc := conv1 w3 45
  have kb : ((⟨#[48, 45, 43, 32]⟩ : ByteArray)[1]'(by decide)) = 45 := by decide +kernel
  have kn : ((45 : UInt8).toNat : Int) = 45 := rfl
  rw [kn] at kc
  go_wp2_with fail
  obtain ⟨z, hz⟩ : ∃ z, cntL ((⟨#[45]⟩ : ByteArray) ++ X).data.toList 1073741824 = (z, false) := by
    refine ⟨(cntL ((⟨#[45]⟩ : ByteArray) ++ X).data.toList 1073741824).1, ?_⟩
    refine Prod.ext rfl ?_
    rw [cat_data8, HX.out]
    exact cnt_lead 45 (by decide) k _
  have hb3' : Below w.heap.size w (w3.alloc (.cells #[.int .u8 45] 5)) := by
    have h3 : Below w.heap.size w w3 := (hb1.trans (hb2.mono hb1.size)).trans (hb3.mono (by have := hb1.size; have := hb2.size; omega))
    exact h3.alloc (by have := h3.size; omega) _
  have hE3' := hE.below hb3' hE.size
  clear kc hb1 hb2 hb3 hE1 hE2 hE3
  generalize (w3.alloc (.cells #[.int .u8 45] 5)) = W3 at hb3' hE3' ⊢
  refine (Count_in _ 1073741824 (by rw [ByteArray.size_append]; show 1 + X.size ≤ _; omega) W3 hE3').mono ?_
  rw [hz]
  clear hz
  rintro e w4 ⟨rfl, hb4⟩
  have hE4 := hE3'.on hb4
  go_wp2_with fail
  refine (known_in w4 hE4).mono ?_
  rintro e w5 ⟨rfl, hb5⟩
  go_wp2_with fail
  refine (Join_in none 0 0 [] X w5 rfl (Nat.le_refl _) Reads.none_ (by omega) (by simp [Lib.join])).mono ?_
  rintro e w6 ⟨rfl, hb6⟩
  rw [show strV (Lib.join [] X.data.toList) = .string ⟨#[]⟩ from rfl]
  go_wp2_with fail
  go_ret
  exact ⟨(by first | rfl | exact (show Ending.returned (.bool (!decide (k ≤ most))) = _ from ret_bool (by simp; omega))), ((hb3'.trans (hb4.mono hb3'.size)).trans (hb5.mono (by have := hb3'.size; have := hb4.size; omega))).trans (hb6.mono (by have := hb3'.size; have := hb4.size; have := hb5.size; omega))⟩

set_option maxHeartbeats 1600000 in
set_option maxRecDepth 100000 in
theorem WordCounts_c2 (k most more : Nat) (lead : Int) (w : World) (hE : Env w) (hk : k ≤ 65535) (hm : most ≤ 65535) (hmo : more ≤ 65535) (hl : lead.tmod 4 = 2) (h1 : most + more < k) :
    Calls Tryd.prog 8 #[.int .u16 k, .int .u16 most, .int .u16 more, .int .u8 lead] w fun e w' => e = .returned (.bool true) ∧ Below w.heap.size w w' := by
  go_enter Tryd.func8, Tryd.ntmps8
  go_wp2_with fail
  refine (Text_in k (by omega) (by omega) w hE).mono ?_
  rintro e w1 ⟨rfl, hb1⟩
  have hE1 := hE.on hb1
  rw [show Lib.itoa k = Lib.decDigits k from Lib.itoa_nonneg k]
  have hXs : (⟨(Lib.decDigits k).toArray⟩ : ByteArray).size ≤ 21 := by
    have h := Lib.itoa_length_le k (by omega) (by omega)
    rw [show Lib.itoa k = Lib.decDigits k from Lib.itoa_nonneg k] at h
    exact h
  obtain ⟨X, hX⟩ : ∃ X : ByteArray, X = ⟨(Lib.decDigits k).toArray⟩ := ⟨_, rfl⟩
  rw [← hX] at hXs ⊢
  have HX : Hid (X.data.toList = Lib.decDigits k) := Lib.hid (by rw [hX])
  clear hX
  go_wp2_with fail
  refine (Count_in X most (by omega) w1 hE1).mono ?_
  rw [HX.out, cnt_dec k most (by omega), if_neg (by omega)]
  rintro e w2 ⟨rfl, hb2⟩
  have hE2 := hE1.on hb2
  go_wp2_with fail
  refine (Count_in X (most + more) (by omega) w2 hE2).mono ?_
  rw [HX.out, cnt_dec k (most + more) (by omega), if_neg (by omega)]
  rintro e w3 ⟨rfl, hb3⟩
  have hE3 := hE2.on hb3
  have kc := conv1 w3 43
  have kb : ((⟨#[48, 45, 43, 32]⟩ : ByteArray)[2]'(by decide)) = 43 := by decide +kernel
  have kn : ((43 : UInt8).toNat : Int) = 43 := rfl
  rw [kn] at kc
  go_wp2_with fail
  obtain ⟨z, hz⟩ : ∃ z, cntL ((⟨#[43]⟩ : ByteArray) ++ X).data.toList 1073741824 = (z, false) := by
    refine ⟨(cntL ((⟨#[43]⟩ : ByteArray) ++ X).data.toList 1073741824).1, ?_⟩
    refine Prod.ext rfl ?_
    rw [cat_data8, HX.out]
    exact cnt_lead 43 (by decide) k _
  have hb3' : Below w.heap.size w (w3.alloc (.cells #[.int .u8 43] 5)) := by
    have h3 : Below w.heap.size w w3 := (hb1.trans (hb2.mono hb1.size)).trans (hb3.mono (by have := hb1.size; have := hb2.size; omega))
    exact h3.alloc (by have := h3.size; omega) _
  have hE3' := hE.below hb3' hE.size
  clear kc hb1 hb2 hb3 hE1 hE2 hE3
  generalize (w3.alloc (.cells #[.int .u8 43] 5)) = W3 at hb3' hE3' ⊢
  refine (Count_in _ 1073741824 (by rw [ByteArray.size_append]; show 1 + X.size ≤ _; omega) W3 hE3').mono ?_
  rw [hz]
  clear hz
  rintro e w4 ⟨rfl, hb4⟩
  have hE4 := hE3'.on hb4
  go_wp2_with fail
  refine (known_in w4 hE4).mono ?_
  rintro e w5 ⟨rfl, hb5⟩
  go_wp2_with fail
  refine (Join_in none 0 0 [] X w5 rfl (Nat.le_refl _) Reads.none_ (by omega) (by simp [Lib.join])).mono ?_
  rintro e w6 ⟨rfl, hb6⟩
  rw [show strV (Lib.join [] X.data.toList) = .string ⟨#[]⟩ from rfl]
  go_wp2_with fail
  go_ret
  exact ⟨(by first | rfl | exact (show Ending.returned (.bool (!decide (k ≤ most))) = _ from ret_bool (by simp; omega))), ((hb3'.trans (hb4.mono hb3'.size)).trans (hb5.mono (by have := hb3'.size; have := hb4.size; omega))).trans (hb6.mono (by have := hb3'.size; have := hb4.size; have := hb5.size; omega))⟩

set_option maxHeartbeats 1600000 in
set_option maxRecDepth 100000 in
theorem WordCounts_c3 (k most more : Nat) (lead : Int) (w : World) (hE : Env w) (hk : k ≤ 65535) (hm : most ≤ 65535) (hmo : more ≤ 65535) (hl : lead.tmod 4 = 3) (h1 : most + more < k) :
    Calls Tryd.prog 8 #[.int .u16 k, .int .u16 most, .int .u16 more, .int .u8 lead] w fun e w' => e = .returned (.bool true) ∧ Below w.heap.size w w' := by
  go_enter Tryd.func8, Tryd.ntmps8
  go_wp2_with fail
  refine (Text_in k (by omega) (by omega) w hE).mono ?_
  rintro e w1 ⟨rfl, hb1⟩
  have hE1 := hE.on hb1
  rw [show Lib.itoa k = Lib.decDigits k from Lib.itoa_nonneg k]
  have hXs : (⟨(Lib.decDigits k).toArray⟩ : ByteArray).size ≤ 21 := by
    have h := Lib.itoa_length_le k (by omega) (by omega)
    rw [show Lib.itoa k = Lib.decDigits k from Lib.itoa_nonneg k] at h
    exact h
  obtain ⟨X, hX⟩ : ∃ X : ByteArray, X = ⟨(Lib.decDigits k).toArray⟩ := ⟨_, rfl⟩
  rw [← hX] at hXs ⊢
  have HX : Hid (X.data.toList = Lib.decDigits k) := Lib.hid (by rw [hX])
  clear hX
  go_wp2_with fail
  refine (Count_in X most (by omega) w1 hE1).mono ?_
  rw [HX.out, cnt_dec k most (by omega), if_neg (by omega)]
  rintro e w2 ⟨rfl, hb2⟩
  have hE2 := hE1.on hb2
  go_wp2_with fail
  refine (Count_in X (most + more) (by omega) w2 hE2).mono ?_
  rw [HX.out, cnt_dec k (most + more) (by omega), if_neg (by omega)]
  rintro e w3 ⟨rfl, hb3⟩
  have hE3 := hE2.on hb3
  have kc := conv1 w3 32
  have kb : ((⟨#[48, 45, 43, 32]⟩ : ByteArray)[3]'(by decide)) = 32 := by decide +kernel
  have kn : ((32 : UInt8).toNat : Int) = 32 := rfl
  rw [kn] at kc
  go_wp2_with fail
  obtain ⟨z, hz⟩ : ∃ z, cntL ((⟨#[32]⟩ : ByteArray) ++ X).data.toList 1073741824 = (z, false) := by
    refine ⟨(cntL ((⟨#[32]⟩ : ByteArray) ++ X).data.toList 1073741824).1, ?_⟩
    refine Prod.ext rfl ?_
    rw [cat_data8, HX.out]
    exact cnt_lead 32 (by decide) k _
  have hb3' : Below w.heap.size w (w3.alloc (.cells #[.int .u8 32] 5)) := by
    have h3 : Below w.heap.size w w3 := (hb1.trans (hb2.mono hb1.size)).trans (hb3.mono (by have := hb1.size; have := hb2.size; omega))
    exact h3.alloc (by have := h3.size; omega) _
  have hE3' := hE.below hb3' hE.size
  clear kc hb1 hb2 hb3 hE1 hE2 hE3
  generalize (w3.alloc (.cells #[.int .u8 32] 5)) = W3 at hb3' hE3' ⊢
  refine (Count_in _ 1073741824 (by rw [ByteArray.size_append]; show 1 + X.size ≤ _; omega) W3 hE3').mono ?_
  rw [hz]
  clear hz
  rintro e w4 ⟨rfl, hb4⟩
  have hE4 := hE3'.on hb4
  go_wp2_with fail
  refine (known_in w4 hE4).mono ?_
  rintro e w5 ⟨rfl, hb5⟩
  go_wp2_with fail
  refine (Join_in none 0 0 [] X w5 rfl (Nat.le_refl _) Reads.none_ (by omega) (by simp [Lib.join])).mono ?_
  rintro e w6 ⟨rfl, hb6⟩
  rw [show strV (Lib.join [] X.data.toList) = .string ⟨#[]⟩ from rfl]
  go_wp2_with fail
  go_ret
  exact ⟨(by first | rfl | exact (show Ending.returned (.bool (!decide (k ≤ most))) = _ from ret_bool (by simp; omega))), ((hb3'.trans (hb4.mono hb3'.size)).trans (hb5.mono (by have := hb3'.size; have := hb4.size; omega))).trans (hb6.mono (by have := hb3'.size; have := hb4.size; have := hb5.size; omega))⟩

theorem WordCounts_in (k most more : Nat) (lead : Int) (w : World) (hE : Env w) (hk : k ≤ 65535) (hm : most ≤ 65535) (hmo : more ≤ 65535) (d0 : 0 ≤ lead) (d1 : lead ≤ 255) :
    Calls Tryd.prog 8 #[.int .u16 k, .int .u16 most, .int .u16 more, .int .u8 lead] w fun e w' => e = .returned (.bool true) ∧ Below w.heap.size w w' := by
  have hJ : lead.tmod 4 = 0 ∨ lead.tmod 4 = 1 ∨ lead.tmod 4 = 2 ∨ lead.tmod 4 = 3 := by rw [Int.tmod_eq_emod_of_nonneg d0]; omega
  rcases (show k ≤ most ∨ (most < k ∧ k ≤ most + more) ∨ most + more < k by omega) with h | ⟨h, h2⟩ | h
  · rcases hJ with hJ | hJ | hJ | hJ
    · exact WordCounts_a0 k most more lead w hE hk hm hmo hJ h
    · exact WordCounts_a1 k most more lead w hE hk hm hmo hJ h
    · exact WordCounts_a2 k most more lead w hE hk hm hmo hJ h
    · exact WordCounts_a3 k most more lead w hE hk hm hmo hJ h
  · rcases hJ with hJ | hJ | hJ | hJ
    · exact WordCounts_b0 k most more lead w hE hk hm hmo hJ h h2
    · exact WordCounts_b1 k most more lead w hE hk hm hmo hJ h h2
    · exact WordCounts_b2 k most more lead w hE hk hm hmo hJ h h2
    · exact WordCounts_b3 k most more lead w hE hk hm hmo hJ h h2
  · rcases hJ with hJ | hJ | hJ | hJ
    · exact WordCounts_c0 k most more lead w hE hk hm hmo hJ h
    · exact WordCounts_c1 k most more lead w hE hk hm hmo hJ h
    · exact WordCounts_c2 k most more lead w hE hk hm hmo hJ h
    · exact WordCounts_c3 k most more lead w hE hk hm hmo hJ h
end Go.Proofs.YtodddplpggggeaaDoor
