/- Near (18), asks (17). Conditions: none. -/
import Derived.Test.YtodddplpggggeaaDoorF5
set_option linter.unusedSimpArgs false
set_option linter.unusedVariables false
namespace Go.Proofs.YtodddplpggggeaaDoor
open Go.RowKit Go.Shelf

set_option maxHeartbeats 1600000 in
set_option maxRecDepth 100000 in
theorem asks_in (s : ByteArray) (most : Int) (hsz : s.size ≤ 500) (w : World) (hE : Env w) :
    Calls Tryd.prog 17 #[.string s, .int .i64 most] w fun e w' => e = .returned (.bool true) ∧ Below w.heap.size w w' := by
  have hN := Number_in s (by omega) w hE
  have hRN := fun W => rNumber_in s (by omega) W
  have hC := fun W (h : Env W) => Count_in s most (by omega) W h
  have hRC := fun W => rCount_in s most (by omega) W
  have herr : 0 ≤ (numL s.data.toList).2 ∧ (numL s.data.toList).2 ≤ 11 := by
    unfold numL
    split
    · simp
    · split <;> simp
  generalize numL s.data.toList = N at hN hRN herr
  obtain ⟨nn, ee⟩ := N
  generalize cntL s.data.toList most = C at hC hRC
  obtain ⟨ca, cb⟩ := C
  have HRN := Lib.hid hRN
  have HC := Lib.hid hC
  have HRC := Lib.hid hRC
  clear hRN hC hRC
  have hee0 : 0 ≤ ee := herr.1
  have hee1 : ee ≤ 11 := herr.2
  clear herr
  go_enter Tryd.func17, Tryd.ntmps17
  go_wp2_with fail
  refine hN.mono ?_
  rintro e w1 ⟨rfl, hb1⟩
  clear hN
  have hE1 := hE.on hb1
  go_wp2_with fail
  refine (HRN.out _).mono ?_
  rintro e w2 ⟨rfl, hw2⟩
  obtain rfl := hw2.symm
  go_wp2_with fail
  refine (HC.out _ hE1).mono ?_
  rintro e w3 ⟨rfl, hb3⟩
  have hb3' := hb1.trans (hb3.mono hb1.size)
  have hE3 := hE.on hb3'
  clear hb1 hb3 hE1
  go_wp2_with fail
  refine (HRC.out _).mono ?_
  rintro e w4 ⟨rfl, hw4⟩
  obtain rfl := hw4.symm
  go_wp2_with fail
  refine (Lines_any s (by omega) _).mono ?_
  rintro e w5 ⟨A5, m5, c5, rfl, hm5, hc5, hr5, hb5⟩
  have hb5' := hb3'.trans (hb5.mono hb3'.size)
  have hE5 := hE.on hb5'
  have HM5 := Lib.hid hm5
  clear hb3' hb5 hE3 hm5
  go_wp2_with fail
  refine (rLines_in s (by omega) w5).mono ?_
  rintro e w6 ⟨A6, m6, c6, rfl, hm6, hc6, hr6, hb6⟩
  have hr56 := hr5.below hb6
  have hb6' := hb5'.trans (hb6.mono hb5'.size)
  have hm5l : m5 ≤ 4611686018427387904 := by
    rw [HM5.out]
    have h1 : (linesL s.data.toList).length ≤ (cutL 10 s.data.toList).length := by
      unfold linesL; split
      · rw [List.length_dropLast]; omega
      · exact Nat.le_refl _
    rw [cutL_length] at h1
    have h2 := List.count_le_length (a := (10 : UInt8)) (l := s.data.toList)
    have h3 : s.data.toList.length = s.size := rfl
    omega
  clear hb5' hb6 hE5 hm6 hr5
  go_wp2_with fail
  refine (Same_in A5 A6 m5 c5 m6 c6 _ _ _ _ w6 hr56 hr6 hm5l).mono ?_
  rintro e w7 ⟨rfl, q7, rfl⟩
  rw [show decide (linesL s.data.toList = linesL s.data.toList) = true by simp]
  have hb7 := hb6'.trans ((below_drewN w6 q7).mono hb6'.size)
  have hE7 := hE.on hb7
  generalize w6.drewN q7 = W7 at hb7 hE7 ⊢
  clear hr56 hr6 hm5l
  go_wp2_with fail
  refine (Words_in s (by omega) W7 hE7).mono ?_
  rintro e w8 ⟨A8, m8, c8, rfl, hm8, hc8, hr8, hb8⟩
  have hb8' := hb7.trans (hb8.mono hb7.size)
  have HM8 := Lib.hid hm8
  clear hb7 hb8 hE7 hm8
  go_wp2_with fail
  refine (rWords_in s (by omega) w8).mono ?_
  rintro e w9 ⟨A9, m9, c9, rfl, hm9, hc9, hr9, hb9⟩
  have hr89 := hr8.below hb9
  have hb9' := hb8'.trans (hb9.mono hb8'.size)
  have hm8l : m8 ≤ 4611686018427387904 := by
    rw [HM8.out, cutL_length]
    have h2 := List.count_le_length (a := (32 : UInt8)) (l := s.data.toList)
    have h3 : s.data.toList.length = s.size := rfl
    omega
  clear hb8' hb9 hm9 hr8
  go_wp2_with fail
  refine (Same_in A8 A9 m8 c8 m9 c9 _ _ _ _ w9 hr89 hr9 hm8l).mono ?_
  rintro e w10 ⟨rfl, q10, rfl⟩
  rw [show decide (cutL 32 s.data.toList = cutL 32 s.data.toList) = true by simp]
  have hb10 := hb9'.trans ((below_drewN w9 q10).mono hb9'.size)
  generalize w9.drewN q10 = W10 at hb10 ⊢
  clear hr89 hr9 hm8l
  go_wp2_with fail
  go_ret
  exact ⟨by first | rfl | exact ret_bool (by simp), hb10⟩

theorem near_cells : ∀ J : Fin 14, ∃ Y : ByteArray, (#[Value.string ⟨#[48]⟩, .string ⟨#[49]⟩, .string ⟨#[57]⟩, .string ⟨#[45]⟩, .string ⟨#[49, 50]⟩, .string ⟨#[57, 50, 50, 51, 51, 55, 50, 48, 51, 54, 56, 53, 52, 55, 55, 53, 56, 48]⟩, .string ⟨#[55]⟩, .string ⟨#[56]⟩, .string ⟨#[43]⟩, .string ⟨#[32]⟩, .string ⟨#[10]⟩, .string ⟨#[97]⟩, .string ⟨#[48, 48]⟩, .string ⟨#[]⟩] : Array Value)[J.val]? = some (.string Y) ∧ Y.size ≤ 18
  | ⟨0, _⟩ => ⟨_, rfl, by decide⟩
  | ⟨1, _⟩ => ⟨_, rfl, by decide⟩
  | ⟨2, _⟩ => ⟨_, rfl, by decide⟩
  | ⟨3, _⟩ => ⟨_, rfl, by decide⟩
  | ⟨4, _⟩ => ⟨_, rfl, by decide⟩
  | ⟨5, _⟩ => ⟨_, rfl, by decide⟩
  | ⟨6, _⟩ => ⟨_, rfl, by decide⟩
  | ⟨7, _⟩ => ⟨_, rfl, by decide⟩
  | ⟨8, _⟩ => ⟨_, rfl, by decide⟩
  | ⟨9, _⟩ => ⟨_, rfl, by decide⟩
  | ⟨10, _⟩ => ⟨_, rfl, by decide⟩
  | ⟨11, _⟩ => ⟨_, rfl, by decide⟩
  | ⟨12, _⟩ => ⟨_, rfl, by decide⟩
  | ⟨13, _⟩ => ⟨_, rfl, by decide⟩

set_option maxHeartbeats 1600000 in
set_option maxRecDepth 100000 in
theorem Near_in (A : Option Addr) (n c : Nat) (ys : List Int) (w : World) (hr : Reads w w.heap.size 1 A n (ys.map (fun x : Int => .int .u8 x))) (hy : ∀ x ∈ ys, 0 ≤ x ∧ x ≤ 255) (hn : n ≤ 9223372036854775807) :
    Calls Tryd.prog 18 #[.slice A n c] w fun e w' => ∃ T : ByteArray, e = .returned (.string T) ∧ T.size ≤ 432 ∧ Below w.heap.size w w' := by
  have HY := Lib.hid hy
  clear hy
  go_enter Tryd.func18, Tryd.ntmps18
  go_wp2_with fail
  have kb := Blk.new w 9 #[.string ⟨#[48]⟩, .string ⟨#[49]⟩, .string ⟨#[57]⟩, .string ⟨#[45]⟩, .string ⟨#[49, 50]⟩, .string ⟨#[57, 50, 50, 51, 51, 55, 50, 48, 51, 54, 56, 53, 52, 55, 55, 53, 56, 48]⟩, .string ⟨#[55]⟩, .string ⟨#[56]⟩, .string ⟨#[43]⟩, .string ⟨#[32]⟩, .string ⟨#[10]⟩, .string ⟨#[97]⟩, .string ⟨#[48, 48]⟩, .string ⟨#[]⟩]
  have hr0 := hr.alloc (Nat.le_refl _) (.cells #[.string ⟨#[48]⟩, .string ⟨#[49]⟩, .string ⟨#[57]⟩, .string ⟨#[45]⟩, .string ⟨#[49, 50]⟩, .string ⟨#[57, 50, 50, 51, 51, 55, 50, 48, 51, 54, 56, 53, 52, 55, 55, 53, 56, 48]⟩, .string ⟨#[55]⟩, .string ⟨#[56]⟩, .string ⟨#[43]⟩, .string ⟨#[32]⟩, .string ⟨#[10]⟩, .string ⟨#[97]⟩, .string ⟨#[48, 48]⟩, .string ⟨#[]⟩] 9)
  have hb0 : Below w.heap.size w (w.alloc (.cells #[.string ⟨#[48]⟩, .string ⟨#[49]⟩, .string ⟨#[57]⟩, .string ⟨#[45]⟩, .string ⟨#[49, 50]⟩, .string ⟨#[57, 50, 50, 51, 51, 55, 50, 48, 51, 54, 56, 53, 52, 55, 55, 53, 56, 48]⟩, .string ⟨#[55]⟩, .string ⟨#[56]⟩, .string ⟨#[43]⟩, .string ⟨#[32]⟩, .string ⟨#[10]⟩, .string ⟨#[97]⟩, .string ⟨#[48, 48]⟩, .string ⟨#[]⟩] 9)) := (Below.refl _ w).alloc (Nat.le_refl _) _
  have HK : Hid (∀ J : Nat, J < 14 → ∃ Y : ByteArray, (w.alloc (.cells #[.string ⟨#[48]⟩, .string ⟨#[49]⟩, .string ⟨#[57]⟩, .string ⟨#[45]⟩, .string ⟨#[49, 50]⟩, .string ⟨#[57, 50, 50, 51, 51, 55, 50, 48, 51, 54, 56, 53, 52, 55, 55, 53, 56, 48]⟩, .string ⟨#[55]⟩, .string ⟨#[56]⟩, .string ⟨#[43]⟩, .string ⟨#[32]⟩, .string ⟨#[10]⟩, .string ⟨#[97]⟩, .string ⟨#[48, 48]⟩, .string ⟨#[]⟩] 9)).cell? ⟨w.heap.size, J, none⟩ = some (.string Y) ∧ Y.size ≤ 18) := Lib.hid (fun J hJ => by
    obtain ⟨Y, h1, h2⟩ := near_cells ⟨J, hJ⟩
    exact ⟨Y, (kb.cell J).trans h1, h2⟩)
  clear kb hr
  generalize (w.alloc (.cells #[.string ⟨#[48]⟩, .string ⟨#[49]⟩, .string ⟨#[57]⟩, .string ⟨#[45]⟩, .string ⟨#[49, 50]⟩, .string ⟨#[57, 50, 50, 51, 51, 55, 50, 48, 51, 54, 56, 53, 52, 55, 55, 53, 56, 48]⟩, .string ⟨#[55]⟩, .string ⟨#[56]⟩, .string ⟨#[43]⟩, .string ⟨#[32]⟩, .string ⟨#[10]⟩, .string ⟨#[97]⟩, .string ⟨#[48, 48]⟩, .string ⟨#[]⟩] 9)) = W0 at hr0 hb0 HK ⊢
  go_loopw [4, 5] (fun t i wr => ∃ (k : Nat) (T : ByteArray), k ≤ 24 ∧ k ≤ n ∧ i = .int .i64 k ∧ t = .string T ∧ T.size ≤ 18 * k ∧ ∃ q, wr = W0.drewN q) (fun _ i _ => 24 - (Lib.intOf i).toNat)
  case atStart => exact ⟨0, ⟨#[]⟩, by omega, Nat.zero_le _, rfl, rfl, by decide, 0, rfl⟩
  case round =>
    obtain ⟨k, T, hk, hkn, rfl, rfl, hTs, q, rfl⟩ := hrel
    by_cases hlt : k < n
    · by_cases hl24 : k < 24
      · obtain ⟨b, off, u, rfl, -, hx, hcell⟩ := hr0.at_ hlt
        simp only [List.getElem?_map, Option.map_eq_some_iff] at hx
        obtain ⟨x, hx, rfl⟩ := hx
        have hx2 := HY.out x (List.mem_of_getElem? hx)
        have hx0 := hx2.1
        have hx1 := hx2.2
        obtain ⟨J, hJ, hJx⟩ : ∃ J : Nat, J < 14 ∧ x.tmod 14 = (J : Int) := ⟨(x % 14).toNat, by omega, by rw [Int.tmod_eq_emod_of_nonneg hx0]; omega⟩
        have hJx2 : x % 14 = (J : Int) := by rw [← Int.tmod_eq_emod_of_nonneg hx0]; exact hJx
        obtain ⟨Y, hYc, hYs⟩ := HK.out J hJ
        have hTs2 : T.size ≤ 432 := by omega
        clear hx hx2
        go_wp2
        refine ⟨⟨k + 1, _, by omega, by omega, rfl, rfl, ?_, q, rfl⟩, by simp [Lib.intOf]; omega⟩
        rw [ByteArray.size_append]; omega
      · obtain rfl : k = 24 := by omega
        go_wp2
        go_ret
        exact ⟨T, rfl, by omega, hb0.trans ((below_drewN W0 q).mono hb0.size)⟩
    · go_wp2
      go_ret
      exact ⟨T, rfl, by omega, hb0.trans ((below_drewN W0 q).mono hb0.size)⟩
end Go.Proofs.YtodddplpggggeaaDoor
