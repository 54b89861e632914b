/- Long (10), Source (8). Conditions: none. -/
import Derived.Test.YtpfbgoogajgciaaGreatDoorQ9
import Derived.Test.YtpfbgoogajgciaaGreatDoorN7
set_option linter.unusedSimpArgs false
set_option linter.unusedVariables false
namespace Go.Proofs.YtpfbgoogajgciaaGreatDoor
open Go.RowKit Go.Shelf

set_option maxHeartbeats 1600000 in
theorem Long_in (k : Int) (A1 A2 A3 A4 : Option Addr) (n1 n2 n3 n4 c1 c2 c3 c4 : Nat) (w : World) (h1 : n1 ≤ 1000000000000000) (h2 : n2 ≤ 1000000000000000) (h3 : n3 ≤ 1000000000000000) (h4 : n4 ≤ 1000000000000000) :
    Calls Tryz.prog 10 #[.agg #[.int .i64 k, .slice A1 n1 c1, .slice A2 n2 c2, .slice A3 n3 c3, .slice A4 n4 c4]] w fun e w' => e = .returned (.int .i64 ((n1 : Int) + n2 + n3 + n4)) ∧ Below w.heap.size w w' := by
  obtain ⟨⟨q0, q1, q2, q3, q4⟩, -⟩ := (Blk.new w 32 #[.int .i64 k, .slice A1 n1 c1, .slice A2 n2 c2, .slice A3 n3 c3, .slice A4 n4 c4]).five
  have hb0 : Below w.heap.size w (w.alloc (.cells #[.int .i64 k, .slice A1 n1 c1, .slice A2 n2 c2, .slice A3 n3 c3, .slice A4 n4 c4] 32)) := (Below.refl _ w).alloc (Nat.le_refl _) _
  go_enter Tryz.func10, Tryz.ntmps10
  go_wp2_with fail
  go_ret
  exact ⟨rfl, hb0⟩

theorem src_cells : ∀ J : Fin 17, ∃ Y : ByteArray, (#[Value.string ⟨#[98, 101, 115, 116]⟩, Value.string ⟨#[99, 117, 116]⟩, Value.string ⟨#[114, 97, 121]⟩, Value.string ⟨#[102, 108, 111, 119, 32, 49, 32, 50]⟩, Value.string ⟨#[112, 111, 116, 32, 48, 32, 45, 51]⟩, Value.string ⟨#[115, 105, 100, 101, 32, 49, 32, 48, 32, 49]⟩, Value.string ⟨#[99, 121, 99, 108, 101, 32, 50, 32, 48]⟩, Value.string ⟨#[102, 108, 111, 119]⟩, Value.string ⟨#[115, 105, 100, 101]⟩, Value.string ⟨#[99, 121, 99, 108, 101, 32, 45, 49]⟩, Value.string ⟨#[112, 111, 116, 32, 57, 50, 50, 51, 51, 55, 50, 48, 51, 54, 56, 53, 52, 55, 55, 53, 56, 48, 56]⟩, Value.string ⟨#[115, 105, 100, 101, 32, 50]⟩, Value.string ⟨#[102, 108, 111, 119, 32, 48, 49]⟩, Value.string ⟨#[102, 108, 111, 119, 32, 32, 49]⟩, Value.string ⟨#[]⟩, Value.string ⟨#[98, 101, 115, 116, 32]⟩, Value.string ⟨#[99, 121, 99, 108, 101, 32, 57, 50, 50, 51, 51, 55, 50, 48, 51, 54, 56, 53, 52, 55, 55, 53, 56, 48, 55]⟩] : Array Value)[J.val]? = some (.string Y) ∧ Y.size ≤ 25
  | ⟨0, _⟩ => ⟨_, rfl, by decide⟩
  | ⟨1, _⟩ => ⟨_, rfl, by decide⟩
  | ⟨2, _⟩ => ⟨_, rfl, by decide⟩
  | ⟨3, _⟩ => ⟨_, rfl, by decide⟩
  | ⟨4, _⟩ => ⟨_, rfl, by decide⟩
  | ⟨5, _⟩ => ⟨_, rfl, by decide⟩
  | ⟨6, _⟩ => ⟨_, rfl, by decide⟩
  | ⟨7, _⟩ => ⟨_, rfl, by decide⟩
  | ⟨8, _⟩ => ⟨_, rfl, by decide⟩
  | ⟨9, _⟩ => ⟨_, rfl, by decide⟩
  | ⟨10, _⟩ => ⟨_, rfl, by decide⟩
  | ⟨11, _⟩ => ⟨_, rfl, by decide⟩
  | ⟨12, _⟩ => ⟨_, rfl, by decide⟩
  | ⟨13, _⟩ => ⟨_, rfl, by decide⟩
  | ⟨14, _⟩ => ⟨_, rfl, by decide⟩
  | ⟨15, _⟩ => ⟨_, rfl, by decide⟩
  | ⟨16, _⟩ => ⟨_, rfl, by decide⟩
  | ⟨j + 17, h⟩ => absurd h (by omega)

set_option maxHeartbeats 1600000 in
set_option maxRecDepth 100000 in
theorem Source_in (A : Option Addr) (n c : Nat) (ys : List Int) (w : World) (hr : Reads w w.heap.size 1 A n (ys.map (fun x : Int => .int .u8 x))) (hy : ∀ x ∈ ys, 0 ≤ x ∧ x ≤ 255) (hn : n ≤ 9223372036854775807) :
    Calls Tryz.prog 8 #[.slice A n c] w fun e w' => ∃ T : ByteArray, e = .returned (.string T) ∧ T.size ≤ 130 ∧ Below w.heap.size w w' := by
  have HY := Lib.hid hy
  clear hy
  go_enter Tryz.func8, Tryz.ntmps8
  go_wp2_with fail
  have kb := Blk.new w 9 #[.string ⟨#[98, 101, 115, 116]⟩, .string ⟨#[99, 117, 116]⟩, .string ⟨#[114, 97, 121]⟩, .string ⟨#[102, 108, 111, 119, 32, 49, 32, 50]⟩, .string ⟨#[112, 111, 116, 32, 48, 32, 45, 51]⟩, .string ⟨#[115, 105, 100, 101, 32, 49, 32, 48, 32, 49]⟩, .string ⟨#[99, 121, 99, 108, 101, 32, 50, 32, 48]⟩, .string ⟨#[102, 108, 111, 119]⟩, .string ⟨#[115, 105, 100, 101]⟩, .string ⟨#[99, 121, 99, 108, 101, 32, 45, 49]⟩, .string ⟨#[112, 111, 116, 32, 57, 50, 50, 51, 51, 55, 50, 48, 51, 54, 56, 53, 52, 55, 55, 53, 56, 48, 56]⟩, .string ⟨#[115, 105, 100, 101, 32, 50]⟩, .string ⟨#[102, 108, 111, 119, 32, 48, 49]⟩, .string ⟨#[102, 108, 111, 119, 32, 32, 49]⟩, .string ⟨#[]⟩, .string ⟨#[98, 101, 115, 116, 32]⟩, .string ⟨#[99, 121, 99, 108, 101, 32, 57, 50, 50, 51, 51, 55, 50, 48, 51, 54, 56, 53, 52, 55, 55, 53, 56, 48, 55]⟩]
  have hr0 := hr.alloc (Nat.le_refl _) (.cells #[.string ⟨#[98, 101, 115, 116]⟩, .string ⟨#[99, 117, 116]⟩, .string ⟨#[114, 97, 121]⟩, .string ⟨#[102, 108, 111, 119, 32, 49, 32, 50]⟩, .string ⟨#[112, 111, 116, 32, 48, 32, 45, 51]⟩, .string ⟨#[115, 105, 100, 101, 32, 49, 32, 48, 32, 49]⟩, .string ⟨#[99, 121, 99, 108, 101, 32, 50, 32, 48]⟩, .string ⟨#[102, 108, 111, 119]⟩, .string ⟨#[115, 105, 100, 101]⟩, .string ⟨#[99, 121, 99, 108, 101, 32, 45, 49]⟩, .string ⟨#[112, 111, 116, 32, 57, 50, 50, 51, 51, 55, 50, 48, 51, 54, 56, 53, 52, 55, 55, 53, 56, 48, 56]⟩, .string ⟨#[115, 105, 100, 101, 32, 50]⟩, .string ⟨#[102, 108, 111, 119, 32, 48, 49]⟩, .string ⟨#[102, 108, 111, 119, 32, 32, 49]⟩, .string ⟨#[]⟩, .string ⟨#[98, 101, 115, 116, 32]⟩, .string ⟨#[99, 121, 99, 108, 101, 32, 57, 50, 50, 51, 51, 55, 50, 48, 51, 54, 56, 53, 52, 55, 55, 53, 56, 48, 55]⟩] 9)
  have hb0 : Below w.heap.size w (w.alloc (.cells #[.string ⟨#[98, 101, 115, 116]⟩, .string ⟨#[99, 117, 116]⟩, .string ⟨#[114, 97, 121]⟩, .string ⟨#[102, 108, 111, 119, 32, 49, 32, 50]⟩, .string ⟨#[112, 111, 116, 32, 48, 32, 45, 51]⟩, .string ⟨#[115, 105, 100, 101, 32, 49, 32, 48, 32, 49]⟩, .string ⟨#[99, 121, 99, 108, 101, 32, 50, 32, 48]⟩, .string ⟨#[102, 108, 111, 119]⟩, .string ⟨#[115, 105, 100, 101]⟩, .string ⟨#[99, 121, 99, 108, 101, 32, 45, 49]⟩, .string ⟨#[112, 111, 116, 32, 57, 50, 50, 51, 51, 55, 50, 48, 51, 54, 56, 53, 52, 55, 55, 53, 56, 48, 56]⟩, .string ⟨#[115, 105, 100, 101, 32, 50]⟩, .string ⟨#[102, 108, 111, 119, 32, 48, 49]⟩, .string ⟨#[102, 108, 111, 119, 32, 32, 49]⟩, .string ⟨#[]⟩, .string ⟨#[98, 101, 115, 116, 32]⟩, .string ⟨#[99, 121, 99, 108, 101, 32, 57, 50, 50, 51, 51, 55, 50, 48, 51, 54, 56, 53, 52, 55, 55, 53, 56, 48, 55]⟩] 9)) := (Below.refl _ w).alloc (Nat.le_refl _) _
  have HK : Hid (∀ J : Nat, J < 17 → ∃ Y : ByteArray, (w.alloc (.cells #[.string ⟨#[98, 101, 115, 116]⟩, .string ⟨#[99, 117, 116]⟩, .string ⟨#[114, 97, 121]⟩, .string ⟨#[102, 108, 111, 119, 32, 49, 32, 50]⟩, .string ⟨#[112, 111, 116, 32, 48, 32, 45, 51]⟩, .string ⟨#[115, 105, 100, 101, 32, 49, 32, 48, 32, 49]⟩, .string ⟨#[99, 121, 99, 108, 101, 32, 50, 32, 48]⟩, .string ⟨#[102, 108, 111, 119]⟩, .string ⟨#[115, 105, 100, 101]⟩, .string ⟨#[99, 121, 99, 108, 101, 32, 45, 49]⟩, .string ⟨#[112, 111, 116, 32, 57, 50, 50, 51, 51, 55, 50, 48, 51, 54, 56, 53, 52, 55, 55, 53, 56, 48, 56]⟩, .string ⟨#[115, 105, 100, 101, 32, 50]⟩, .string ⟨#[102, 108, 111, 119, 32, 48, 49]⟩, .string ⟨#[102, 108, 111, 119, 32, 32, 49]⟩, .string ⟨#[]⟩, .string ⟨#[98, 101, 115, 116, 32]⟩, .string ⟨#[99, 121, 99, 108, 101, 32, 57, 50, 50, 51, 51, 55, 50, 48, 51, 54, 56, 53, 52, 55, 55, 53, 56, 48, 55]⟩] 9)).cell? ⟨w.heap.size, J, none⟩ = some (.string Y) ∧ Y.size ≤ 25) := Lib.hid (fun J hJ => by
    obtain ⟨Y, h1, h2⟩ := src_cells ⟨J, hJ⟩
    exact ⟨Y, (kb.cell J).trans h1, h2⟩)
  clear kb hr
  generalize (w.alloc (.cells #[.string ⟨#[98, 101, 115, 116]⟩, .string ⟨#[99, 117, 116]⟩, .string ⟨#[114, 97, 121]⟩, .string ⟨#[102, 108, 111, 119, 32, 49, 32, 50]⟩, .string ⟨#[112, 111, 116, 32, 48, 32, 45, 51]⟩, .string ⟨#[115, 105, 100, 101, 32, 49, 32, 48, 32, 49]⟩, .string ⟨#[99, 121, 99, 108, 101, 32, 50, 32, 48]⟩, .string ⟨#[102, 108, 111, 119]⟩, .string ⟨#[115, 105, 100, 101]⟩, .string ⟨#[99, 121, 99, 108, 101, 32, 45, 49]⟩, .string ⟨#[112, 111, 116, 32, 57, 50, 50, 51, 51, 55, 50, 48, 51, 54, 56, 53, 52, 55, 55, 53, 56, 48, 56]⟩, .string ⟨#[115, 105, 100, 101, 32, 50]⟩, .string ⟨#[102, 108, 111, 119, 32, 48, 49]⟩, .string ⟨#[102, 108, 111, 119, 32, 32, 49]⟩, .string ⟨#[]⟩, .string ⟨#[98, 101, 115, 116, 32]⟩, .string ⟨#[99, 121, 99, 108, 101, 32, 57, 50, 50, 51, 51, 55, 50, 48, 51, 54, 56, 53, 52, 55, 55, 53, 56, 48, 55]⟩] 9)) = W0 at hr0 hb0 HK ⊢
  go_loopw [4, 5] (fun t i wr => ∃ (k : Nat) (T : ByteArray), k ≤ 5 ∧ k ≤ n ∧ i = .int .i64 k ∧ t = .string T ∧ T.size ≤ 26 * k ∧ ∃ q, wr = W0.drewN q) (fun _ i _ => 5 - (Lib.intOf i).toNat)
  case atStart => exact ⟨0, ⟨#[]⟩, by omega, Nat.zero_le _, rfl, rfl, by decide, 0, rfl⟩
  case round =>
    obtain ⟨k, T, hk, hkn, rfl, rfl, hTs, q, rfl⟩ := hrel
    by_cases hlt : k < n
    · by_cases hl24 : k < 5
      · obtain ⟨b, off, u, rfl, -, hx, hcell⟩ := hr0.at_ hlt
        simp only [List.getElem?_map, Option.map_eq_some_iff] at hx
        obtain ⟨x, hx, rfl⟩ := hx
        have hx2 := HY.out x (List.mem_of_getElem? hx)
        have hx0 := hx2.1
        have hx1 := hx2.2
        obtain ⟨J, hJ, hJx⟩ : ∃ J : Nat, J < 17 ∧ x.tmod 17 = (J : Int) := ⟨(x % 17).toNat, by omega, by rw [Int.tmod_eq_emod_of_nonneg hx0]; omega⟩
        have hJx2 : x % 17 = (J : Int) := by rw [← Int.tmod_eq_emod_of_nonneg hx0]; exact hJx
        obtain ⟨Y, hYc, hYs⟩ := HK.out J hJ
        have hTs2 : T.size ≤ 130 := by omega
        clear hx hx2
        go_wp2
        refine ⟨⟨k + 1, _, by omega, by omega, rfl, rfl, ?_, q, rfl⟩, by simp [Lib.intOf]; omega⟩
        have h1 : (⟨#[10]⟩ : ByteArray).size = 1 := rfl
        simp only [ByteArray.size_append]; omega
      · obtain rfl : k = 5 := by omega
        go_wp2
        go_ret
        exact ⟨T, rfl, by omega, hb0.trans ((below_drewN W0 q).mono hb0.size)⟩
    · go_wp2
      go_ret
      exact ⟨T, rfl, by omega, hb0.trans ((below_drewN W0 q).mono hb0.size)⟩

end Go.Proofs.YtpfbgoogajgciaaGreatDoor
