/- Near (18), asks (17). Conditions: none. -/
import Derived.Test.YtoagphighgejnaaGreatDoorF5
set_option linter.unusedSimpArgs false
set_option linter.unusedVariables false
namespace Go.Proofs.YtoagphighgejnaaGreatDoor
open Go.RowKit Go.Shelf
theorem near_cells : ∀ J : Fin 14, ∃ Y : ByteArray, (#[Value.string ⟨#[48]⟩, .string ⟨#[49]⟩, .string ⟨#[57]⟩, .string ⟨#[45]⟩, .string ⟨#[49, 50]⟩, .string ⟨#[57, 50, 50, 51, 51, 55, 50, 48, 51, 54, 56, 53, 52, 55, 55, 53, 56, 48]⟩, .string ⟨#[55]⟩, .string ⟨#[56]⟩, .string ⟨#[43]⟩, .string ⟨#[32]⟩, .string ⟨#[10]⟩, .string ⟨#[97]⟩, .string ⟨#[48, 48]⟩, .string ⟨#[]⟩] : Array Value)[J.val]? = some (.string Y) ∧ Y.size ≤ 18
  | ⟨0, _⟩ => ⟨_, rfl, by decide⟩
  | ⟨1, _⟩ => ⟨_, rfl, by decide⟩
  | ⟨2, _⟩ => ⟨_, rfl, by decide⟩
  | ⟨3, _⟩ => ⟨_, rfl, by decide⟩
  | ⟨4, _⟩ => ⟨_, rfl, by decide⟩
  | ⟨5, _⟩ => ⟨_, rfl, by decide⟩
  | ⟨6, _⟩ => ⟨_, rfl, by decide⟩
  | ⟨7, _⟩ => ⟨_, rfl, by decide⟩
  | ⟨8, _⟩ => ⟨_, rfl, by decide⟩
  | ⟨9, _⟩ => ⟨_, rfl, by decide⟩
  | ⟨10, _⟩ => ⟨_, rfl, by decide⟩
  | ⟨11, _⟩ => ⟨_, rfl, by decide⟩
  | ⟨12, _⟩ => ⟨_, rfl, by decide⟩
  | ⟨13, _⟩ => ⟨_, rfl, by decide⟩

set_option maxHeartbeats 1600000 in
set_option maxRecDepth 100000 in
theorem Near_in (A : Option Addr) (n c : Nat) (ys : List Int) (w : World) (hr : Reads w w.heap.size 1 A n (ys.map (fun x : Int => .int .u8 x))) (hy : ∀ x ∈ ys, 0 ≤ x ∧ x ≤ 255) (hn : n ≤ 9223372036854775807) :
    Calls Tryz.prog 14 #[.slice A n c] w fun e w' => ∃ T : ByteArray, e = .returned (.string T) ∧ T.size ≤ 432 ∧ Below w.heap.size w w' := by
  have HY := Lib.hid hy
  clear hy
  go_enter Tryz.func14, Tryz.ntmps14
  go_wp2_with fail
  have kb := Blk.new w 9 #[.string ⟨#[48]⟩, .string ⟨#[49]⟩, .string ⟨#[57]⟩, .string ⟨#[45]⟩, .string ⟨#[49, 50]⟩, .string ⟨#[57, 50, 50, 51, 51, 55, 50, 48, 51, 54, 56, 53, 52, 55, 55, 53, 56, 48]⟩, .string ⟨#[55]⟩, .string ⟨#[56]⟩, .string ⟨#[43]⟩, .string ⟨#[32]⟩, .string ⟨#[10]⟩, .string ⟨#[97]⟩, .string ⟨#[48, 48]⟩, .string ⟨#[]⟩]
  have hr0 := hr.alloc (Nat.le_refl _) (.cells #[.string ⟨#[48]⟩, .string ⟨#[49]⟩, .string ⟨#[57]⟩, .string ⟨#[45]⟩, .string ⟨#[49, 50]⟩, .string ⟨#[57, 50, 50, 51, 51, 55, 50, 48, 51, 54, 56, 53, 52, 55, 55, 53, 56, 48]⟩, .string ⟨#[55]⟩, .string ⟨#[56]⟩, .string ⟨#[43]⟩, .string ⟨#[32]⟩, .string ⟨#[10]⟩, .string ⟨#[97]⟩, .string ⟨#[48, 48]⟩, .string ⟨#[]⟩] 9)
  have hb0 : Below w.heap.size w (w.alloc (.cells #[.string ⟨#[48]⟩, .string ⟨#[49]⟩, .string ⟨#[57]⟩, .string ⟨#[45]⟩, .string ⟨#[49, 50]⟩, .string ⟨#[57, 50, 50, 51, 51, 55, 50, 48, 51, 54, 56, 53, 52, 55, 55, 53, 56, 48]⟩, .string ⟨#[55]⟩, .string ⟨#[56]⟩, .string ⟨#[43]⟩, .string ⟨#[32]⟩, .string ⟨#[10]⟩, .string ⟨#[97]⟩, .string ⟨#[48, 48]⟩, .string ⟨#[]⟩] 9)) := (Below.refl _ w).alloc (Nat.le_refl _) _
  have HK : Hid (∀ J : Nat, J < 14 → ∃ Y : ByteArray, (w.alloc (.cells #[.string ⟨#[48]⟩, .string ⟨#[49]⟩, .string ⟨#[57]⟩, .string ⟨#[45]⟩, .string ⟨#[49, 50]⟩, .string ⟨#[57, 50, 50, 51, 51, 55, 50, 48, 51, 54, 56, 53, 52, 55, 55, 53, 56, 48]⟩, .string ⟨#[55]⟩, .string ⟨#[56]⟩, .string ⟨#[43]⟩, .string ⟨#[32]⟩, .string ⟨#[10]⟩, .string ⟨#[97]⟩, .string ⟨#[48, 48]⟩, .string ⟨#[]⟩] 9)).cell? ⟨w.heap.size, J, none⟩ = some (.string Y) ∧ Y.size ≤ 18) := Lib.hid (fun J hJ => by
    obtain ⟨Y, h1, h2⟩ := near_cells ⟨J, hJ⟩
    exact ⟨Y, (kb.cell J).trans h1, h2⟩)
  clear kb hr
  generalize (w.alloc (.cells #[.string ⟨#[48]⟩, .string ⟨#[49]⟩, .string ⟨#[57]⟩, .string ⟨#[45]⟩, .string ⟨#[49, 50]⟩, .string ⟨#[57, 50, 50, 51, 51, 55, 50, 48, 51, 54, 56, 53, 52, 55, 55, 53, 56, 48]⟩, .string ⟨#[55]⟩, .string ⟨#[56]⟩, .string ⟨#[43]⟩, .string ⟨#[32]⟩, .string ⟨#[10]⟩, .string ⟨#[97]⟩, .string ⟨#[48, 48]⟩, .string ⟨#[]⟩] 9)) = W0 at hr0 hb0 HK ⊢
  go_loopw [4, 5] (fun t i wr => ∃ (k : Nat) (T : ByteArray), k ≤ 24 ∧ k ≤ n ∧ i = .int .i64 k ∧ t = .string T ∧ T.size ≤ 18 * k ∧ ∃ q, wr = W0.drewN q) (fun _ i _ => 24 - (Lib.intOf i).toNat)
  case atStart => exact ⟨0, ⟨#[]⟩, by omega, Nat.zero_le _, rfl, rfl, by decide, 0, rfl⟩
  case round =>
    obtain ⟨k, T, hk, hkn, rfl, rfl, hTs, q, rfl⟩ := hrel
    by_cases hlt : k < n
    · by_cases hl24 : k < 24
      · obtain ⟨b, off, u, rfl, -, hx, hcell⟩ := hr0.at_ hlt
        simp only [List.getElem?_map, Option.map_eq_some_iff] at hx
        obtain ⟨x, hx, rfl⟩ := hx
        have hx2 := HY.out x (List.mem_of_getElem? hx)
        have hx0 := hx2.1
        have hx1 := hx2.2
        obtain ⟨J, hJ, hJx⟩ : ∃ J : Nat, J < 14 ∧ x.tmod 14 = (J : Int) := ⟨(x % 14).toNat, by omega, by rw [Int.tmod_eq_emod_of_nonneg hx0]; omega⟩
        have hJx2 : x % 14 = (J : Int) := by rw [← Int.tmod_eq_emod_of_nonneg hx0]; exact hJx
        obtain ⟨Y, hYc, hYs⟩ := HK.out J hJ
        have hTs2 : T.size ≤ 432 := by omega
        clear hx hx2
        go_wp2
        refine ⟨⟨k + 1, _, by omega, by omega, rfl, rfl, ?_, q, rfl⟩, by simp [Lib.intOf]; omega⟩
        rw [ByteArray.size_append]; omega
      · obtain rfl : k = 24 := by omega
        go_wp2
        go_ret
        exact ⟨T, rfl, by omega, hb0.trans ((below_drewN W0 q).mono hb0.size)⟩
    · go_wp2
      go_ret
      exact ⟨T, rfl, by omega, hb0.trans ((below_drewN W0 q).mono hb0.size)⟩

end Go.Proofs.YtoagphighgejnaaGreatDoor
