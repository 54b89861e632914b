/- Words (15), Join (16), Same (14). Conditions: none. -/
import Derived.Test.YtoagphighgejnaaDoorM
set_option linter.unusedSimpArgs false
set_option linter.unusedVariables false
namespace Go.Proofs.YtoagphighgejnaaDoor
open Go.RowKit Go.Shelf

/-- A text as a value. -/
def strV (l : List UInt8) : Value := .string ⟨l.toArray⟩
theorem strV_data (x : ByteArray) : strV x.data.toList = .string x := by cases x; rfl
theorem strV_inj {a b : List UInt8} (h : strV a = strV b) : a = b := by
  unfold strV at h
  injection h with h
  injection h with h
  have := congrArg Array.toList h
  simpa using this

theorem map_strV (xs : List ByteArray) : xs.map Value.string = (xs.map (·.data.toList)).map strV := by
  rw [List.map_map]
  refine List.map_congr_left fun x _ => ?_
  exact (strV_data x).symm

theorem Words_in (s : ByteArray) (hs : s.size < 4294967281) (w : World) (hE : Env w) :
    Calls Tryd.prog 16 #[.string s] w fun e w' => ∃ A n c, e = .returned (.slice A n c) ∧ n = (cutL 32 s.data.toList).length ∧ n ≤ c ∧ Reads w' w'.heap.size 1 A n ((cutL 32 s.data.toList).map strV) ∧ Below w.heap.size w w' := by
  obtain ⟨m, hm⟩ := hE.max
  obtain ⟨L, hL⟩ : ∃ L, cutL 32 s.data.toList = L := ⟨_, rfl⟩
  rw [hL]
  have HL := Lib.hid hL
  clear hL
  go_enter Tryd.func16, Tryd.ntmps16
  go_wp2_with fail
  refine (Tryd.strings_Split s ⟨#[32]⟩ m w hs hm (by decide)).mono ?_
  rintro e w' ⟨rfl, rfl⟩
  have hcut : (Lib.splitB ⟨#[32]⟩ 0 (Lib.countB s ⟨#[32]⟩) s).map (·.data.toList) = L := by
    rw [Lib.splitB_data, ← HL.out]
    exact split_cut 32 s.data.toList.length s.data.toList (Nat.le_refl _)
  have hlen : (Lib.splitB ⟨#[32]⟩ 0 (Lib.countB s ⟨#[32]⟩) s).length = Lib.countB s ⟨#[32]⟩ + 1 := Lib.splitB_all ⟨#[32]⟩ (by decide) 0 _ s rfl
  rw [map_strV, hcut]
  have hlen2 : L.length = Lib.countB s ⟨#[32]⟩ + 1 := by rw [← hlen, ← hcut, List.length_map]
  rw [← hlen2]
  have HB := Lib.hid (Blk.new w 9 (L.map strV).toArray)
  clear hcut hlen hlen2 hm
  go_wp2_with fail
  go_ret
  refine ⟨_, _, _, rfl, rfl, Nat.le_refl _, ⟨by simp, fun hn => ⟨w.heap.size, 0, rfl, by simp, fun j u hu => ?_⟩⟩, (Below.refl _ w).alloc (Nat.le_refl _) _⟩
  rw [HB.out.cell]
  rw [List.getElem?_toArray, Nat.zero_add]
  exact hu

end Go.Proofs.YtoagphighgejnaaDoor
