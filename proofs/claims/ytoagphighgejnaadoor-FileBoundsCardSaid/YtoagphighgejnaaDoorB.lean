/- Number (12), Count (21). Conditions: none. -/
import Derived.Test.YtoagphighgejnaaDoorPN
set_option linter.unusedSimpArgs false
set_option linter.unusedVariables false
namespace Go.Proofs.YtoagphighgejnaaDoor
open Go.RowKit Go.Shelf


theorem numL_no {l : List UInt8} (h : formL l = false) : numL l = (0, 10) := by unfold numL; rw [if_pos h]
theorem numL_ok {l : List UInt8} (h : formL l = true) (h1 : -9223372036854775808 ≤ valL l ∧ valL l ≤ 9223372036854775807) : numL l = (valL l, 0) := by
  unfold numL; rw [if_neg (by simp [h]), if_pos h1]
theorem numL_big {l : List UInt8} (h : formL l = true) (h1 : ¬ (-9223372036854775808 ≤ valL l ∧ valL l ≤ 9223372036854775807)) : numL l = (0, 11) := by
  unfold numL; rw [if_neg (by simp [h]), if_neg h1]

set_option maxHeartbeats 1600000 in
theorem Number_in (s : ByteArray) (hlim : s.size ≤ 281474976710656) (w : World) (hE : Env w) :
    Calls Tryd.prog 45 #[.string s] w fun e w' => e = .returned (.tuple #[.int .i64 (numL s.data.toList).1, .int .u16 (numL s.data.toList).2]) ∧ Below w.heap.size w w' := by
  by_cases hf : formL s.data.toList = true
  · by_cases hr : -9223372036854775808 ≤ valL s.data.toList ∧ valL s.data.toList ≤ 9223372036854775807
    · have hp : Lib.parseIntB 64 s.data.toList = .ok (valL s.data.toList) := by rw [parse_form hf, if_pos hr]
      have HN := Lib.hid (numL_ok hf hr)
      go_enter Tryd.func45, Tryd.ntmps45
      go_wp2_with fail
      refine (formed_in s w).mono ?_
      rintro e w1 ⟨rfl, hb1⟩
      rw [hf]
      have HP := Lib.hid hp
      clear hf hr hp
      go_wp2_with fail
      refine (Tryd.strconv_ParseInt_10_at64_ok s (by omega) _ HP.out w1).mono ?_
      rintro e w2 ⟨rfl, h2⟩
      have hb2 : Below w1.heap.size w1 w2 := by
        rcases h2 with rfl | ⟨t, rfl⟩
        · exact Below.refl _ _
        · exact Lib.bytesWorld_below w1 5 t
      clear h2
      go_wp2_with fail
      refine bodyPost_ret (v := .tuple #[.int .i64 (numL s.data.toList).1, .int .u16 (numL s.data.toList).2]) ?_ rfl ⟨rfl, hb1.trans (hb2.mono hb1.size)⟩
      rw [HN.out]
      simp [results, Tryd.results45, go_sem]
    · have hp : Lib.parseIntB 64 s.data.toList = .range := by rw [parse_form hf, if_neg hr]
      have HN := Lib.hid (numL_big hf hr)
      obtain ⟨tp, p, hvar⟩ := hE.err
      go_enter Tryd.func45, Tryd.ntmps45
      go_wp2_with fail
      refine (formed_in s w).mono ?_
      rintro e w1 ⟨rfl, hb1⟩
      rw [hf]
      have HP := Lib.hid hp
      have HV := Lib.hid (var?_below hb1 gErr (by have := hE.size; omega) hvar)
      clear hf hr hp hvar
      go_wp2_with fail
      refine (Tryd.strconv_ParseInt_10_at64_range_var s hlim HP.out tp p w1 HV.out).mono ?_
      rintro e w2 ⟨N, rfl, _, _, hb2⟩
      go_wp2_with fail
      refine bodyPost_ret (v := .tuple #[.int .i64 (numL s.data.toList).1, .int .u16 (numL s.data.toList).2]) ?_ rfl ⟨rfl, hb1.trans (hb2.mono hb1.size)⟩
      rw [HN.out]
      simp [results, Tryd.results45, go_sem]
  · have hf' : formL s.data.toList = false := by simpa using hf
    have HN := Lib.hid (numL_no hf')
    go_enter Tryd.func45, Tryd.ntmps45
    go_wp2_with fail
    refine (formed_in s w).mono ?_
    rintro e w1 ⟨rfl, hb1⟩
    rw [hf']
    clear hf hf'
    go_wp2_with fail
    refine bodyPost_ret (v := .tuple #[.int .i64 (numL s.data.toList).1, .int .u16 (numL s.data.toList).2]) ?_ rfl ⟨rfl, hb1⟩
    rw [HN.out]
    simp [results, Tryd.results45, go_sem]

end Go.Proofs.YtoagphighgejnaaDoor
