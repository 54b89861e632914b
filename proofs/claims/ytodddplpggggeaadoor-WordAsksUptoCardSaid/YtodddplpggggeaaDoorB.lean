/- Number (12), Count (21). Conditions: none. -/
import Derived.Test.YtodddplpggggeaaDoorPN
set_option linter.unusedSimpArgs false
set_option linter.unusedVariables false
namespace Go.Proofs.YtodddplpggggeaaDoor
open Go.RowKit Go.Shelf

theorem numL_no {l : List UInt8} (h : formL l = false) : numL l = (0, 10) := by unfold numL; rw [if_pos h]
theorem numL_ok {l : List UInt8} (h : formL l = true) (h1 : -9223372036854775808 ≤ valL l ∧ valL l ≤ 9223372036854775807) : numL l = (valL l, 0) := by
  unfold numL; rw [if_neg (by simp [h]), if_pos h1]
theorem numL_big {l : List UInt8} (h : formL l = true) (h1 : ¬ (-9223372036854775808 ≤ valL l ∧ valL l ≤ 9223372036854775807)) : numL l = (0, 11) := by
  unfold numL; rw [if_neg (by simp [h]), if_neg h1]

set_option maxHeartbeats 1600000 in
theorem Number_in (s : ByteArray) (hlim : s.size ≤ 281474976710656) (w : World) (hE : Env w) :
    Calls Tryd.prog 12 #[.string s] w fun e w' => e = .returned (.tuple #[.int .i64 (numL s.data.toList).1, .int .u16 (numL s.data.toList).2]) ∧ Below w.heap.size w w' := by
  by_cases hf : formL s.data.toList = true
  · by_cases hr : -9223372036854775808 ≤ valL s.data.toList ∧ valL s.data.toList ≤ 9223372036854775807
    · have hp : Lib.parseIntB 64 s.data.toList = .ok (valL s.data.toList) := by rw [parse_form hf, if_pos hr]
      have HN := Lib.hid (numL_ok hf hr)
      go_enter Tryd.func12, Tryd.ntmps12
      go_wp2_with fail
      refine (formed_in s w).mono ?_
      rintro e w1 ⟨rfl, hb1⟩
      rw [hf]
      have HP := Lib.hid hp
      clear hf hr hp
      go_wp2_with fail
      refine (Tryd.strconv_ParseInt_10_at64_ok s (by omega) _ HP.out w1).mono ?_
      rintro e w2 ⟨rfl, h2⟩
      have hb2 : Below w1.heap.size w1 w2 := by
        rcases h2 with rfl | ⟨t, rfl⟩
        · exact Below.refl _ _
        · exact Lib.bytesWorld_below w1 5 t
      clear h2
      go_wp2_with fail
      refine bodyPost_ret (v := .tuple #[.int .i64 (numL s.data.toList).1, .int .u16 (numL s.data.toList).2]) ?_ rfl ⟨rfl, hb1.trans (hb2.mono hb1.size)⟩
      rw [HN.out]
      simp [results, Tryd.results12, go_sem]
    · have hp : Lib.parseIntB 64 s.data.toList = .range := by rw [parse_form hf, if_neg hr]
      have HN := Lib.hid (numL_big hf hr)
      obtain ⟨tp, p, hvar⟩ := hE.err
      go_enter Tryd.func12, Tryd.ntmps12
      go_wp2_with fail
      refine (formed_in s w).mono ?_
      rintro e w1 ⟨rfl, hb1⟩
      rw [hf]
      have HP := Lib.hid hp
      have HV := Lib.hid (var?_below hb1 gErr (by have := hE.size; omega) hvar)
      clear hf hr hp hvar
      go_wp2_with fail
      refine (Tryd.strconv_ParseInt_10_at64_range_var s hlim HP.out tp p w1 HV.out).mono ?_
      rintro e w2 ⟨N, rfl, _, _, hb2⟩
      go_wp2_with fail
      refine bodyPost_ret (v := .tuple #[.int .i64 (numL s.data.toList).1, .int .u16 (numL s.data.toList).2]) ?_ rfl ⟨rfl, hb1.trans (hb2.mono hb1.size)⟩
      rw [HN.out]
      simp [results, Tryd.results12, go_sem]
  · have hf' : formL s.data.toList = false := by simpa using hf
    have HN := Lib.hid (numL_no hf')
    go_enter Tryd.func12, Tryd.ntmps12
    go_wp2_with fail
    refine (formed_in s w).mono ?_
    rintro e w1 ⟨rfl, hb1⟩
    rw [hf']
    clear hf hf'
    go_wp2_with fail
    refine bodyPost_ret (v := .tuple #[.int .i64 (numL s.data.toList).1, .int .u16 (numL s.data.toList).2]) ?_ rfl ⟨rfl, hb1⟩
    rw [HN.out]
    simp [results, Tryd.results12, go_sem]

/-- What Count tells. -/
def cntL (l : List UInt8) (most : Int) : Int × Bool :=
  if (numL l).2 ≠ 0 ∨ (numL l).1 < 0 ∨ most < (numL l).1 then (0, false) else ((numL l).1, true)

theorem cntL_no {l : List UInt8} {most : Int} (h : (numL l).2 ≠ 0 ∨ (numL l).1 < 0 ∨ most < (numL l).1) : cntL l most = (0, false) := by unfold cntL; rw [if_pos h]
theorem cntL_yes {l : List UInt8} {most : Int} (h : ¬ ((numL l).2 ≠ 0 ∨ (numL l).1 < 0 ∨ most < (numL l).1)) : cntL l most = ((numL l).1, true) := by unfold cntL; rw [if_neg h]

set_option maxHeartbeats 1600000 in
theorem Count_in (s : ByteArray) (most : Int) (hlim : s.size ≤ 281474976710656) (w : World) (hE : Env w) :
    Calls Tryd.prog 21 #[.string s, .int .i64 most] w fun e w' => e = .returned (.tuple #[.int .i64 (cntL s.data.toList most).1, .bool (cntL s.data.toList most).2]) ∧ Below w.heap.size w w' := by
  have hN := Number_in s hlim w hE
  have HC : Hid (cntL s.data.toList most = if (numL s.data.toList).2 ≠ 0 ∨ (numL s.data.toList).1 < 0 ∨ most < (numL s.data.toList).1 then (0, false) else ((numL s.data.toList).1, true)) := Lib.hid rfl
  generalize cntL s.data.toList most = c at HC ⊢
  generalize numL s.data.toList = q at hN HC
  obtain ⟨n, er⟩ := q
  simp only at hN HC
  by_cases h1 : er = 0
  · by_cases h2 : n < 0
    · obtain rfl : c = (0, false) := by rw [HC.out, if_pos (.inr (.inl h2))]
      go_enter Tryd.func21, Tryd.ntmps21
      go_wp2_with fail
      refine hN.mono ?_
      rintro e w1 ⟨rfl, hb1⟩
      go_wp2_with fail
      exact bodyPost_ret (v := .tuple #[.int .i64 0, .bool false]) (by simp [results, Tryd.results21, go_sem]) rfl ⟨rfl, hb1⟩
    · by_cases h3 : most < n
      · obtain rfl : c = (0, false) := by rw [HC.out, if_pos (.inr (.inr h3))]
        go_enter Tryd.func21, Tryd.ntmps21
        go_wp2_with fail
        refine hN.mono ?_
        rintro e w1 ⟨rfl, hb1⟩
        go_wp2_with fail
        exact bodyPost_ret (v := .tuple #[.int .i64 0, .bool false]) (by simp [results, Tryd.results21, go_sem]) rfl ⟨rfl, hb1⟩
      · obtain rfl : c = (n, true) := by rw [HC.out, if_neg (by simp [h1, h2, h3])]
        go_enter Tryd.func21, Tryd.ntmps21
        go_wp2_with fail
        refine hN.mono ?_
        rintro e w1 ⟨rfl, hb1⟩
        go_wp2_with fail
        exact bodyPost_ret (v := .tuple #[.int .i64 n, .bool true]) (by simp [results, Tryd.results21, go_sem]) rfl ⟨rfl, hb1⟩
  · obtain rfl : c = (0, false) := by rw [HC.out, if_pos (.inl h1)]
    go_enter Tryd.func21, Tryd.ntmps21
    go_wp2_with fail
    refine hN.mono ?_
    rintro e w1 ⟨rfl, hb1⟩
    go_wp2_with fail
    exact bodyPost_ret (v := .tuple #[.int .i64 0, .bool false]) (by simp [results, Tryd.results21, go_sem]) rfl ⟨rfl, hb1⟩

end Go.Proofs.YtodddplpggggeaaDoor
