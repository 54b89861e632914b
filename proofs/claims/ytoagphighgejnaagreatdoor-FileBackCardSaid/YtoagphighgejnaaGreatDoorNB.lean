/- FileBack (5). Conditions: none. -/
import Derived.Test.YtoagphighgejnaaGreatDoorAL
import Derived.Deep.DeepCutAuto
set_option linter.unusedSimpArgs false
set_option linter.unusedVariables false
namespace Go.Proofs.YtoagphighgejnaaGreatDoor
open Go.RowKit Go.Shelf

/-- the parse of joined lines, each short and without an end -/
theorem parse_lines (L : List (List UInt8)) (h1 : ∀ x ∈ L, (10 : UInt8) ∉ x) (h2 : ∀ x ∈ L, x ≠ []) (h3 : ∀ x ∈ L, x.length ≤ 132) (hn : L ≠ []) (hl : L.length ≤ 330) : parseF (Lib.join L [10]) = readE rd0 0 L := by
  have h4 := join_len 10 132 L h3
  have h5 : L.length * (1 + 132) ≤ 330 * 133 := Nat.mul_le_mul hl (by omega)
  unfold parseF
  rw [if_neg (by omega), lines_join L h1 hn (fun e => h2 [] (List.mem_of_getLast? e) rfl)]
/-- the remark of a note -/
def remL (l : List UInt8) : List UInt8 := [99, 32] ++ l.filter fun x => decide (x ≠ 10)
theorem remL_rem (l : List UInt8) : Remark (remL l) := by
  unfold Remark remL
  rw [show [99, 32] ++ l.filter (fun x => decide (x ≠ 10)) = [99] ++ 32 :: l.filter (fun x => decide (x ≠ 10)) from rfl, cutL_at 32 [99] _ (by decide)]
  rfl
theorem remL_no10 (l : List UInt8) : (10 : UInt8) ∉ remL l := by
  unfold remL
  intro h
  rcases List.mem_append.1 h with h | h
  · simp at h
  · simp at h
theorem remL_len (l : List UInt8) (h : l.length ≤ 40) : (remL l).length ≤ 42 := by
  have := List.length_filter_le (fun x : UInt8 => decide (x ≠ 10)) l
  unfold remL; simp only [List.length_append, List.length_cons, List.length_nil]; omega
theorem back_parse (p : ProbV) (h : FitsF p) (t : List UInt8) (ht : Remark t) (h10 : (10 : UInt8) ∉ t) (hne : t ≠ []) (hlen : t.length ≤ 132) (k : Nat) :
    parseF (Lib.join ((linesP p).take k ++ [t] ++ (linesP p).drop k) [10]) = (p, 0, 0) := by
  have hm : ∀ x ∈ (linesP p).take k ++ [t] ++ (linesP p).drop k, x ∈ linesP p ∨ x = t := by
    intro x hx
    rcases List.mem_append.1 hx with hx | hx
    · rcases List.mem_append.1 hx with hx | hx
      · exact .inl (List.mem_of_mem_take hx)
      · exact .inr (List.mem_singleton.1 hx)
    · exact .inl (List.mem_of_mem_drop hx)
  rw [parse_lines _ (fun x hx => by exact (hm x hx).elim (fun h1 => line_no10 p x h1) (fun e => by rw [e]; exact h10)) (fun x hx => by exact (hm x hx).elim (fun h1 => line_ne p x h1) (fun e => by rw [e]; exact hne)) (fun x hx => by exact (hm x hx).elim (fun h1 => line_len p h x h1) (fun e => by rw [e]; exact hlen)) (by simp)
    (by have h1 := linesP_many p h; have h2 : ((linesP p).take k ++ [t] ++ (linesP p).drop k).length = (linesP p).length + 1 := by simp only [List.length_append, List.length_take, List.length_drop, List.length_singleton]; omega
        omega)]
  rw [List.append_assoc, List.singleton_append]
  exact remark_back p h t ht _ _ (List.take_append_drop k _) 0
set_option maxHeartbeats 3200000 in
set_option maxRecDepth 100000 in
theorem FileBack_in (A D : Option Addr) (n c nd cd : Nat) (cs ds : List Int) (mo : Bool) (note : ByteArray) (at_ : Int) (w : World) (hE : Env w) (hr : Reads w w.heap.size 1 A n (cs.map U)) (hy : Byt cs) (hd : Reads w w.heap.size 1 D nd (ds.map U)) (hyd : Byt ds) (hn : n ≤ 9223372036854775807) (hnd : nd ≤ 9223372036854775807)
    (hat : 0 ≤ at_ ∧ at_ ≤ 65535) (hsz : note.size ≤ 140737488355328) :
    Calls Tryz.prog 5 #[.slice A n c, .slice D nd cd, .bool mo, .string note, .int .u16 at_] w fun e w' => e = .returned (.bool true) ∧ Below w.heap.size w w' := by
  have HPB := Lib.hid (Prob_any A D n c nd cd w.heap.size cs ds mo w hr hy hd hyd (Nat.le_refl _) hn hnd)
  have HE := Lib.hid hE
  have HAT := Lib.hid hat
  have HSZ := Lib.hid hsz
  clear hE hr hy hd hyd hn hnd hat hsz
  go_enter Tryz.func5, Tryz.ntmps5
  go_wp2_with fail
  refine HPB.out.mono ?_
  rintro e w1 ⟨p, sb, m, ca, Aa, rfl, hN⟩
  obtain ⟨mx, nn, ps, pt, hv, hI, hm, hF, hb1, -, -⟩ := prob_boxed hN
  rw [hv]
  have hb2 := (Below.refl w1.heap.size w1).alloc (Nat.le_refl _) (.cells #[.bool mx, .slice (some ⟨sb, 0, none⟩) nn nn, .slice Aa m ca, .int .i64 ps, .int .i64 pt] 31)
  have HI := Lib.hid (hI.below hb2)
  have HF := Lib.hid hF
  have HB1 := Lib.hid (hb1.trans (hb2.mono hb1.size))
  have kb := Blk.new w1 31 #[.bool mx, .slice (some ⟨sb, 0, none⟩) nn nn, .slice Aa m ca, .int .i64 ps, .int .i64 pt]
  have HK := Lib.hid kb
  obtain ⟨p0, p1, p2, p3, p4⟩ := blk5 kb
  clear hv hI hm hF hb1 hb2 kb hN HPB
  go_wp2_with fail
  generalize w1.alloc (.cells #[.bool mx, .slice (some ⟨sb, 0, none⟩) nn nn, .slice Aa m ca, .int .i64 ps, .int .i64 pt] 31) = W1 at *
  refine (Print_in p _ W1 HI.out (HE.out.on HB1.out)).mono ?_
  rintro e w2 ⟨T, kk, rfl, hT, hb3⟩
  obtain ⟨rfl, rfl⟩ := hT.one (.inl ⟨HF.out, rfl, rfl⟩)
  obtain ⟨X, hX, hXl, hXs⟩ := str_of (textP p)
  rw [hX]
  have HB2 := Lib.hid (HB1.out.trans (hb3.mono HB1.out.size))
  have HX := Lib.hid (And.intro hXl hXs)
  have HI2 := Lib.hid (HI.out.below hb3)
  have HK2 := Lib.hid (HK.out.below hb3 HK.out.lt)
  clear hT hX hXl hXs hb3 p0 p1 p2 p3 p4 HK HI
  by_cases hs40 : (40 : Int) < note.size
  · go_wp2_with fail
    refine (known_in w2 (HE.out.on HB2.out)).mono ?_
    rintro e w4 ⟨rfl, hb5⟩
    have HB4 := Lib.hid (HB2.out.trans (hb5.mono HB2.out.size))
    clear hb5
    go_wp2_with fail
    go_ret
    exact ⟨rfl, HB4.out⟩
  have H40 := Lib.hid (show note.size ≤ 40 by omega)
  go_wp2_with fail
  have HPX : Hid (∀ W, Env W → Calls Tryz.prog 20 #[.string X] W (ParTells W (p, 0, 0))) := by
    have h1 : parseF X.data.toList = (p, 0, 0) := by rw [HX.out.1]; exact text_tell p HF.out
    rw [← h1]; exact Lib.hid (fun W h => Parse_any X W h)
  refine (HPX.out _ (HE.out.on HB2.out)).mono ?_
  rintro e w3 ⟨v3, rfl, hv3, hb4⟩
  obtain ⟨mx3, S3, n3, c3, A3, m3, d3, ps3, pt3, rfl⟩ := hv3.form
  have hb5 := (Below.refl w3.heap.size w3).alloc (Nat.le_refl _) (.cells #[.bool mx3, .slice S3 n3 c3, .slice A3 m3 d3, .int .i64 ps3, .int .i64 pt3] 31)
  have hb45 := hb4.trans (hb5.mono hb4.size)
  have HB3 := Lib.hid (HB2.out.trans (hb45.mono HB2.out.size))
  have HI3 := Lib.hid (HI2.out.below hb45)
  have HK3 := Lib.hid (HK2.out.below hb45 HK2.out.lt)
  have HJ3 := Lib.hid (hv3.below hb5)
  have HKJ3 := Lib.hid (Blk.new w3 31 #[.bool mx3, .slice S3 n3 c3, .slice A3 m3 d3, .int .i64 ps3, .int .i64 pt3])
  clear hv3 hb4 hb5 hb45 HI2 HK2 HPX hs40
  go_wp2_with fail
  generalize w3.alloc (.cells #[.bool mx3, .slice S3 n3 c3, .slice A3 m3 d3, .int .i64 ps3, .int .i64 pt3] 31) = W3 at *
  generalize w3.heap.size = jb at *
  generalize w1.heap.size = ib at *
  have HLN := Lib.hid (rLines_in X (by rw [HX.out.2]; have := text_len p HF.out; omega) W3)
  rw [HX.out.1, lines_text] at HLN
  refine HLN.out.mono ?_
  rintro e w4 ⟨A2, n2, c2, rfl, hn2, hc2, hr2, hb4⟩
  have HB4 := Lib.hid (HB3.out.trans (hb4.mono HB3.out.size))
  have HI4 := Lib.hid (HI3.out.below hb4)
  have HK4 := Lib.hid (HK3.out.below hb4 HK3.out.lt)
  have HJ4 := Lib.hid (HJ3.out.below hb4)
  have HKJ4 := Lib.hid (HKJ3.out.below hb4 HKJ3.out.lt)
  have hn323 : n2 ≤ 323 := by rw [hn2]; exact linesP_many p HF.out
  have hn1 : 0 < n2 := by rw [hn2, linesP_eq]; simp
  obtain ⟨b2, off2, u2, rfl, hb2, -, -⟩ := hr2.at_ hn1
  have HL2 := Lib.hid (And.intro hn2 hr2)
  obtain ⟨k, hk, hkm⟩ : ∃ k : Nat, k ≤ n2 ∧ at_ % ((n2 : Int) + 1) = (k : Int) := ⟨(at_ % ((n2 : Int) + 1)).toNat, by
    have h1 := Int.emod_lt_of_pos at_ (show (0 : Int) < (n2 : Int) + 1 by omega); have h2 := Int.emod_nonneg at_ (show (n2 : Int) + 1 ≠ 0 by omega); omega, by
    have h2 := Int.emod_nonneg at_ (show (n2 : Int) + 1 ≠ 0 by omega); omega⟩
  have hat2 := HAT.out
  clear hb4 HLN HI3 HK3 HJ3 HKJ3 hr2 hn2 HB3
  obtain ⟨i0, hi, hz0, hz1, hz2⟩ := info_parts infoStr
  have HIS := Lib.hid (And.intro hi (And.intro hz0 (And.intro hz1 hz2)))
  clear hi hz0 hz1 hz2
  go_upto_region 9 with fail
  have hkc : k ≤ c2 := by omega
  have HR1 := Lib.hid (show Reads w4 w4.heap.size 1 (some ⟨b2, off2, none⟩) k (((linesP p).take k).map strV) by have := reads_up HL2.out.2 hk; rwa [← List.map_take] at this)
  obtain ⟨hi, hz0, hz1, hz2⟩ := HIS.out
  go_wp2_with (at_builtin; refine wpList_append_any _ rfl _ _ 34 rfl w4.heap.size 9 i0 (.string ⟨#[]⟩) 1 16 Tryz.underlying34 hi hz0 hz1 hz2 rfl (by decide) (.slice none 0 0) 0 (([] : List (List UInt8)).map strV) rfl (World.ownsRow_nil _ _ _ _) _ _ k _ (((linesP p).take k).map strV) rfl HR1.out (one_cells _) (by unfold maxLen; omega) (by omega) (Nat.le_refl _) ?_)
  intro v' w5 hown' hgrow _
  obtain ⟨A6, c6, rfl, hT5⟩ := TxtIs.first (news := (linesP p).take k) (Below.refl _ _) (by rw [List.map_take]; simpa using hown') hgrow
  have HT5 := Lib.hid hT5
  clear hT5 hown' hgrow hi hz0 hz1 hz2
  go_wp2_with fail
  go_loopw [20, 21] (fun s i wr => ∃ j : Nat, j ≤ note.size ∧ i = .int .i64 j ∧ s = strV (remL (note.data.toList.take j)) ∧ w5 = wr) (fun _ i _ => note.size - (intOf i).toNat)
  case atStart => exact ⟨0, Nat.zero_le _, rfl, rfl, rfl⟩
  case round =>
    obtain ⟨j, hj, rfl, rfl, rfl⟩ := hrel
    by_cases hjn : j < note.size
    · obtain ⟨T, hT, hTl, hTs⟩ := str_of (remL (note.data.toList.take j))
      rw [hT]
      have hTs' : T.size ≤ 42 := by rw [hTs]; exact remL_len _ (by have := H40.out; rw [List.length_take]; omega)
      have hj1 : IntKind.i64.wrap ((j : Int) + 1) = (j : Int) + 1 := IntWalk.i64_in _ (by have := H40.out; omega)
      have hb : note.data.toList[j]? = some (note[j]'hjn) := by rw [Array.getElem?_toList]; exact Array.getElem?_eq_getElem hjn
      have hst : note.data.toList.take (j + 1) = note.data.toList.take j ++ [note[j]'hjn] := by rw [List.take_add_one, hb]; rfl
      have hex := sub_ext note j (j + 1)
      rw [mid_succ (Nat.le_refl j) hb, show midL note.data.toList j j = [] by simp [midL], List.nil_append] at hex
      have HTT := Lib.hid (And.intro hT (And.intro hst hex))
      clear hT hTl hTs hb hst hex
      by_cases h10 : (note[j]'hjn).toNat = 10
      · have h10b : (((note[j]'hjn).toNat : Int) != 10) = false := by simp; omega
        have H10 := Lib.hid (show note[j]'hjn = 10 from UInt8.toNat_inj.1 h10)
        clear h10
        go_wp2_with fail
        go_roundw
        case rel => exact ⟨j + 1, by omega, by go_num, by rw [HTT.out.2.1, ← HTT.out.1, H10.out]; simp [remL], trivial⟩
        case measure => simp [intOf]; omega
      · have h10b : (((note[j]'hjn).toNat : Int) != 10) = true := by simp; omega
        have H10 := Lib.hid (show note[j]'hjn ≠ 10 from fun e => h10 (by rw [e]; rfl))
        clear h10
        have hex1 : (note.extract j (j + 1)).size ≤ 1 := by simp; omega
        go_wp2_with fail
        refine ⟨⟨j + 1, by omega, rfl, ?_, trivial⟩, by simp [intOf]; omega⟩
        rw [str_cat HTT.out.1 HTT.out.2.2, HTT.out.2.1]
        refine congrArg strV ?_
        simp [remL, H10.out]
    · obtain rfl : j = note.size := by omega
      have hrt : note.data.toList.take note.size = note.data.toList := List.take_of_length_le (Nat.le_refl _)
      rw [hrt]
      obtain ⟨R, hR⟩ : ∃ R, R = remL note.data.toList := ⟨_, rfl⟩
      have HRM := Lib.hid (show Remark R ∧ (10 : UInt8) ∉ R ∧ R ≠ [] ∧ R.length ≤ 132 by
        rw [hR]
        exact ⟨remL_rem _, remL_no10 _, by simp [remL], by have := remL_len note.data.toList H40.out; omega⟩)
      rw [← hR]
      obtain ⟨Y, hY, -, -⟩ := str_of R
      rw [hY]
      have HY := Lib.hid hY
      clear hrt hR hY
      go_upto_region 16 with fail
      obtain ⟨hi, hz0, hz1, hz2⟩ := HIS.out
      have HNW := Lib.hid (reads_fresh w5 [.string Y])
      go_wp2_with (at_builtin; refine wpList_append_any _ rfl _ _ 34 rfl w4.heap.size 9 i0 (.string ⟨#[]⟩) 1 16 Tryz.underlying34 hi hz0 hz1 hz2 rfl (by decide) (.slice A6 k c6) k (((linesP p).take k).map strV) rfl (HT5.out.own.alloc _) _ _ 1 _ [.string Y] rfl HNW.out (by simp [Value.oneCell']) (by unfold maxLen; omega) (by omega) (by have := HT5.out.b.size; simp; omega) ?_)
      intro v' w6 hown' hgrow _
      obtain ⟨A7, c7, rfl, hT6⟩ := HT5.out.add HY.out (by rw [List.map_take]; exact hown') hgrow
      have HT6 := Lib.hid hT6
      clear hT6 hown' hgrow hi hz0 hz1 hz2 HNW HT5 HR1
      go_upto_region 17 with fail
      go_cut [19] from 78 to 82 (fun s wx => ∃ A c, s = .slice A (n2 + 1) c ∧ TxtIs w4 ((linesP p).take k ++ [R] ++ (linesP p).drop k) A (n2 + 1) c wx)
      case first =>
        obtain ⟨r, hr⟩ : ∃ r, n2 = k + r := ⟨n2 - k, by omega⟩
        have HRD := Lib.hid (show Reads w6 w6.heap.size 1 (some ⟨b2, off2 + k, none⟩) r (((linesP p).drop k).map strV) by
          have h1 := HL2.out.2
          rw [hr] at h1
          have := reads_low ((h1.below HT6.out.b).more HT6.out.b.size)
          rwa [← List.map_drop] at this)
        have HRR := Lib.hid hr
        clear hr
        by_cases hk2 : k < n2
        · have hk3 : k < c2 := by omega
          have hr2 : n2 - k = r := by have := HRR.out; omega
          have hr3 : ¬ (n2 : Int) < (k : Int) := by omega
          obtain ⟨hi, hz0, hz1, hz2⟩ := HIS.out
          go_wp2_with (at_builtin; refine wpList_append_any _ rfl _ _ 34 rfl w4.heap.size 9 i0 (.string ⟨#[]⟩) 1 16 Tryz.underlying34 hi hz0 hz1 hz2 rfl (by decide) (.slice A7 (k + 1) c7) (k + 1) (((linesP p).take k ++ [R]).map strV) rfl HT6.out.own _ _ r _ (((linesP p).drop k).map strV) rfl HRD.out (one_cells _) (by have := HRR.out; unfold maxLen; omega) (by have := HRR.out; omega) HT6.out.b.size ?_)
          intro v' w7 hown' hgrow _
          obtain ⟨A8, c8, rfl, hT7⟩ := HT6.out.app (news := (linesP p).drop k) (m := r) (by simpa using hown') hgrow
          have HT7 := Lib.hid hT7
          clear hT7 hown' hgrow hi hz0 hz1 hz2
          go_wp2_with fail
          go_meet
          have hrr := HRR.out
          exact ⟨A8, c8, by rw [show k + 1 + r = n2 + 1 by omega], by rw [show n2 + 1 = k + 1 + r by omega]; exact HT7.out⟩
        · obtain rfl : k = n2 := by omega
          obtain rfl : r = 0 := by have := HRR.out; omega
          have hnil : (linesP p).drop k = [] := List.drop_of_length_le (by have := HL2.out.1; omega)
          have hr3 : ¬ (k : Int) < (k : Int) := by omega
          have HNIL := Lib.hid hnil
          clear hnil
          by_cases hk4 : k = c2
          · subst hk4
            obtain ⟨hi, hz0, hz1, hz2⟩ := HIS.out
            go_wp2_with (at_builtin; refine wpList_append_any _ rfl _ _ 34 rfl w4.heap.size 9 i0 (.string ⟨#[]⟩) 1 16 Tryz.underlying34 hi hz0 hz1 hz2 rfl (by decide) (.slice A7 (k + 1) c7) (k + 1) (((linesP p).take k ++ [R]).map strV) rfl HT6.out.own w6.heap.size _ 0 _ (([] : List (List UInt8)).map strV) rfl reads_none (one_cells _) (by unfold maxLen; omega) (by omega) HT6.out.b.size ?_)
            intro v' w7 hown' hgrow _
            obtain ⟨A8, c8, rfl, hT7⟩ := HT6.out.app (news := []) (m := 0) (by simpa using hown') hgrow
            have HT7 := Lib.hid hT7
            clear hT7 hown' hgrow hi hz0 hz1 hz2
            go_wp2_with fail
            go_meet
            exact ⟨A8, c8, rfl, by rw [HNIL.out]; exact HT7.out⟩
          · have hk5 : k < c2 := by omega
            obtain ⟨hi, hz0, hz1, hz2⟩ := HIS.out
            go_wp2_with (at_builtin; refine wpList_append_any _ rfl _ _ 34 rfl w4.heap.size 9 i0 (.string ⟨#[]⟩) 1 16 Tryz.underlying34 hi hz0 hz1 hz2 rfl (by decide) (.slice A7 (k + 1) c7) (k + 1) (((linesP p).take k ++ [R]).map strV) rfl HT6.out.own w6.heap.size _ 0 _ (([] : List (List UInt8)).map strV) rfl reads_none (one_cells _) (by unfold maxLen; omega) (by omega) HT6.out.b.size ?_)
            intro v' w7 hown' hgrow _
            obtain ⟨A8, c8, rfl, hT7⟩ := HT6.out.app (news := []) (m := 0) (by simpa using hown') hgrow
            have HT7 := Lib.hid hT7
            clear hT7 hown' hgrow hi hz0 hz1 hz2
            go_wp2_with fail
            go_meet
            exact ⟨A8, c8, rfl, by rw [HNIL.out]; exact HT7.out⟩
      case rest =>
      obtain ⟨A8, c8, rfl, hT7⟩ := hcut
      have HT7 := Lib.hid hT7
      have HB7 := Lib.hid (HB4.out.trans (hT7.b.mono HB4.out.size))
      obtain ⟨M, hM⟩ : ∃ M, M = (linesP p).take k ++ [R] ++ (linesP p).drop k := ⟨_, rfl⟩
      rw [← hM] at HT7
      have HPM := Lib.hid (show parseF (Lib.join M [10]) = (p, 0, 0) by rw [hM]; exact back_parse p HF.out R HRM.out.1 HRM.out.2.1 HRM.out.2.2.1 HRM.out.2.2.2 k)
      have hMl : ∀ x ∈ M, x.length ≤ 132 := by
        rw [hM]
        intro x hx
        rcases List.mem_append.1 hx with hx | hx
        · rcases List.mem_append.1 hx with hx | hx
          · exact line_len p HF.out x (List.mem_of_mem_take hx)
          · rw [List.mem_singleton.1 hx]; exact HRM.out.2.2.2
        · exact line_len p HF.out x (List.mem_of_mem_drop hx)
      have HJ := Lib.hid (rJoin_in A8 (n2 + 1) c8 wc.heap.size M ⟨#[10]⟩ wc HT7.out.reads (by omega) (fun i => by
        have h1 := join_len 10 132 (M.take i) (fun x hx => hMl x (List.mem_of_mem_take hx))
        have h2 : (M.take i).length ≤ 330 := by rw [List.length_take]; have := HT7.out.len; omega
        have h3 : (M.take i).length * (1 + 132) ≤ 330 * 133 := Nat.mul_le_mul h2 (by omega)
        have h4 : (⟨#[10]⟩ : ByteArray).data.toList = [10] := rfl
        have h5 : (⟨#[10]⟩ : ByteArray).size = 1 := rfl
        rw [h4]; omega))
      change Hid (Calls Tryz.prog 15 #[.slice A8 (n2 + 1) c8, .string ⟨#[10]⟩] wc fun e w' => e = .returned (strV (Lib.join M [10])) ∧ ∃ q, w' = wc.drewN q) at HJ
      obtain ⟨J, hJ, hJl, -⟩ := str_of (Lib.join M [10])
      rw [hJ] at HJ
      rw [← hJl] at HPM
      have HPJ : Hid (∀ W, Env W → Calls Tryz.prog 20 #[.string J] W (ParTells W (p, 0, 0))) := by rw [← HPM.out]; exact Lib.hid (fun W h => Parse_any J W h)
      have HT7b := Lib.hid HT7.out.b
      clear hJ hJl hM hMl hT7 HT7 HPM HT6
      go_wp2_with fail
      refine HJ.out.mono ?_
      rintro e _ ⟨rfl, q, rfl⟩
      have HB8 := Lib.hid (HB7.out.trans ((below_drN wc q).mono HB7.out.size))
      have H48 := Lib.hid (HT7b.out.trans ((below_drN wc q).mono HT7b.out.size))
      clear HJ
      go_wp2_with fail
      refine (HPJ.out _ (HE.out.on HB8.out)).mono ?_
      rintro e w9 ⟨v9, rfl, hv9, hb9⟩
      obtain ⟨mx9, S9, n9, c9, A9, m9, d9, ps9, pt9, rfl⟩ := hv9.form
      have hb10 := (Below.refl w9.heap.size w9).alloc (Nat.le_refl _) (.cells #[.bool mx9, .slice S9 n9 c9, .slice A9 m9 d9, .int .i64 ps9, .int .i64 pt9] 31)
      have hb910 := hb9.trans (hb10.mono hb9.size)
      have HB10 := Lib.hid (HB8.out.trans (hb910.mono HB8.out.size))
      have H410 := Lib.hid (H48.out.trans (hb910.mono H48.out.size))
      have HV10 := Lib.hid (hv9.below hb10)
      have HKV := Lib.hid (Blk.new w9 31 #[.bool mx9, .slice S9 n9 c9, .slice A9 m9 d9, .int .i64 ps9, .int .i64 pt9])
      clear hb9 hb10 hb910 hv9 HB8 H48
      go_wp2_with fail
      generalize w9.alloc (.cells #[.bool mx9, .slice S9 n9 c9, .slice A9 m9 d9, .int .i64 ps9, .int .i64 pt9] 31) = W10 at *
      generalize w9.heap.size = vb at *
      refine (known_in W10 (HE.out.on HB10.out)).mono ?_
      rintro e w11 ⟨rfl, hb11⟩
      have HB11 := Lib.hid (HB10.out.trans (hb11.mono HB10.out.size))
      have H411 := Lib.hid (H410.out.trans (hb11.mono H410.out.size))
      have HV11 := Lib.hid (HV10.out.below hb11)
      have HKV11 := Lib.hid (HKV.out.below hb11 HKV.out.lt)
      have HI11 := Lib.hid (HI4.out.below H411.out)
      have HJ11 := Lib.hid (HJ4.out.below H411.out)
      have hsh : Short p := ⟨HF.out.n64, HF.out.m256⟩
      have HSH := Lib.hid hsh
      obtain ⟨r0, r1, r2, r3, r4⟩ := blk5 (HK4.out.below H411.out HK4.out.lt)
      obtain ⟨y0, y1, y2, y3, y4⟩ := blk5 (HKJ4.out.below H411.out HKJ4.out.lt)
      clear hb11 hsh HV10 HKV
      go_wp2_with fail
      refine (Same_eq p _ _ w11 HI11.out HJ11.out HSH.out).mono ?_
      rintro e w12 ⟨rfl, hb12⟩
      have HB12 := Lib.hid (HB11.out.trans (hb12.mono HB11.out.size))
      have HV12 := Lib.hid (HV11.out.below hb12)
      have HI12 := Lib.hid (HI11.out.below hb12)
      obtain ⟨s0, s1, s2, s3, s4⟩ := blk5 ((HK4.out.below H411.out HK4.out.lt).below hb12 (HK4.out.below H411.out HK4.out.lt).lt)
      obtain ⟨t0, t1, t2, t3, t4⟩ := blk5 (HKV11.out.below hb12 HKV11.out.lt)
      clear hb12 r0 r1 r2 r3 r4 y0 y1 y2 y3 y4
      go_wp2_with fail
      refine (Same_eq p _ _ w12 HI12.out HV12.out HSH.out).mono ?_
      rintro e w13 ⟨rfl, hb13⟩
      have HB13 := Lib.hid (HB12.out.trans (hb13.mono HB12.out.size))
      clear hb13 s0 s1 s2 s3 s4 t0 t1 t2 t3 t4
      go_wp2_with fail
      go_ret
      exact ⟨rfl, HB13.out⟩
end Go.Proofs.YtoagphighgejnaaGreatDoor
