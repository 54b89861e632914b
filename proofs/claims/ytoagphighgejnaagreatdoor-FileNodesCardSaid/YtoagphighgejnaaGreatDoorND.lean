/- FileNodes (8). Conditions: none. -/
import Derived.Test.YtoagphighgejnaaGreatDoorAL
import Derived.Deep.DeepCutAuto
set_option linter.unusedSimpArgs false
set_option linter.unusedVariables false
namespace Go.Proofs.YtoagphighgejnaaGreatDoor
open Go.RowKit Go.Shelf

theorem turn_at {α : Type} (M : List α) (j k : Nat) (hj : j < M.length) (hk : k < M.length) : (turnL M j)[k]? = M[(k + j) % M.length]? := by
  unfold turnL
  by_cases h : k + j < M.length
  · rw [List.getElem?_append_left (by rw [List.length_drop]; omega), List.getElem?_drop, Nat.mod_eq_of_lt h, Nat.add_comm]
  · rw [List.getElem?_append_right (by rw [List.length_drop]; omega), List.getElem?_take_of_lt (by rw [List.length_drop]; omega)]
    have e : (k + j) % M.length = k - (M.drop j).length := by
      rw [List.length_drop, Nat.mod_eq_sub_mod (by omega), Nat.mod_eq_of_lt (by omega)]; omega
    rw [e]
theorem turn_len {α : Type} (M : List α) (j : Nat) : (turnL M j).length = M.length := by unfold turnL; simp only [List.length_append, List.length_drop, List.length_take]; omega
abbrev headL (p : ProbV) : List UInt8 := lnW (headWs p)
abbrev midL2 (p : ProbV) : List (List UInt8) := (midWs p).map lnW
abbrev arcL (p : ProbV) : List (List UInt8) := (p.arcs.map (arcWs p.max)).map lnW
theorem linesP_is (p : ProbV) : linesP p = headL p :: (midL2 p ++ arcL p) := linesP_eq p
theorem head_in (p : ProbV) : headL p ∈ linesP p := by rw [linesP_is]; exact List.mem_cons_self
theorem mid_in (p : ProbV) : ∀ x ∈ midL2 p, x ∈ linesP p := fun x hx => by rw [linesP_is]; exact List.mem_cons_of_mem _ (List.mem_append_left _ hx)
theorem arc_in (p : ProbV) : ∀ x ∈ arcL p, x ∈ linesP p := fun x hx => by rw [linesP_is]; exact List.mem_cons_of_mem _ (List.mem_append_right _ hx)
theorem lens (p : ProbV) : (linesP p).length = 1 + (midL2 p).length + p.arcs.length := by rw [linesP_is]; simp only [List.length_cons, List.length_append, List.length_map]; omega
theorem turned_in (p : ProbV) (j : Nat) : ∀ x ∈ headL p :: (turnL (midL2 p) j ++ arcL p), x ∈ linesP p := by
  intro x hx
  rcases List.mem_cons.1 hx with rfl | hx
  · exact head_in p
  · rcases List.mem_append.1 hx with hx | hx
    · exact mid_in p x ((turn_mem _ _ _).1 hx)
    · exact arc_in p x hx
theorem turn_parse (p : ProbV) (h : FitsF p) (j : Nat) (hj : j < (midL2 p).length ∨ j = 0) : parseF (Lib.join (headL p :: (turnL (midL2 p) j ++ arcL p)) [10]) = (p, 0, 0) := by
  rw [parse_join p h _ (turned_in p j) (by simp) (by have h1 := linesP_many p h; have h2 := lens p; simp only [List.length_cons, List.length_append, turn_len, List.length_map] at h2 ⊢; omega)]
  exact read_turn p h j (by simpa using hj)
theorem late_in (p : ProbV) : ∀ x ∈ headL p :: ((midL2 p).drop 1 ++ arcL p) ++ (midL2 p).take 1, x ∈ linesP p := by
  intro x hx
  rcases List.mem_append.1 hx with hx | hx
  · rcases List.mem_cons.1 hx with rfl | hx
    · exact head_in p
    · rcases List.mem_append.1 hx with hx | hx
      · exact mid_in p x (List.mem_of_mem_drop hx)
      · exact arc_in p x hx
  · exact mid_in p x (List.mem_of_mem_take hx)
theorem late_parse (p : ProbV) (h : FitsF p) (ha : p.arcs ≠ []) (hm : 0 < (midL2 p).length) : parseF (Lib.join (headL p :: ((midL2 p).drop 1 ++ arcL p) ++ (midL2 p).take 1) [10]) = (prob0, 12, ((linesP p).length : Int)) := by
  rw [parse_join p h _ (late_in p) (by simp) (by have h1 := linesP_many p h; have h2 := lens p; simp only [List.length_cons, List.length_append, List.length_map, List.length_drop, List.length_take] at h2 ⊢; omega)]
  obtain ⟨x, mm, hx⟩ : ∃ x mm, midWs p = x :: mm := by
    cases e : midWs p with
    | nil => simp [midL2, e] at hm
    | cons x mm => exact ⟨x, mm, rfl⟩
  have := read_late p h ha x mm hx
  simp only [midL2, hx, List.map_cons, List.drop_succ_cons, List.drop_zero, List.take_succ_cons, List.take_zero]
  exact this
set_option maxHeartbeats 3200000 in
set_option maxRecDepth 100000 in
theorem FileNodes_in (A D : Option Addr) (n c nd cd : Nat) (cs ds : List Int) (mo : Bool) (at_ : Int) (w : World) (hE : Env w) (hr : Reads w w.heap.size 1 A n (cs.map U)) (hy : Byt cs) (hd : Reads w w.heap.size 1 D nd (ds.map U)) (hyd : Byt ds) (hn : n ≤ 9223372036854775807) (hnd : nd ≤ 9223372036854775807)
    (hat : 0 ≤ at_ ∧ at_ ≤ 255) :
    Calls Tryz.prog 8 #[.slice A n c, .slice D nd cd, .bool mo, .int .u8 at_] w fun e w' => e = .returned (.bool true) ∧ Below w.heap.size w w' := by
  have HPB := Lib.hid (Prob_any A D n c nd cd w.heap.size cs ds mo w hr hy hd hyd (Nat.le_refl _) hn hnd)
  have HE := Lib.hid hE
  have HAT := Lib.hid hat
  clear hE hr hy hd hyd hn hnd hat
  go_enter Tryz.func8, Tryz.ntmps8
  go_wp2_with fail
  refine HPB.out.mono ?_
  rintro e w1 ⟨p, sb, m, ca, Aa, rfl, hN⟩
  obtain ⟨mx, nn, ps, pt, hv, hI, hm, hF, hb1, -, hm18⟩ := prob_boxed hN
  rw [hv]
  have hb2 := (Below.refl w1.heap.size w1).alloc (Nat.le_refl _) (.cells #[.bool mx, .slice (some ⟨sb, 0, none⟩) nn nn, .slice Aa m ca, .int .i64 ps, .int .i64 pt] 31)
  have HI := Lib.hid (hI.below hb2)
  have HF := Lib.hid hF
  have HM := Lib.hid (And.intro hm hm18)
  have HB1 := Lib.hid (hb1.trans (hb2.mono hb1.size))
  have kb := Blk.new w1 31 #[.bool mx, .slice (some ⟨sb, 0, none⟩) nn nn, .slice Aa m ca, .int .i64 ps, .int .i64 pt]
  have HK := Lib.hid kb
  obtain ⟨p0, p1, p2, p3, p4⟩ := blk5 kb
  clear hv hI hm hm18 hF hb1 hb2 kb hN HPB
  go_wp2_with fail
  generalize w1.alloc (.cells #[.bool mx, .slice (some ⟨sb, 0, none⟩) nn nn, .slice Aa m ca, .int .i64 ps, .int .i64 pt] 31) = W1 at *
  generalize w1.heap.size = ib at *
  refine (Print_in p _ W1 HI.out (HE.out.on HB1.out)).mono ?_
  rintro e w2 ⟨T, kk, rfl, hT, hb3⟩
  obtain ⟨rfl, rfl⟩ := hT.one (.inl ⟨HF.out, rfl, rfl⟩)
  obtain ⟨X, hX, hXl, hXs⟩ := str_of (textP p)
  rw [hX]
  have HB2 := Lib.hid (HB1.out.trans (hb3.mono HB1.out.size))
  have HLN := Lib.hid (rLines_in X (by rw [hXs]; have := text_len p HF.out; omega) w2)
  rw [hXl, lines_text] at HLN
  have HI2 := Lib.hid (HI.out.below hb3)
  have HK2 := Lib.hid (HK.out.below hb3 HK.out.lt)
  clear hT hX hXl hXs hb3 p0 p1 p2 p3 p4 HK HI
  go_wp2_with fail
  refine HLN.out.mono ?_
  rintro e w4 ⟨A2, n2, c2, rfl, hn2, hc2, hr2, hb4⟩
  have HB4 := Lib.hid (HB2.out.trans (hb4.mono HB2.out.size))
  have HI4 := Lib.hid (HI2.out.below hb4)
  have HK4 := Lib.hid (HK2.out.below hb4 HK2.out.lt)
  obtain ⟨q0, q1, q2, q3, q4⟩ := blk5 HK4.out
  have hn1 : 0 < n2 := by rw [hn2, linesP_is]; simp
  obtain ⟨b2, off2, u2, rfl, hb2, -, -⟩ := hr2.at_ hn1
  obtain ⟨nm, hnm⟩ : ∃ nm, nm = (midL2 p).length := ⟨_, rfl⟩
  have hsum : n2 = nm + 1 + m := by rw [hn2, lens, hnm, ← HM.out.1]; omega
  have hn323 : n2 ≤ 323 := by rw [hn2]; exact linesP_many p HF.out
  have HL2 := Lib.hid (And.intro hn2 (And.intro hr2 hnm))
  have hm18 := HM.out.2
  have HC2 := Lib.hid hc2
  clear hb4 HLN HI2 HK2 hr2 hn2 HB2 hnm hn1 hc2
  subst hsum
  obtain ⟨i0, hi, hz0, hz1, hz2⟩ := info_parts infoStr
  have HIS := Lib.hid (And.intro hi (And.intro hz0 (And.intro hz1 hz2)))
  clear hi hz0 hz1 hz2
  go_upto_region 9 with fail
  obtain ⟨j, hj⟩ : ∃ j : Nat, (nm = 0 → j = 0) ∧ (0 < nm → j < nm ∧ at_ % (nm : Int) = (j : Int)) := by
    by_cases h0 : nm = 0
    · exact ⟨0, fun _ => rfl, fun h => by omega⟩
    · have h1 := Int.emod_lt_of_pos at_ (show (0 : Int) < (nm : Int) by omega)
      have h2 := Int.emod_nonneg at_ (show (nm : Int) ≠ 0 by omega)
      exact ⟨(at_ % (nm : Int)).toNat, fun h => absurd h h0, fun _ => ⟨by omega, by omega⟩⟩
  have HJ := Lib.hid hj
  clear hj
  obtain ⟨Y0, hY0, -, -⟩ := str_of (headL p)
  have hc0 : w4.cell? ⟨b2, off2, none⟩ = some (.string Y0) := by
    have := reads_str HL2.out.2.1 (i := 0) (t := headL p) (by rw [linesP_is]; rfl)
    rwa [hY0, Nat.add_zero] at this
  have HNW := Lib.hid (reads_fresh w4 [.string Y0])
  have HY0 := Lib.hid hY0
  have hpos : (0 : Int) < ((nm + 1 + m : Nat) : Int) := by omega
  obtain ⟨hi, hz0, hz1, hz2⟩ := HIS.out
  go_wp2_with (at_builtin; refine wpList_append_any _ rfl _ _ 34 rfl w4.heap.size 9 i0 (.string ⟨#[]⟩) 1 16 Tryz.underlying34 hi hz0 hz1 hz2 rfl (by decide) (.slice none 0 0) 0 (([] : List (List UInt8)).map strV) rfl (World.ownsRow_nil _ _ _ _) _ _ 1 _ [.string Y0] rfl HNW.out (by simp [Value.oneCell']) (by unfold maxLen; omega) (by omega) (by simp) ?_)
  intro v' w5 hown' hgrow _
  obtain ⟨A6, c6, rfl, hT5⟩ := TxtIs.firstOne (t := headL p) (Below.refl _ w4) HY0.out (by simpa using hown') hgrow
  have HT5 := Lib.hid hT5
  clear hT5 hown' hgrow hi hz0 hz1 hz2 HNW hY0 hc0 hpos
  go_wp2_with fail
  go_loopw [15, 16] (fun s i wr => ∃ (k : Nat) (A : Option Addr) (c : Nat), k ≤ nm ∧ i = .int .i64 k ∧ s = .slice A (1 + k) c ∧ Hid (TxtIs w4 (headL p :: (turnL (midL2 p) j).take k) A (1 + k) c wr)) (fun _ i _ => nm - (intOf i).toNat)
  case atStart => exact ⟨0, A6, c6, Nat.zero_le _, rfl, rfl, HT5⟩
  case round =>
    clear HT5
    obtain ⟨k, A7, c7, hk, rfl, rfl, HT⟩ := hrel
    by_cases hkn : k < nm
    · have hlM := HL2.out.2.2
      have hjj := HJ.out.2 (by omega)
      obtain ⟨xN, hxN⟩ : ∃ x, x = (k + j) % nm := ⟨_, rfl⟩
      have hxlt : xN < nm := by rw [hxN]; exact Nat.mod_lt _ (by omega)
      have hmod : ((k : Int) + at_) % (nm : Int) = (xN : Int) := by
        rw [hxN, ← Int.add_emod_emod, hjj.2]
        exact (Int.natCast_emod (k + j) nm).symm
      have hat2 := HAT.out
      obtain ⟨t, ht⟩ : ∃ t, (midL2 p)[xN]? = some t := ⟨_, List.getElem?_eq_getElem (by omega)⟩
      have htt : (turnL (midL2 p) j)[k]? = some t := by rw [turn_at _ _ _ (by omega) (by omega), ← hlM, ← hxN]; exact ht
      have hst := take_snoc _ _ _ htt
      have hlt : (linesP p)[1 + xN]? = some t := by
        rw [linesP_is, Nat.add_comm, List.getElem?_cons_succ, List.getElem?_append_left (by omega)]; exact ht
      obtain ⟨Y, hY, -, -⟩ := str_of t
      have hcc : wr.cell? ⟨b2, off2 + (1 + xN), none⟩ = some (.string Y) := by
        have := reads_str (HL2.out.2.1.below HT.out.b) hlt
        rwa [hY] at this
      have hk1 : IntKind.i64.wrap ((k : Int) + 1) = (k : Int) + 1 := IntWalk.i64_in _ (by omega)
      have hk2 : IntKind.i64.wrap ((k : Int) + at_) = (k : Int) + at_ := IntWalk.i64_in _ (by omega)
      have hx1 : (1 : Int) + (xN : Int) < ((nm + 1 + m : Nat) : Int) := by omega
      have hnm0 : ¬ (nm : Int) = 0 := by omega
      have hnm1 : ¬ nm = 0 := by omega
      have HNW := Lib.hid (reads_fresh wr [.string Y])
      have HST := Lib.hid (And.intro hY hst)
      clear hlM hjj hxN ht htt hst hlt hY
      go_upto_region 13 with fail
      obtain ⟨hi, hz0, hz1, hz2⟩ := HIS.out
      go_wp2_with (at_builtin; refine wpList_append_any _ rfl _ _ 34 rfl w4.heap.size 9 i0 (.string ⟨#[]⟩) 1 16 Tryz.underlying34 hi hz0 hz1 hz2 rfl (by decide) (.slice A7 (1 + k) c7) (1 + k) ((headL p :: (turnL (midL2 p) j).take k).map strV) rfl (HT.out.own.alloc _) _ _ 1 _ [.string Y] rfl HNW.out (by simp [Value.oneCell']) (by unfold maxLen; omega) (by omega) (by have := HT.out.b.size; simp; omega) ?_)
      intro v' w6 hown' hgrow _
      obtain ⟨A8, c8, rfl, hT6⟩ := HT.out.add HST.out.1 (by simpa using hown') hgrow
      rw [List.cons_append, ← HST.out.2] at hT6
      have HT6 := Lib.hid hT6
      clear hT6 hown' hgrow hi hz0 hz1 hz2 HNW HST hcc
      go_wp2_with fail
      exact ⟨⟨k + 1, A8, c8, by omega, rfl, rfl, HT6⟩, by simp [intOf]; omega⟩
    · obtain rfl : k = nm := by omega
      have hlM := HL2.out.2.2
      have hT7 : TxtIs w4 (headL p :: turnL (midL2 p) j) A7 (1 + k) c7 wr := by
        have := HT.out
        rwa [List.take_of_length_le (by rw [turn_len]; omega)] at this
      have HT7 := Lib.hid hT7
      have HDR := Lib.hid (show Reads wr wr.heap.size 1 (some ⟨b2, off2 + (1 + k), none⟩) m ((arcL p).map strV) by
        have h1 := (HL2.out.2.1.below HT.out.b).more HT.out.b.size
        rw [show k + 1 + m = (1 + k) + m by omega] at h1
        have h2 := reads_low h1
        rw [← List.map_drop, show (linesP p).drop (1 + k) = arcL p by
          rw [linesP_is, Nat.add_comm, List.drop_succ_cons, hlM]; exact List.drop_left] at h2
        exact h2)
      have HMA := Lib.hid (show m = (arcL p).length by simp only [List.length_map]; exact HM.out.1)
      clear hT7 HT hlM
      go_upto_region 14 with fail
      go_cut [15] from 74 to 79 (fun s wx => ∃ A c, s = .slice A (k + 1 + m) c ∧ TxtIs w4 (headL p :: (turnL (midL2 p) j ++ arcL p)) A (k + 1 + m) c wx)
      case first =>
        have hc2 := HC2.out
        have hlo : IntKind.i64.wrap (1 + (k : Int)) = 1 + (k : Int) := IntWalk.i64_in _ (by omega)
        have htn : (1 + (k : Int)).toNat = 1 + k := by omega
        have hlo0 : (0 : Int) ≤ 1 + (k : Int) := by omega
        by_cases hm0 : m = 0
        · subst hm0
          have hnil : arcL p = [] := List.eq_nil_of_length_eq_zero HMA.out.symm
          have HNIL := Lib.hid hnil
          clear hnil
          have hk6 : k + 1 - (1 + k) = 0 := by omega
          have hk7 : k + 1 + 0 - (1 + k) = 0 := by omega
          by_cases hk4 : 1 + k = c2
          · subst hk4
            obtain ⟨hi, hz0, hz1, hz2⟩ := HIS.out
            go_wp2_with (at_builtin; refine wpList_append_any _ rfl _ _ 34 rfl w4.heap.size 9 i0 (.string ⟨#[]⟩) 1 16 Tryz.underlying34 hi hz0 hz1 hz2 rfl (by decide) (.slice A7 (1 + k) c7) (1 + k) ((headL p :: turnL (midL2 p) j).map strV) rfl HT7.out.own wr.heap.size _ 0 _ (([] : List (List UInt8)).map strV) rfl reads_none (one_cells _) (by unfold maxLen; omega) (by omega) HT7.out.b.size ?_)
            intro v' w7 hown' hgrow _
            obtain ⟨A8, c8, rfl, hT8⟩ := HT7.out.app (news := []) (m := 0) (by simpa using hown') hgrow
            have HT8 := Lib.hid hT8
            clear hT8 hown' hgrow hi hz0 hz1 hz2
            go_wp2_with fail
            go_meet
            exact ⟨A8, c8, by rw [show 1 + k + 0 = k + 1 + 0 by omega], by rw [HNIL.out, show k + 1 + 0 = 1 + k + 0 by omega, List.append_nil]; have := HT8.out; rwa [List.append_nil] at this⟩
          · have hk5 : 1 + k < c2 := by omega
            obtain ⟨hi, hz0, hz1, hz2⟩ := HIS.out
            go_wp2_with (at_builtin; refine wpList_append_any _ rfl _ _ 34 rfl w4.heap.size 9 i0 (.string ⟨#[]⟩) 1 16 Tryz.underlying34 hi hz0 hz1 hz2 rfl (by decide) (.slice A7 (1 + k) c7) (1 + k) ((headL p :: turnL (midL2 p) j).map strV) rfl HT7.out.own wr.heap.size _ 0 _ (([] : List (List UInt8)).map strV) rfl reads_none (one_cells _) (by unfold maxLen; omega) (by omega) HT7.out.b.size ?_)
            intro v' w7 hown' hgrow _
            obtain ⟨A8, c8, rfl, hT8⟩ := HT7.out.app (news := []) (m := 0) (by simpa using hown') hgrow
            have HT8 := Lib.hid hT8
            clear hT8 hown' hgrow hi hz0 hz1 hz2
            go_wp2_with fail
            go_meet
            exact ⟨A8, c8, by rw [show 1 + k + 0 = k + 1 + 0 by omega], by rw [HNIL.out, show k + 1 + 0 = 1 + k + 0 by omega, List.append_nil]; have := HT8.out; rwa [List.append_nil] at this⟩
        · have hk5 : 1 + k < c2 := by omega
          have hk6 : k + 1 + m - (1 + k) = m := by omega
          obtain ⟨hi, hz0, hz1, hz2⟩ := HIS.out
          go_wp2_with (at_builtin; refine wpList_append_any _ rfl _ _ 34 rfl w4.heap.size 9 i0 (.string ⟨#[]⟩) 1 16 Tryz.underlying34 hi hz0 hz1 hz2 rfl (by decide) (.slice A7 (1 + k) c7) (1 + k) ((headL p :: turnL (midL2 p) j).map strV) rfl HT7.out.own _ _ m _ ((arcL p).map strV) rfl HDR.out (one_cells _) (by unfold maxLen; omega) (by omega) HT7.out.b.size ?_)
          intro v' w7 hown' hgrow _
          obtain ⟨A8, c8, rfl, hT8⟩ := HT7.out.app (news := arcL p) (m := m) (by simpa using hown') hgrow
          have HT8 := Lib.hid hT8
          clear hT8 hown' hgrow hi hz0 hz1 hz2
          go_wp2_with fail
          go_meet
          exact ⟨A8, c8, by rw [show 1 + k + m = k + 1 + m by omega], by rw [show k + 1 + m = 1 + k + m by omega]; exact HT8.out⟩
      case rest =>
      obtain ⟨A8, c8, rfl, hT7⟩ := hcut
      have HT8 := Lib.hid hT7
      have HB7 := Lib.hid (HB4.out.trans (hT7.b.mono HB4.out.size))
      obtain ⟨M, hM⟩ : ∃ M, M = headL p :: (turnL (midL2 p) j ++ arcL p) := ⟨_, rfl⟩
      rw [← hM] at HT8
      have hjz : j < (midL2 p).length ∨ j = 0 := by
        have h1 := HJ.out
        have h2 := HL2.out.2.2
        rcases Nat.eq_zero_or_pos k with h | h
        · exact .inr (h1.1 h)
        · exact .inl (by have := (h1.2 h).1; omega)
      have HPM := Lib.hid (show parseF (Lib.join M [10]) = (p, 0, 0) by rw [hM]; exact turn_parse p HF.out j hjz)
      have hMl : ∀ x ∈ M, x.length ≤ 132 := fun x hx => line_len p HF.out x (turned_in p j x (hM ▸ hx))
      have HJ2 := Lib.hid (rJoin_in A8 (k + 1 + m) c8 wc.heap.size M ⟨#[10]⟩ wc HT8.out.reads (by omega) (fun i => by
        have h1 := join_len 10 132 (M.take i) (fun x hx => hMl x (List.mem_of_mem_take hx))
        have h2 : (M.take i).length ≤ 330 := by rw [List.length_take]; have := HT8.out.len; omega
        have h3 : (M.take i).length * (1 + 132) ≤ 330 * 133 := Nat.mul_le_mul h2 (by omega)
        have h4 : (⟨#[10]⟩ : ByteArray).data.toList = [10] := rfl
        have h5 : (⟨#[10]⟩ : ByteArray).size = 1 := rfl
        rw [h4]; omega))
      change Hid (Calls Tryz.prog 15 #[.slice A8 (k + 1 + m) c8, .string ⟨#[10]⟩] wc fun e w' => e = .returned (strV (Lib.join M [10])) ∧ ∃ q, w' = wc.drewN q) at HJ2
      obtain ⟨J, hJ, hJl, -⟩ := str_of (Lib.join M [10])
      rw [hJ] at HJ2
      rw [← hJl] at HPM
      have HPJ : Hid (∀ W, Env W → Calls Tryz.prog 20 #[.string J] W (ParTells W (p, 0, 0))) := by rw [← HPM.out]; exact Lib.hid (fun W h => Parse_any J W h)
      have HT7b := Lib.hid HT8.out.b
      clear hJ hJl hM hMl hT7 HT8 HPM HT7 HDR hjz q0 q1 q2 q3 q4
      go_wp2_with fail
      refine HJ2.out.mono ?_
      rintro e _ ⟨rfl, q, rfl⟩
      have HB8 := Lib.hid (HB7.out.trans ((below_drN wc q).mono HB7.out.size))
      have H48 := Lib.hid (HT7b.out.trans ((below_drN wc q).mono HT7b.out.size))
      clear HJ2
      go_wp2_with fail
      refine (HPJ.out _ (HE.out.on HB8.out)).mono ?_
      rintro e w9 ⟨v9, rfl, hv9, hb9⟩
      obtain ⟨mx9, S9, n9, c9, A9, m9, d9, ps9, pt9, rfl⟩ := hv9.form
      have hb10 := (Below.refl w9.heap.size w9).alloc (Nat.le_refl _) (.cells #[.bool mx9, .slice S9 n9 c9, .slice A9 m9 d9, .int .i64 ps9, .int .i64 pt9] 31)
      have hb910 := hb9.trans (hb10.mono hb9.size)
      have HB10 := Lib.hid (HB8.out.trans (hb910.mono HB8.out.size))
      have H410 := Lib.hid (H48.out.trans (hb910.mono H48.out.size))
      have HV10 := Lib.hid (hv9.below hb10)
      have HKV := Lib.hid (Blk.new w9 31 #[.bool mx9, .slice S9 n9 c9, .slice A9 m9 d9, .int .i64 ps9, .int .i64 pt9])
      have HI10 := Lib.hid (HI4.out.below H410.out)
      have HSH := Lib.hid (show Short p from ⟨HF.out.n64, HF.out.m256⟩)
      obtain ⟨r0, r1, r2, r3, r4⟩ := blk5 (HK4.out.below H410.out HK4.out.lt)
      obtain ⟨y0, y1, y2, y3, y4⟩ := blk5 HKV.out
      clear hb9 hb10 hb910 hv9 HB8 H48
      go_wp2_with fail
      generalize w9.alloc (.cells #[.bool mx9, .slice S9 n9 c9, .slice A9 m9 d9, .int .i64 ps9, .int .i64 pt9] 31) = W10 at *
      refine (Same_eq p _ _ W10 HI10.out HV10.out HSH.out).mono ?_
      rintro e w11 ⟨rfl, hb11⟩
      have HB11 := Lib.hid (HB10.out.trans (hb11.mono HB10.out.size))
      have H411 := Lib.hid (H410.out.trans (hb11.mono H410.out.size))
      have HKN := Lib.hid (known_in w11 (HE.out.on HB11.out))
      clear hb11 r0 r1 r2 r3 r4 y0 y1 y2 y3 y4 HV10 HKV HI10 HPJ
      by_cases hz : k = 0 ∨ m = 0
      · by_cases hk0 : k = 0
        · have hkz : ((k : Int) == 0) = true := by simp [hk0]
          clear hk0 hz
          go_wp2_with fail
          refine HKN.out.mono ?_
          rintro e w12 ⟨rfl, hb12⟩
          have HB12 := Lib.hid (HB11.out.trans (hb12.mono HB11.out.size))
          clear hb12
          go_wp2_with fail
          go_ret
          exact ⟨rfl, HB12.out⟩
        · have hkz : ((k : Int) == 0) = false := by simp [hk0]
          have hmz : ((m : Int) == 0) = true := by rcases hz with h | h; exact absurd h hk0; simp [h]
          clear hk0 hz
          go_wp2_with fail
          refine HKN.out.mono ?_
          rintro e w12 ⟨rfl, hb12⟩
          have HB12 := Lib.hid (HB11.out.trans (hb12.mono HB11.out.size))
          clear hb12
          go_wp2_with fail
          go_ret
          exact ⟨rfl, HB12.out⟩
      · have hk0 : 0 < k := by omega
        have hm0 : 0 < m := by omega
        have hkz : ((k : Int) == 0) = false := by simp; omega
        have hmz : ((m : Int) == 0) = false := by simp; omega
        have ha : p.arcs ≠ [] := fun e => by have := HM.out.1; rw [e] at this; simp at this; omega
        obtain ⟨r, hr⟩ : ∃ r, k + 1 + m = 2 + r := ⟨k + 1 + m - 2, by omega⟩
        have hlM := HL2.out.2.2
        obtain ⟨t, ht⟩ : ∃ t, (midL2 p)[0]? = some t := ⟨_, List.getElem?_eq_getElem (by omega)⟩
        have htk : (midL2 p).take 1 = [t] := by
          cases e : midL2 p with
          | nil => rw [e] at ht; simp at ht
          | cons a b => rw [e] at ht; simp at ht; subst ht; rfl
        have hd2 : (linesP p).drop 2 = (midL2 p).drop 1 ++ arcL p := by
          rw [linesP_is, List.drop_succ_cons, List.drop_append_of_le_length (by omega)]
        have HR11 := Lib.hid ((HL2.out.2.1.below H411.out).more H411.out.size)
        have HD2 := Lib.hid (show Reads w11 w11.heap.size 1 (some ⟨b2, off2 + 2, none⟩) r (((midL2 p).drop 1 ++ arcL p).map strV) by
          have h1 := HR11.out
          rw [hr] at h1
          have h2 := reads_low h1
          rwa [← List.map_drop, hd2] at h2)
        obtain ⟨Y1, hY1, -, -⟩ := str_of t
        have hc0 : w11.cell? ⟨b2, off2, none⟩ = some (.string Y0) := by
          have := reads_str HR11.out (i := 0) (t := headL p) (by rw [linesP_is]; rfl)
          rwa [HY0.out, Nat.add_zero] at this
        have hc1 : w11.cell? ⟨b2, off2 + 1, none⟩ = some (.string Y1) := by
          have := reads_str HR11.out (i := 1) (t := t) (by rw [linesP_is, List.getElem?_cons_succ, List.getElem?_append_left (by omega)]; exact ht)
          rwa [hY1] at this
        have HC1 := Lib.hid (And.intro hc1 (Nat.lt_of_lt_of_le hb2 H411.out.size))
        have HNW := Lib.hid (reads_fresh w11 [.string Y0])
        have HLP := Lib.hid (show parseF (Lib.join ((headL p :: ((midL2 p).drop 1 ++ arcL p)) ++ [t]) [10]) = (prob0, 12, ((1 + r + 1 : Nat) : Int)) by
          have h1 := late_parse p HF.out ha (by omega)
          rw [htk] at h1
          have h2 := HL2.out.1
          rw [h1, ← h2, show k + 1 + m = 1 + r + 1 by omega])
        have HIN := Lib.hid (show ∀ x ∈ (headL p :: ((midL2 p).drop 1 ++ arcL p)) ++ [t], x ∈ linesP p from fun x hx => late_in p x (by rw [htk]; exact hx))
        have HRR := Lib.hid hr
        have hpos : (0 : Int) < ((k + 1 + m : Nat) : Int) := by omega
        have hpos1 : (1 : Int) < ((k + 1 + m : Nat) : Int) := by omega
        have hl2 : k + 1 + m - 2 = r := by omega
        have hl3 : 2 < c2 := by have := HC2.out; omega
        have hl4 : 2 ≤ k + 1 + m := by omega
        have hr330 : r ≤ 330 := by omega
        have HY1 := Lib.hid hY1
        clear hk0 hm0 ha hr hlM ht htk hd2 hY1 hc1 hz HR11
        obtain ⟨hi, hz0, hz1, hz2⟩ := HIS.out
        go_wp2_with (at_builtin; refine wpList_append_any _ rfl _ _ 34 rfl w11.heap.size 9 i0 (.string ⟨#[]⟩) 1 16 Tryz.underlying34 hi hz0 hz1 hz2 rfl (by decide) (.slice none 0 0) 0 (([] : List (List UInt8)).map strV) rfl (World.ownsRow_nil _ _ _ _) _ _ 1 _ [.string Y0] rfl HNW.out (by simp [Value.oneCell']) (by unfold maxLen; omega) (by omega) (by simp) ?_)
        intro v' w12 hown' hgrow _
        obtain ⟨B1, d1, rfl, hT12⟩ := TxtIs.firstOne (t := headL p) (Below.refl _ w11) HY0.out (by simpa using hown') hgrow
        have HT12 := Lib.hid hT12
        have HD12 := Lib.hid ((HD2.out.below hT12.b).more hT12.b.size)
        clear hT12 hown' hgrow hi hz0 hz1 hz2 HNW hc0
        obtain ⟨hi, hz0, hz1, hz2⟩ := HIS.out
        go_wp2_with (at_builtin; refine wpList_append_any _ rfl _ _ 34 rfl w11.heap.size 9 i0 (.string ⟨#[]⟩) 1 16 Tryz.underlying34 hi hz0 hz1 hz2 rfl (by decide) (.slice B1 1 d1) 1 (([headL p] : List (List UInt8)).map strV) rfl HT12.out.own _ _ r _ (((midL2 p).drop 1 ++ arcL p).map strV) rfl HD12.out (one_cells _) (by unfold maxLen; omega) (by omega) HT12.out.b.size ?_)
        intro v' w13 hown' hgrow _
        obtain ⟨B2, d2', rfl, hT13⟩ := HT12.out.app (news := (midL2 p).drop 1 ++ arcL p) (m := r) (by simpa using hown') hgrow
        have HT13 := Lib.hid hT13
        have hc1 := (hT13.b.cell (p := ⟨b2, off2 + 1, none⟩) HC1.out.2).trans HC1.out.1
        have HNW := Lib.hid (reads_fresh w13 [.string Y1])
        clear hT13 hown' hgrow hi hz0 hz1 hz2 HT12 HD12
        obtain ⟨hi, hz0, hz1, hz2⟩ := HIS.out
        go_wp2_with (at_builtin; refine wpList_append_any _ rfl _ _ 34 rfl w11.heap.size 9 i0 (.string ⟨#[]⟩) 1 16 Tryz.underlying34 hi hz0 hz1 hz2 rfl (by decide) (.slice B2 (1 + r) d2') (1 + r) (([headL p] ++ ((midL2 p).drop 1 ++ arcL p)).map strV) rfl (HT13.out.own.alloc _) _ _ 1 _ [.string Y1] rfl HNW.out (by simp [Value.oneCell']) (by unfold maxLen; omega) (by omega) (by have := HT13.out.b.size; simp; omega) ?_)
        intro v' w14 hown' hgrow _
        obtain ⟨B3, d3', rfl, hT14⟩ := HT13.out.add HY1.out (by simpa using hown') hgrow
        have HT14 := Lib.hid hT14
        have HB14 := Lib.hid (HB11.out.trans (hT14.b.mono HB11.out.size))
        clear hT14 hown' hgrow hi hz0 hz1 hz2 HNW hc1
        obtain ⟨M2, hM2⟩ : ∃ M, M = [headL p] ++ ((midL2 p).drop 1 ++ arcL p) ++ [t] := ⟨_, rfl⟩
        rw [← hM2] at HT14
        have hM3 : M2 = (headL p :: ((midL2 p).drop 1 ++ arcL p)) ++ [t] := hM2
        rw [← hM3] at HLP HIN
        have hMl : ∀ x ∈ M2, x.length ≤ 132 := fun x hx => line_len p HF.out x (HIN.out x hx)
        have HJ3 := Lib.hid (rJoin_in B3 (1 + r + 1) d3' w14.heap.size M2 ⟨#[10]⟩ w14 HT14.out.reads (by omega) (fun i => by
          have h1 := join_len 10 132 (M2.take i) (fun x hx => hMl x (List.mem_of_mem_take hx))
          have h2 : (M2.take i).length ≤ 332 := by rw [List.length_take]; have := HT14.out.len; omega
          have h3 : (M2.take i).length * (1 + 132) ≤ 332 * 133 := Nat.mul_le_mul h2 (by omega)
          have h4 : (⟨#[10]⟩ : ByteArray).data.toList = [10] := rfl
          have h5 : (⟨#[10]⟩ : ByteArray).size = 1 := rfl
          rw [h4]; omega))
        change Hid (Calls Tryz.prog 15 #[.slice B3 (1 + r + 1) d3', .string ⟨#[10]⟩] w14 fun e w' => e = .returned (strV (Lib.join M2 [10])) ∧ ∃ q, w' = w14.drewN q) at HJ3
        obtain ⟨J2, hJ2, hJ2l, -⟩ := str_of (Lib.join M2 [10])
        rw [hJ2] at HJ3
        rw [← hJ2l] at HLP
        have HPK : Hid (∀ W, Env W → Calls Tryz.prog 20 #[.string J2] W (ParTells W (prob0, 12, ((1 + r + 1 : Nat) : Int)))) := by rw [← HLP.out]; exact Lib.hid (fun W h => Parse_any J2 W h)
        clear hM2 hM3 hMl hJ2 hJ2l HLP HIN HT13 hpos hpos1 hl2 hl3 hl4
        go_wp2_with fail
        refine HJ3.out.mono ?_
        rintro e _ ⟨rfl, q2, rfl⟩
        have HB15 := Lib.hid (HB14.out.trans ((below_drN w14 q2).mono HB14.out.size))
        clear HJ3
        go_wp2_with fail
        refine (HPK.out _ (HE.out.on HB15.out)).mono ?_
        rintro e w16 ⟨v16, rfl, hv16, hb16⟩
        obtain ⟨mx7, S7, n7, c7', A7', m7, d7, ps7, pt7, rfl⟩ := hv16.form
        have hb17 := (Below.refl w16.heap.size w16).alloc (Nat.le_refl _) (.cells #[.bool mx7, .slice S7 n7 c7', .slice A7' m7 d7, .int .i64 ps7, .int .i64 pt7] 31)
        have HB17 := Lib.hid (HB15.out.trans ((hb16.trans (hb17.mono hb16.size)).mono HB15.out.size))
        clear hb16 hb17 hv16
        go_wp2_with fail
        generalize w16.alloc (.cells #[.bool mx7, .slice S7 n7 c7', .slice A7' m7 d7, .int .i64 ps7, .int .i64 pt7] 31) = W17 at *
        refine (known_in W17 (HE.out.on HB17.out)).mono ?_
        rintro e w18 ⟨rfl, hb18⟩
        have HB18 := Lib.hid (HB17.out.trans (hb18.mono HB17.out.size))
        clear hb18
        go_wp2_with fail
        go_ret
        exact ⟨rfl, HB18.out⟩
end Go.Proofs.YtoagphighgejnaaGreatDoor
