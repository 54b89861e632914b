/- right (22), FileRight (6). Conditions: none. -/
import Derived.Test.YtoagphighgejnaaGreatDoorPX
import Derived.Test.YtoagphighgejnaaGreatDoorV13
set_option linter.unusedSimpArgs false
set_option linter.unusedVariables false
namespace Go.Proofs.YtoagphighgejnaaGreatDoor
open Go.RowKit Go.Shelf

theorem ProbIs.below {w w' : World} {p : ProbV} {v : Value} (h : ProbIs w p v) (hb : Below w.heap.size w w') : ProbIs w' p v := by
  obtain ⟨S, n, c, A, m, d, h1, h2, h3, h4, h5, h6, h7⟩ := h
  exact ⟨S, n, c, A, m, d, h1, h2, h3, h4, h5, (h6.below hb).more hb.size, (h7.below hb).more hb.size⟩
theorem ProbIs.form {w : World} {p : ProbV} {v : Value} (h : ProbIs w p v) : ∃ mx S n c A m d ps pt, v = .agg #[.bool mx, .slice S n c, .slice A m d, .int .i64 ps, .int .i64 pt] := by
  obtain ⟨S, n, c, A, m, d, h1, -⟩ := h
  exact ⟨_, _, _, _, _, _, _, _, _, h1⟩
set_option maxHeartbeats 3200000 in
set_option maxRecDepth 100000 in
theorem right_in (s : ByteArray) (hs : s.size ≤ 1000) (w : World) (hE : Env w) : Calls Tryz.prog 22 #[.string s] w fun e w' => e = .returned (.bool true) ∧ Below w.heap.size w w' := by
  have HP := Lib.hid (Parse_any s w hE)
  have hpf := parse_fits s.data.toList
  have hsh := parse_short s.data.toList
  obtain ⟨q, hq⟩ : ∃ q, q = parseF s.data.toList := ⟨_, rfl⟩
  rw [← hq] at HP hpf hsh
  obtain ⟨p, k, l⟩ := q
  simp only [ParTells] at HP hpf hsh
  have HE := Lib.hid hE
  have HSH := Lib.hid hsh
  clear hq hE hsh
  rcases hpf with ⟨rfl, rfl, hF⟩ | ⟨hk, rfl, hl0, hl1⟩
  · have HF := Lib.hid hF
    clear hF
    go_enter Tryz.func22, Tryz.ntmps22
    go_wp2_with fail
    refine HP.out.mono ?_
    rintro e w1 ⟨v, rfl, hv, hb1⟩
    have HV := Lib.hid hv
    obtain ⟨mx, S1, n1, c1, A1, m1, d1, ps, pt, rfl⟩ := hv.form
    have hb2 := (Below.refl w1.heap.size w1).alloc (Nat.le_refl _) (.cells #[.bool mx, .slice S1 n1 c1, .slice A1 m1 d1, .int .i64 ps, .int .i64 pt] 31)
    have HB1 := Lib.hid (hb1.trans (hb2.mono hb1.size))
    have HV1 := Lib.hid (hv.below hb2)
    have kb := Blk.new w1 31 #[.bool mx, .slice S1 n1 c1, .slice A1 m1 d1, .int .i64 ps, .int .i64 pt]
    have HK := Lib.hid kb
    obtain ⟨p0, p1, p2, p3, p4⟩ := blk5 kb
    clear hv hb1 hb2 kb HP HV
    go_wp2_with fail
    generalize w1.alloc (.cells #[.bool mx, .slice S1 n1 c1, .slice A1 m1 d1, .int .i64 ps, .int .i64 pt] 31) = W1 at *
    refine (Print_in p _ W1 HV1.out (HE.out.on HB1.out)).mono ?_
    rintro e w2 ⟨T, kk, rfl, hT, hb3⟩
    obtain ⟨rfl, rfl⟩ := hT.one (.inl ⟨HF.out, rfl, rfl⟩)
    clear hT
    obtain ⟨X, hX⟩ : ∃ X : ByteArray, X = ⟨(textP p).toArray⟩ := ⟨_, rfl⟩
    rw [show strV (textP p) = .string X by rw [hX]; rfl]
    have HB2 := Lib.hid (HB1.out.trans (hb3.mono HB1.out.size))
    have HPP := Lib.hid (Parse_any X w2 (HE.out.on HB2.out))
    rw [show parseF X.data.toList = (p, 0, 0) by rw [hX]; exact text_tell p HF.out] at HPP
    have HV2 := Lib.hid (HV1.out.below hb3)
    have HK2 := Lib.hid (HK.out.below hb3 HK.out.lt)
    obtain ⟨q0, q1, q2, q3, q4⟩ := blk5 HK2.out
    clear hX hb3 p0 p1 p2 p3 p4 HV1 HK
    go_wp2_with fail
    refine HPP.out.mono ?_
    rintro e w3 ⟨v2, rfl, hv2, hb4⟩
    obtain ⟨mx2, S2, n2, c2, A2, m2, d2, ps2, pt2, rfl⟩ := hv2.form
    have hb5 := (Below.refl w3.heap.size w3).alloc (Nat.le_refl _) (.cells #[.bool mx2, .slice S2 n2 c2, .slice A2 m2 d2, .int .i64 ps2, .int .i64 pt2] 31)
    have hbx := hb4.trans (hb5.mono hb4.size)
    have HB3 := Lib.hid (HB2.out.trans (hbx.mono HB2.out.size))
    have HS := Lib.hid (Same_eq p _ _ _ (HV2.out.below hbx) (hv2.below hb5) HSH.out)
    obtain ⟨r0, r1, r2, r3, r4⟩ := blk5 (HK2.out.below hbx HK2.out.lt)
    obtain ⟨y0, y1, y2, y3, y4⟩ := blk5 (Blk.new w3 31 #[.bool mx2, .slice S2 n2 c2, .slice A2 m2 d2, .int .i64 ps2, .int .i64 pt2])
    clear hv2 hb4 hb5 hbx HV2 HK2 HPP q0 q1 q2 q3 q4
    go_wp2_with fail
    generalize w3.alloc (.cells #[.bool mx2, .slice S2 n2 c2, .slice A2 m2 d2, .int .i64 ps2, .int .i64 pt2] 31) = W3 at *
    refine HS.out.mono ?_
    rintro e w5 ⟨rfl, hb6⟩
    have HB4 := Lib.hid (HB3.out.trans (hb6.mono HB3.out.size))
    clear hb6 r0 r1 r2 r3 r4 y0 y1 y2 y3 y4 HS
    go_wp2_with fail
    go_ret
    exact ⟨rfl, HB4.out⟩
  · have hkb : (k != 0) = true := by simp [hk]
    have HL := Lib.hid (fun W => rLines_in s (by omega) W)
    clear hk
    go_enter Tryz.func22, Tryz.ntmps22
    go_wp2_with fail
    refine HP.out.mono ?_
    rintro e w1 ⟨v, rfl, hv, hb1⟩
    obtain ⟨mx, S1, n1, c1, A1, m1, d1, ps, pt, rfl⟩ := hv.form
    have hb2 := (Below.refl w1.heap.size w1).alloc (Nat.le_refl _) (.cells #[.bool mx, .slice S1 n1 c1, .slice A1 m1 d1, .int .i64 ps, .int .i64 pt] 31)
    have HB1 := Lib.hid (hb1.trans (hb2.mono hb1.size))
    have HV1 := Lib.hid (hv.below hb2)
    have kb := Blk.new w1 31 #[.bool mx, .slice S1 n1 c1, .slice A1 m1 d1, .int .i64 ps, .int .i64 pt]
    have HK := Lib.hid kb
    clear hv hb1 hb2 kb HP
    go_wp2_with fail
    generalize w1.alloc (.cells #[.bool mx, .slice S1 n1 c1, .slice A1 m1 d1, .int .i64 ps, .int .i64 pt] 31) = W1 at *
    refine (HL.out W1).mono ?_
    rintro e w2 ⟨A, n, cp, rfl, hn, -, -, hb3⟩
    have hln : l ≤ (n : Int) := by omega
    have HB2 := Lib.hid (HB1.out.trans (hb3.mono HB1.out.size))
    have HS := Lib.hid (Same_eq prob0 _ _ _ (HV1.out.below hb3) (prob0_is w2) HSH.out)
    obtain ⟨r0, r1, r2, r3, r4⟩ := blk5 (HK.out.below hb3 HK.out.lt)
    clear hb3 HV1 HK HL hl1
    unfold probV at HS
    go_wp2_with fail
    refine HS.out.mono ?_
    rintro e w5 ⟨rfl, hb6⟩
    have HB4 := Lib.hid (HB2.out.trans (hb6.mono HB2.out.size))
    clear hb6 r0 r1 r2 r3 r4 HS
    go_wp2_with fail
    go_ret
    exact ⟨rfl, HB4.out⟩

set_option maxHeartbeats 1600000 in
theorem FileRight_in (s : ByteArray) (A : Option Addr) (n c : Nat) (ys : List Int) (w : World) (hE : Env w) (hr : Reads w w.heap.size 1 A n (ys.map (fun x : Int => .int .u8 x))) (hy : ∀ x ∈ ys, 0 ≤ x ∧ x ≤ 255) (hn : n ≤ 9223372036854775807) :
    Calls Tryz.prog 6 #[.string s, .slice A n c] w fun e w' => e = .returned (.bool true) ∧ Below w.heap.size w w' := by
  have HK := Lib.hid (fun W (hb : Below w.heap.size w W) => known_in W (hE.on hb))
  have HRS := Lib.hid (fun T (hT : T.size ≤ 1000) W (hb : Below w.heap.size w W) => right_in T hT W (hE.on hb))
  have HSR := Lib.hid (fun W (hb : Below w.heap.size w W) => Source_in A n c ys W ((hr.below hb).more hb.size) hy hn)
  clear hE hr hy
  by_cases hs : s.size ≤ 200
  · have hs' : ¬ (200 : Int) < s.size := by omega
    go_enter Tryz.func6, Tryz.ntmps6
    go_wp2_with fail
    refine (HK.out _ (Below.refl _ w)).mono ?_
    rintro e w1 ⟨rfl, hb1⟩
    go_wp2_with fail
    refine (HRS.out _ (by omega) _ hb1).mono ?_
    rintro e w2 ⟨rfl, hb2⟩
    have hb2' := hb1.trans (hb2.mono hb1.size)
    go_wp2_with fail
    refine (HSR.out _ hb2').mono ?_
    rintro e w3 ⟨T1, rfl, hT1, hb3⟩
    have hb3' := hb2'.trans (hb3.mono hb2'.size)
    go_wp2_with fail
    refine (HRS.out _ (by omega) _ hb3').mono ?_
    rintro e w4 ⟨rfl, hb4⟩
    have HB := Lib.hid (hb3'.trans (hb4.mono hb3'.size))
    clear hb1 hb2 hb3 hb4 hb2' hb3'
    go_wp2_with fail
    go_ret
    exact ⟨rfl, HB.out⟩
  · have hs' : (200 : Int) < s.size := by omega
    go_enter Tryz.func6, Tryz.ntmps6
    go_wp2_with fail
    refine (HK.out _ (Below.refl _ w)).mono ?_
    rintro e w1 ⟨rfl, hb1⟩
    go_wp2_with fail
    go_ret
    exact ⟨rfl, hb1⟩
end Go.Proofs.YtoagphighgejnaaGreatDoor
