/- PaperBack (5), PaperPrints (4): the walks. Conditions: none. -/
import Derived.Test.YtpfbgoogajgciaaGreatDoorN15
import Derived.Deep.DeepCutAuto
import Derived.Test.YtpfbgoogajgciaaGreatDoorL5
set_option linter.unusedSimpArgs false
set_option linter.unusedVariables false
namespace Go.Proofs.YtpfbgoogajgciaaGreatDoor
open Go.RowKit Go.Shelf

def kcut : CertV := ⟨2, [], [], [1, 0], []⟩
def kray : CertV := ⟨3, [1, -2], [], [], [3]⟩
def sray : ByteArray := ⟨#[114, 97, 121, 10, 102, 108, 111, 119, 32, 49, 32, 45, 50, 10, 99, 121, 99, 108, 101, 32, 51, 10]⟩
def sbest : ByteArray := ⟨#[98, 101, 115, 116, 10, 102, 108, 111, 119, 10]⟩
theorem print_kcut : printL kcut = ([99, 117, 116, 10, 115, 105, 100, 101, 32, 49, 32, 48, 10], 0) := by decide +kernel
theorem parse_ray : parseL sray.data.toList = (kray, 0, 0) := by kernel_rfl
theorem parse_best : parseL sbest.data.toList = (cert0, 10, 2) := by kernel_rfl
theorem fld_new (w : World) (t : TypeId) (l : List Value) : FldR (w.alloc (.cells l.toArray t)) (.slice (some ⟨w.heap.size, 0, none⟩) l.length l.length) l :=
  ⟨_, _, _, rfl, rfl, Nat.le_refl _, by have := reads_new w t l; simpa using this⟩

set_option maxRecDepth 100000 in
set_option maxHeartbeats 1600000 in
theorem pknown_in (w : World) (hE : Env w) : Calls Tryz.prog 6 #[] w fun e w' => e = .returned (.bool true) ∧ Below w.heap.size w w' := by
  have hb0 : Below w.heap.size w (w.alloc (.cells #[.bool true, .bool false] 4)) := (Below.refl _ w).alloc (Nat.le_refl _) _
  have hC0 : CertR (w.alloc (.cells #[.bool true, .bool false] 4)) kcut (.slice none 0 0) (.slice none 0 0) (.slice (some ⟨w.heap.size, 0, none⟩) 2 2) (.slice none 0 0) := ⟨FldR.nil, FldR.nil, fld_new w 4 [.bool true, .bool false], FldR.nil⟩
  have HP := Lib.hid (Print_in kcut _ _ _ _ _ (hE.on hb0) hC0 ⟨by simp [kcut], by simp [kcut], by simp [kcut], by simp [kcut]⟩ (by simp [kcut]) (by simp [kcut]) (by simp [kcut]) (by simp [kcut]))
  rw [print_kcut] at HP
  have HQ := Lib.hid (fun W (hb : Below w.heap.size w W) => Parse_in sray (by decide) W (hE.on hb))
  have HR := Lib.hid (fun W (hb : Below w.heap.size w W) => Parse_in sbest (by decide) W (hE.on hb))
  rw [parse_ray] at HQ
  rw [parse_best] at HR
  unfold strV at HP
  simp only [kray, cert0] at HQ HR
  simp only [kcut] at HP
  clear hC0
  go_enter Tryz.func6, Tryz.ntmps6
  go_wp2_with fail
  refine HP.out.mono ?_
  rintro e w1 ⟨rfl, hb1⟩
  have hb1' := hb0.trans (hb1.mono hb0.size)
  clear hb0 hb1 HP
  go_wp2_with fail
  refine (HQ.out _ hb1').mono ?_
  rintro e w2 ⟨u1, u2, u3, u4, rfl, hB, hb2⟩
  have hb2' := hb1'.trans (hb2.mono hb1'.size)
  obtain ⟨A1, c1, rfl, -, -⟩ := hB.flow.open_
  obtain ⟨A2, c2, rfl, -, -⟩ := hB.pot.open_
  obtain ⟨A3, c3, rfl, -, -⟩ := hB.side.open_
  obtain ⟨A4, c4, rfl, -, -⟩ := hB.cycle.open_
  obtain ⟨⟨q0, q1, q2, q3, q4⟩, -⟩ := (Blk.new w2 32 #[.int .i64 3, .slice A1 2 c1, .slice A2 0 c2, .slice A3 0 c3, .slice A4 1 c4]).five
  have hb3 : Below w2.heap.size w2 (w2.alloc (.cells #[.int .i64 3, .slice A1 2 c1, .slice A2 0 c2, .slice A3 0 c3, .slice A4 1 c4] 32)) := (Below.refl _ w2).alloc (Nat.le_refl _) _
  have hl3 : w2.heap.size < (w2.alloc (.cells #[.int .i64 3, .slice A1 2 c1, .slice A2 0 c2, .slice A3 0 c3, .slice A4 1 c4] 32)).heap.size := by simp
  have hb3' := hb2'.trans (hb3.mono hb2'.size)
  go_wp2_with fail
  refine (HR.out _ hb3').mono ?_
  rintro e w3 ⟨x1, x2, x3, x4, rfl, hD, hb4⟩
  obtain ⟨A5, c5, rfl, -, -⟩ := hD.flow.open_
  obtain ⟨A6, c6, rfl, -, -⟩ := hD.pot.open_
  obtain ⟨A7, c7, rfl, -, -⟩ := hD.side.open_
  obtain ⟨A8, c8, rfl, -, -⟩ := hD.cycle.open_
  have hb4' := hb3'.trans (hb4.mono hb3'.size)
  have r0 := (hb4.cell (p := ⟨w2.heap.size, 0, none⟩) hl3).trans q0
  have r1 := (hb4.cell (p := ⟨w2.heap.size, 1, none⟩) hl3).trans q1
  have r2 := (hb4.cell (p := ⟨w2.heap.size, 2, none⟩) hl3).trans q2
  have r3 := (hb4.cell (p := ⟨w2.heap.size, 3, none⟩) hl3).trans q3
  have r4 := (hb4.cell (p := ⟨w2.heap.size, 4, none⟩) hl3).trans q4
  have hl4 : w2.heap.size < w3.heap.size := Nat.lt_of_lt_of_le hl3 hb4.size
  have hb24 := hb3.trans (hb4.mono hb3.size)
  clear q0 q1 q2 q3 q4
  go_upto_region 4 with fail
  have hb5 : Below w3.heap.size w3 (w3.alloc (.cells #[.int .i64 0, .slice A5 0 c5, .slice A6 0 c6, .slice A7 0 c7, .slice A8 0 c8] 32)) := (Below.refl _ w3).alloc (Nat.le_refl _) _
  have hb6 := hb4'.trans (hb5.mono hb4'.size)
  have hC := (hB.below hb24).below hb5
  have s0 := (hb5.cell (p := ⟨w2.heap.size, 0, none⟩) hl4).trans r0
  have s1 := (hb5.cell (p := ⟨w2.heap.size, 1, none⟩) hl4).trans r1
  have s2 := (hb5.cell (p := ⟨w2.heap.size, 2, none⟩) hl4).trans r2
  have s3 := (hb5.cell (p := ⟨w2.heap.size, 3, none⟩) hl4).trans r3
  have s4 := (hb5.cell (p := ⟨w2.heap.size, 4, none⟩) hl4).trans r4
  have hl5 := Nat.lt_of_lt_of_le hl4 hb5.size
  generalize w3.alloc (.cells #[.int .i64 0, .slice A5 0 c5, .slice A6 0 c6, .slice A7 0 c7, .slice A8 0 c8] 32) = W at *
  clear r0 r1 r2 r3 r4
  have hb7 : Below W.heap.size W ((W.alloc (.cells #[.int .i64 1, .int .i64 (-2)] 2)).alloc (.cells #[.int .i64 3] 3)) := ((Below.refl _ W).alloc (Nat.le_refl _) _).alloc (by simp) _
  have hK : CertR ((W.alloc (.cells #[.int .i64 1, .int .i64 (-2)] 2)).alloc (.cells #[.int .i64 3] 3)) kray (.slice (some ⟨W.heap.size, 0, none⟩) 2 2) (.slice none 0 0) (.slice none 0 0) (.slice (some ⟨W.heap.size + 1, 0, none⟩) 1 1) :=
    ⟨(fld_new W 2 [.int .i64 1, .int .i64 (-2)]).below ((Below.refl _ _).alloc (Nat.le_refl _) _), FldR.nil, FldR.nil, by have := fld_new (W.alloc (.cells #[.int .i64 1, .int .i64 (-2)] 2)) 3 [.int .i64 3]; simpa [kray, I] using this⟩
  go_wp2_with fail
  refine (Same_eq kray _ _ _ _ _ _ _ _ _ (hC.below hb7) hK (by simp [kray]) (by simp [kray]) (by simp [kray]) (by simp [kray]) (by simp [kray])).mono ?_
  rintro e w9 ⟨rfl, hb9⟩
  go_wp2
  go_ret
  exact ⟨rfl, (hb6.trans (hb7.mono hb6.size)).trans (hb9.mono (hb6.trans (hb7.mono hb6.size)).size)⟩

set_option maxRecDepth 100000 in
set_option maxHeartbeats 3200000 in
theorem PaperBack_in (c : CertV) (v1 v2 v3 v4 : Value) (A D E : Option Addr) (na ca nd cd ne ce : Nat) (xa ds es : List Int) (kd : Int) (s : ByteArray) (w : World) (hE : Env w) (hC : CertR w c v1 v2 v3 v4) (hO : CertOk c)
    (n1 : c.flow.length ≤ 1000000000000000) (n2 : c.pot.length ≤ 1000000000000000) (n3 : c.side.length ≤ 1000000000000000) (n4 : c.cycle.length ≤ 1000000000000000)
    (ha : Reads w w.heap.size 1 A na (xa.map U)) (hya : Byt xa) (hna : na ≤ 9223372036854775807) (hd : Reads w w.heap.size 1 D nd (ds.map U)) (hyd : Byt ds) (hnd : nd ≤ 9223372036854775807)
    (he : Reads w w.heap.size 1 E ne (es.map U)) (hye : Byt es) (hne : ne ≤ 9223372036854775807) (hk : 0 ≤ kd ∧ kd ≤ 255) (hsz : s.size ≤ 140737488355328) :
    Calls Tryz.prog 5 #[.agg #[.int .i64 c.kind, v1, v2, v3, v4], .slice A na ca, .slice D nd cd, .slice E ne ce, .int .u8 kd, .string s] w fun e w' => e = .returned (.bool true) ∧ Below w.heap.size w w' := by
  obtain ⟨A1, c1, rfl, -, -⟩ := hC.flow.open_
  obtain ⟨A2, c2, rfl, -, -⟩ := hC.pot.open_
  obtain ⟨A3, c3, rfl, -, -⟩ := hC.side.open_
  obtain ⟨A4, c4, rfl, -, -⟩ := hC.cycle.open_
  obtain ⟨⟨q0, q1, q2, q3, q4⟩, -⟩ := (Blk.new w 32 #[.int .i64 c.kind, .slice A1 c.flow.length c1, .slice A2 c.pot.length c2, .slice A3 c.side.length c3, .slice A4 c.cycle.length c4]).five
  have hb0 : Below w.heap.size w (w.alloc (.cells #[.int .i64 c.kind, .slice A1 c.flow.length c1, .slice A2 c.pot.length c2, .slice A3 c.side.length c3, .slice A4 c.cycle.length c4] 32)) := (Below.refl _ w).alloc (Nat.le_refl _) _
  have hlt0 : w.heap.size < (w.alloc (.cells #[.int .i64 c.kind, .slice A1 c.flow.length c1, .slice A2 c.pot.length c2, .slice A3 c.side.length c3, .slice A4 c.cycle.length c4] 32)).heap.size := by simp
  have HC := Lib.hid (And.intro hC hO)
  have HA := Lib.hid (And.intro ha hya)
  have HD := Lib.hid (And.intro hd hyd)
  have HEE := Lib.hid (And.intro he hye)
  clear hC hO ha hya hd hyd he hye
  go_enter Tryz.func5, Tryz.ntmps5
  go_wp2_with fail
  refine (Long_in c.kind A1 A2 A3 A4 _ _ _ _ c1 c2 c3 c4 _ n1 n2 n3 n4).mono ?_
  rintro e w1 ⟨rfl, hb1⟩
  have hb1' := hb0.trans (hb1.mono hb0.size)
  have hlt1 := Nat.lt_of_lt_of_le hlt0 hb1.size
  have p0 := (hb1.cell (p := ⟨w.heap.size, 0, none⟩) hlt0).trans q0
  have p1 := (hb1.cell (p := ⟨w.heap.size, 1, none⟩) hlt0).trans q1
  have p2 := (hb1.cell (p := ⟨w.heap.size, 2, none⟩) hlt0).trans q2
  have p3 := (hb1.cell (p := ⟨w.heap.size, 3, none⟩) hlt0).trans q3
  have p4 := (hb1.cell (p := ⟨w.heap.size, 4, none⟩) hlt0).trans q4
  clear q0 q1 q2 q3 q4 hb0 hb1 hlt0
  have hstop : Calls Tryz.prog 6 #[] w1 fun e w' => e = .returned (.bool true) ∧ Below w.heap.size w w' := (pknown_in w1 (hE.on hb1')).mono fun e w' ⟨h1, h2⟩ => ⟨h1, hb1'.trans (h2.mono hb1'.size)⟩
  have HST := Lib.hid hstop
  clear hstop
  by_cases hL : (c.flow.length : Int) + c.pot.length + c.side.length + c.cycle.length ≤ 300
  · have hL' : ¬ (300 : Int) < (c.flow.length : Int) + c.pot.length + c.side.length + c.cycle.length := by omega
    by_cases hs : s.size ≤ 100
    · have hs' : ¬ 100 < s.size := by omega
      go_wp2_with fail
      refine (pknown_in w1 (hE.on hb1')).mono ?_
      rintro e w2 ⟨rfl, hb2⟩
      have hb2' := hb1'.trans (hb2.mono hb1'.size)
      have r0 := (hb2.cell (p := ⟨w.heap.size, 0, none⟩) hlt1).trans p0
      have r1 := (hb2.cell (p := ⟨w.heap.size, 1, none⟩) hlt1).trans p1
      have r2 := (hb2.cell (p := ⟨w.heap.size, 2, none⟩) hlt1).trans p2
      have r3 := (hb2.cell (p := ⟨w.heap.size, 3, none⟩) hlt1).trans p3
      have r4 := (hb2.cell (p := ⟨w.heap.size, 4, none⟩) hlt1).trans p4
      have hlt2 := Nat.lt_of_lt_of_le hlt1 hb2.size
      clear p0 p1 p2 p3 p4
      go_wp2_with fail
      refine (back_in c _ _ _ _ _ (hE.on hb2') (HC.out.1.below hb2') HC.out.2 (by omega) (by omega) (by omega) (by omega)).mono ?_
      rintro e w3 ⟨rfl, hb3⟩
      have hb3' := hb2'.trans (hb3.mono hb2'.size)
      clear r0 r1 r2 r3 r4
      go_wp2_with fail
      refine (Inst_any A D na ca nd cd w3.heap.size xa ds w3 ((HA.out.1.below hb3').more hb3'.size) HA.out.2 ((HD.out.1.below hb3').more hb3'.size) HD.out.2 (Nat.le_refl _) hna hnd).mono ?_
      rintro e w4 ⟨ib, sb, m, ca', AA, sup, arcs, rfl, hI, -⟩
      have hb4' := hb3'.trans (hI.b.mono hb3'.size)
      have hn7 := nOf_le ds
      generalize nOf ds = N at *
      go_wp2_with fail
      refine (Cert_in _ AA D E N N m ca' nd cd ne ce N kd arcs ds es w4 (Reads.of_own hI.a) hI.ab hI.m18 hn7 hk ((HD.out.1.below hb4').more hb4'.size) HD.out.2 hnd ((HEE.out.1.below hb4').more hb4'.size) HEE.out.2 hne).mono ?_
      rintro e w5 ⟨cc, u1, u2, u3, u4, rfl, hCC, hOO, m1, m2, m3, m4, hb5⟩
      have hb5' := hb4'.trans (hb5.mono hb4'.size)
      obtain ⟨B1, d1, rfl, -, -⟩ := hCC.flow.open_
      obtain ⟨B2, d2, rfl, -, -⟩ := hCC.pot.open_
      obtain ⟨B3, d3, rfl, -, -⟩ := hCC.side.open_
      obtain ⟨B4, d4, rfl, -, -⟩ := hCC.cycle.open_
      go_wp2_with fail
      refine (back_in cc _ _ _ _ _ (hE.on hb5') hCC hOO (by omega) (by omega) (by omega) (by omega)).mono ?_
      rintro e w6 ⟨rfl, hb6⟩
      have hb6' := hb5'.trans (hb6.mono hb5'.size)
      go_wp2_with fail
      refine (again_in s (by omega) _ (hE.on hb6')).mono ?_
      rintro e w7 ⟨rfl, hb7⟩
      have hb7' := hb6'.trans (hb7.mono hb6'.size)
      go_wp2_with fail
      refine (Source_in A na ca xa _ ((HA.out.1.below hb7').more hb7'.size) HA.out.2 hna).mono ?_
      rintro e w8 ⟨S, rfl, hS, hb8⟩
      have hb8' := hb7'.trans (hb8.mono hb7'.size)
      go_wp2_with fail
      refine (again_in S (by omega) _ (hE.on hb8')).mono ?_
      rintro e w9 ⟨rfl, hb9⟩
      have hb9' := hb8'.trans (hb9.mono hb8'.size)
      go_wp2_with fail
      go_ret
      exact ⟨rfl, hb9'⟩
    · have hs' : 100 < s.size := by omega
      go_wp2_with fail
      refine HST.out.mono ?_
      rintro e w3 ⟨rfl, hb3⟩
      go_wp2_with fail
      go_ret
      exact ⟨rfl, hb3⟩
  · have hL' : (300 : Int) < (c.flow.length : Int) + c.pot.length + c.side.length + c.cycle.length := by omega
    go_wp2_with fail
    refine HST.out.mono ?_
    rintro e w3 ⟨rfl, hb3⟩
    go_wp2_with fail
    go_ret
    exact ⟨rfl, hb3⟩

set_option maxRecDepth 100000 in
set_option maxHeartbeats 3200000 in
theorem PaperPrints_in (c : CertV) (v1 v2 v3 v4 : Value) (A D E : Option Addr) (na ca nd cd ne ce : Nat) (xa ds es : List Int) (kd : Int) (w : World) (hE : Env w) (hC : CertR w c v1 v2 v3 v4) (hO : CertOk c)
    (n1 : c.flow.length ≤ 1000000000000000) (n2 : c.pot.length ≤ 1000000000000000) (n3 : c.side.length ≤ 1000000000000000) (n4 : c.cycle.length ≤ 1000000000000000)
    (ha : Reads w w.heap.size 1 A na (xa.map U)) (hya : Byt xa) (hna : na ≤ 9223372036854775807) (hd : Reads w w.heap.size 1 D nd (ds.map U)) (hyd : Byt ds) (hnd : nd ≤ 9223372036854775807)
    (he : Reads w w.heap.size 1 E ne (es.map U)) (hye : Byt es) (hne : ne ≤ 9223372036854775807) (hk : 0 ≤ kd ∧ kd ≤ 255) :
    Calls Tryz.prog 4 #[.agg #[.int .i64 c.kind, v1, v2, v3, v4], .slice A na ca, .slice D nd cd, .slice E ne ce, .int .u8 kd] w fun e w' => e = .returned (.bool true) ∧ Below w.heap.size w w' := by
  obtain ⟨A1, c1, rfl, -, -⟩ := hC.flow.open_
  obtain ⟨A2, c2, rfl, -, -⟩ := hC.pot.open_
  obtain ⟨A3, c3, rfl, -, -⟩ := hC.side.open_
  obtain ⟨A4, c4, rfl, -, -⟩ := hC.cycle.open_
  obtain ⟨⟨q0, q1, q2, q3, q4⟩, -⟩ := (Blk.new w 32 #[.int .i64 c.kind, .slice A1 c.flow.length c1, .slice A2 c.pot.length c2, .slice A3 c.side.length c3, .slice A4 c.cycle.length c4]).five
  have hb0 : Below w.heap.size w (w.alloc (.cells #[.int .i64 c.kind, .slice A1 c.flow.length c1, .slice A2 c.pot.length c2, .slice A3 c.side.length c3, .slice A4 c.cycle.length c4] 32)) := (Below.refl _ w).alloc (Nat.le_refl _) _
  have hlt0 : w.heap.size < (w.alloc (.cells #[.int .i64 c.kind, .slice A1 c.flow.length c1, .slice A2 c.pot.length c2, .slice A3 c.side.length c3, .slice A4 c.cycle.length c4] 32)).heap.size := by simp
  have HC := Lib.hid (And.intro hC hO)
  have HA := Lib.hid (And.intro ha hya)
  have HD := Lib.hid (And.intro hd hyd)
  have HEE := Lib.hid (And.intro he hye)
  clear hC hO ha hya hd hyd he hye
  go_enter Tryz.func4, Tryz.ntmps4
  go_wp2_with fail
  refine (Long_in c.kind A1 A2 A3 A4 _ _ _ _ c1 c2 c3 c4 _ n1 n2 n3 n4).mono ?_
  rintro e w1 ⟨rfl, hb1⟩
  have hb1' := hb0.trans (hb1.mono hb0.size)
  have hlt1 := Nat.lt_of_lt_of_le hlt0 hb1.size
  have p0 := (hb1.cell (p := ⟨w.heap.size, 0, none⟩) hlt0).trans q0
  have p1 := (hb1.cell (p := ⟨w.heap.size, 1, none⟩) hlt0).trans q1
  have p2 := (hb1.cell (p := ⟨w.heap.size, 2, none⟩) hlt0).trans q2
  have p3 := (hb1.cell (p := ⟨w.heap.size, 3, none⟩) hlt0).trans q3
  have p4 := (hb1.cell (p := ⟨w.heap.size, 4, none⟩) hlt0).trans q4
  clear q0 q1 q2 q3 q4 hb0 hb1 hlt0
  by_cases hL : (c.flow.length : Int) + c.pot.length + c.side.length + c.cycle.length ≤ 300
  · have hL' : ¬ (300 : Int) < (c.flow.length : Int) + c.pot.length + c.side.length + c.cycle.length := by omega
    go_wp2_with fail
    refine (pknown_in w1 (hE.on hb1')).mono ?_
    rintro e w2 ⟨rfl, hb2⟩
    have hb2' := hb1'.trans (hb2.mono hb1'.size)
    have r0 := (hb2.cell (p := ⟨w.heap.size, 0, none⟩) hlt1).trans p0
    have r1 := (hb2.cell (p := ⟨w.heap.size, 1, none⟩) hlt1).trans p1
    have r2 := (hb2.cell (p := ⟨w.heap.size, 2, none⟩) hlt1).trans p2
    have r3 := (hb2.cell (p := ⟨w.heap.size, 3, none⟩) hlt1).trans p3
    have r4 := (hb2.cell (p := ⟨w.heap.size, 4, none⟩) hlt1).trans p4
    have hlt2 := Nat.lt_of_lt_of_le hlt1 hb2.size
    clear p0 p1 p2 p3 p4
    go_wp2_with fail
    refine (prints_in c _ _ _ _ _ (hE.on hb2') (HC.out.1.below hb2') HC.out.2 (by omega) (by omega) (by omega) (by omega)).mono ?_
    rintro e w3 ⟨rfl, hb3⟩
    have hb3' := hb2'.trans (hb3.mono hb2'.size)
    clear r0 r1 r2 r3 r4
    go_wp2_with fail
    refine (Inst_any A D na ca nd cd w3.heap.size xa ds w3 ((HA.out.1.below hb3').more hb3'.size) HA.out.2 ((HD.out.1.below hb3').more hb3'.size) HD.out.2 (Nat.le_refl _) hna hnd).mono ?_
    rintro e w4 ⟨ib, sb, m, ca', AA, sup, arcs, rfl, hI, -⟩
    have hb4' := hb3'.trans (hI.b.mono hb3'.size)
    have hn7 := nOf_le ds
    generalize nOf ds = N at *
    go_wp2_with fail
    refine (Cert_in _ AA D E N N m ca' nd cd ne ce N kd arcs ds es w4 (Reads.of_own hI.a) hI.ab hI.m18 hn7 hk ((HD.out.1.below hb4').more hb4'.size) HD.out.2 hnd ((HEE.out.1.below hb4').more hb4'.size) HEE.out.2 hne).mono ?_
    rintro e w5 ⟨cc, u1, u2, u3, u4, rfl, hCC, hOO, m1, m2, m3, m4, hb5⟩
    have hb5' := hb4'.trans (hb5.mono hb4'.size)
    obtain ⟨B1, d1, rfl, -, -⟩ := hCC.flow.open_
    obtain ⟨B2, d2, rfl, -, -⟩ := hCC.pot.open_
    obtain ⟨B3, d3, rfl, -, -⟩ := hCC.side.open_
    obtain ⟨B4, d4, rfl, -, -⟩ := hCC.cycle.open_
    go_wp2_with fail
    refine (prints_in cc _ _ _ _ _ (hE.on hb5') hCC hOO (by omega) (by omega) (by omega) (by omega)).mono ?_
    rintro e w6 ⟨rfl, hb6⟩
    have hb6' := hb5'.trans (hb6.mono hb5'.size)
    go_wp2_with fail
    go_ret
    exact ⟨rfl, hb6'⟩
  · have hL' : (300 : Int) < (c.flow.length : Int) + c.pot.length + c.side.length + c.cycle.length := by omega
    go_wp2_with fail
    refine (pknown_in w1 (hE.on hb1')).mono ?_
    rintro e w3 ⟨rfl, hb3⟩
    go_wp2_with fail
    go_ret
    exact ⟨rfl, hb1'.trans (hb3.mono hb1'.size)⟩
end Go.Proofs.YtpfbgoogajgciaaGreatDoor
