/- known: the chapter's example. Conditions: none. -/
import Derived.Test.YtpfbgoogajgciaaDoorF7
import Derived.Test.YtpfbgoogajgciaaDoorP2
import Derived.Deep.DeepCutAuto
set_option linter.unusedSimpArgs false
set_option linter.unusedVariables false
namespace Go.Proofs.YtpfbgoogajgciaaDoor
open Go.RowKit Go.Shelf

def kcut : CertV := ⟨2, [], [], [1, 0], []⟩
def kray : CertV := ⟨3, [1, -2], [], [], [3]⟩
def sray : ByteArray := ⟨#[114, 97, 121, 10, 102, 108, 111, 119, 32, 49, 32, 45, 50, 10, 99, 121, 99, 108, 101, 32, 51, 10]⟩
def sbest : ByteArray := ⟨#[98, 101, 115, 116, 10, 102, 108, 111, 119, 10]⟩
theorem print_kcut : printL kcut = ([99, 117, 116, 10, 115, 105, 100, 101, 32, 49, 32, 48, 10], 0) := by decide +kernel
theorem parse_ray : parseL sray.data.toList = (kray, 0, 0) := by kernel_rfl
theorem parse_best : parseL sbest.data.toList = (cert0, 10, 2) := by kernel_rfl
theorem fld_new (w : World) (t : TypeId) (l : List Value) : FldR (w.alloc (.cells l.toArray t)) (.slice (some ⟨w.heap.size, 0, none⟩) l.length l.length) l :=
  ⟨_, _, _, rfl, rfl, Nat.le_refl _, by have := reads_new w t l; simpa using this⟩

set_option maxRecDepth 100000 in
set_option maxHeartbeats 1600000 in
theorem pknown_in (w : World) (hE : Env w) : Calls Tryd.prog 7 #[] w fun e w' => e = .returned (.bool true) ∧ Below w.heap.size w w' := by
  have hb0 : Below w.heap.size w (w.alloc (.cells #[.bool true, .bool false] 4)) := (Below.refl _ w).alloc (Nat.le_refl _) _
  have hC0 : CertR (w.alloc (.cells #[.bool true, .bool false] 4)) kcut (.slice none 0 0) (.slice none 0 0) (.slice (some ⟨w.heap.size, 0, none⟩) 2 2) (.slice none 0 0) := ⟨FldR.nil, FldR.nil, fld_new w 4 [.bool true, .bool false], FldR.nil⟩
  have HP := Lib.hid (Print_in kcut _ _ _ _ _ (hE.on hb0) hC0 ⟨by simp [kcut], by simp [kcut], by simp [kcut], by simp [kcut]⟩ (by simp [kcut]) (by simp [kcut]) (by simp [kcut]) (by simp [kcut]))
  rw [print_kcut] at HP
  have HQ := Lib.hid (fun W (hb : Below w.heap.size w W) => Parse_in sray (by decide) W (hE.on hb))
  have HR := Lib.hid (fun W (hb : Below w.heap.size w W) => Parse_in sbest (by decide) W (hE.on hb))
  rw [parse_ray] at HQ
  rw [parse_best] at HR
  unfold strV at HP
  simp only [kray, cert0] at HQ HR
  simp only [kcut] at HP
  clear hC0
  go_enter Tryd.func7, Tryd.ntmps7
  go_wp2_with fail
  refine HP.out.mono ?_
  rintro e w1 ⟨rfl, hb1⟩
  have hb1' := hb0.trans (hb1.mono hb0.size)
  clear hb0 hb1 HP
  go_wp2_with fail
  refine (HQ.out _ hb1').mono ?_
  rintro e w2 ⟨u1, u2, u3, u4, rfl, hB, hb2⟩
  have hb2' := hb1'.trans (hb2.mono hb1'.size)
  obtain ⟨A1, c1, rfl, -, -⟩ := hB.flow.open_
  obtain ⟨A2, c2, rfl, -, -⟩ := hB.pot.open_
  obtain ⟨A3, c3, rfl, -, -⟩ := hB.side.open_
  obtain ⟨A4, c4, rfl, -, -⟩ := hB.cycle.open_
  obtain ⟨⟨q0, q1, q2, q3, q4⟩, -⟩ := (Blk.new w2 31 #[.int .i64 3, .slice A1 2 c1, .slice A2 0 c2, .slice A3 0 c3, .slice A4 1 c4]).five
  have hb3 : Below w2.heap.size w2 (w2.alloc (.cells #[.int .i64 3, .slice A1 2 c1, .slice A2 0 c2, .slice A3 0 c3, .slice A4 1 c4] 31)) := (Below.refl _ w2).alloc (Nat.le_refl _) _
  have hl3 : w2.heap.size < (w2.alloc (.cells #[.int .i64 3, .slice A1 2 c1, .slice A2 0 c2, .slice A3 0 c3, .slice A4 1 c4] 31)).heap.size := by simp
  have hb3' := hb2'.trans (hb3.mono hb2'.size)
  go_wp2_with fail
  refine (HR.out _ hb3').mono ?_
  rintro e w3 ⟨x1, x2, x3, x4, rfl, hD, hb4⟩
  obtain ⟨A5, c5, rfl, -, -⟩ := hD.flow.open_
  obtain ⟨A6, c6, rfl, -, -⟩ := hD.pot.open_
  obtain ⟨A7, c7, rfl, -, -⟩ := hD.side.open_
  obtain ⟨A8, c8, rfl, -, -⟩ := hD.cycle.open_
  have hb4' := hb3'.trans (hb4.mono hb3'.size)
  have r0 := (hb4.cell (p := ⟨w2.heap.size, 0, none⟩) hl3).trans q0
  have r1 := (hb4.cell (p := ⟨w2.heap.size, 1, none⟩) hl3).trans q1
  have r2 := (hb4.cell (p := ⟨w2.heap.size, 2, none⟩) hl3).trans q2
  have r3 := (hb4.cell (p := ⟨w2.heap.size, 3, none⟩) hl3).trans q3
  have r4 := (hb4.cell (p := ⟨w2.heap.size, 4, none⟩) hl3).trans q4
  have hl4 : w2.heap.size < w3.heap.size := Nat.lt_of_lt_of_le hl3 hb4.size
  have hb24 := hb3.trans (hb4.mono hb3.size)
  clear q0 q1 q2 q3 q4
  go_upto_region 4 with fail
  have hb5 : Below w3.heap.size w3 (w3.alloc (.cells #[.int .i64 0, .slice A5 0 c5, .slice A6 0 c6, .slice A7 0 c7, .slice A8 0 c8] 31)) := (Below.refl _ w3).alloc (Nat.le_refl _) _
  have hb6 := hb4'.trans (hb5.mono hb4'.size)
  have hC := (hB.below hb24).below hb5
  have s0 := (hb5.cell (p := ⟨w2.heap.size, 0, none⟩) hl4).trans r0
  have s1 := (hb5.cell (p := ⟨w2.heap.size, 1, none⟩) hl4).trans r1
  have s2 := (hb5.cell (p := ⟨w2.heap.size, 2, none⟩) hl4).trans r2
  have s3 := (hb5.cell (p := ⟨w2.heap.size, 3, none⟩) hl4).trans r3
  have s4 := (hb5.cell (p := ⟨w2.heap.size, 4, none⟩) hl4).trans r4
  have hl5 := Nat.lt_of_lt_of_le hl4 hb5.size
  generalize w3.alloc (.cells #[.int .i64 0, .slice A5 0 c5, .slice A6 0 c6, .slice A7 0 c7, .slice A8 0 c8] 31) = W at *
  clear r0 r1 r2 r3 r4
  have hb7 : Below W.heap.size W ((W.alloc (.cells #[.int .i64 1, .int .i64 (-2)] 2)).alloc (.cells #[.int .i64 3] 3)) := ((Below.refl _ W).alloc (Nat.le_refl _) _).alloc (by simp) _
  have hK : CertR ((W.alloc (.cells #[.int .i64 1, .int .i64 (-2)] 2)).alloc (.cells #[.int .i64 3] 3)) kray (.slice (some ⟨W.heap.size, 0, none⟩) 2 2) (.slice none 0 0) (.slice none 0 0) (.slice (some ⟨W.heap.size + 1, 0, none⟩) 1 1) :=
    ⟨(fld_new W 2 [.int .i64 1, .int .i64 (-2)]).below ((Below.refl _ _).alloc (Nat.le_refl _) _), FldR.nil, FldR.nil, by have := fld_new (W.alloc (.cells #[.int .i64 1, .int .i64 (-2)] 2)) 3 [.int .i64 3]; simpa [kray, I] using this⟩
  go_wp2_with fail
  refine (Same_eq kray _ _ _ _ _ _ _ _ _ (hC.below hb7) hK (by simp [kray]) (by simp [kray]) (by simp [kray]) (by simp [kray]) (by simp [kray])).mono ?_
  rintro e w9 ⟨rfl, hb9⟩
  go_wp2
  go_ret
  exact ⟨rfl, (hb6.trans (hb7.mono hb6.size)).trans (hb9.mono (hb6.trans (hb7.mono hb6.size)).size)⟩

end Go.Proofs.YtpfbgoogajgciaaDoor
