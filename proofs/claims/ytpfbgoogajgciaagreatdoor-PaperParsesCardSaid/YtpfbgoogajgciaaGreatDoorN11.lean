/- prints (11). Conditions: none. -/
import Derived.Test.YtpfbgoogajgciaaGreatDoorQ9
import Derived.Test.YtpfbgoogajgciaaGreatDoorF9
set_option linter.unusedSimpArgs false
set_option linter.unusedVariables false
namespace Go.Proofs.YtpfbgoogajgciaaGreatDoor
open Go.RowKit Go.Shelf

theorem printL_err (c : CertV) : 0 ≤ (printL c).2 ∧ (printL c).2 ≤ 36 := by
  unfold printL
  repeat' split
  all_goals simp

set_option maxHeartbeats 1600000 in
theorem prints_in (c : CertV) (v1 v2 v3 v4 : Value) (w : World) (hE : Env w) (hC : CertR w c v1 v2 v3 v4) (hO : CertOk c) (n1 : c.flow.length ≤ 2000) (n2 : c.pot.length ≤ 2000) (n3 : c.side.length ≤ 2000) (n4 : c.cycle.length ≤ 2000) :
    Calls Tryz.prog 11 #[.agg #[.int .i64 c.kind, v1, v2, v3, v4]] w fun e w' => e = .returned (.bool true) ∧ Below w.heap.size w w' := by
  have HP := Lib.hid (fun W (hb : Below w.heap.size w W) => Print_in c v1 v2 v3 v4 W (hE.on hb) (hC.below hb) hO n1 n2 n3 n4)
  obtain ⟨⟨q0, q1, q2, q3, q4⟩, -⟩ := (Blk.new w 32 #[.int .i64 c.kind, v1, v2, v3, v4]).five
  have hb0 : Below w.heap.size w (w.alloc (.cells #[.int .i64 c.kind, v1, v2, v3, v4] 32)) := (Below.refl _ w).alloc (Nat.le_refl _) _
  have hlt0 : w.heap.size < (w.alloc (.cells #[.int .i64 c.kind, v1, v2, v3, v4] 32)).heap.size := by simp
  have HR := Lib.hid (fun W (hb : Below w.heap.size w W) => rPrint_in c v1 v2 v3 v4 W (hC.below hb) hO n1 n2 n3 n4)
  have he := printL_err c
  obtain ⟨e1, h1⟩ : ∃ e1, (printL c).2 = e1 := ⟨_, rfl⟩
  obtain ⟨s1, hs1⟩ : ∃ s1, (printL c).1 = s1 := ⟨_, rfl⟩
  rw [h1] at he
  rw [h1, hs1] at HP HR
  obtain ⟨T, hT⟩ : ∃ T, strV s1 = .string T := ⟨_, rfl⟩
  rw [hT] at HP HR
  clear h1 hs1 hT
  obtain ⟨he0, he1⟩ := he
  go_enter Tryz.func11, Tryz.ntmps11
  go_wp2_with fail
  refine (HP.out _ hb0).mono ?_
  rintro e w1 ⟨rfl, hb1'⟩
  have hb1 : Below w.heap.size w w1 := hb0.trans (hb1'.mono hb0.size)
  have p0 := (hb1'.cell (p := ⟨w.heap.size, 0, none⟩) hlt0).trans q0
  have p1 := (hb1'.cell (p := ⟨w.heap.size, 1, none⟩) hlt0).trans q1
  have p2 := (hb1'.cell (p := ⟨w.heap.size, 2, none⟩) hlt0).trans q2
  have p3 := (hb1'.cell (p := ⟨w.heap.size, 3, none⟩) hlt0).trans q3
  have p4 := (hb1'.cell (p := ⟨w.heap.size, 4, none⟩) hlt0).trans q4
  clear hb1' q0 q1 q2 q3 q4 hb0
  go_wp2_with fail
  refine (HR.out _ hb1).mono ?_
  rintro e w2 ⟨rfl, hb2⟩
  have hb3 := hb1.trans (hb2.mono hb1.size)
  go_wp2
  go_ret
  exact ⟨rfl, hb3⟩
end Go.Proofs.YtpfbgoogajgciaaGreatDoor
