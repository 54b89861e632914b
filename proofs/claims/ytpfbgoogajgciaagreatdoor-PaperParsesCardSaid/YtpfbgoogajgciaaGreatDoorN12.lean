/- back (14). Conditions: none. -/
import Derived.Test.YtpfbgoogajgciaaGreatDoorN11
import Derived.Test.YtpfbgoogajgciaaGreatDoorP2
import Derived.Test.YtpfbgoogajgciaaGreatDoorF7
set_option linter.unusedSimpArgs false
set_option linter.unusedVariables false
namespace Go.Proofs.YtpfbgoogajgciaaGreatDoor
open Go.RowKit Go.Shelf

theorem printL_len (c : CertV) : (printL c).1.length ≤ 60000 := by
  unfold printL
  repeat' split
  all_goals simp
  omega
theorem printL_none (c : CertV) (h : (printL c).2 ≠ 0) : (printL c).1 = [] := by
  unfold printL at h ⊢
  repeat' split
  all_goals simp_all

set_option maxHeartbeats 1600000 in
theorem back_in (c : CertV) (v1 v2 v3 v4 : Value) (w : World) (hE : Env w) (hC : CertR w c v1 v2 v3 v4) (hO : CertOk c) (n1 : c.flow.length ≤ 2000) (n2 : c.pot.length ≤ 2000) (n3 : c.side.length ≤ 2000) (n4 : c.cycle.length ≤ 2000) :
    Calls Tryz.prog 14 #[.agg #[.int .i64 c.kind, v1, v2, v3, v4]] w fun e w' => e = .returned (.bool true) ∧ Below w.heap.size w w' := by
  have HP := Lib.hid (fun W (hb : Below w.heap.size w W) => Print_in c v1 v2 v3 v4 W (hE.on hb) (hC.below hb) hO n1 n2 n3 n4)
  obtain ⟨⟨q0, q1, q2, q3, q4⟩, -⟩ := (Blk.new w 32 #[.int .i64 c.kind, v1, v2, v3, v4]).five
  have hb0 : Below w.heap.size w (w.alloc (.cells #[.int .i64 c.kind, v1, v2, v3, v4] 32)) := (Below.refl _ w).alloc (Nat.le_refl _) _
  have hlt0 : w.heap.size < (w.alloc (.cells #[.int .i64 c.kind, v1, v2, v3, v4] 32)).heap.size := by simp
  have he := printL_err c
  have HN := Lib.hid (printL_none c)
  have HT := Lib.hid (tell_back c hO)
  have hlen := printL_len c
  have HQ := Lib.hid (fun W (hb : Below w.heap.size w W) => Parse_in ⟨(printL c).1.toArray⟩ (by show (printL c).1.toArray.size ≤ _; simpa using hlen) W (hE.on hb))
  have HS := Lib.hid (fun u1 u2 u3 u4 W (hb : Below w.heap.size w W) (hB : CertR W c u1 u2 u3 u4) => Same_eq c v1 v2 v3 v4 u1 u2 u3 u4 W (hC.below hb) hB hO.side (by omega) (by omega) (by omega) (by omega))
  simp only [] at HQ
  obtain ⟨e1, h1⟩ : ∃ e1, (printL c).2 = e1 := ⟨_, rfl⟩
  obtain ⟨s1, hs1⟩ : ∃ s1, (printL c).1 = s1 := ⟨_, rfl⟩
  rw [h1] at he
  rw [h1, hs1] at HP HN HT
  rw [hs1] at HQ
  clear h1 hs1 hlen
  obtain ⟨he0, he1⟩ := he
  go_enter Tryz.func14, Tryz.ntmps14
  go_wp2_with fail
  refine (HP.out _ hb0).mono ?_
  rintro e w1 ⟨rfl, hb1'⟩
  have hb1 : Below w.heap.size w w1 := hb0.trans (hb1'.mono hb0.size)
  have p0 := (hb1'.cell (p := ⟨w.heap.size, 0, none⟩) hlt0).trans q0
  have p1 := (hb1'.cell (p := ⟨w.heap.size, 1, none⟩) hlt0).trans q1
  have p2 := (hb1'.cell (p := ⟨w.heap.size, 2, none⟩) hlt0).trans q2
  have p3 := (hb1'.cell (p := ⟨w.heap.size, 3, none⟩) hlt0).trans q3
  have p4 := (hb1'.cell (p := ⟨w.heap.size, 4, none⟩) hlt0).trans q4
  have hlt1 : w.heap.size < w1.heap.size := Nat.lt_of_lt_of_le hlt0 hb1'.size
  clear hb1' q0 q1 q2 q3 q4 hb0
  by_cases hz : e1 = 0
  · subst hz
    have ht := HT.out rfl
    unfold strV
    go_wp2_with fail
    refine (HQ.out _ hb1).mono ?_
    rintro e w2 ⟨u1, u2, u3, u4, rfl, hB, hb2⟩
    simp only [ht] at hB ⊢
    have hb3 := hb1.trans (hb2.mono hb1.size)
    have r0 := (hb2.cell (p := ⟨w.heap.size, 0, none⟩) hlt1).trans p0
    have r1 := (hb2.cell (p := ⟨w.heap.size, 1, none⟩) hlt1).trans p1
    have r2 := (hb2.cell (p := ⟨w.heap.size, 2, none⟩) hlt1).trans p2
    have r3 := (hb2.cell (p := ⟨w.heap.size, 3, none⟩) hlt1).trans p3
    have r4 := (hb2.cell (p := ⟨w.heap.size, 4, none⟩) hlt1).trans p4
    obtain ⟨A1, c1, rfl, -, -⟩ := hB.flow.open_
    obtain ⟨A2, c2, rfl, -, -⟩ := hB.pot.open_
    obtain ⟨A3, c3, rfl, -, -⟩ := hB.side.open_
    obtain ⟨A4, c4, rfl, -, -⟩ := hB.cycle.open_
    have hlt2 : w.heap.size < w2.heap.size := Nat.lt_of_lt_of_le hlt1 hb2.size
    have hb4 : Below w2.heap.size w2 (w2.alloc (.cells #[.int .i64 c.kind, .slice A1 c.flow.length c1, .slice A2 c.pot.length c2, .slice A3 c.side.length c3, .slice A4 c.cycle.length c4] 32)) := (Below.refl _ w2).alloc (Nat.le_refl _) _
    have o0 := (hb4.cell (p := ⟨w.heap.size, 0, none⟩) hlt2).trans r0
    have o1 := (hb4.cell (p := ⟨w.heap.size, 1, none⟩) hlt2).trans r1
    have o2 := (hb4.cell (p := ⟨w.heap.size, 2, none⟩) hlt2).trans r2
    have o3 := (hb4.cell (p := ⟨w.heap.size, 3, none⟩) hlt2).trans r3
    have o4 := (hb4.cell (p := ⟨w.heap.size, 4, none⟩) hlt2).trans r4
    obtain ⟨⟨q0, q1, q2, q3, q4⟩, -⟩ := (Blk.new w2 32 #[.int .i64 c.kind, .slice A1 c.flow.length c1, .slice A2 c.pot.length c2, .slice A3 c.side.length c3, .slice A4 c.cycle.length c4]).five
    go_wp2_with fail
    refine (HS.out _ _ _ _ _ (hb3.trans (hb4.mono hb3.size)) (hB.below hb4)).mono ?_
    rintro e w5 ⟨rfl, hb5⟩
    go_wp2
    go_ret
    exact ⟨rfl, (hb3.trans (hb4.mono hb3.size)).trans (hb5.mono (hb3.trans (hb4.mono hb3.size)).size)⟩
  · obtain rfl := HN.out hz
    unfold strV
    go_wp2
    go_ret
    exact ⟨rfl, hb1⟩
end Go.Proofs.YtpfbgoogajgciaaGreatDoor
