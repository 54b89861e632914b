/- Print (16). Conditions: none. -/
import Derived.Test.YtpfbgoogajgciaaDoorQ8
set_option linter.unusedSimpArgs false
set_option linter.unusedVariables false
namespace Go.Proofs.YtpfbgoogajgciaaDoor
open Go.RowKit Go.Shelf

theorem ix0 (m1 m2 m3 m4 : Nat) (W : World) : (Instr.index 37 (.agg #[.int .i64 m1, .int .i64 m2, .int .i64 m3, .int .i64 m4]) (.int .i64 0)).run Tryd.prog W = .ok (.int .i64 m1) W := by kernel_rfl
theorem ix1 (m1 m2 m3 m4 : Nat) (W : World) : (Instr.index 37 (.agg #[.int .i64 m1, .int .i64 m2, .int .i64 m3, .int .i64 m4]) (.int .i64 1)).run Tryd.prog W = .ok (.int .i64 m2) W := by kernel_rfl
theorem ix2 (m1 m2 m3 m4 : Nat) (W : World) : (Instr.index 37 (.agg #[.int .i64 m1, .int .i64 m2, .int .i64 m3, .int .i64 m4]) (.int .i64 2)).run Tryd.prog W = .ok (.int .i64 m3) W := by kernel_rfl
theorem ix3 (m1 m2 m3 m4 : Nat) (W : World) : (Instr.index 37 (.agg #[.int .i64 m1, .int .i64 m2, .int .i64 m3, .int .i64 m4]) (.int .i64 3)).run Tryd.prog W = .ok (.int .i64 m4) W := by kernel_rfl
theorem isEmpty_len {α : Type} (l : List α) : l.isEmpty = decide (l.length = 0) := by cases l <;> simp
theorem plain_eq (c : CertV) : plainC c = plainN c.kind c.flow.length c.pot.length c.side.length c.cycle.length := by
  unfold plainC plainN
  simp only [isEmpty_len]
theorem text_le (c : CertV) (hO : CertOk c) (n1 : c.flow.length ≤ 2000) (n2 : c.pot.length ≤ 2000) (n3 : c.side.length ≤ 2000) (n4 : c.cycle.length ≤ 2000) : (textL c).length ≤ 100000 := by
  have hl1 := lineL_le .flow c.flow hO.flow
  have hl2 := lineL_le .pot c.pot hO.pot
  have hl3 := lineL_le .side c.side (fun x hx => by have := hO.side x hx; omega)
  have hl4 := lineL_le .cycle c.cycle hO.cycle
  unfold textL bestL cutN rayL
  split
  · simp only [List.length_append, List.length_cons, List.length_nil]; omega
  · split
    · simp only [List.length_append, List.length_cons, List.length_nil]; omega
    · simp only [List.length_append, List.length_cons, List.length_nil]; omega

set_option maxHeartbeats 3200000 in
set_option maxRecDepth 100000 in
theorem Print_in (c : CertV) (v1 v2 v3 v4 : Value) (w : World) (hE : Env w) (hC : CertR w c v1 v2 v3 v4) (hO : CertOk c) (n1 : c.flow.length ≤ 2000) (n2 : c.pot.length ≤ 2000) (n3 : c.side.length ≤ 2000) (n4 : c.cycle.length ≤ 2000) :
    Calls Tryd.prog 5 #[.agg #[.int .i64 c.kind, v1, v2, v3, v4]] w fun e w' => e = .returned (.tuple #[strV (printL c).1, .int .u16 (printL c).2]) ∧ Below w.heap.size w w' := by
  have hPr := fun W (hb : Below w.heap.size w W) => printed_in c v1 v2 v3 v4 W (hE.on hb) (hC.below hb) hO n1 n2 n3 n4
  have htl := text_le c hO n1 n2 n3 n4
  obtain ⟨A1, c1, rfl, hc1, r1⟩ := hC.flow.open_
  obtain ⟨A2, c2, rfl, hc2, r2⟩ := hC.pot.open_
  obtain ⟨A3, c3, rfl, hc3, r3⟩ := hC.side.open_
  obtain ⟨A4, c4, rfl, hc4, r4⟩ := hC.cycle.open_
  obtain ⟨k, hk⟩ : ∃ k, c.kind = k := ⟨_, rfl⟩
  have hPl := fun W => Plain_in k A1 A2 A3 A4 c.flow.length c.pot.length c.side.length c.cycle.length c1 c2 c3 c4 W (by omega) (by omega) (by omega) (by omega)
  have hPC : plainN k c.flow.length c.pot.length c.side.length c.cycle.length = plainC c := by rw [plain_eq, hk]
  rw [hPC] at hPl
  rw [hk] at hPr ⊢
  have HPr := Lib.hid hPr
  have HPl := Lib.hid hPl
  have HK := Lib.hid hk
  have HR4 := Lib.hid r4
  have HPRL : Hid (printL c = if plainC c = false then ([], 36) else if 1000 < c.flow.length ∨ 1000 < c.pot.length ∨ 1000 < c.side.length ∨ 1000 < c.cycle.length then ([], 20) else if c.cycle.any (fun a => decide (a < 0)) then ([], 11) else if 60000 < (textL c).length then ([], 3) else (textL c, 0)) := Lib.hid rfl
  obtain ⟨⟨q0, q1, q2, q3, q4⟩, -⟩ := (Blk.new w 31 #[.int .i64 k, .slice A1 c.flow.length c1, .slice A2 c.pot.length c2, .slice A3 c.side.length c3, .slice A4 c.cycle.length c4]).five
  have hb0 : Below w.heap.size w (w.alloc (.cells #[.int .i64 k, .slice A1 c.flow.length c1, .slice A2 c.pot.length c2, .slice A3 c.side.length c3, .slice A4 c.cycle.length c4] 31)) := (Below.refl _ w).alloc (Nat.le_refl _) _
  have hlt0 : w.heap.size < (w.alloc (.cells #[.int .i64 k, .slice A1 c.flow.length c1, .slice A2 c.pot.length c2, .slice A3 c.side.length c3, .slice A4 c.cycle.length c4] 31)).heap.size := by simp
  clear hPr hPl hk r1 r2 r3 r4 hC hPC
  obtain ⟨pl, hpl⟩ : ∃ pl, plainC c = pl := ⟨_, rfl⟩
  rw [hpl] at HPl HPRL
  clear hpl
  go_enter Tryd.func5, Tryd.ntmps5
  go_wp2_with fail
  refine (HPl.out _).mono ?_
  rintro e w1 ⟨rfl, hb1⟩
  have hbw1 : Below w.heap.size w w1 := hb0.trans (hb1.mono hb0.size)
  have p0 := (hb1.cell (p := ⟨w.heap.size, 0, none⟩) hlt0).trans q0
  have p1 := (hb1.cell (p := ⟨w.heap.size, 1, none⟩) hlt0).trans q1
  have p2 := (hb1.cell (p := ⟨w.heap.size, 2, none⟩) hlt0).trans q2
  have p3 := (hb1.cell (p := ⟨w.heap.size, 3, none⟩) hlt0).trans q3
  have p4 := (hb1.cell (p := ⟨w.heap.size, 4, none⟩) hlt0).trans q4
  clear hb1 q0 q1 q2 q3 q4 hb0
  cases pl
  · rw [if_pos rfl] at HPRL
    go_wp2_with fail
    refine bodyPost_ret (v := .tuple #[.string ⟨#[]⟩, .int .u16 36]) (by simp [results, Tryd.results5, go_sem]) rfl ⟨?_, hbw1⟩
    rw [HPRL.out]; rfl
  · rw [if_neg (by simp)] at HPRL
    obtain ⟨m1, hm1⟩ : ∃ m, m = c.flow.length := ⟨_, rfl⟩
    obtain ⟨m2, hm2⟩ : ∃ m, m = c.pot.length := ⟨_, rfl⟩
    obtain ⟨m3, hm3⟩ : ∃ m, m = c.side.length := ⟨_, rfl⟩
    obtain ⟨m4, hm4⟩ : ∃ m, m = c.cycle.length := ⟨_, rfl⟩
    rw [← hm1] at p1 n1 HPRL HPr HPl
    rw [← hm2] at p2 n2 HPRL HPr HPl
    rw [← hm3] at p3 n3 HPRL HPr HPl
    rw [← hm4] at p4 n4 HPRL HPr HPl HR4
    rw [← hm1, ← hm2, ← hm3, ← hm4]
    have HM4 := Lib.hid hm4
    clear hm1 hm2 hm3 hm4
    go_wp2_with fail
    go_loopw [25] (fun i wr => ∃ kk : Nat, kk ≤ 4 ∧ i = .int .i64 kk ∧ (0 < kk → m1 ≤ 1000) ∧ (1 < kk → m2 ≤ 1000) ∧ (2 < kk → m3 ≤ 1000) ∧ (3 < kk → m4 ≤ 1000) ∧ wr = w1) (fun i _ => 4 - (Lib.intOf i).toNat)
    case atStart => exact ⟨0, Nat.zero_le _, rfl, by omega, by omega, by omega, by omega, rfl⟩
    case round =>
      obtain ⟨kk, hkk, rfl, g1, g2, g3, g4, hwr⟩ := hrel
      obtain rfl := hwr.symm
      rcases (show kk = 0 ∨ kk = 1 ∨ kk = 2 ∨ kk = 3 ∨ kk = 4 by omega) with rfl | rfl | rfl | rfl | rfl
      · have hix : ∀ W : World, (Instr.index 37 (.agg #[.int .i64 m1, .int .i64 m2, .int .i64 m3, .int .i64 m4]) (.int .i64 0)).run Tryd.prog W = .ok (.int .i64 m1) W := ix0 m1 m2 m3 m4
        by_cases hbig : 1000 < m1
        · rw [if_pos (by omega)] at HPRL
          have hbig' : (1000 : Int) < (m1 : Int) := by omega
          go_wp2_with fail
          refine bodyPost_ret (v := .tuple #[.string ⟨#[]⟩, .int .u16 20]) (by simp [results, Tryd.results5, go_sem]) rfl ⟨?_, hbw1⟩
          rw [HPRL.out]; rfl
        · have hbig' : ¬ (1000 : Int) < (m1 : Int) := by omega
          go_wp2_with fail
          exact ⟨⟨0 + 1, by omega, rfl, by omega, by omega, by omega, by omega, trivial⟩, by simp [Lib.intOf]⟩
      · have hix : ∀ W : World, (Instr.index 37 (.agg #[.int .i64 m1, .int .i64 m2, .int .i64 m3, .int .i64 m4]) (.int .i64 1)).run Tryd.prog W = .ok (.int .i64 m2) W := ix1 m1 m2 m3 m4
        by_cases hbig : 1000 < m2
        · rw [if_pos (by omega)] at HPRL
          have hbig' : (1000 : Int) < (m2 : Int) := by omega
          go_wp2_with fail
          refine bodyPost_ret (v := .tuple #[.string ⟨#[]⟩, .int .u16 20]) (by simp [results, Tryd.results5, go_sem]) rfl ⟨?_, hbw1⟩
          rw [HPRL.out]; rfl
        · have hbig' : ¬ (1000 : Int) < (m2 : Int) := by omega
          go_wp2_with fail
          exact ⟨⟨1 + 1, by omega, rfl, by omega, by omega, by omega, by omega, trivial⟩, by simp [Lib.intOf]⟩
      · have hix : ∀ W : World, (Instr.index 37 (.agg #[.int .i64 m1, .int .i64 m2, .int .i64 m3, .int .i64 m4]) (.int .i64 2)).run Tryd.prog W = .ok (.int .i64 m3) W := ix2 m1 m2 m3 m4
        by_cases hbig : 1000 < m3
        · rw [if_pos (by omega)] at HPRL
          have hbig' : (1000 : Int) < (m3 : Int) := by omega
          go_wp2_with fail
          refine bodyPost_ret (v := .tuple #[.string ⟨#[]⟩, .int .u16 20]) (by simp [results, Tryd.results5, go_sem]) rfl ⟨?_, hbw1⟩
          rw [HPRL.out]; rfl
        · have hbig' : ¬ (1000 : Int) < (m3 : Int) := by omega
          go_wp2_with fail
          exact ⟨⟨2 + 1, by omega, rfl, by omega, by omega, by omega, by omega, trivial⟩, by simp [Lib.intOf]⟩
      · have hix : ∀ W : World, (Instr.index 37 (.agg #[.int .i64 m1, .int .i64 m2, .int .i64 m3, .int .i64 m4]) (.int .i64 3)).run Tryd.prog W = .ok (.int .i64 m4) W := ix3 m1 m2 m3 m4
        by_cases hbig : 1000 < m4
        · rw [if_pos (by omega)] at HPRL
          have hbig' : (1000 : Int) < (m4 : Int) := by omega
          go_wp2_with fail
          refine bodyPost_ret (v := .tuple #[.string ⟨#[]⟩, .int .u16 20]) (by simp [results, Tryd.results5, go_sem]) rfl ⟨?_, hbw1⟩
          rw [HPRL.out]; rfl
        · have hbig' : ¬ (1000 : Int) < (m4 : Int) := by omega
          go_wp2_with fail
          exact ⟨⟨3 + 1, by omega, rfl, by omega, by omega, by omega, by omega, trivial⟩, by simp [Lib.intOf]⟩
      · have g1' := g1 (by omega)
        have g2' := g2 (by omega)
        have g3' := g3 (by omega)
        have g4' := g4 (by omega)
        rw [if_neg (by omega)] at HPRL
        clear g1 g2 g3 g4
        have HRw := Lib.hid (HR4.out.below hbw1)
        go_wp2_with fail
        go_loopw [34] (fun i wr => ∃ k4 : Nat, k4 ≤ m4 ∧ i = .int .i64 k4 ∧ (∀ j x, j < k4 → c.cycle[j]? = some x → 0 ≤ x) ∧ ∃ q, wr = w1.drewN q) (fun i _ => m4 - (Lib.intOf i).toNat)
        case atStart => exact ⟨0, Nat.zero_le _, rfl, fun j x hj => absurd hj (by omega), 0, rfl⟩
        case round =>
          obtain ⟨k4, hk4, rfl, hall, q, rfl⟩ := hrel
          have HA := Lib.hid hall
          clear hall
          by_cases hlt : k4 < m4
          · obtain ⟨b, off, u, rfl, -, hx, hcell⟩ := HRw.out.at_ hlt
            simp only [List.getElem?_map, Option.map_eq_some_iff] at hx
            obtain ⟨x, hx, rfl⟩ := hx
            unfold I at hcell
            have HX := Lib.hid hx
            clear hx
            by_cases hneg : x < 0
            · have hany : c.cycle.any (fun a => decide (a < 0)) = true := List.any_eq_true.2 ⟨x, List.mem_of_getElem? HX.out, decide_eq_true hneg⟩
              rw [if_pos hany] at HPRL
              clear hany
              go_wp2_with fail
              refine bodyPost_ret (v := .tuple #[.string ⟨#[]⟩, .int .u16 11]) (by simp [results, Tryd.results5, go_sem]) rfl ⟨?_, hbw1.trans ((below_drewN _ q).mono hbw1.size)⟩
              rw [HPRL.out]; rfl
            · go_wp2_with fail
              refine ⟨⟨k4 + 1, by omega, rfl, fun j y hj hy => ?_, q, rfl⟩, by simp [Lib.intOf]; omega⟩
              rcases Nat.lt_or_ge j k4 with h | h
              · exact HA.out j y h hy
              · obtain rfl : j = k4 := by omega
                rw [HX.out] at hy
                obtain rfl := Option.some.inj hy
                omega
          · have hany : ¬ c.cycle.any (fun a => decide (a < 0)) = true := by
              intro h
              obtain ⟨x, hx, hd⟩ := List.any_eq_true.1 h
              obtain ⟨j, hj⟩ := List.getElem?_of_mem hx
              have h1 := (List.getElem?_eq_some_iff.1 hj).1
              have := HA.out j x (by rw [← HM4.out] at h1; omega) hj
              have := of_decide_eq_true hd
              omega
            rw [if_neg hany] at HPRL
            clear hany
            have hbq : Below w.heap.size w (w1.drewN q) := hbw1.trans ((below_drewN w1 q).mono hbw1.size)
            have HP2 := Lib.hid (HPr.out _ hbq)
            obtain ⟨T, hT, hTs⟩ : ∃ T : ByteArray, strV (textL c) = .string T ∧ T.size = (textL c).length := ⟨⟨_⟩, rfl, rfl⟩
            rw [hT] at HP2
            have HTT := Lib.hid hT
            rw [← hTs] at HPRL htl
            clear hT hTs
            go_wp2_with fail
            refine HP2.out.mono ?_
            rintro e w2 ⟨rfl, hb2⟩
            have hbw2 := hbq.trans (hb2.mono hbq.size)
            by_cases hlong : 60000 < T.size
            · rw [if_pos hlong] at HPRL
              have hlong' : (60000 : Int) < (T.size : Int) := by omega
              go_wp2_with fail
              refine bodyPost_ret (v := .tuple #[.string ⟨#[]⟩, .int .u16 3]) (by simp [results, Tryd.results5, go_sem]) rfl ⟨?_, hbw2⟩
              rw [HPRL.out]; rfl
            · rw [if_neg hlong] at HPRL
              have hlong' : ¬ (60000 : Int) < (T.size : Int) := by omega
              go_wp2_with fail
              refine bodyPost_ret (v := .tuple #[.string T, .int .u16 0]) (by simp [results, Tryd.results5, go_sem]) rfl ⟨?_, hbw2⟩
              rw [HPRL.out, HTT.out]
end Go.Proofs.YtpfbgoogajgciaaDoor
