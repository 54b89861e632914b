/- The document's answer: Print (20). Conditions: none. -/
import Derived.Test.YtpfbgoogajgciaaGreatDoorF8
set_option linter.unusedSimpArgs false
set_option linter.unusedVariables false
namespace Go.Proofs.YtpfbgoogajgciaaGreatDoor
open Go.RowKit Go.Shelf

set_option maxHeartbeats 6400000 in
set_option maxRecDepth 100000 in
theorem rPrint_in (c : CertV) (v1 v2 v3 v4 : Value) (w : World) (hC : CertR w c v1 v2 v3 v4) (hO : CertOk c) (n1 : c.flow.length ≤ 2000) (n2 : c.pot.length ≤ 2000) (n3 : c.side.length ≤ 2000) (n4 : c.cycle.length ≤ 2000) :
    Calls Tryz.prog 20 #[.agg #[.int .i64 c.kind, v1, v2, v3, v4]] w fun e w' => e = .returned (.tuple #[strV (printL c).1, .int .i64 (printL c).2]) ∧ Below w.heap.size w w' := by
  have htl := text_le c hO n1 n2 n3 n4
  obtain ⟨A1, c1, rfl, hc1, r1⟩ := hC.flow.open_
  obtain ⟨A2, c2, rfl, hc2, r2⟩ := hC.pot.open_
  obtain ⟨A3, c3, rfl, hc3, r3⟩ := hC.side.open_
  obtain ⟨A4, c4, rfl, hc4, r4⟩ := hC.cycle.open_
  obtain ⟨k, hk⟩ : ∃ k, c.kind = k := ⟨_, rfl⟩
  have hPl := fun W => rPlain_in k A1 A2 A3 A4 c.flow.length c.pot.length c.side.length c.cycle.length c1 c2 c3 c4 W
  have hPC : plainN k c.flow.length c.pot.length c.side.length c.cycle.length = plainC c := by rw [plain_eq, hk]
  rw [hPC] at hPl
  rw [hk]
  have HPl := Lib.hid hPl
  have HK := Lib.hid hk
  have HPRL : Hid (printL c = if plainC c = false then ([], 36) else if 1000 < c.flow.length ∨ 1000 < c.pot.length ∨ 1000 < c.side.length ∨ 1000 < c.cycle.length then ([], 20) else if c.cycle.any (fun a => decide (a < 0)) then ([], 11) else if 60000 < (textL c).length then ([], 3) else (textL c, 0)) := Lib.hid rfl
  have HL1 : Hid (∀ W, Below w.heap.size w W → Calls Tryz.prog 40 #[.string ⟨#[102, 108, 111, 119]⟩, .slice A1 c.flow.length c1] W fun e w' => e = .returned (strV (lineL .flow c.flow)) ∧ ∃ q, w' = W.drewN q) :=
    Lib.hid (fun W hb => nums_in ⟨#[102, 108, 111, 119]⟩ A1 _ c1 w.heap.size c.flow W (r1.below hb) (by omega) (by decide) hO.flow)
  have HL2 : Hid (∀ W, Below w.heap.size w W → Calls Tryz.prog 40 #[.string ⟨#[112, 111, 116]⟩, .slice A2 c.pot.length c2] W fun e w' => e = .returned (strV (lineL .pot c.pot)) ∧ ∃ q, w' = W.drewN q) :=
    Lib.hid (fun W hb => nums_in ⟨#[112, 111, 116]⟩ A2 _ c2 w.heap.size c.pot W (r2.below hb) (by omega) (by decide) hO.pot)
  have HS3 : Hid (∀ W, Below w.heap.size w W → Calls Tryz.prog 41 #[.slice A3 c.side.length c3] W fun e w' => ∃ A' cp, e = .returned (.slice A' c.side.length cp) ∧ w'.ownsRow W.heap.size 2 1 (.slice A' c.side.length cp) c.side.length (c.side.map I) ∧ Below W.heap.size W w') :=
    Lib.hid (fun W hb => side_in A3 _ c3 w.heap.size c.side W (r3.below hb) hb.size (by omega) hO.side)
  have HL3 : Hid (∀ W A' cp B, W.ownsRow B 2 1 (.slice A' c.side.length cp) c.side.length (c.side.map I) → Calls Tryz.prog 40 #[.string ⟨#[115, 105, 100, 101]⟩, .slice A' c.side.length cp] W fun e w' => e = .returned (strV (lineL .side c.side)) ∧ ∃ q, w' = W.drewN q) :=
    Lib.hid (fun W A' cp B h => nums_in ⟨#[115, 105, 100, 101]⟩ A' _ cp W.heap.size c.side W (Reads.of_own h) (by omega) (by decide) (fun x hx => by have := hO.side x hx; omega))
  have HP4 : Hid (∀ W, Below w.heap.size w W → Calls Tryz.prog 39 #[.slice A4 c.cycle.length c4] W fun e w' => ∃ A' m cp, e = .returned (.tuple #[.slice A' m cp, .bool (!c.cycle.any (fun a => decide (a < 0)))]) ∧ (c.cycle.any (fun a => decide (a < 0)) = false → m = c.cycle.length ∧ w'.ownsRow W.heap.size 2 1 (.slice A' c.cycle.length cp) c.cycle.length (c.cycle.map I)) ∧ Below W.heap.size W w') :=
    Lib.hid (fun W hb => places_in A4 _ c4 w.heap.size c.cycle W (r4.below hb) hb.size (by omega))
  have HL4 : Hid (∀ W A' cp B, W.ownsRow B 2 1 (.slice A' c.cycle.length cp) c.cycle.length (c.cycle.map I) → Calls Tryz.prog 40 #[.string ⟨#[99, 121, 99, 108, 101]⟩, .slice A' c.cycle.length cp] W fun e w' => e = .returned (strV (lineL .cycle c.cycle)) ∧ ∃ q, w' = W.drewN q) :=
    Lib.hid (fun W A' cp B h => nums_in ⟨#[99, 121, 99, 108, 101]⟩ A' _ cp W.heap.size c.cycle W (Reads.of_own h) (by omega) (by decide) hO.cycle)
  have hl1 := lineL_le .flow c.flow hO.flow
  have hl2 := lineL_le .pot c.pot hO.pot
  have hl3 := lineL_le .side c.side (fun x hx => by have := hO.side x hx; omega)
  have hl4 := lineL_le .cycle c.cycle hO.cycle
  have HT1 := Lib.hid (text_best c)
  have HT2 := Lib.hid (text_cut c)
  have HT3 := Lib.hid (text_ray c)
  obtain ⟨X1, hX1, hs1⟩ : ∃ X : ByteArray, strV (lineL .flow c.flow) = .string X ∧ X.size = (lineL .flow c.flow).length := ⟨⟨_⟩, rfl, rfl⟩
  obtain ⟨X2, hX2, hs2⟩ : ∃ X : ByteArray, strV (lineL .pot c.pot) = .string X ∧ X.size = (lineL .pot c.pot).length := ⟨⟨_⟩, rfl, rfl⟩
  obtain ⟨X3, hX3, hs3⟩ : ∃ X : ByteArray, strV (lineL .side c.side) = .string X ∧ X.size = (lineL .side c.side).length := ⟨⟨_⟩, rfl, rfl⟩
  obtain ⟨X4, hX4, hs4⟩ : ∃ X : ByteArray, strV (lineL .cycle c.cycle) = .string X ∧ X.size = (lineL .cycle c.cycle).length := ⟨⟨_⟩, rfl, rfl⟩
  rw [hX1] at HL1
  rw [hX2] at HL2
  rw [hX3] at HL3
  rw [hX4] at HL4
  have z1 : X1.size ≤ 50000 := by omega
  have z2 : X2.size ≤ 50000 := by omega
  have z3 : X3.size ≤ 50000 := by omega
  have z4 : X4.size ≤ 50000 := by omega
  have E1 := Lib.hid (strV_inj ((strV_data X1).trans hX1.symm))
  have E2 := Lib.hid (strV_inj ((strV_data X2).trans hX2.symm))
  have E3 := Lib.hid (strV_inj ((strV_data X3).trans hX3.symm))
  have E4 := Lib.hid (strV_inj ((strV_data X4).trans hX4.symm))
  obtain ⟨⟨q0, q1, q2, q3, q4⟩, -⟩ := (Blk.new w 32 #[.int .i64 k, .slice A1 c.flow.length c1, .slice A2 c.pot.length c2, .slice A3 c.side.length c3, .slice A4 c.cycle.length c4]).five
  have hb0 : Below w.heap.size w (w.alloc (.cells #[.int .i64 k, .slice A1 c.flow.length c1, .slice A2 c.pot.length c2, .slice A3 c.side.length c3, .slice A4 c.cycle.length c4] 32)) := (Below.refl _ w).alloc (Nat.le_refl _) _
  have hlt0 : w.heap.size < (w.alloc (.cells #[.int .i64 k, .slice A1 c.flow.length c1, .slice A2 c.pot.length c2, .slice A3 c.side.length c3, .slice A4 c.cycle.length c4] 32)).heap.size := by simp
  clear hX1 hX2 hX3 hX4 hs1 hs2 hs3 hs4 hl1 hl2 hl3 hl4 hPl hk r1 r2 r3 r4 hC hPC hO hc1 hc2 hc3 hc4
  obtain ⟨pl, hpl⟩ : ∃ pl, plainC c = pl := ⟨_, rfl⟩
  rw [hpl] at HPl HPRL
  clear hpl
  obtain ⟨neg, hneg⟩ : ∃ neg, c.cycle.any (fun a => decide (a < 0)) = neg := ⟨_, rfl⟩
  rw [hneg] at HP4 HPRL
  clear hneg
  go_enter Tryz.func20, Tryz.ntmps20
  go_wp2_with fail
  refine (HPl.out _).mono ?_
  rintro e w1 ⟨rfl, hb1⟩
  have hbw1 : Below w.heap.size w w1 := hb0.trans (hb1.mono hb0.size)
  have hlt1 : w.heap.size < w1.heap.size := Nat.lt_of_lt_of_le hlt0 hb1.size
  have p0 := (hb1.cell (p := ⟨w.heap.size, 0, none⟩) hlt0).trans q0
  have p1 := (hb1.cell (p := ⟨w.heap.size, 1, none⟩) hlt0).trans q1
  have p2 := (hb1.cell (p := ⟨w.heap.size, 2, none⟩) hlt0).trans q2
  have p3 := (hb1.cell (p := ⟨w.heap.size, 3, none⟩) hlt0).trans q3
  have p4 := (hb1.cell (p := ⟨w.heap.size, 4, none⟩) hlt0).trans q4
  clear hb1 q0 q1 q2 q3 q4 hb0 hlt0
  cases pl
  · rw [if_pos rfl] at HPRL
    go_wp2_with fail
    refine bodyPost_ret (v := .tuple #[.string ⟨#[]⟩, .int .i64 36]) (by simp [results, Tryz.results20, go_sem]) rfl ⟨?_, hbw1⟩
    rw [HPRL.out]; rfl
  rw [if_neg (by simp)] at HPRL
  by_cases hbig : 1000 < c.flow.length ∨ 1000 < c.pot.length ∨ 1000 < c.side.length ∨ 1000 < c.cycle.length
  · rw [if_pos hbig] at HPRL
    by_cases g1 : (1000 : Int) < (c.flow.length : Int)
    · go_wp2_with fail
      refine bodyPost_ret (v := .tuple #[.string ⟨#[]⟩, .int .i64 20]) (by simp [results, Tryz.results20, go_sem]) rfl ⟨?_, hbw1⟩
      rw [HPRL.out]; rfl
    by_cases g2 : (1000 : Int) < (c.pot.length : Int)
    · go_wp2_with fail
      refine bodyPost_ret (v := .tuple #[.string ⟨#[]⟩, .int .i64 20]) (by simp [results, Tryz.results20, go_sem]) rfl ⟨?_, hbw1⟩
      rw [HPRL.out]; rfl
    by_cases g3 : (1000 : Int) < (c.side.length : Int)
    · go_wp2_with fail
      refine bodyPost_ret (v := .tuple #[.string ⟨#[]⟩, .int .i64 20]) (by simp [results, Tryz.results20, go_sem]) rfl ⟨?_, hbw1⟩
      rw [HPRL.out]; rfl
    have g4 : (1000 : Int) < (c.cycle.length : Int) := by omega
    go_wp2_with fail
    refine bodyPost_ret (v := .tuple #[.string ⟨#[]⟩, .int .i64 20]) (by simp [results, Tryz.results20, go_sem]) rfl ⟨?_, hbw1⟩
    rw [HPRL.out]; rfl
  rw [if_neg hbig] at HPRL
  have g1 : ¬ (1000 : Int) < (c.flow.length : Int) := by omega
  have g2 : ¬ (1000 : Int) < (c.pot.length : Int) := by omega
  have g3 : ¬ (1000 : Int) < (c.side.length : Int) := by omega
  have g4 : ¬ (1000 : Int) < (c.cycle.length : Int) := by omega
  clear hbig
  go_wp2_with fail
  refine (HP4.out w1 hbw1).mono ?_
  rintro e w2 ⟨A', m', cp', rfl, hown, hb2⟩
  have hbw2 := hbw1.trans (hb2.mono hbw1.size)
  have hlt2 : w.heap.size < w2.heap.size := Nat.lt_of_lt_of_le hlt1 hb2.size
  have q0 := (hb2.cell (p := ⟨w.heap.size, 0, none⟩) hlt1).trans p0
  have q1 := (hb2.cell (p := ⟨w.heap.size, 1, none⟩) hlt1).trans p1
  have q2 := (hb2.cell (p := ⟨w.heap.size, 2, none⟩) hlt1).trans p2
  have q3 := (hb2.cell (p := ⟨w.heap.size, 3, none⟩) hlt1).trans p3
  clear p0 p1 p2 p3 p4 hb2 hlt1
  by_cases hng : neg = true
  · subst hng
    rw [if_pos rfl] at HPRL
    clear hown
    go_wp2_with fail
    refine bodyPost_ret (v := .tuple #[.string ⟨#[]⟩, .int .i64 11]) (by simp [results, Tryz.results20, go_sem]) rfl ⟨?_, hbw2⟩
    rw [HPRL.out]; rfl
  have hng' : neg = false := by simpa using hng
  clear hng
  subst hng'
  rw [if_neg (by simp)] at HPRL
  obtain ⟨hme, hown2⟩ := hown rfl
  clear hown
  subst hme
  have HOW := Lib.hid hown2
  clear hown2
  by_cases hk1 : k = 1
  · subst hk1
    have zz1 : ¬ 9223372036854775807 < 5 + X1.size := by omega
    have zz2 : ¬ 9223372036854775807 < 5 + X1.size + X2.size := by omega
    have hbq : ∀ qa, Below w.heap.size w (w2.drewN qa) := fun qa => hbw2.trans ((below_drewN w2 qa).mono hbw2.size)
    have hbd := hbw2.drew
    go_wp2_with fail
    go_region_held3 (fun w' => w'.cell? ⟨w.heap.size, 1, none⟩ = some (.slice A1 c.flow.length c1) ∧ w'.cell? ⟨w.heap.size, 2, none⟩ = some (.slice A2 c.pot.length c2)) (first | go_keep | exact ⟨k1, k2⟩ | exact ⟨q1, q2⟩)
      (first
        | (go_at_call 40; first
            | ((with_reducible refine (HL1.out _ hbd).mono ?_); rintro e wa ⟨rfl, qa, rfl⟩; have k1 := q1; have k2 := q2)
            | ((with_reducible refine (HL2.out (w2.drewN (1 + qa)) (hbq (1 + qa))).mono ?_); rintro e wb ⟨rfl, qb, rfl⟩; have k1 := q1; have k2 := q2)))
    all_goals
      have hTl : ((⟨#[98, 101, 115, 116, 10]⟩ : ByteArray) ++ X1 ++ X2).data.toList = textL c := by
        rw [HT1.out HK.out, ← E1.out, ← E2.out]
        simp [bestL, cutN, rayL]
      have hTs : (textL c).length = 5 + X1.size + X2.size := by
        rw [← hTl]
        simp
        try omega
      have HTT : Hid (strV (textL c) = .string ((⟨#[98, 101, 115, 116, 10]⟩ : ByteArray) ++ X1 ++ X2)) := Lib.hid (by rw [← hTl, strV_data])
      rw [hTs] at HPRL htl
      clear hTl hTs
      by_cases hlong : 60000 < 5 + X1.size + X2.size
      · rw [if_pos hlong] at HPRL
        have hlong' : (60000 : Int) < 5 + (X1.size : Int) + (X2.size : Int) := by omega
        go_wp2_with fail
        refine bodyPost_ret (v := .tuple #[.string ⟨#[]⟩, .int .i64 3]) (by simp [results, Tryz.results20, go_sem]) rfl ⟨?_, hbq _⟩
        rw [HPRL.out]; rfl
      · rw [if_neg hlong] at HPRL
        have hlong' : ¬ (60000 : Int) < 5 + (X1.size : Int) + (X2.size : Int) := by omega
        go_wp2_with fail
        refine bodyPost_ret (v := .tuple #[.string ((⟨#[98, 101, 115, 116, 10]⟩ : ByteArray) ++ X1 ++ X2), .int .i64 0]) (by simp [results, Tryz.results20, go_sem]) rfl ⟨?_, hbq _⟩
        rw [HPRL.out, HTT.out]
  by_cases hk2 : k = 2
  · subst hk2
    go_wp2_with fail
    refine (HS3.out w2 hbw2).mono ?_
    rintro e w3 ⟨A5, c5, rfl, ho5, hb3⟩
    have hbw3 := hbw2.trans (hb3.mono hbw2.size)
    have HO5 := Lib.hid ho5
    clear ho5
    go_wp2_with fail
    refine (HL3.out w3 A5 c5 _ HO5.out).mono ?_
    rintro e w4 ⟨rfl, q5, rfl⟩
    have hbw4 := hbw3.trans ((below_drewN w3 q5).mono hbw3.size)
    generalize w3.drewN q5 = W4 at hbw4 ⊢
    have zz1 : ¬ 9223372036854775807 < 4 + X3.size := by omega
    have hTl : ((⟨#[99, 117, 116, 10]⟩ : ByteArray) ++ X3).data.toList = textL c := by
      rw [HT2.out HK.out, ← E3.out]
      simp [bestL, cutN, rayL]
    have hTs : (textL c).length = 4 + X3.size := by
      rw [← hTl]
      simp
      try omega
    have HTT : Hid (strV (textL c) = .string ((⟨#[99, 117, 116, 10]⟩ : ByteArray) ++ X3)) := Lib.hid (by rw [← hTl, strV_data])
    rw [hTs] at HPRL htl
    clear hTl hTs
    by_cases hlong : 60000 < 4 + X3.size
    · rw [if_pos hlong] at HPRL
      have hlong' : (60000 : Int) < 4 + (X3.size : Int) := by omega
      go_wp2_with fail
      refine bodyPost_ret (v := .tuple #[.string ⟨#[]⟩, .int .i64 3]) (by simp [results, Tryz.results20, go_sem]) rfl ⟨?_, hbw4⟩
      rw [HPRL.out]; rfl
    · rw [if_neg hlong] at HPRL
      have hlong' : ¬ (60000 : Int) < 4 + (X3.size : Int) := by omega
      go_wp2_with fail
      refine bodyPost_ret (v := .tuple #[.string ((⟨#[99, 117, 116, 10]⟩ : ByteArray) ++ X3), .int .i64 0]) (by simp [results, Tryz.results20, go_sem]) rfl ⟨?_, hbw4⟩
      rw [HPRL.out, HTT.out]
  have d1 : (k == 1) = false := by simpa using hk1
  have d2 : (k == 2) = false := by simpa using hk2
  have HT3' : Hid (textL c = rayL ++ [10] ++ lineL .flow c.flow ++ lineL .cycle c.cycle) := Lib.hid (HT3.out (by rw [HK.out]; exact hk1) (by rw [HK.out]; exact hk2))
  clear hk1 hk2
  go_wp2_with fail
  refine (HL1.out w2 hbw2).mono ?_
  rintro e wa ⟨rfl, qa, rfl⟩
  go_wp2_with fail
  refine (HL4.out _ A' cp' _ (show (w2.drewN qa).ownsRow w1.heap.size 2 1 (.slice A' c.cycle.length cp') c.cycle.length (c.cycle.map I) from HOW.out)).mono ?_
  rintro e wb ⟨rfl, qb, rfl⟩
  have hbF : Below w.heap.size w ((w2.drewN qa).drewN qb) := (hbw2.trans ((below_drewN w2 qa).mono hbw2.size)).trans ((below_drewN _ qb).mono hbw2.size)
  generalize (w2.drewN qa).drewN qb = WF at hbF ⊢
  have hTl : ((⟨#[114, 97, 121, 10]⟩ : ByteArray) ++ X1 ++ X4).data.toList = textL c := by
    rw [HT3'.out, ← E1.out, ← E4.out]
    simp [bestL, cutN, rayL]
  have hTs : (textL c).length = 4 + X1.size + X4.size := by
    rw [← hTl]
    simp
    try omega
  have HTT : Hid (strV (textL c) = .string ((⟨#[114, 97, 121, 10]⟩ : ByteArray) ++ X1 ++ X4)) := Lib.hid (by rw [← hTl, strV_data])
  rw [hTs] at HPRL htl
  clear hTl hTs
  by_cases hlong : 60000 < 4 + X1.size + X4.size
  · rw [if_pos hlong] at HPRL
    have hlong' : (60000 : Int) < 4 + (X1.size : Int) + (X4.size : Int) := by omega
    go_wp2_with fail
    refine bodyPost_ret (v := .tuple #[.string ⟨#[]⟩, .int .i64 3]) (by simp [results, Tryz.results20, go_sem]) rfl ⟨?_, hbF⟩
    rw [HPRL.out]; rfl
  · rw [if_neg hlong] at HPRL
    have hlong' : ¬ (60000 : Int) < 4 + (X1.size : Int) + (X4.size : Int) := by omega
    go_wp2_with fail
    refine bodyPost_ret (v := .tuple #[.string ((⟨#[114, 97, 121, 10]⟩ : ByteArray) ++ X1 ++ X4), .int .i64 0]) (by simp [results, Tryz.results20, go_sem]) rfl ⟨?_, hbF⟩
    rw [HPRL.out, HTT.out]
end Go.Proofs.YtpfbgoogajgciaaGreatDoor
