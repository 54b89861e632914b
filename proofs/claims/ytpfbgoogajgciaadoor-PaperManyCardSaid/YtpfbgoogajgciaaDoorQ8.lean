/- printed (27), Print (16). Conditions: none. -/
import Derived.Test.YtpfbgoogajgciaaDoorQ7
set_option linter.unusedSimpArgs false
set_option linter.unusedVariables false
namespace Go.Proofs.YtpfbgoogajgciaaDoor
open Go.RowKit Go.Shelf

/-- the numbers of a certificate are numbers -/
structure CertOk (c : CertV) : Prop where
  flow : ∀ x ∈ c.flow, -9223372036854775808 ≤ x ∧ x ≤ 9223372036854775807
  pot : ∀ x ∈ c.pot, -9223372036854775808 ≤ x ∧ x ≤ 9223372036854775807
  side : ∀ x ∈ c.side, x = 0 ∨ x = 1
  cycle : ∀ x ∈ c.cycle, -9223372036854775808 ≤ x ∧ x ≤ 9223372036854775807

theorem FldR.open_ {w : World} {v : Value} {l : List Int} {f : Int → Value} (h : FldR w v (l.map f)) : ∃ A cp, v = .slice A l.length cp ∧ l.length ≤ cp ∧ Reads w w.heap.size 1 A l.length (l.map f) := by
  obtain ⟨A, n, cp, h1, h2, h3, h4⟩ := h
  rw [List.length_map] at h2
  subst h2
  exact ⟨A, cp, h1, h3, h4⟩

theorem text_best (c : CertV) (h : c.kind = 1) : textL c = bestL ++ [10] ++ lineL .flow c.flow ++ lineL .pot c.pot := by unfold textL; rw [if_pos h]
theorem text_cut (c : CertV) (h : c.kind = 2) : textL c = cutN ++ [10] ++ lineL .side c.side := by unfold textL; rw [if_neg (by omega), if_pos h]
theorem text_ray (c : CertV) (h1 : c.kind ≠ 1) (h2 : c.kind ≠ 2) : textL c = rayL ++ [10] ++ lineL .flow c.flow ++ lineL .cycle c.cycle := by unfold textL; rw [if_neg h1, if_neg h2]
theorem lineL_le (f : Fld) (l : List Int) (hx : ∀ x ∈ l, -9223372036854775808 ≤ x ∧ x ≤ 9223372036854775807) : (lineL f l).length ≤ 6 + 22 * l.length := by
  unfold lineL
  have := join_all_le f.name l hx
  rw [List.length_append]
  have hn : f.name.length ≤ 5 := by cases f <;> decide
  simp only [List.length_cons, List.length_nil]
  omega

set_option maxHeartbeats 3200000 in
set_option maxRecDepth 100000 in
theorem printed_in (c : CertV) (v1 v2 v3 v4 : Value) (w : World) (hE : Env w) (hC : CertR w c v1 v2 v3 v4) (hO : CertOk c) (n1 : c.flow.length ≤ 2000) (n2 : c.pot.length ≤ 2000) (n3 : c.side.length ≤ 2000) (n4 : c.cycle.length ≤ 2000) :
    Calls Tryd.prog 9 #[.agg #[.int .i64 c.kind, v1, v2, v3, v4]] w fun e w' => e = .returned (strV (textL c)) ∧ Below w.heap.size w w' := by
  obtain ⟨A1, c1, rfl, hc1, r1⟩ := hC.flow.open_
  obtain ⟨A2, c2, rfl, hc2, r2⟩ := hC.pot.open_
  obtain ⟨A3, c3, rfl, hc3, r3⟩ := hC.side.open_
  obtain ⟨A4, c4, rfl, hc4, r4⟩ := hC.cycle.open_
  have HL1 : Hid (∀ W, Below w.heap.size w W → Calls Tryd.prog 16 #[.string ⟨#[102, 108, 111, 119]⟩, .slice A1 c.flow.length c1, .func (.func 17) #[] #[]] W fun e w' => e = .returned (strV (lineL .flow c.flow)) ∧ Below W.heap.size W w') :=
    Lib.hid (fun W hb => line44_in ⟨#[102, 108, 111, 119]⟩ A1 _ c1 w.heap.size c.flow W (hE.on hb) (r1.below hb) hb.size (by omega) (by decide) hO.flow)
  have HL2 : Hid (∀ W, Below w.heap.size w W → Calls Tryd.prog 16 #[.string ⟨#[112, 111, 116]⟩, .slice A2 c.pot.length c2, .func (.func 17) #[] #[]] W fun e w' => e = .returned (strV (lineL .pot c.pot)) ∧ Below W.heap.size W w') :=
    Lib.hid (fun W hb => line44_in ⟨#[112, 111, 116]⟩ A2 _ c2 w.heap.size c.pot W (hE.on hb) (r2.below hb) hb.size (by omega) (by decide) hO.pot)
  have HL3 : Hid (∀ W, Below w.heap.size w W → Calls Tryd.prog 18 #[.string ⟨#[115, 105, 100, 101]⟩, .slice A3 c.side.length c3, .func (.func 19) #[] #[]] W fun e w' => e = .returned (strV (lineL .side c.side)) ∧ Below W.heap.size W w') :=
    Lib.hid (fun W hb => line46_in ⟨#[115, 105, 100, 101]⟩ A3 _ c3 w.heap.size c.side W (hE.on hb) (r3.below hb) hb.size (by omega) (by decide) hO.side)
  have HL4 : Hid (∀ W, Below w.heap.size w W → Calls Tryd.prog 20 #[.string ⟨#[99, 121, 99, 108, 101]⟩, .slice A4 c.cycle.length c4, .func (.func 21) #[] #[]] W fun e w' => e = .returned (strV (lineL .cycle c.cycle)) ∧ Below W.heap.size W w') :=
    Lib.hid (fun W hb => line48_in ⟨#[99, 121, 99, 108, 101]⟩ A4 _ c4 w.heap.size c.cycle W (hE.on hb) (r4.below hb) hb.size (by omega) (by decide) hO.cycle)
  have hl1 := lineL_le .flow c.flow hO.flow
  have hl2 := lineL_le .pot c.pot hO.pot
  have hl3 := lineL_le .side c.side (fun x hx => by have := hO.side x hx; omega)
  have hl4 := lineL_le .cycle c.cycle hO.cycle
  have HT1 := Lib.hid (text_best c)
  have HT2 := Lib.hid (text_cut c)
  have HT3 := Lib.hid (text_ray c)
  obtain ⟨X1, hX1, hs1⟩ : ∃ X : ByteArray, strV (lineL .flow c.flow) = .string X ∧ X.size = (lineL .flow c.flow).length := ⟨⟨_⟩, rfl, rfl⟩
  obtain ⟨X2, hX2, hs2⟩ : ∃ X : ByteArray, strV (lineL .pot c.pot) = .string X ∧ X.size = (lineL .pot c.pot).length := ⟨⟨_⟩, rfl, rfl⟩
  obtain ⟨X3, hX3, hs3⟩ : ∃ X : ByteArray, strV (lineL .side c.side) = .string X ∧ X.size = (lineL .side c.side).length := ⟨⟨_⟩, rfl, rfl⟩
  obtain ⟨X4, hX4, hs4⟩ : ∃ X : ByteArray, strV (lineL .cycle c.cycle) = .string X ∧ X.size = (lineL .cycle c.cycle).length := ⟨⟨_⟩, rfl, rfl⟩
  rw [hX1] at HL1
  rw [hX2] at HL2
  rw [hX3] at HL3
  rw [hX4] at HL4
  have z1 : X1.size ≤ 50000 := by omega
  have z2 : X2.size ≤ 50000 := by omega
  have z3 : X3.size ≤ 50000 := by omega
  have z4 : X4.size ≤ 50000 := by omega
  have e1 : X1.data.toList = lineL .flow c.flow := strV_inj ((strV_data X1).trans hX1.symm)
  have e2 : X2.data.toList = lineL .pot c.pot := strV_inj ((strV_data X2).trans hX2.symm)
  have e3 : X3.data.toList = lineL .side c.side := strV_inj ((strV_data X3).trans hX3.symm)
  have e4 : X4.data.toList = lineL .cycle c.cycle := strV_inj ((strV_data X4).trans hX4.symm)
  have E1 := Lib.hid e1
  have E2 := Lib.hid e2
  have E3 := Lib.hid e3
  have E4 := Lib.hid e4
  obtain ⟨k, hk⟩ : ∃ k, c.kind = k := ⟨_, rfl⟩
  rw [hk]
  have HK := Lib.hid hk
  obtain ⟨⟨q0, q1, q2, q3, q4⟩, -⟩ := (Blk.new w 31 #[.int .i64 k, .slice A1 c.flow.length c1, .slice A2 c.pot.length c2, .slice A3 c.side.length c3, .slice A4 c.cycle.length c4]).five
  have hb0 : Below w.heap.size w (w.alloc (.cells #[.int .i64 k, .slice A1 c.flow.length c1, .slice A2 c.pot.length c2, .slice A3 c.side.length c3, .slice A4 c.cycle.length c4] 31)) := (Below.refl _ w).alloc (Nat.le_refl _) _
  have hlt0 : w.heap.size < (w.alloc (.cells #[.int .i64 k, .slice A1 c.flow.length c1, .slice A2 c.pot.length c2, .slice A3 c.side.length c3, .slice A4 c.cycle.length c4] 31)).heap.size := by simp
  clear hX1 hX2 hX3 hX4 hs1 hs2 hs3 hs4 e1 e2 e3 e4 hl1 hl2 hl3 hl4 r1 r2 r3 r4 hc1 hc2 hc3 hc4 hO hC hk
  by_cases hk1 : k = 1
  · subst hk1
    have zz1 : ¬ 9223372036854775807 < 5 + X1.size := by omega
    have zz2 : ¬ 9223372036854775807 < 5 + X1.size + X2.size := by omega
    go_enter Tryd.func9, Tryd.ntmps9
    go_wp2_with fail
    generalize (w.alloc (.cells #[.int .i64 1, .slice A1 c.flow.length c1, .slice A2 c.pot.length c2, .slice A3 c.side.length c3, .slice A4 c.cycle.length c4] 31)) = W0 at q0 q1 q2 q3 q4 hb0 hlt0 ⊢
    go_region_held3 (fun w' => w'.cell? ⟨w.heap.size, 1, none⟩ = some (.slice A1 c.flow.length c1) ∧ w'.cell? ⟨w.heap.size, 2, none⟩ = some (.slice A2 c.pot.length c2)) (first | go_keep | exact ⟨k1, k2⟩ | exact ⟨q1, q2⟩)
      (first
        | (go_at_call 16; first
            |
            ((with_reducible refine (HL1.out _ hb0.drew).mono ?_); rintro e wa ⟨rfl, hba⟩; have k1 := (hba.cell (p := ⟨w.heap.size, 1, none⟩) hlt0).trans q1; have k2 := (hba.cell (p := ⟨w.heap.size, 2, none⟩) hlt0).trans q2; have hbwa := hb0.drew.trans (hba.mono hb0.size); have hza := hba.size)
            | ((with_reducible refine (HL2.out _ hbwa).mono ?_); rintro e wb ⟨rfl, hbb⟩; have k1 := (hbb.cell (p := ⟨w.heap.size, 1, none⟩) (Nat.lt_of_lt_of_le hlt0 hza)).trans k1; have k2 := (hbb.cell (p := ⟨w.heap.size, 2, none⟩) (Nat.lt_of_lt_of_le hlt0 hza)).trans k2; have hbwb := hbwa.trans (hbb.mono hbwa.size))))
    all_goals
      go_wp2_with fail
      go_ret
      refine ⟨congrArg Ending.returned ?_, hbwb⟩
      show Value.string (⟨#[98, 101, 115, 116, 10]⟩ ++ X1 ++ X2) = _
      rw [HT1.out HK.out, ← E1.out, ← E2.out, ← strV_data]
      refine congrArg strV ?_
      simp [bestL, rayL]
  by_cases hk2 : k = 2
  · subst hk2
    go_enter Tryd.func9, Tryd.ntmps9
    go_wp2_with fail
    generalize (w.alloc (.cells #[.int .i64 2, .slice A1 c.flow.length c1, .slice A2 c.pot.length c2, .slice A3 c.side.length c3, .slice A4 c.cycle.length c4] 31)) = W0 at q0 q1 q2 q3 q4 hb0 hlt0 ⊢
    refine (HL3.out _ hb0).mono ?_
    rintro e wa ⟨rfl, hba⟩
    go_wp2_with fail
    go_ret
    refine ⟨congrArg Ending.returned ?_, hb0.trans (hba.mono hb0.size)⟩
    show Value.string (⟨#[99, 117, 116, 10]⟩ ++ X3) = _
    rw [HT2.out HK.out, ← E3.out, ← strV_data]
    refine congrArg strV ?_
    simp [cutN]
  have d1 : (k == 1) = false := by simpa using hk1
  have d2 : (k == 2) = false := by simpa using hk2
  have HT3' : Hid (textL c = rayL ++ [10] ++ lineL .flow c.flow ++ lineL .cycle c.cycle) := Lib.hid (HT3.out (by rw [HK.out]; exact hk1) (by rw [HK.out]; exact hk2))
  clear hk1 hk2
  have zz1 : ¬ 9223372036854775807 < 4 + X1.size := by omega
  have zz2 : ¬ 9223372036854775807 < 4 + X1.size + X4.size := by omega
  go_enter Tryd.func9, Tryd.ntmps9
  go_wp2_with fail
  generalize (w.alloc (.cells #[.int .i64 k, .slice A1 c.flow.length c1, .slice A2 c.pot.length c2, .slice A3 c.side.length c3, .slice A4 c.cycle.length c4] 31)) = W0 at q0 q1 q2 q3 q4 hb0 hlt0 ⊢
  go_region_held3 (fun w' => w'.cell? ⟨w.heap.size, 1, none⟩ = some (.slice A1 c.flow.length c1) ∧ w'.cell? ⟨w.heap.size, 4, none⟩ = some (.slice A4 c.cycle.length c4)) (first | go_keep | exact ⟨k1, k2⟩ | exact ⟨q1, q4⟩)
    (first
      | (go_at_call 16; 
          ((with_reducible refine (HL1.out _ hb0.drew).mono ?_); rintro e wa ⟨rfl, hba⟩; have k1 := (hba.cell (p := ⟨w.heap.size, 1, none⟩) hlt0).trans q1; have k2 := (hba.cell (p := ⟨w.heap.size, 4, none⟩) hlt0).trans q4; have hbwa := hb0.drew.trans (hba.mono hb0.size); have hza := hba.size))
      | (go_at_call 20; ((with_reducible refine (HL4.out _ hbwa).mono ?_); rintro e wb ⟨rfl, hbb⟩; have k1 := (hbb.cell (p := ⟨w.heap.size, 1, none⟩) (Nat.lt_of_lt_of_le hlt0 hza)).trans k1; have k2 := (hbb.cell (p := ⟨w.heap.size, 4, none⟩) (Nat.lt_of_lt_of_le hlt0 hza)).trans k2; have hbwb := hbwa.trans (hbb.mono hbwa.size))))
  all_goals
    go_wp2_with fail
    go_ret
    refine ⟨congrArg Ending.returned ?_, hbwb⟩
    show Value.string (⟨#[114, 97, 121, 10]⟩ ++ X1 ++ X4) = _
    rw [HT3'.out, ← E1.out, ← E4.out, ← strV_data]
    refine congrArg strV ?_
    simp [bestL, rayL]
end Go.Proofs.YtpfbgoogajgciaaDoor
