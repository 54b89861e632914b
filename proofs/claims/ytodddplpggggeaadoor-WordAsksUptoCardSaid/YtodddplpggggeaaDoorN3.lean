/- WordLines (3). Conditions: none. -/
import Derived.Test.YtodddplpggggeaaDoorN6
import Derived.Test.YtodddplpggggeaaDoorPT
set_option linter.unusedSimpArgs false
set_option linter.unusedVariables false
namespace Go.Proofs.YtodddplpggggeaaDoor
open Go.RowKit Go.Shelf

theorem below_drewN (w : World) (q : Nat) : Below w.heap.size w (w.drewN q) := ⟨rfl, rfl, rfl, Nat.le_refl _, fun _ _ => rfl⟩
theorem getLast_at (l : List UInt8) (h : l ≠ []) : ∃ h : l.length - 1 < l.length, l.getLast? = some (l[l.length - 1]) := by
  have h1 : 0 < l.length := List.length_pos_iff.2 h
  refine ⟨by omega, ?_⟩
  rw [List.getLast?_eq_getElem?, List.getElem?_eq_getElem (by omega)]

set_option maxHeartbeats 1600000 in
set_option maxRecDepth 100000 in
theorem WordLines_in (s : ByteArray) (w : World) (hE : Env w) (hs : s.size ≤ 9223372036854775807) : Calls Tryd.prog 3 #[.string s] w fun e w' => e = .returned (.bool true) ∧ Below w.heap.size w w' := by
  by_cases hbig : (200 : Int) < s.size
  · go_enter Tryd.func3, Tryd.ntmps3
    go_wp2_with fail
    refine (known_in w hE).mono ?_
    rintro e w1 ⟨rfl, hb1⟩
    go_wp2_with fail
    go_ret
    exact ⟨rfl, hb1⟩
  · have hflat := lines_flat s.data.toList
    have hfree := lines_free s.data.toList
    have hsl : s.data.toList.length ≤ 200 := by show s.size ≤ 200; omega
    go_enter Tryd.func3, Tryd.ntmps3
    go_wp2_with fail
    refine (Lines_any s (by omega) w).mono ?_
    rintro e w1 ⟨A, m, c, rfl, hm, hmc, hR, hb1⟩
    generalize hL : linesL s.data.toList = L at *
    clear hL
    have hE1 := hE.on hb1
    have hml : m ≤ 201 := by
      have h2 : ∀ (M : List (List UInt8)), M.length ≤ (flatL 10 M).length := by
        intro M
        induction M with
        | nil => simp
        | cons a M ih => simp only [flatL, List.map_cons, List.flatten_cons, List.length_append, List.length_cons, List.length_nil] at ih ⊢; omega
      have := h2 L
      rcases hflat with h | ⟨h, -⟩ <;> rw [h] at this <;> simp at this <;> omega
    have hfl : ∀ k, (flatL 10 (L.take k)).length ≤ 201 := by
      intro k
      have := flatL_take_le 10 L k
      rcases hflat with h | ⟨h, -⟩ <;> rw [h] at this <;> simp at this <;> omega
    have HM := Lib.hid hm
    have HFL := Lib.hid hflat
    have HFR := Lib.hid hfree
    have HB1 := Lib.hid hb1
    clear hm hflat hfree hb1
    go_wp2_with fail
    go_loopw [4, 5] (fun t i wr => ∃ k : Nat, k ≤ m ∧ i = .int .i64 k ∧ t = .string ⟨(flatL 10 (L.take k)).toArray⟩ ∧ ∃ q, wr = w1.drewN q) (fun _ i _ => m - (Lib.intOf i).toNat)
    case atStart => exact ⟨0, Nat.zero_le _, rfl, rfl, 0, rfl⟩
    case round =>
      obtain ⟨k, hk, rfl, rfl, q, rfl⟩ := hrel
      by_cases hlt : k < m
      · obtain ⟨b, off, u, rfl, -, hx, hcell⟩ := hR.at_ hlt
        simp only [List.getElem?_map, Option.map_eq_some_iff] at hx
        obtain ⟨x, hx, rfl⟩ := hx
        have hx10 := HFR.out x (List.mem_of_getElem? hx)
        have hstep := flatL_take_succ 10 L k x hx
        have hl1 := hfl k
        have hl2 := hfl (k + 1)
        rw [hstep] at hl2
        simp only [List.length_append, List.length_cons, List.length_nil] at hl2
        obtain ⟨X, hX⟩ : ∃ X : ByteArray, X = ⟨x.toArray⟩ := ⟨_, rfl⟩
        have hXl : X.data.toList = x := by rw [hX]
        have hXs : X.size = x.length := by rw [hX]; rfl
        unfold strV at hcell
        rw [← hX] at hcell
        obtain ⟨T, hT⟩ : ∃ T : ByteArray, T = ⟨(flatL 10 (L.take k)).toArray⟩ := ⟨_, rfl⟩
        have hTs : T.size = (flatL 10 (L.take k)).length := by rw [hT]; rfl
        rw [← hT]
        have HT := Lib.hid hT
        have HX := Lib.hid hXl
        have HS := Lib.hid hstep
        have hXs2 : X.size ≤ 201 := by omega
        have hTs2 : T.size ≤ 201 := by omega
        have hTX : T.size + X.size ≤ 201 := by omega
        clear hT hXl hstep hX hXs hTs hl1 hl2 hfl hx
        go_wp2_with fail
        go_loopw [6] (fun j wr => ∃ i : Nat, i ≤ X.size ∧ j = .int .i64 i ∧ ∃ q, wr = w1.drewN q) (fun j _ => X.size - (Lib.intOf j).toNat)
        case atStart => exact ⟨0, Nat.zero_le _, rfl, q, rfl⟩
        case round =>
          obtain ⟨i, hi, rfl, q2, rfl⟩ := hrel
          by_cases hlti : i < X.size
          · have hg := get_at hlti
            have hb' : ¬ ((X[i]'hlti).toNat : Int) = 10 := fun e => by
              rw [HX.out] at hg
              have e2 : X[i]'hlti = 10 := UInt8.toNat_inj.1 (by show (X[i]'hlti).toNat = 10; omega)
              rw [e2] at hg
              exact hx10 (List.mem_of_getElem? hg)
            clear hg
            go_wp2
            exact ⟨⟨i + 1, by omega, rfl, q2, rfl⟩, by simp [Lib.intOf]; omega⟩
          · go_wp2
            refine ⟨⟨k + 1, by omega, rfl, ?_, q2, rfl⟩, by simp [Lib.intOf]; omega⟩
            rw [← strV_data (T ++ X ++ _)]
            refine congrArg strV ?_
            rw [HS.out, HT.out]
            simp [HX.out]
      · have hk' : k = m := by omega
        have htk : L.take k = L := List.take_of_length_le (by rw [hk', HM.out]; omega)
        rw [htk]
        clear hfl htk
        have hE2 := hE1.on (below_drewN w1 q)
        have hBq : Below w.heap.size w (w1.drewN q) := HB1.out.trans ((below_drewN w1 q).mono HB1.out.size)
        generalize w1.drewN q = W at hE2 hBq ⊢
        rcases HFL.out with hf | ⟨hf, hne, hlast⟩
        · have e1 : (⟨(flatL 10 L).toArray⟩ : ByteArray) = s := by rw [hf]
          rw [e1]
          clear hf e1 HFL HFR
          have hss : (s.toList == s.toList) = true := by simp
          go_wp2_with fail
          refine (known_in _ hE2).mono ?_
          rintro e w2 ⟨rfl, hb2⟩
          go_wp2_with fail
          go_ret
          exact ⟨rfl, hBq.trans (hb2.mono hBq.size)⟩
        · obtain ⟨hlt2, hg⟩ := getLast_at _ hne
          obtain ⟨P, hP⟩ : ∃ P : Nat, s.size = P + 1 := ⟨s.size - 1, by have : s.data.toList.length = s.size := rfl; omega⟩
          have hPl : P < s.size := by omega
          have hat := get_at hPl
          have hb' : ¬ ((s[P]'hPl).toNat : Int) = 10 := fun e => by
            have e2 : s[P]'hPl = 10 := UInt8.toNat_inj.1 (by show (s[P]'hPl).toNat = 10; omega)
            rw [e2] at hat
            refine hlast ?_
            rw [List.getLast?_eq_getElem?, show s.data.toList.length = s.size from rfl, hP]
            exact hat
          obtain ⟨T, hT⟩ : ∃ T : ByteArray, T = ⟨(flatL 10 L).toArray⟩ := ⟨_, rfl⟩
          have hTl : T.data.toList = s.data.toList ++ [10] := by rw [hT]; simpa using hf
          have h1 : (T.toList == s.toList) = false := by
            rw [Lib.toList_data, Lib.toList_data, hTl]
            simp
          have h2 : T = s ++ ⟨#[10]⟩ := (by
            have : strV T.data.toList = strV (s ++ ⟨#[10]⟩ : ByteArray).data.toList := congrArg strV (by rw [hTl]; simp)
            rw [strV_data, strV_data] at this
            exact Value.string.inj this)
          have h3 : (T.toList == (s ++ ⟨#[10]⟩ : ByteArray).toList) = true := by rw [← h2]; simp
          have h4 : s.toList.isEmpty = false := by
            rw [Lib.toList_data]
            cases hh : s.data.toList with
            | nil => exact absurd hh hne
            | cons _ _ => rfl
          rw [← hT]
          clear hf HFL HFR hT hTl h2 hlast hat hg hne hlt2
          go_wp2_with fail
          refine (known_in _ hE2).mono ?_
          rintro e w2 ⟨rfl, hb2⟩
          go_wp2_with fail
          go_ret
          exact ⟨(show Ending.returned (.bool (((s[P]'hPl).toNat : Int) != 10)) = _ from ret_bool (by simpa using hb')), hBq.trans (hb2.mono hBq.size)⟩
end Go.Proofs.YtodddplpggggeaaDoor
