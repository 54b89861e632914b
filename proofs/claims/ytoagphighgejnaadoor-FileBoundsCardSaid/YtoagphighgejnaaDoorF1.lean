/- The document's answer: form (41). Conditions: none. -/
import Derived.Test.YtoagphighgejnaaDoorN13
set_option linter.unusedSimpArgs false
set_option linter.unusedVariables false
namespace Go.Proofs.YtoagphighgejnaaDoor
open Go.RowKit Go.Shelf

set_option maxHeartbeats 1600000 in
set_option maxRecDepth 100000 in
theorem form_in (s : ByteArray) (hsz : s.size ≤ 4611686018427387904) (w : World) :
    Calls Tryd.prog 58 #[.string s] w fun e w' => e = .returned (.bool (formL s.data.toList)) ∧ w' = w := by
  by_cases hz : s = ⟨#[48]⟩
  · subst hz
    go_enter Tryd.func58, Tryd.ntmps58
    go_wp2
    go_ret
    exact ⟨rfl, rfl⟩
  · have hform : formL s.data.toList = digsL (Lib.trimPrefix s.data.toList [45]) := by
      unfold formL
      have : s.data.toList ≠ [48] := fun e => hz ((bs_eq_iff s [48]).2 e)
      simp [this]
    rw [hform]
    have hne : (s.toList == [48]) = false := by
      rw [Lib.toList_data]
      have : s.data.toList ≠ [48] := fun e => hz ((bs_eq_iff s [48]).2 e)
      simpa using this
    clear hform hz
    by_cases h0 : 0 < s.size
    · have hem : s.toList.isEmpty = false := by
        rw [Lib.toList_data]
        cases h : s.data.toList with
        | nil => have : s.data.toList.length = s.size := rfl; rw [h] at this; simp at this; omega
        | cons _ _ => rfl
      by_cases hb : s[0]'h0 = 45
      · have hb' : ((s[0]'h0).toNat : Int) = 45 := by rw [hb]; rfl
        go_enter Tryd.func58, Tryd.ntmps58
        go_wp2
        have hD : (s.extract 1 s.size).data.toList = Lib.trimPrefix s.data.toList [45] := by
          rw [Lib.extract_data]
          cases h : s.data.toList with
          | nil => have : s.data.toList.length = s.size := rfl; rw [h] at this; simp at this; omega
          | cons b r =>
            have e := get_at h0
            rw [h] at e
            simp at e
            rw [e, hb, trim_minus]
            simp only [List.drop_succ_cons, List.drop_zero]
            exact List.take_of_length_le (by have : s.data.toList.length = s.size := rfl; rw [h] at this; simp at this; omega)
        have hDl : (s.extract 1 s.size).size ≤ s.size := by rw [ByteArray.size_extract]; omega
        generalize s.extract 1 s.size = D at hD hDl ⊢
        have HD := Lib.hid hD
        clear hD hb hb' hem
        have hDs : D.size ≤ 4611686018427387904 := by omega
        go_loopw [3] (fun i wr => ∃ k : Nat, k ≤ D.size ∧ i = .int .i64 k ∧ (∀ j b, j < k → D.data.toList[j]? = some b → isDig b = true) ∧ wr = w) (fun i _ => D.size - (Lib.intOf i).toNat)
        case atStart => exact ⟨0, Nat.zero_le _, rfl, fun j b hj => absurd hj (by omega), rfl⟩
        case round =>
          obtain ⟨k, hk, rfl, hall, rfl⟩ := hrel
          have HA := Lib.hid hall
          clear hall
          by_cases hlt : k < D.size
          · have HG := Lib.hid (get_at hlt)
            by_cases hlo : ((D[k]'hlt).toNat : Int) < 48
            · go_wp2
              go_ret
              refine ⟨ret_bool ?_, rfl⟩
              rw [← HD.out, digsL_no HG.out (.inl (by unfold isDig; simp; omega))]
            · by_cases hhi : (57 : Int) < ((D[k]'hlt).toNat : Int)
              · go_wp2
                go_ret
                refine ⟨ret_bool ?_, rfl⟩
                rw [← HD.out, digsL_no HG.out (.inl (by unfold isDig; simp; omega))]
              · go_wp2
                refine ⟨⟨k + 1, by omega, rfl, fun j b hj hb => ?_, trivial⟩, by simp [Lib.intOf]; omega⟩
                rcases Nat.lt_or_ge j k with h | h
                · exact HA.out j b h hb
                · obtain rfl : j = k := by omega
                  rw [HG.out] at hb
                  obtain rfl := Option.some.inj hb
                  unfold isDig; simp; omega
          · have hall2 : ∀ (i : Nat) b, D.data.toList[i]? = some b → isDig b = true := fun i b hb => HA.out i b (by
              have h1 := (List.getElem?_eq_some_iff.1 hb).1
              have h2 : D.data.toList.length = D.size := rfl
              omega) hb
            have HL := Lib.hid hall2
            clear hall2
            by_cases hD0 : 0 < D.size
            · have hem2 : D.toList.isEmpty = false := by
                rw [Lib.toList_data]
                cases h : D.data.toList with
                | nil => have : D.data.toList.length = D.size := rfl; rw [h] at this; simp at this; omega
                | cons _ _ => rfl
              have HG := Lib.hid (get_at hD0)
              have HNE : Hid (D.data.toList ≠ []) := Lib.hid (fun h => by have : D.data.toList.length = D.size := rfl; rw [h] at this; simp at this; omega)
              by_cases hb0 : D[0]'hD0 = 48
              · have hb0' : ((D[0]'hD0).toNat : Int) = 48 := by rw [hb0]; rfl
                go_wp2
                go_ret
                refine ⟨ret_bool ?_, rfl⟩
                rw [← HD.out, digsL_no HG.out (.inr ⟨rfl, hb0⟩)]
              · have hb0' : ¬ ((D[0]'hD0).toNat : Int) = 48 := fun e => hb0 (UInt8.toNat_inj.1 (by show (D[0]'hD0).toNat = 48; omega))
                go_wp2
                go_ret
                refine ⟨(show Ending.returned (.bool (((D[0]'hD0).toNat : Int) != 48)) = _ from ret_bool ?_), rfl⟩
                rw [← HD.out, digsL_all HL.out (fun b hb => by rw [HG.out] at hb; obtain rfl := Option.some.inj hb; exact hb0), decide_eq_true HNE.out]
                simpa using hb0'
            · have hem2 : D.toList.isEmpty = true := by
                rw [Lib.toList_data]
                cases h : D.data.toList with
                | nil => rfl
                | cons _ _ => have : D.data.toList.length = D.size := rfl; rw [h] at this; simp at this; omega
              have HNE : Hid (D.data.toList = []) := Lib.hid (by
                cases h : D.data.toList with
                | nil => rfl
                | cons _ _ => have : D.data.toList.length = D.size := rfl; rw [h] at this; simp at this; omega)
              go_wp2
              go_ret
              refine ⟨ret_bool ?_, rfl⟩
              rw [← HD.out, HNE.out]; rfl
      · have hb' : ¬ ((s[0]'h0).toNat : Int) = 45 := fun e => hb (UInt8.toNat_inj.1 (by show (s[0]'h0).toNat = 45; omega))
        go_enter Tryd.func58, Tryd.ntmps58
        go_wp2
        have hD : s.data.toList = Lib.trimPrefix s.data.toList [45] := by
          cases h : s.data.toList with
          | nil => rfl
          | cons b r =>
            have e := get_at h0
            rw [h] at e
            simp at e
            rw [trim_other b r (by rw [e]; exact hb)]
        have HD := Lib.hid hD
        clear hD hb hb' hem
        have hDs' : s.size ≤ 4611686018427387904 := by omega
        go_loopw [3] (fun i wr => ∃ k : Nat, k ≤ s.size ∧ i = .int .i64 k ∧ (∀ j b, j < k → s.data.toList[j]? = some b → isDig b = true) ∧ wr = w) (fun i _ => s.size - (Lib.intOf i).toNat)
        case atStart => exact ⟨0, Nat.zero_le _, rfl, fun j b hj => absurd hj (by omega), rfl⟩
        case round =>
          obtain ⟨k, hk, rfl, hall, rfl⟩ := hrel
          have HA := Lib.hid hall
          clear hall
          by_cases hlt : k < s.size
          · have HG := Lib.hid (get_at hlt)
            by_cases hlo : ((s[k]'hlt).toNat : Int) < 48
            · go_wp2
              go_ret
              refine ⟨ret_bool ?_, rfl⟩
              rw [← HD.out, digsL_no HG.out (.inl (by unfold isDig; simp; omega))]
            · by_cases hhi : (57 : Int) < ((s[k]'hlt).toNat : Int)
              · go_wp2
                go_ret
                refine ⟨ret_bool ?_, rfl⟩
                rw [← HD.out, digsL_no HG.out (.inl (by unfold isDig; simp; omega))]
              · go_wp2
                refine ⟨⟨k + 1, by omega, rfl, fun j b hj hb => ?_, trivial⟩, by simp [Lib.intOf]; omega⟩
                rcases Nat.lt_or_ge j k with h | h
                · exact HA.out j b h hb
                · obtain rfl : j = k := by omega
                  rw [HG.out] at hb
                  obtain rfl := Option.some.inj hb
                  unfold isDig; simp; omega
          · have hall2 : ∀ (i : Nat) b, s.data.toList[i]? = some b → isDig b = true := fun i b hb => HA.out i b (by
              have h1 := (List.getElem?_eq_some_iff.1 hb).1
              have h2 : s.data.toList.length = s.size := rfl
              omega) hb
            have HL := Lib.hid hall2
            clear hall2
            by_cases hD0 : 0 < s.size
            · have hem2 : s.toList.isEmpty = false := by
                rw [Lib.toList_data]
                cases h : s.data.toList with
                | nil => have : s.data.toList.length = s.size := rfl; rw [h] at this; simp at this; omega
                | cons _ _ => rfl
              have HG := Lib.hid (get_at hD0)
              have HNE : Hid (s.data.toList ≠ []) := Lib.hid (fun h => by have : s.data.toList.length = s.size := rfl; rw [h] at this; simp at this; omega)
              by_cases hb0 : s[0]'hD0 = 48
              · have hb0' : ((s[0]'hD0).toNat : Int) = 48 := by rw [hb0]; rfl
                go_wp2
                go_ret
                refine ⟨ret_bool ?_, rfl⟩
                rw [← HD.out, digsL_no HG.out (.inr ⟨rfl, hb0⟩)]
              · have hb0' : ¬ ((s[0]'hD0).toNat : Int) = 48 := fun e => hb0 (UInt8.toNat_inj.1 (by show (s[0]'hD0).toNat = 48; omega))
                go_wp2
                go_ret
                refine ⟨(show Ending.returned (.bool (((s[0]'hD0).toNat : Int) != 48)) = _ from ret_bool ?_), rfl⟩
                rw [← HD.out, digsL_all HL.out (fun b hb => by rw [HG.out] at hb; obtain rfl := Option.some.inj hb; exact hb0), decide_eq_true HNE.out]
                simpa using hb0'
            · have hem2 : s.toList.isEmpty = true := by
                rw [Lib.toList_data]
                cases h : s.data.toList with
                | nil => rfl
                | cons _ _ => have : s.data.toList.length = s.size := rfl; rw [h] at this; simp at this; omega
              have HNE : Hid (s.data.toList = []) := Lib.hid (by
                cases h : s.data.toList with
                | nil => rfl
                | cons _ _ => have : s.data.toList.length = s.size := rfl; rw [h] at this; simp at this; omega)
              go_wp2
              go_ret
              refine ⟨ret_bool ?_, rfl⟩
              rw [← HD.out, HNE.out]; rfl
    · obtain rfl : s = ⟨#[]⟩ := (bs_eq_iff s []).2 (by
        cases h : s.data.toList with
        | nil => rfl
        | cons _ _ => have : s.data.toList.length = s.size := rfl; rw [h] at this; simp at this; omega)
      go_enter Tryd.func58, Tryd.ntmps58
      go_wp2
      go_loopw [3] (fun i wr => i = .int .i64 0 ∧ wr = w) (fun _ _ => 0)
      case atStart => exact ⟨rfl, rfl⟩
      case round =>
        obtain ⟨rfl, rfl⟩ := hrel
        go_wp2
        go_ret
        exact ⟨rfl, rfl⟩
end Go.Proofs.YtoagphighgejnaaDoor
