/- The document's answer: Number (43), Count (29). Conditions: none. -/
import Derived.Test.YtoagphighgejnaaGreatDoorN13
set_option linter.unusedSimpArgs false
set_option linter.unusedVariables false
namespace Go.Proofs.YtoagphighgejnaaGreatDoor
open Go.RowKit Go.Shelf

set_option maxHeartbeats 1600000 in
set_option maxRecDepth 100000 in
theorem form_in (s : ByteArray) (hsz : s.size ≤ 4611686018427387904) (w : World) :
    Calls Tryz.prog 107 #[.string s] w fun e w' => e = .returned (.bool (formL s.data.toList)) ∧ w' = w := by
  by_cases hz : s = ⟨#[48]⟩
  · subst hz
    go_enter Tryz.func107, Tryz.ntmps107
    go_wp2
    go_ret
    exact ⟨rfl, rfl⟩
  · have hform : formL s.data.toList = digsL (Lib.trimPrefix s.data.toList [45]) := by
      unfold formL
      have : s.data.toList ≠ [48] := fun e => hz ((bs_eq_iff s [48]).2 e)
      simp [this]
    rw [hform]
    have hne : (s.toList == [48]) = false := by
      rw [Lib.toList_data]
      have : s.data.toList ≠ [48] := fun e => hz ((bs_eq_iff s [48]).2 e)
      simpa using this
    clear hform hz
    by_cases h0 : 0 < s.size
    · have hem : s.toList.isEmpty = false := by
        rw [Lib.toList_data]
        cases h : s.data.toList with
        | nil => have : s.data.toList.length = s.size := rfl; rw [h] at this; simp at this; omega
        | cons _ _ => rfl
      by_cases hb : s[0]'h0 = 45
      · have hb' : ((s[0]'h0).toNat : Int) = 45 := by rw [hb]; rfl
        go_enter Tryz.func107, Tryz.ntmps107
        go_wp2
        have hD : (s.extract 1 s.size).data.toList = Lib.trimPrefix s.data.toList [45] := by
          rw [Lib.extract_data]
          cases h : s.data.toList with
          | nil => have : s.data.toList.length = s.size := rfl; rw [h] at this; simp at this; omega
          | cons b r =>
            have e := get_at h0
            rw [h] at e
            simp at e
            rw [e, hb, trim_minus]
            simp only [List.drop_succ_cons, List.drop_zero]
            exact List.take_of_length_le (by have : s.data.toList.length = s.size := rfl; rw [h] at this; simp at this; omega)
        have hDl : (s.extract 1 s.size).size ≤ s.size := by rw [ByteArray.size_extract]; omega
        generalize s.extract 1 s.size = D at hD hDl ⊢
        have HD := Lib.hid hD
        clear hD hb hb' hem
        have hDs : D.size ≤ 4611686018427387904 := by omega
        go_loopw [3] (fun i wr => ∃ k : Nat, k ≤ D.size ∧ i = .int .i64 k ∧ (∀ j b, j < k → D.data.toList[j]? = some b → isDig b = true) ∧ wr = w) (fun i _ => D.size - (Lib.intOf i).toNat)
        case atStart => exact ⟨0, Nat.zero_le _, rfl, fun j b hj => absurd hj (by omega), rfl⟩
        case round =>
          obtain ⟨k, hk, rfl, hall, rfl⟩ := hrel
          have HA := Lib.hid hall
          clear hall
          by_cases hlt : k < D.size
          · have HG := Lib.hid (get_at hlt)
            by_cases hlo : ((D[k]'hlt).toNat : Int) < 48
            · go_wp2
              go_ret
              refine ⟨ret_bool ?_, rfl⟩
              rw [← HD.out, digsL_no HG.out (.inl (by unfold isDig; simp; omega))]
            · by_cases hhi : (57 : Int) < ((D[k]'hlt).toNat : Int)
              · go_wp2
                go_ret
                refine ⟨ret_bool ?_, rfl⟩
                rw [← HD.out, digsL_no HG.out (.inl (by unfold isDig; simp; omega))]
              · go_wp2
                refine ⟨⟨k + 1, by omega, rfl, fun j b hj hb => ?_, trivial⟩, by simp [Lib.intOf]; omega⟩
                rcases Nat.lt_or_ge j k with h | h
                · exact HA.out j b h hb
                · obtain rfl : j = k := by omega
                  rw [HG.out] at hb
                  obtain rfl := Option.some.inj hb
                  unfold isDig; simp; omega
          · have hall2 : ∀ (i : Nat) b, D.data.toList[i]? = some b → isDig b = true := fun i b hb => HA.out i b (by
              have h1 := (List.getElem?_eq_some_iff.1 hb).1
              have h2 : D.data.toList.length = D.size := rfl
              omega) hb
            have HL := Lib.hid hall2
            clear hall2
            by_cases hD0 : 0 < D.size
            · have hem2 : D.toList.isEmpty = false := by
                rw [Lib.toList_data]
                cases h : D.data.toList with
                | nil => have : D.data.toList.length = D.size := rfl; rw [h] at this; simp at this; omega
                | cons _ _ => rfl
              have HG := Lib.hid (get_at hD0)
              have HNE : Hid (D.data.toList ≠ []) := Lib.hid (fun h => by have : D.data.toList.length = D.size := rfl; rw [h] at this; simp at this; omega)
              by_cases hb0 : D[0]'hD0 = 48
              · have hb0' : ((D[0]'hD0).toNat : Int) = 48 := by rw [hb0]; rfl
                go_wp2
                go_ret
                refine ⟨ret_bool ?_, rfl⟩
                rw [← HD.out, digsL_no HG.out (.inr ⟨rfl, hb0⟩)]
              · have hb0' : ¬ ((D[0]'hD0).toNat : Int) = 48 := fun e => hb0 (UInt8.toNat_inj.1 (by show (D[0]'hD0).toNat = 48; omega))
                go_wp2
                go_ret
                refine ⟨(show Ending.returned (.bool (((D[0]'hD0).toNat : Int) != 48)) = _ from ret_bool ?_), rfl⟩
                rw [← HD.out, digsL_all HL.out (fun b hb => by rw [HG.out] at hb; obtain rfl := Option.some.inj hb; exact hb0), decide_eq_true HNE.out]
                simpa using hb0'
            · have hem2 : D.toList.isEmpty = true := by
                rw [Lib.toList_data]
                cases h : D.data.toList with
                | nil => rfl
                | cons _ _ => have : D.data.toList.length = D.size := rfl; rw [h] at this; simp at this; omega
              have HNE : Hid (D.data.toList = []) := Lib.hid (by
                cases h : D.data.toList with
                | nil => rfl
                | cons _ _ => have : D.data.toList.length = D.size := rfl; rw [h] at this; simp at this; omega)
              go_wp2
              go_ret
              refine ⟨ret_bool ?_, rfl⟩
              rw [← HD.out, HNE.out]; rfl
      · have hb' : ¬ ((s[0]'h0).toNat : Int) = 45 := fun e => hb (UInt8.toNat_inj.1 (by show (s[0]'h0).toNat = 45; omega))
        go_enter Tryz.func107, Tryz.ntmps107
        go_wp2
        have hD : s.data.toList = Lib.trimPrefix s.data.toList [45] := by
          cases h : s.data.toList with
          | nil => rfl
          | cons b r =>
            have e := get_at h0
            rw [h] at e
            simp at e
            rw [trim_other b r (by rw [e]; exact hb)]
        have HD := Lib.hid hD
        clear hD hb hb' hem
        have hDs' : s.size ≤ 4611686018427387904 := by omega
        go_loopw [3] (fun i wr => ∃ k : Nat, k ≤ s.size ∧ i = .int .i64 k ∧ (∀ j b, j < k → s.data.toList[j]? = some b → isDig b = true) ∧ wr = w) (fun i _ => s.size - (Lib.intOf i).toNat)
        case atStart => exact ⟨0, Nat.zero_le _, rfl, fun j b hj => absurd hj (by omega), rfl⟩
        case round =>
          obtain ⟨k, hk, rfl, hall, rfl⟩ := hrel
          have HA := Lib.hid hall
          clear hall
          by_cases hlt : k < s.size
          · have HG := Lib.hid (get_at hlt)
            by_cases hlo : ((s[k]'hlt).toNat : Int) < 48
            · go_wp2
              go_ret
              refine ⟨ret_bool ?_, rfl⟩
              rw [← HD.out, digsL_no HG.out (.inl (by unfold isDig; simp; omega))]
            · by_cases hhi : (57 : Int) < ((s[k]'hlt).toNat : Int)
              · go_wp2
                go_ret
                refine ⟨ret_bool ?_, rfl⟩
                rw [← HD.out, digsL_no HG.out (.inl (by unfold isDig; simp; omega))]
              · go_wp2
                refine ⟨⟨k + 1, by omega, rfl, fun j b hj hb => ?_, trivial⟩, by simp [Lib.intOf]; omega⟩
                rcases Nat.lt_or_ge j k with h | h
                · exact HA.out j b h hb
                · obtain rfl : j = k := by omega
                  rw [HG.out] at hb
                  obtain rfl := Option.some.inj hb
                  unfold isDig; simp; omega
          · have hall2 : ∀ (i : Nat) b, s.data.toList[i]? = some b → isDig b = true := fun i b hb => HA.out i b (by
              have h1 := (List.getElem?_eq_some_iff.1 hb).1
              have h2 : s.data.toList.length = s.size := rfl
              omega) hb
            have HL := Lib.hid hall2
            clear hall2
            by_cases hD0 : 0 < s.size
            · have hem2 : s.toList.isEmpty = false := by
                rw [Lib.toList_data]
                cases h : s.data.toList with
                | nil => have : s.data.toList.length = s.size := rfl; rw [h] at this; simp at this; omega
                | cons _ _ => rfl
              have HG := Lib.hid (get_at hD0)
              have HNE : Hid (s.data.toList ≠ []) := Lib.hid (fun h => by have : s.data.toList.length = s.size := rfl; rw [h] at this; simp at this; omega)
              by_cases hb0 : s[0]'hD0 = 48
              · have hb0' : ((s[0]'hD0).toNat : Int) = 48 := by rw [hb0]; rfl
                go_wp2
                go_ret
                refine ⟨ret_bool ?_, rfl⟩
                rw [← HD.out, digsL_no HG.out (.inr ⟨rfl, hb0⟩)]
              · have hb0' : ¬ ((s[0]'hD0).toNat : Int) = 48 := fun e => hb0 (UInt8.toNat_inj.1 (by show (s[0]'hD0).toNat = 48; omega))
                go_wp2
                go_ret
                refine ⟨(show Ending.returned (.bool (((s[0]'hD0).toNat : Int) != 48)) = _ from ret_bool ?_), rfl⟩
                rw [← HD.out, digsL_all HL.out (fun b hb => by rw [HG.out] at hb; obtain rfl := Option.some.inj hb; exact hb0), decide_eq_true HNE.out]
                simpa using hb0'
            · have hem2 : s.toList.isEmpty = true := by
                rw [Lib.toList_data]
                cases h : s.data.toList with
                | nil => rfl
                | cons _ _ => have : s.data.toList.length = s.size := rfl; rw [h] at this; simp at this; omega
              have HNE : Hid (s.data.toList = []) := Lib.hid (by
                cases h : s.data.toList with
                | nil => rfl
                | cons _ _ => have : s.data.toList.length = s.size := rfl; rw [h] at this; simp at this; omega)
              go_wp2
              go_ret
              refine ⟨ret_bool ?_, rfl⟩
              rw [← HD.out, HNE.out]; rfl
    · obtain rfl : s = ⟨#[]⟩ := (bs_eq_iff s []).2 (by
        cases h : s.data.toList with
        | nil => rfl
        | cons _ _ => have : s.data.toList.length = s.size := rfl; rw [h] at this; simp at this; omega)
      go_enter Tryz.func107, Tryz.ntmps107
      go_wp2
      go_loopw [3] (fun i wr => i = .int .i64 0 ∧ wr = w) (fun _ _ => 0)
      case atStart => exact ⟨rfl, rfl⟩
      case round =>
        obtain ⟨rfl, rfl⟩ := hrel
        go_wp2
        go_ret
        exact ⟨rfl, rfl⟩

theorem decL_succ {l : List UInt8} {k : Nat} {b : UInt8} (h : l[k]? = some b) : decL (l.take (k + 1)) = decL (l.take k) * 10 + (b.toNat - 48) := by
  unfold decL; rw [List.take_add_one, h]; exact decFrom_app 0 _ b
theorem decFrom_app2 (a : Nat) (l r : List UInt8) : decFrom a (l ++ r) = decFrom (decFrom a l) r := by unfold decFrom; rw [List.foldl_append]
theorem decL_take (l : List UInt8) (k : Nat) : decL (l.take k) ≤ decL l := by
  have e : decL l = decFrom (decL (l.take k)) (l.drop k) := by
    unfold decL; rw [← decFrom_app2, List.take_append_drop]
  rw [e]; exact decFrom_ge _ _
theorem num_plus {l : List UInt8} (h : formL l = true) (h0 : l.head? ≠ some 45) : numL l = if (decL l : Int) ≤ 9223372036854775807 then ((decL l : Int), 0) else (0, 11) := by
  have hv : valL l = (decL l : Int) := by
    cases l with
    | nil => rfl
    | cons b r => simp only [List.head?_cons, ne_eq, Option.some.injEq] at h0; simp [valL, h0]
  unfold numL
  rw [if_neg (by simp [h]), hv]
  by_cases hm : (decL l : Int) ≤ 9223372036854775807
  · rw [if_pos hm, if_pos (by omega)]
  · rw [if_neg hm, if_neg (by omega)]
theorem num_neg {d : List UInt8} (h : formL (45 :: d) = true) : numL (45 :: d) = if (decL d : Int) ≤ 9223372036854775808 then (-(decL d : Int), 0) else (0, 11) := by
  have hv : valL (45 :: d) = -(decL d : Int) := by simp [valL]
  unfold numL
  rw [if_neg (by simp [h]), hv]
  by_cases hm : (decL d : Int) ≤ 9223372036854775808
  · rw [if_pos hm, if_pos (by omega)]
  · rw [if_neg hm, if_neg (by omega)]
theorem form_dig_plus {l : List UInt8} (h : formL l = true) (h0 : l.head? ≠ some 45) : l.all isDig = true ∧ l ≠ [] := by
  rcases formL_cases h with rfl | ⟨d, rfl, hd⟩ | ⟨hd, hb⟩
  · exact ⟨by decide, by simp⟩
  · simp at h0
  · obtain ⟨h1, h2, _⟩ := digsL_parts hd; exact ⟨h2, h1⟩
theorem form_dig_minus {d : List UInt8} (h : formL (45 :: d) = true) : d.all isDig = true ∧ d ≠ [] := by
  rcases formL_cases h with e | ⟨d', e, hd⟩ | ⟨hd, hb⟩
  · cases e
  · cases e; obtain ⟨h1, h2, _⟩ := digsL_parts hd; exact ⟨h2, h1⟩
  · exact absurd rfl (hb 45 d rfl)

/-- nothing more is told of a number's bounds than this -/
theorem quo_plus (N g : Int) (h0 : 0 ≤ N) (h1 : 0 ≤ g) (h2 : g ≤ 9) : (9223372036854775807 - g) / 10 < N ↔ 9223372036854775807 < N * 10 + g := by
  omega
theorem quo_minus (N g : Int) (h0 : 0 ≤ N) (h1 : 0 ≤ g) (h2 : g ≤ 9) : -N < (-9223372036854775808 + g).tdiv 10 ↔ 9223372036854775808 < N * 10 + g := by
  have e : (-9223372036854775808 + g).tdiv 10 = -((9223372036854775808 - g) / 10) := by
    rw [show -9223372036854775808 + g = -(9223372036854775808 - g) by omega, Int.neg_tdiv, Int.tdiv_eq_ediv_of_nonneg (by omega)]
  rw [e]; omega

set_option maxHeartbeats 1600000 in
set_option maxRecDepth 100000 in
theorem rNumber_in (s : ByteArray) (hsz : s.size ≤ 4611686018427387904) (w : World) :
    Calls Tryz.prog 94 #[.string s] w fun e w' => e = .returned (.tuple #[.int .i64 (numL s.data.toList).1, .int .i64 (numL s.data.toList).2]) ∧ w' = w := by
  by_cases hf : formL s.data.toList = true
  · by_cases hm : s.data.toList.head? = some 45
    · obtain ⟨d, hl⟩ : ∃ d, s.data.toList = 45 :: d := by
        cases h : s.data.toList with
        | nil => rw [h] at hm; simp at hm
        | cons b r => rw [h] at hm; simp at hm; exact ⟨r, by rw [hm]⟩
      have hF := form_in s hsz w
      rw [hf] at hF
      rw [hl] at hf
      obtain ⟨hall, hne⟩ := form_dig_minus hf
      have hnum := num_neg hf
      rw [← hl] at hnum
      have hsl : s.data.toList.length = s.size := rfl
      have h0 : 0 < s.size := by rw [← hsl, hl]; simp
      have hg0 := get_at h0
      have hb0 : ((s[0]'h0).toNat : Int) = 45 := by
        rw [hl] at hg0
        have := Option.some.inj hg0
        rw [← this]; rfl
      have HA := Lib.hid hall
      have HN := Lib.hid hnum
      have HL := Lib.hid hl
      clear hall hne hnum hg0 hm hf hl
      go_enter Tryz.func94, Tryz.ntmps94
      go_wp2_with fail
      refine hF.mono ?_
      rintro e w1 ⟨rfl, rfl⟩
      clear hF
      go_wp2_with fail
      go_loopw [4, 6] (fun n i wr => ∃ (k : Nat) (N : Int), k ≤ s.size ∧ i = .int .i64 k ∧ n = .int .i64 (-N) ∧ N = (decL (d.take (k - 1)) : Nat) ∧ 0 ≤ N ∧ N ≤ 9223372036854775808 ∧ wr = w1) (fun _ i _ => s.size - (Lib.intOf i).toNat)
      case atStart => exact ⟨0, 0, Nat.zero_le _, rfl, rfl, rfl, by omega, by omega, rfl⟩
      case round =>
        obtain ⟨k, N, hk, rfl, rfl, hN, hN0, hN1, rfl⟩ := hrel
        have HNN := Lib.hid hN
        clear hN
        by_cases hlt : k < s.size
        · rcases Nat.eq_zero_or_pos k with rfl | hkp
          · go_wp2_with fail
            exact ⟨⟨1, N, by omega, rfl, rfl, HNN.out, hN0, hN1, trivial⟩, by simp [Lib.intOf]; omega⟩
          obtain ⟨j, rfl⟩ : ∃ j, k = j + 1 := ⟨k - 1, by omega⟩
          have hg := get_at hlt
          rw [HL.out, List.getElem?_cons_succ] at hg
          have hd : isDig (s[j + 1]'hlt) = true := List.all_eq_true.1 HA.out _ (List.mem_of_getElem? hg)
          have hd' : 48 ≤ (s[j + 1]'hlt).toNat ∧ (s[j + 1]'hlt).toNat ≤ 57 := of_decide_eq_true hd
          have HS := Lib.hid (decL_succ hg)
          have HT := Lib.hid (decL_take d (j + 1))
          obtain ⟨g, hgg⟩ : ∃ g : Int, ((s[j + 1]'hlt).toNat : Int) = g + 48 := ⟨((s[j + 1]'hlt).toNat : Int) - 48, by omega⟩
          have hg1 : 0 ≤ g := by omega
          have hg2 : g ≤ 9 := by omega
          rw [Nat.add_sub_cancel] at HNN
          have HX : Hid ((decL (d.take (j + 1)) : Int) = N * 10 + g) := Lib.hid (by
            rw [HS.out, HNN.out]; push_cast; omega)
          have hq := quo_minus N g hN0 hg1 hg2
          clear hg hd hd'
          by_cases hov : 9223372036854775808 < N * 10 + g
          · have hov' := hq.2 hov
            have HO := Lib.hid hov
            clear hq hov
            go_wp2_with fail
            refine bodyPost_ret (v := .tuple #[.int .i64 (numL s.data.toList).1, .int .i64 (numL s.data.toList).2]) ?_ rfl ⟨rfl, rfl⟩
            rw [HN.out, if_neg (by have := HO.out; have := HX.out; have := HT.out; omega)]
            simp [results, Tryz.results94, go_sem]
          · have hov' : ¬ -N < (-9223372036854775808 + g).tdiv 10 := fun h => hov (hq.1 h)
            clear hq
            go_wp2_with fail
            refine ⟨⟨j + 2, 10 * N + g, by omega, rfl, ?_, ?_, by omega, by omega, trivial⟩, by simp [Lib.intOf]; omega⟩
            · exact congrArg (Value.int .i64) (by omega)
            · show _ = ((decL (d.take (j + 1)) : Nat) : Int)
              rw [HX.out]; omega
        · have htk : d.take (k - 1) = d := List.take_of_length_le (by have h1 := congrArg List.length HL.out; rw [hsl] at h1; simp at h1; omega)
          rw [htk] at HNN
          go_wp2_with fail
          refine bodyPost_ret (v := .tuple #[.int .i64 (numL s.data.toList).1, .int .i64 (numL s.data.toList).2]) ?_ rfl ⟨rfl, rfl⟩
          rw [HN.out, ← HNN.out, if_pos hN1]
          simp [results, Tryz.results94, go_sem]
    · obtain ⟨hall, hne⟩ := form_dig_plus hf hm
      have hnum := num_plus hf hm
      have h0 : 0 < s.size := List.length_pos_iff.2 hne
      have hg0 := get_at h0
      have hb0 : ¬ ((s[0]'h0).toNat : Int) = 45 := fun e => hm (by
        rw [List.head?_eq_getElem?, hg0]
        exact congrArg some (UInt8.toNat_inj.1 (by show (s[0]'h0).toNat = 45; omega)))
      have hF := form_in s hsz w
      rw [hf] at hF
      have HA := Lib.hid hall
      have HN := Lib.hid hnum
      clear hall hne hnum hg0 hm hf
      go_enter Tryz.func94, Tryz.ntmps94
      go_wp2_with fail
      refine hF.mono ?_
      rintro e w1 ⟨rfl, rfl⟩
      clear hF
      go_wp2_with fail
      go_loopw [4, 6] (fun n i wr => ∃ (k : Nat) (N : Int), k ≤ s.size ∧ i = .int .i64 k ∧ n = .int .i64 N ∧ N = (decL (s.data.toList.take k) : Nat) ∧ 0 ≤ N ∧ N ≤ 9223372036854775807 ∧ wr = w1) (fun _ i _ => s.size - (Lib.intOf i).toNat)
      case atStart => exact ⟨0, 0, Nat.zero_le _, rfl, rfl, rfl, by omega, by omega, rfl⟩
      case round =>
        obtain ⟨k, N, hk, rfl, rfl, hN, hN0, hN1, rfl⟩ := hrel
        have HNN := Lib.hid hN
        clear hN
        by_cases hlt : k < s.size
        · have hg := get_at hlt
          have hd : isDig (s[k]'hlt) = true := List.all_eq_true.1 HA.out _ (List.mem_of_getElem? hg)
          have hd' : 48 ≤ (s[k]'hlt).toNat ∧ (s[k]'hlt).toNat ≤ 57 := of_decide_eq_true hd
          have HS := Lib.hid (decL_succ hg)
          have HT := Lib.hid (decL_take s.data.toList (k + 1))
          obtain ⟨g, hgg⟩ : ∃ g : Int, ((s[k]'hlt).toNat : Int) = g + 48 := ⟨((s[k]'hlt).toNat : Int) - 48, by omega⟩
          have hg1 : 0 ≤ g := by omega
          have hg2 : g ≤ 9 := by omega
          have HX : Hid ((decL (s.data.toList.take (k + 1)) : Int) = N * 10 + g) := Lib.hid (by
            rw [HS.out, HNN.out]; push_cast; omega)
          have hq := quo_plus N g hN0 hg1 hg2
          clear hg hd hd'
          by_cases hov : 9223372036854775807 < N * 10 + g
          · have hov' := hq.2 hov
            have HO := Lib.hid hov
            clear hq hov
            go_wp2_with fail
            refine bodyPost_ret (v := .tuple #[.int .i64 (numL s.data.toList).1, .int .i64 (numL s.data.toList).2]) ?_ rfl ⟨rfl, rfl⟩
            rw [HN.out, if_neg (by have := HO.out; have := HX.out; have := HT.out; omega)]
            simp [results, Tryz.results94, go_sem]
          · have hov' : ¬ (9223372036854775807 - g) / 10 < N := fun h => hov (hq.1 h)
            clear hq
            go_wp2_with fail
            refine ⟨⟨k + 1, 10 * N + g, by omega, rfl, rfl, ?_, by omega, by omega, trivial⟩, by simp [Lib.intOf]; omega⟩
            rw [HX.out]; omega
        · have htk : s.data.toList.take k = s.data.toList := List.take_of_length_le (by show s.size ≤ k; omega)
          rw [htk] at HNN
          go_wp2_with fail
          refine bodyPost_ret (v := .tuple #[.int .i64 (numL s.data.toList).1, .int .i64 (numL s.data.toList).2]) ?_ rfl ⟨rfl, rfl⟩
          rw [HN.out, ← HNN.out, if_pos hN1]
          simp [results, Tryz.results94, go_sem]
  · have hf' : formL s.data.toList = false := by simpa using hf
    have HN := Lib.hid (numL_no hf')
    have hF := form_in s hsz w
    rw [hf'] at hF
    clear hf hf'
    go_enter Tryz.func94, Tryz.ntmps94
    go_wp2_with fail
    refine hF.mono ?_
    rintro e w1 ⟨rfl, rfl⟩
    go_wp2_with fail
    refine bodyPost_ret (v := .tuple #[.int .i64 (numL s.data.toList).1, .int .i64 (numL s.data.toList).2]) ?_ rfl ⟨rfl, rfl⟩
    rw [HN.out]
    simp [results, Tryz.results94, go_sem]

end Go.Proofs.YtoagphighgejnaaGreatDoor
