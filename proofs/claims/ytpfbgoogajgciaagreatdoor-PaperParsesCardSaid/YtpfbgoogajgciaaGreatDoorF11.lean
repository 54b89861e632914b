/- The document's answer: read (36), by field. Conditions: none. Printed by genF11.py. -/
import Derived.Test.YtpfbgoogajgciaaGreatDoorF10
set_option linter.unusedSimpArgs false
set_option linter.unusedVariables false
namespace Go.Proofs.YtpfbgoogajgciaaGreatDoor
open Go.RowKit Go.Shelf

theorem num0 : numL [48] = (0, 0) := by decide +kernel
theorem num1 : numL [49] = (1, 0) := by decide +kernel


set_option maxHeartbeats 3200000 in
set_option maxRecDepth 100000 in
theorem read_flow (s : ByteArray) (hsz : s.size ≤ 60000) (w : World) :
    Calls Tryz.prog 36 #[.string s, .string ⟨#[102, 108, 111, 119]⟩] w fun e w' => ∃ B m cp, e = .returned (.tuple #[.slice B m cp, .int .i64 (listL numL Fld.flow.name (cutL 32 s.data.toList)).2]) ∧ m = (listL numL Fld.flow.name (cutL 32 s.data.toList)).1.length ∧ w'.ownsRow w.heap.size 2 1 (.slice B m cp) m ((listL numL Fld.flow.name (cutL 32 s.data.toList)).1.map I) ∧ Below w.heap.size w w' := by
  have hWs := rWords_in s (by omega) w
  have hcm := cut_many 32 s.data.toList
  have hcl := cut_len 32 s.data.toList
  have hss : s.data.toList.length = s.size := rfl
  have hne := cutL_ne 32 s.data.toList
  generalize cutL 32 s.data.toList = ws at hWs hcm hcl hne ⊢
  cases ws with
  | nil => exact absurd rfl hne
  | cons x0 ts =>
    clear hne
    have hts0 : ts.length ≤ 60000 := by simp at hcm; omega
    have HW : Hid (∀ x ∈ ts, x.length ≤ 60000) := Lib.hid (fun x hx => by have := hcl x (by simp [hx]); omega)
    clear hcl hcm
    go_enter Tryz.func36, Tryz.ntmps36
    go_wp2_with fail
    refine hWs.mono ?_
    rintro e w1 ⟨A, n, cp, rfl, hn, hncp, hr, hb1⟩
    obtain ⟨N, rfl⟩ : ∃ N, n = N + 1 := ⟨ts.length, by simpa using hn⟩
    have hts : ts.length = N := by simpa using hn.symm
    obtain ⟨b, off, rfl, hb, hcells⟩ := hr.2 (by omega)
    have hc0 : w1.cell? ⟨b, off, none⟩ = some (.string ⟨x0.toArray⟩) := by have := hcells 0 _ rfl; rwa [Nat.add_zero] at this
    have HCL : Hid (∀ j u, (ts.map strV)[j]? = some u → w1.cell? ⟨b, off + (j + 1), none⟩ = some u) := Lib.hid (fun j u hu => hcells (j + 1) u (by simpa using hu))
    clear hcells hr hn hWs
    by_cases hx0 : x0 = Fld.flow.name
    · subst hx0
      rw [show (⟨(Fld.flow.name).toArray⟩ : ByteArray) = ⟨#[102, 108, 111, 119]⟩ from rfl] at hc0
      have HL : Hid (listL numL Fld.flow.name (Fld.flow.name :: ts) = if (ts.map numL).any (fun p => decide (p.2 ≠ 0 ∧ p.2 ≠ 11)) then ([], 10) else if 1000 < ts.length then ([], 20) else if (ts.map numL).any (fun p => decide (p.2 ≠ 0)) then ([], 11) else ((ts.map numL).map (·.1), 0)) := Lib.hid (by
        unfold listL; rw [if_neg (by simp)]; rfl)
      obtain ⟨i0, hi, hz0, hz1, hz2⟩ := info_parts info2
      have HI := Lib.hid hi
      have HZ0 := Lib.hid hz0
      have HZ1 := Lib.hid hz1
      have HZ2 := Lib.hid hz2
      clear hi hz0 hz1 hz2
      go_wp2_with fail
      go_loopw [7, 8, 9] (fun l bg i wr => ∃ (k : Nat) (X : List Int), k ≤ N ∧ i = .int .i64 (k + 1) ∧ bg = .bool (((ts.take k).map numL).any (fun p => decide (p.2 ≠ 0))) ∧ ((ts.take k).map numL).any (fun p => decide (p.2 ≠ 0 ∧ p.2 ≠ 11)) = false ∧ (((ts.take k).map numL).any (fun p => decide (p.2 ≠ 0)) = false → X = ((ts.take k).map numL).map (·.1)) ∧ X.length = k ∧ wr.ownsRow w1.heap.size 2 1 l k (X.map I) ∧ Below w1.heap.size w1 wr) (fun _ _ i _ => N + 1 - (Lib.intOf i).toNat)
      case atStart => exact ⟨0, [], Nat.zero_le _, rfl, rfl, rfl, fun _ => rfl, rfl, World.ownsRow_nil _ _ _ _, Below.refl _ _⟩
      case round =>
        obtain ⟨k, X, hk, rfl, rfl, hno, hXX, hXl, hown, hbw1⟩ := hrel
        have hbw : Below w.heap.size w wr := hb1.trans (hbw1.mono hb1.size)
        have HNO := Lib.hid hno
        have HXX := Lib.hid hXX
        have HO := Lib.hid hown
        have HXL := Lib.hid hXl
        have hbs := hbw.size
        clear hno hXX hown hXl
        obtain ⟨A', cp', rfl⟩ := own_form HO.out
        by_cases hlt : k < N
        · obtain ⟨x, hx⟩ : ∃ x, ts[k]? = some x := ⟨_, List.getElem?_eq_getElem (by omega)⟩
          have hcell : wr.cell? ⟨b, off + (k + 1), none⟩ = some (.string ⟨x.toArray⟩) := (hbw1.cell (p := ⟨b, off + (k + 1), none⟩) hb).trans (HCL.out k _ (by rw [List.getElem?_map, hx]; rfl))
          have hxl : (⟨x.toArray⟩ : ByteArray).size ≤ 60000 := HW.out x (List.mem_of_getElem? hx)
          have HT : Hid (Calls Tryz.prog 57 #[.string ⟨x.toArray⟩] wr fun e w' => e = .returned (.tuple #[.int .i64 (numL x).1, .int .i64 (numL x).2]) ∧ w' = wr) := Lib.hid (rNumber_in ⟨x.toArray⟩ (by omega) wr)
          have HA1 := Lib.hid (fun f => any_snoc (turn := numL) f hx)
          have HA2 := Lib.hid (map_snoc (turn := numL) hx)
          have HBX := Lib.hid (list_bad (turn := numL) (name := Fld.flow.name) (ws := Fld.flow.name :: ts) rfl (x := x) (List.mem_of_getElem? hx))
          have herr := numL_err x
          have B1 : Hid (k + 1 ≤ maxLen) := Lib.hid (by unfold maxLen; omega)
          have B2 : Hid ((k + 1) * 8 ≤ 140737488355328) := Lib.hid (by omega)
          have B3 : Hid (∀ o, w1.heap.size ≤ (wr.alloc o).heap.size) := Lib.hid (fun o => by have := hbw1.size; simp; omega)
          clear hx
          obtain ⟨bg, hbg⟩ : ∃ bg, ((ts.take k).map numL).any (fun p => decide (p.2 ≠ 0)) = bg := ⟨_, rfl⟩
          rw [hbg] at HXX ⊢
          have HBG := Lib.hid hbg
          clear hbg
          generalize (⟨x.toArray⟩ : ByteArray) = Xs at hcell hxl HT
          obtain ⟨vv, hvv⟩ : ∃ vv, numL x = vv := ⟨_, rfl⟩
          rw [hvv] at HT HA1 HA2 HBX herr
          obtain ⟨v, er⟩ := vv
          clear hvv
          rcases herr with he | he | he
          · obtain rfl : er = 0 := he
            cases bg
            all_goals
              go_wp2_with fail
              refine HT.out.mono ?_
              rintro e w2 ⟨rfl, hw2⟩
              obtain rfl := hw2.symm
              go_wp2_with (at_builtin; refine wpList_append_own _ rfl _ _ 28 rfl w1.heap.size 2 i0 (.int .i64 0) 1 8 Tryz.underlying28 HI.out HZ0.out HZ1.out HZ2.out rfl (by decide) _ _ _ rfl (HO.out.alloc _) ⟨wr.heap.size, 0, none⟩ 1 1 [.int .i64 (v)] rfl rfl (cell_one_new _ _ _) (by simp [Value.oneCell']) B1.out B2.out (B3.out _) ?_)
              intro v' w3 hown' hgrow _
              have HOW := Lib.hid hown'
              clear hown'
              go_wp2_with fail
              go_roundw
              case measure => simp [Lib.intOf]; omega
              case rel =>
                refine ⟨k + 1, X ++ [v], by omega, by go_num, ?_, ?_, ?_, by rw [List.length_append, HXL.out]; rfl, ?_, (hbw1.alloc (Below.size hbw1) _).grown hgrow (by have := hbw1.size; simp; omega) (fun j hj => (HO.out.lt j hj).1)⟩
                · rw [HA1.out, HBG.out]; simp <;> omega
                · rw [HA1.out, HNO.out]; simp
                · rw [HA1.out, HBG.out, HA2.out]
                  intro h
                  first
                    | (simp at h; done)
                    | (rw [HXX.out (by simp)])
                · rw [List.map_append]; exact HOW.out
          · obtain rfl : er = 10 := he
            go_wp2_with fail
            refine HT.out.mono ?_
            rintro e w2 ⟨rfl, hw2⟩
            obtain rfl := hw2.symm
            go_wp2_with fail
            refine bodyPost_ret (v := .tuple #[.slice none 0 0, .int .i64 10]) (by simp [results, Tryz.results36, go_sem]) rfl ?_
            rw [HBX.out (by simp) (by simp)]
            exact ⟨none, 0, 0, rfl, rfl, World.ownsRow_nil _ _ _ _, hbw⟩
          · obtain rfl : er = 11 := he
            cases bg
            all_goals
              go_wp2_with fail
              refine HT.out.mono ?_
              rintro e w2 ⟨rfl, hw2⟩
              obtain rfl := hw2.symm
              go_wp2_with (at_builtin; refine wpList_append_own _ rfl _ _ 28 rfl w1.heap.size 2 i0 (.int .i64 0) 1 8 Tryz.underlying28 HI.out HZ0.out HZ1.out HZ2.out rfl (by decide) _ _ _ rfl (HO.out.alloc _) ⟨wr.heap.size, 0, none⟩ 1 1 [.int .i64 (v)] rfl rfl (cell_one_new _ _ _) (by simp [Value.oneCell']) B1.out B2.out (B3.out _) ?_)
              intro v' w3 hown' hgrow _
              have HOW := Lib.hid hown'
              clear hown'
              go_wp2_with fail
              go_roundw
              case measure => simp [Lib.intOf]; omega
              case rel =>
                refine ⟨k + 1, X ++ [v], by omega, by go_num, ?_, ?_, ?_, by rw [List.length_append, HXL.out]; rfl, ?_, (hbw1.alloc (Below.size hbw1) _).grown hgrow (by have := hbw1.size; simp; omega) (fun j hj => (HO.out.lt j hj).1)⟩
                · rw [HA1.out, HBG.out]; simp <;> omega
                · rw [HA1.out, HNO.out]; simp
                · rw [HA1.out, HBG.out, HA2.out]
                  intro h
                  first
                    | (simp at h; done)
                    | (rw [HXX.out (by simp)])
                · rw [List.map_append]; exact HOW.out
        · obtain rfl : k = N := by omega
          have htk : ts.take k = ts := List.take_of_length_le (by omega)
          rw [htk] at HNO HXX ⊢
          clear htk
          rw [if_neg (by rw [HNO.out]; simp), hts] at HL
          obtain ⟨bg, hbg⟩ : ∃ bg, (ts.map numL).any (fun p => decide (p.2 ≠ 0)) = bg := ⟨_, rfl⟩
          rw [hbg] at HXX HL ⊢
          clear hbg
          by_cases h1000 : 1000 < k
          · rw [if_pos h1000] at HL
            have h1000' : (1000 : Int) < (k : Int) := by omega
            go_wp2_with fail
            refine bodyPost_ret (v := .tuple #[.slice none 0 0, .int .i64 20]) (by simp [results, Tryz.results36, go_sem]) rfl ?_
            rw [HL.out]
            exact ⟨none, 0, 0, rfl, rfl, World.ownsRow_nil _ _ _ _, hbw⟩
          · rw [if_neg h1000] at HL
            have h1000' : ¬ (1000 : Int) < (k : Int) := by omega
            cases bg
            · rw [if_neg (by simp)] at HL
              go_wp2_with fail
              refine bodyPost_ret (v := .tuple #[.slice A' k cp', .int .i64 0]) (by simp [results, Tryz.results36, go_sem]) rfl ?_
              rw [HL.out]
              have hX := HXX.out (by simp)
              refine ⟨A', k, cp', rfl, ?_, ?_, hbw⟩
              · show k = ((ts.map numL).map (·.1)).length
                rw [← hX, HXL.out]
              · show wr.ownsRow w.heap.size 2 1 (.slice A' k cp') k (((ts.map numL).map (·.1)).map I)
                rw [← hX]; exact own_mono HO.out hb1.size
            · rw [if_pos rfl] at HL
              go_wp2_with fail
              refine bodyPost_ret (v := .tuple #[.slice none 0 0, .int .i64 11]) (by simp [results, Tryz.results36, go_sem]) rfl ?_
              rw [HL.out]
              exact ⟨none, 0, 0, rfl, rfl, World.ownsRow_nil _ _ _ _, hbw⟩
    · have hbs : ((⟨x0.toArray⟩ : ByteArray).toList == (⟨#[102, 108, 111, 119]⟩ : ByteArray).toList) = false := by
        rw [Lib.toList_data, Lib.toList_data]; simpa [Fld.name] using hx0
      have HE : Hid (listL numL Fld.flow.name (x0 :: ts) = ([], 10)) := Lib.hid (by unfold listL; rw [if_pos (by simpa using hx0)])
      have hbs2 : ((⟨x0.toArray⟩ : ByteArray).toList == [102, 108, 111, 119]) = false := by rw [Lib.toList_data]; simpa [Fld.name] using hx0
      generalize (⟨x0.toArray⟩ : ByteArray) = X0 at hc0 hbs hbs2
      go_wp2_with fail
      refine bodyPost_ret (v := .tuple #[.slice none 0 0, .int .i64 10]) (by simp [results, Tryz.results36, go_sem]) rfl ?_
      rw [HE.out]
      exact ⟨none, 0, 0, rfl, rfl, World.ownsRow_nil _ _ _ _, hb1⟩


set_option maxHeartbeats 3200000 in
set_option maxRecDepth 100000 in
theorem read_pot (s : ByteArray) (hsz : s.size ≤ 60000) (w : World) :
    Calls Tryz.prog 36 #[.string s, .string ⟨#[112, 111, 116]⟩] w fun e w' => ∃ B m cp, e = .returned (.tuple #[.slice B m cp, .int .i64 (listL numL Fld.pot.name (cutL 32 s.data.toList)).2]) ∧ m = (listL numL Fld.pot.name (cutL 32 s.data.toList)).1.length ∧ w'.ownsRow w.heap.size 2 1 (.slice B m cp) m ((listL numL Fld.pot.name (cutL 32 s.data.toList)).1.map I) ∧ Below w.heap.size w w' := by
  have hWs := rWords_in s (by omega) w
  have hcm := cut_many 32 s.data.toList
  have hcl := cut_len 32 s.data.toList
  have hss : s.data.toList.length = s.size := rfl
  have hne := cutL_ne 32 s.data.toList
  generalize cutL 32 s.data.toList = ws at hWs hcm hcl hne ⊢
  cases ws with
  | nil => exact absurd rfl hne
  | cons x0 ts =>
    clear hne
    have hts0 : ts.length ≤ 60000 := by simp at hcm; omega
    have HW : Hid (∀ x ∈ ts, x.length ≤ 60000) := Lib.hid (fun x hx => by have := hcl x (by simp [hx]); omega)
    clear hcl hcm
    go_enter Tryz.func36, Tryz.ntmps36
    go_wp2_with fail
    refine hWs.mono ?_
    rintro e w1 ⟨A, n, cp, rfl, hn, hncp, hr, hb1⟩
    obtain ⟨N, rfl⟩ : ∃ N, n = N + 1 := ⟨ts.length, by simpa using hn⟩
    have hts : ts.length = N := by simpa using hn.symm
    obtain ⟨b, off, rfl, hb, hcells⟩ := hr.2 (by omega)
    have hc0 : w1.cell? ⟨b, off, none⟩ = some (.string ⟨x0.toArray⟩) := by have := hcells 0 _ rfl; rwa [Nat.add_zero] at this
    have HCL : Hid (∀ j u, (ts.map strV)[j]? = some u → w1.cell? ⟨b, off + (j + 1), none⟩ = some u) := Lib.hid (fun j u hu => hcells (j + 1) u (by simpa using hu))
    clear hcells hr hn hWs
    by_cases hx0 : x0 = Fld.pot.name
    · subst hx0
      rw [show (⟨(Fld.pot.name).toArray⟩ : ByteArray) = ⟨#[112, 111, 116]⟩ from rfl] at hc0
      have HL : Hid (listL numL Fld.pot.name (Fld.pot.name :: ts) = if (ts.map numL).any (fun p => decide (p.2 ≠ 0 ∧ p.2 ≠ 11)) then ([], 10) else if 1000 < ts.length then ([], 20) else if (ts.map numL).any (fun p => decide (p.2 ≠ 0)) then ([], 11) else ((ts.map numL).map (·.1), 0)) := Lib.hid (by
        unfold listL; rw [if_neg (by simp)]; rfl)
      obtain ⟨i0, hi, hz0, hz1, hz2⟩ := info_parts info2
      have HI := Lib.hid hi
      have HZ0 := Lib.hid hz0
      have HZ1 := Lib.hid hz1
      have HZ2 := Lib.hid hz2
      clear hi hz0 hz1 hz2
      go_wp2_with fail
      go_loopw [7, 8, 9] (fun l bg i wr => ∃ (k : Nat) (X : List Int), k ≤ N ∧ i = .int .i64 (k + 1) ∧ bg = .bool (((ts.take k).map numL).any (fun p => decide (p.2 ≠ 0))) ∧ ((ts.take k).map numL).any (fun p => decide (p.2 ≠ 0 ∧ p.2 ≠ 11)) = false ∧ (((ts.take k).map numL).any (fun p => decide (p.2 ≠ 0)) = false → X = ((ts.take k).map numL).map (·.1)) ∧ X.length = k ∧ wr.ownsRow w1.heap.size 2 1 l k (X.map I) ∧ Below w1.heap.size w1 wr) (fun _ _ i _ => N + 1 - (Lib.intOf i).toNat)
      case atStart => exact ⟨0, [], Nat.zero_le _, rfl, rfl, rfl, fun _ => rfl, rfl, World.ownsRow_nil _ _ _ _, Below.refl _ _⟩
      case round =>
        obtain ⟨k, X, hk, rfl, rfl, hno, hXX, hXl, hown, hbw1⟩ := hrel
        have hbw : Below w.heap.size w wr := hb1.trans (hbw1.mono hb1.size)
        have HNO := Lib.hid hno
        have HXX := Lib.hid hXX
        have HO := Lib.hid hown
        have HXL := Lib.hid hXl
        have hbs := hbw.size
        clear hno hXX hown hXl
        obtain ⟨A', cp', rfl⟩ := own_form HO.out
        by_cases hlt : k < N
        · obtain ⟨x, hx⟩ : ∃ x, ts[k]? = some x := ⟨_, List.getElem?_eq_getElem (by omega)⟩
          have hcell : wr.cell? ⟨b, off + (k + 1), none⟩ = some (.string ⟨x.toArray⟩) := (hbw1.cell (p := ⟨b, off + (k + 1), none⟩) hb).trans (HCL.out k _ (by rw [List.getElem?_map, hx]; rfl))
          have hxl : (⟨x.toArray⟩ : ByteArray).size ≤ 60000 := HW.out x (List.mem_of_getElem? hx)
          have HT : Hid (Calls Tryz.prog 57 #[.string ⟨x.toArray⟩] wr fun e w' => e = .returned (.tuple #[.int .i64 (numL x).1, .int .i64 (numL x).2]) ∧ w' = wr) := Lib.hid (rNumber_in ⟨x.toArray⟩ (by omega) wr)
          have HA1 := Lib.hid (fun f => any_snoc (turn := numL) f hx)
          have HA2 := Lib.hid (map_snoc (turn := numL) hx)
          have HBX := Lib.hid (list_bad (turn := numL) (name := Fld.pot.name) (ws := Fld.pot.name :: ts) rfl (x := x) (List.mem_of_getElem? hx))
          have herr := numL_err x
          have B1 : Hid (k + 1 ≤ maxLen) := Lib.hid (by unfold maxLen; omega)
          have B2 : Hid ((k + 1) * 8 ≤ 140737488355328) := Lib.hid (by omega)
          have B3 : Hid (∀ o, w1.heap.size ≤ (wr.alloc o).heap.size) := Lib.hid (fun o => by have := hbw1.size; simp; omega)
          clear hx
          obtain ⟨bg, hbg⟩ : ∃ bg, ((ts.take k).map numL).any (fun p => decide (p.2 ≠ 0)) = bg := ⟨_, rfl⟩
          rw [hbg] at HXX ⊢
          have HBG := Lib.hid hbg
          clear hbg
          generalize (⟨x.toArray⟩ : ByteArray) = Xs at hcell hxl HT
          obtain ⟨vv, hvv⟩ : ∃ vv, numL x = vv := ⟨_, rfl⟩
          rw [hvv] at HT HA1 HA2 HBX herr
          obtain ⟨v, er⟩ := vv
          clear hvv
          rcases herr with he | he | he
          · obtain rfl : er = 0 := he
            cases bg
            all_goals
              go_wp2_with fail
              refine HT.out.mono ?_
              rintro e w2 ⟨rfl, hw2⟩
              obtain rfl := hw2.symm
              go_wp2_with (at_builtin; refine wpList_append_own _ rfl _ _ 28 rfl w1.heap.size 2 i0 (.int .i64 0) 1 8 Tryz.underlying28 HI.out HZ0.out HZ1.out HZ2.out rfl (by decide) _ _ _ rfl (HO.out.alloc _) ⟨wr.heap.size, 0, none⟩ 1 1 [.int .i64 (v)] rfl rfl (cell_one_new _ _ _) (by simp [Value.oneCell']) B1.out B2.out (B3.out _) ?_)
              intro v' w3 hown' hgrow _
              have HOW := Lib.hid hown'
              clear hown'
              go_wp2_with fail
              go_roundw
              case measure => simp [Lib.intOf]; omega
              case rel =>
                refine ⟨k + 1, X ++ [v], by omega, by go_num, ?_, ?_, ?_, by rw [List.length_append, HXL.out]; rfl, ?_, (hbw1.alloc (Below.size hbw1) _).grown hgrow (by have := hbw1.size; simp; omega) (fun j hj => (HO.out.lt j hj).1)⟩
                · rw [HA1.out, HBG.out]; simp <;> omega
                · rw [HA1.out, HNO.out]; simp
                · rw [HA1.out, HBG.out, HA2.out]
                  intro h
                  first
                    | (simp at h; done)
                    | (rw [HXX.out (by simp)])
                · rw [List.map_append]; exact HOW.out
          · obtain rfl : er = 10 := he
            go_wp2_with fail
            refine HT.out.mono ?_
            rintro e w2 ⟨rfl, hw2⟩
            obtain rfl := hw2.symm
            go_wp2_with fail
            refine bodyPost_ret (v := .tuple #[.slice none 0 0, .int .i64 10]) (by simp [results, Tryz.results36, go_sem]) rfl ?_
            rw [HBX.out (by simp) (by simp)]
            exact ⟨none, 0, 0, rfl, rfl, World.ownsRow_nil _ _ _ _, hbw⟩
          · obtain rfl : er = 11 := he
            cases bg
            all_goals
              go_wp2_with fail
              refine HT.out.mono ?_
              rintro e w2 ⟨rfl, hw2⟩
              obtain rfl := hw2.symm
              go_wp2_with (at_builtin; refine wpList_append_own _ rfl _ _ 28 rfl w1.heap.size 2 i0 (.int .i64 0) 1 8 Tryz.underlying28 HI.out HZ0.out HZ1.out HZ2.out rfl (by decide) _ _ _ rfl (HO.out.alloc _) ⟨wr.heap.size, 0, none⟩ 1 1 [.int .i64 (v)] rfl rfl (cell_one_new _ _ _) (by simp [Value.oneCell']) B1.out B2.out (B3.out _) ?_)
              intro v' w3 hown' hgrow _
              have HOW := Lib.hid hown'
              clear hown'
              go_wp2_with fail
              go_roundw
              case measure => simp [Lib.intOf]; omega
              case rel =>
                refine ⟨k + 1, X ++ [v], by omega, by go_num, ?_, ?_, ?_, by rw [List.length_append, HXL.out]; rfl, ?_, (hbw1.alloc (Below.size hbw1) _).grown hgrow (by have := hbw1.size; simp; omega) (fun j hj => (HO.out.lt j hj).1)⟩
                · rw [HA1.out, HBG.out]; simp <;> omega
                · rw [HA1.out, HNO.out]; simp
                · rw [HA1.out, HBG.out, HA2.out]
                  intro h
                  first
                    | (simp at h; done)
                    | (rw [HXX.out (by simp)])
                · rw [List.map_append]; exact HOW.out
        · obtain rfl : k = N := by omega
          have htk : ts.take k = ts := List.take_of_length_le (by omega)
          rw [htk] at HNO HXX ⊢
          clear htk
          rw [if_neg (by rw [HNO.out]; simp), hts] at HL
          obtain ⟨bg, hbg⟩ : ∃ bg, (ts.map numL).any (fun p => decide (p.2 ≠ 0)) = bg := ⟨_, rfl⟩
          rw [hbg] at HXX HL ⊢
          clear hbg
          by_cases h1000 : 1000 < k
          · rw [if_pos h1000] at HL
            have h1000' : (1000 : Int) < (k : Int) := by omega
            go_wp2_with fail
            refine bodyPost_ret (v := .tuple #[.slice none 0 0, .int .i64 20]) (by simp [results, Tryz.results36, go_sem]) rfl ?_
            rw [HL.out]
            exact ⟨none, 0, 0, rfl, rfl, World.ownsRow_nil _ _ _ _, hbw⟩
          · rw [if_neg h1000] at HL
            have h1000' : ¬ (1000 : Int) < (k : Int) := by omega
            cases bg
            · rw [if_neg (by simp)] at HL
              go_wp2_with fail
              refine bodyPost_ret (v := .tuple #[.slice A' k cp', .int .i64 0]) (by simp [results, Tryz.results36, go_sem]) rfl ?_
              rw [HL.out]
              have hX := HXX.out (by simp)
              refine ⟨A', k, cp', rfl, ?_, ?_, hbw⟩
              · show k = ((ts.map numL).map (·.1)).length
                rw [← hX, HXL.out]
              · show wr.ownsRow w.heap.size 2 1 (.slice A' k cp') k (((ts.map numL).map (·.1)).map I)
                rw [← hX]; exact own_mono HO.out hb1.size
            · rw [if_pos rfl] at HL
              go_wp2_with fail
              refine bodyPost_ret (v := .tuple #[.slice none 0 0, .int .i64 11]) (by simp [results, Tryz.results36, go_sem]) rfl ?_
              rw [HL.out]
              exact ⟨none, 0, 0, rfl, rfl, World.ownsRow_nil _ _ _ _, hbw⟩
    · have hbs : ((⟨x0.toArray⟩ : ByteArray).toList == (⟨#[112, 111, 116]⟩ : ByteArray).toList) = false := by
        rw [Lib.toList_data, Lib.toList_data]; simpa [Fld.name] using hx0
      have HE : Hid (listL numL Fld.pot.name (x0 :: ts) = ([], 10)) := Lib.hid (by unfold listL; rw [if_pos (by simpa using hx0)])
      have hbs2 : ((⟨x0.toArray⟩ : ByteArray).toList == [112, 111, 116]) = false := by rw [Lib.toList_data]; simpa [Fld.name] using hx0
      generalize (⟨x0.toArray⟩ : ByteArray) = X0 at hc0 hbs hbs2
      go_wp2_with fail
      refine bodyPost_ret (v := .tuple #[.slice none 0 0, .int .i64 10]) (by simp [results, Tryz.results36, go_sem]) rfl ?_
      rw [HE.out]
      exact ⟨none, 0, 0, rfl, rfl, World.ownsRow_nil _ _ _ _, hb1⟩


set_option maxHeartbeats 3200000 in
set_option maxRecDepth 100000 in
theorem read_side (s : ByteArray) (hsz : s.size ≤ 60000) (w : World) :
    Calls Tryz.prog 36 #[.string s, .string ⟨#[115, 105, 100, 101]⟩] w fun e w' => ∃ B m cp, e = .returned (.tuple #[.slice B m cp, .int .i64 (listL bitL Fld.side.name (cutL 32 s.data.toList)).2]) ∧ m = (listL bitL Fld.side.name (cutL 32 s.data.toList)).1.length ∧ w'.ownsRow w.heap.size 2 1 (.slice B m cp) m ((listL bitL Fld.side.name (cutL 32 s.data.toList)).1.map I) ∧ Below w.heap.size w w' := by
  have hWs := rWords_in s (by omega) w
  have hcm := cut_many 32 s.data.toList
  have hcl := cut_len 32 s.data.toList
  have hss : s.data.toList.length = s.size := rfl
  have hne := cutL_ne 32 s.data.toList
  generalize cutL 32 s.data.toList = ws at hWs hcm hcl hne ⊢
  cases ws with
  | nil => exact absurd rfl hne
  | cons x0 ts =>
    clear hne
    have hts0 : ts.length ≤ 60000 := by simp at hcm; omega
    have HW : Hid (∀ x ∈ ts, x.length ≤ 60000) := Lib.hid (fun x hx => by have := hcl x (by simp [hx]); omega)
    clear hcl hcm
    go_enter Tryz.func36, Tryz.ntmps36
    go_wp2_with fail
    refine hWs.mono ?_
    rintro e w1 ⟨A, n, cp, rfl, hn, hncp, hr, hb1⟩
    obtain ⟨N, rfl⟩ : ∃ N, n = N + 1 := ⟨ts.length, by simpa using hn⟩
    have hts : ts.length = N := by simpa using hn.symm
    obtain ⟨b, off, rfl, hb, hcells⟩ := hr.2 (by omega)
    have hc0 : w1.cell? ⟨b, off, none⟩ = some (.string ⟨x0.toArray⟩) := by have := hcells 0 _ rfl; rwa [Nat.add_zero] at this
    have HCL : Hid (∀ j u, (ts.map strV)[j]? = some u → w1.cell? ⟨b, off + (j + 1), none⟩ = some u) := Lib.hid (fun j u hu => hcells (j + 1) u (by simpa using hu))
    clear hcells hr hn hWs
    by_cases hx0 : x0 = Fld.side.name
    · subst hx0
      rw [show (⟨(Fld.side.name).toArray⟩ : ByteArray) = ⟨#[115, 105, 100, 101]⟩ from rfl] at hc0
      have HL : Hid (listL bitL Fld.side.name (Fld.side.name :: ts) = if (ts.map bitL).any (fun p => decide (p.2 ≠ 0 ∧ p.2 ≠ 11)) then ([], 10) else if 1000 < ts.length then ([], 20) else if (ts.map bitL).any (fun p => decide (p.2 ≠ 0)) then ([], 11) else ((ts.map bitL).map (·.1), 0)) := Lib.hid (by
        unfold listL; rw [if_neg (by simp)]; rfl)
      obtain ⟨i0, hi, hz0, hz1, hz2⟩ := info_parts info2
      have HI := Lib.hid hi
      have HZ0 := Lib.hid hz0
      have HZ1 := Lib.hid hz1
      have HZ2 := Lib.hid hz2
      clear hi hz0 hz1 hz2
      go_wp2_with fail
      go_loopw [7, 8, 9] (fun l bg i wr => ∃ (k : Nat) (X : List Int), k ≤ N ∧ i = .int .i64 (k + 1) ∧ bg = .bool (((ts.take k).map bitL).any (fun p => decide (p.2 ≠ 0))) ∧ ((ts.take k).map bitL).any (fun p => decide (p.2 ≠ 0 ∧ p.2 ≠ 11)) = false ∧ (((ts.take k).map bitL).any (fun p => decide (p.2 ≠ 0)) = false → X = ((ts.take k).map bitL).map (·.1)) ∧ X.length = k ∧ wr.ownsRow w1.heap.size 2 1 l k (X.map I) ∧ Below w1.heap.size w1 wr) (fun _ _ i _ => N + 1 - (Lib.intOf i).toNat)
      case atStart => exact ⟨0, [], Nat.zero_le _, rfl, rfl, rfl, fun _ => rfl, rfl, World.ownsRow_nil _ _ _ _, Below.refl _ _⟩
      case round =>
        obtain ⟨k, X, hk, rfl, rfl, hno, hXX, hXl, hown, hbw1⟩ := hrel
        have hbw : Below w.heap.size w wr := hb1.trans (hbw1.mono hb1.size)
        have HNO := Lib.hid hno
        have HXX := Lib.hid hXX
        have HO := Lib.hid hown
        have HXL := Lib.hid hXl
        have hbs := hbw.size
        clear hno hXX hown hXl
        obtain ⟨A', cp', rfl⟩ := own_form HO.out
        by_cases hlt : k < N
        · obtain ⟨x, hx⟩ : ∃ x, ts[k]? = some x := ⟨_, List.getElem?_eq_getElem (by omega)⟩
          have hcell : wr.cell? ⟨b, off + (k + 1), none⟩ = some (.string ⟨x.toArray⟩) := (hbw1.cell (p := ⟨b, off + (k + 1), none⟩) hb).trans (HCL.out k _ (by rw [List.getElem?_map, hx]; rfl))
          have hxl : (⟨x.toArray⟩ : ByteArray).size ≤ 60000 := HW.out x (List.mem_of_getElem? hx)
          have HT : Hid (Calls Tryz.prog 57 #[.string ⟨x.toArray⟩] wr fun e w' => e = .returned (.tuple #[.int .i64 (numL x).1, .int .i64 (numL x).2]) ∧ w' = wr) := Lib.hid (rNumber_in ⟨x.toArray⟩ (by omega) wr)
          have HA1 := Lib.hid (fun f => any_snoc (turn := bitL) f hx)
          have HA2 := Lib.hid (map_snoc (turn := bitL) hx)
          have HBX := Lib.hid (list_bad (turn := bitL) (name := Fld.side.name) (ws := Fld.side.name :: ts) rfl (x := x) (List.mem_of_getElem? hx))
          have herr := numL_err x
          have B1 : Hid (k + 1 ≤ maxLen) := Lib.hid (by unfold maxLen; omega)
          have B2 : Hid ((k + 1) * 8 ≤ 140737488355328) := Lib.hid (by omega)
          have B3 : Hid (∀ o, w1.heap.size ≤ (wr.alloc o).heap.size) := Lib.hid (fun o => by have := hbw1.size; simp; omega)
          clear hx
          obtain ⟨bg, hbg⟩ : ∃ bg, ((ts.take k).map bitL).any (fun p => decide (p.2 ≠ 0)) = bg := ⟨_, rfl⟩
          rw [hbg] at HXX ⊢
          have HBG := Lib.hid hbg
          clear hbg
          by_cases hx0 : x = [48]
          · subst hx0
            rw [num0] at HT
            rw [show bitL [48] = (0, 0) by decide +kernel] at HA1 HA2 HBX
            clear herr
            cases bg
            all_goals
              go_wp2_with fail
              refine HT.out.mono ?_
              rintro e w2 ⟨rfl, hw2⟩
              obtain rfl := hw2.symm
              go_wp2_with (at_builtin; refine wpList_append_own _ rfl _ _ 28 rfl w1.heap.size 2 i0 (.int .i64 0) 1 8 Tryz.underlying28 HI.out HZ0.out HZ1.out HZ2.out rfl (by decide) _ _ _ rfl (HO.out.alloc _) ⟨wr.heap.size, 0, none⟩ 1 1 [.int .i64 (0)] rfl rfl (cell_one_new _ _ _) (by simp [Value.oneCell']) B1.out B2.out (B3.out _) ?_)
              intro v' w3 hown' hgrow _
              have HOW := Lib.hid hown'
              clear hown'
              go_wp2_with fail
              go_roundw
              case measure => simp [Lib.intOf]; omega
              case rel =>
                refine ⟨k + 1, X ++ [0], by omega, by go_num, ?_, ?_, ?_, by rw [List.length_append, HXL.out]; rfl, ?_, (hbw1.alloc (Below.size hbw1) _).grown hgrow (by have := hbw1.size; simp; omega) (fun j hj => (HO.out.lt j hj).1)⟩
                · rw [HA1.out, HBG.out]; simp <;> omega
                · rw [HA1.out, HNO.out]; simp
                · rw [HA1.out, HBG.out, HA2.out]
                  intro h
                  first
                    | (simp at h; done)
                    | (rw [HXX.out (by simp)])
                · rw [List.map_append]; exact HOW.out
          by_cases hx1 : x = [49]
          · subst hx1
            rw [num1] at HT
            rw [show bitL [49] = (1, 0) by decide +kernel] at HA1 HA2 HBX
            clear herr hx0
            cases bg
            all_goals
              go_wp2_with fail
              refine HT.out.mono ?_
              rintro e w2 ⟨rfl, hw2⟩
              obtain rfl := hw2.symm
              go_wp2_with (at_builtin; refine wpList_append_own _ rfl _ _ 28 rfl w1.heap.size 2 i0 (.int .i64 0) 1 8 Tryz.underlying28 HI.out HZ0.out HZ1.out HZ2.out rfl (by decide) _ _ _ rfl (HO.out.alloc _) ⟨wr.heap.size, 0, none⟩ 1 1 [.int .i64 (1)] rfl rfl (cell_one_new _ _ _) (by simp [Value.oneCell']) B1.out B2.out (B3.out _) ?_)
              intro v' w3 hown' hgrow _
              have HOW := Lib.hid hown'
              clear hown'
              go_wp2_with fail
              go_roundw
              case measure => simp [Lib.intOf]; omega
              case rel =>
                refine ⟨k + 1, X ++ [1], by omega, by go_num, ?_, ?_, ?_, by rw [List.length_append, HXL.out]; rfl, ?_, (hbw1.alloc (Below.size hbw1) _).grown hgrow (by have := hbw1.size; simp; omega) (fun j hj => (HO.out.lt j hj).1)⟩
                · rw [HA1.out, HBG.out]; simp <;> omega
                · rw [HA1.out, HNO.out]; simp
                · rw [HA1.out, HBG.out, HA2.out]
                  intro h
                  first
                    | (simp at h; done)
                    | (rw [HXX.out (by simp)])
                · rw [List.map_append]; exact HOW.out
          have hbit : bitL x = (0, 10) := by unfold bitL; rw [if_neg hx1, if_neg hx0]
          have d0 : ((⟨x.toArray⟩ : ByteArray).toList == [48]) = false := str_ne ⟨x.toArray⟩ [48] hx0
          have d1 : ((⟨x.toArray⟩ : ByteArray).toList == [49]) = false := str_ne ⟨x.toArray⟩ [49] hx1
          rw [hbit] at HA1 HA2 HBX
          generalize (⟨x.toArray⟩ : ByteArray) = Xs at hcell hxl HT d0 d1
          obtain ⟨vv, hvv⟩ : ∃ vv, numL x = vv := ⟨_, rfl⟩
          rw [hvv] at HT
          obtain ⟨v, er⟩ := vv
          clear hvv herr hbit hx0 hx1
          by_cases he : er = 10
          · subst he
            go_wp2_with fail
            refine HT.out.mono ?_
            rintro e w2 ⟨rfl, hw2⟩
            obtain rfl := hw2.symm
            go_wp2_with fail
            refine bodyPost_ret (v := .tuple #[.slice none 0 0, .int .i64 10]) (by simp [results, Tryz.results36, go_sem]) rfl ?_
            rw [HBX.out (by simp) (by simp)]
            exact ⟨none, 0, 0, rfl, rfl, World.ownsRow_nil _ _ _ _, hbw⟩
          · have he' : (er == 10) = false := by simpa using he
            go_wp2_with fail
            refine HT.out.mono ?_
            rintro e w2 ⟨rfl, hw2⟩
            obtain rfl := hw2.symm
            go_wp2_with fail
            refine bodyPost_ret (v := .tuple #[.slice none 0 0, .int .i64 10]) (by simp [results, Tryz.results36, go_sem]) rfl ?_
            rw [HBX.out (by simp) (by simp)]
            exact ⟨none, 0, 0, rfl, rfl, World.ownsRow_nil _ _ _ _, hbw⟩
        · obtain rfl : k = N := by omega
          have htk : ts.take k = ts := List.take_of_length_le (by omega)
          rw [htk] at HNO HXX ⊢
          clear htk
          rw [if_neg (by rw [HNO.out]; simp), hts] at HL
          obtain ⟨bg, hbg⟩ : ∃ bg, (ts.map bitL).any (fun p => decide (p.2 ≠ 0)) = bg := ⟨_, rfl⟩
          rw [hbg] at HXX HL ⊢
          clear hbg
          by_cases h1000 : 1000 < k
          · rw [if_pos h1000] at HL
            have h1000' : (1000 : Int) < (k : Int) := by omega
            go_wp2_with fail
            refine bodyPost_ret (v := .tuple #[.slice none 0 0, .int .i64 20]) (by simp [results, Tryz.results36, go_sem]) rfl ?_
            rw [HL.out]
            exact ⟨none, 0, 0, rfl, rfl, World.ownsRow_nil _ _ _ _, hbw⟩
          · rw [if_neg h1000] at HL
            have h1000' : ¬ (1000 : Int) < (k : Int) := by omega
            cases bg
            · rw [if_neg (by simp)] at HL
              go_wp2_with fail
              refine bodyPost_ret (v := .tuple #[.slice A' k cp', .int .i64 0]) (by simp [results, Tryz.results36, go_sem]) rfl ?_
              rw [HL.out]
              have hX := HXX.out (by simp)
              refine ⟨A', k, cp', rfl, ?_, ?_, hbw⟩
              · show k = ((ts.map bitL).map (·.1)).length
                rw [← hX, HXL.out]
              · show wr.ownsRow w.heap.size 2 1 (.slice A' k cp') k (((ts.map bitL).map (·.1)).map I)
                rw [← hX]; exact own_mono HO.out hb1.size
            · rw [if_pos rfl] at HL
              go_wp2_with fail
              refine bodyPost_ret (v := .tuple #[.slice none 0 0, .int .i64 11]) (by simp [results, Tryz.results36, go_sem]) rfl ?_
              rw [HL.out]
              exact ⟨none, 0, 0, rfl, rfl, World.ownsRow_nil _ _ _ _, hbw⟩
    · have hbs : ((⟨x0.toArray⟩ : ByteArray).toList == (⟨#[115, 105, 100, 101]⟩ : ByteArray).toList) = false := by
        rw [Lib.toList_data, Lib.toList_data]; simpa [Fld.name] using hx0
      have HE : Hid (listL bitL Fld.side.name (x0 :: ts) = ([], 10)) := Lib.hid (by unfold listL; rw [if_pos (by simpa using hx0)])
      have hbs2 : ((⟨x0.toArray⟩ : ByteArray).toList == [115, 105, 100, 101]) = false := by rw [Lib.toList_data]; simpa [Fld.name] using hx0
      generalize (⟨x0.toArray⟩ : ByteArray) = X0 at hc0 hbs hbs2
      go_wp2_with fail
      refine bodyPost_ret (v := .tuple #[.slice none 0 0, .int .i64 10]) (by simp [results, Tryz.results36, go_sem]) rfl ?_
      rw [HE.out]
      exact ⟨none, 0, 0, rfl, rfl, World.ownsRow_nil _ _ _ _, hb1⟩


set_option maxHeartbeats 3200000 in
set_option maxRecDepth 100000 in
theorem read_cycle (s : ByteArray) (hsz : s.size ≤ 60000) (w : World) :
    Calls Tryz.prog 36 #[.string s, .string ⟨#[99, 121, 99, 108, 101]⟩] w fun e w' => ∃ B m cp, e = .returned (.tuple #[.slice B m cp, .int .i64 (listL arcL Fld.cycle.name (cutL 32 s.data.toList)).2]) ∧ m = (listL arcL Fld.cycle.name (cutL 32 s.data.toList)).1.length ∧ w'.ownsRow w.heap.size 2 1 (.slice B m cp) m ((listL arcL Fld.cycle.name (cutL 32 s.data.toList)).1.map I) ∧ Below w.heap.size w w' := by
  have hWs := rWords_in s (by omega) w
  have hcm := cut_many 32 s.data.toList
  have hcl := cut_len 32 s.data.toList
  have hss : s.data.toList.length = s.size := rfl
  have hne := cutL_ne 32 s.data.toList
  generalize cutL 32 s.data.toList = ws at hWs hcm hcl hne ⊢
  cases ws with
  | nil => exact absurd rfl hne
  | cons x0 ts =>
    clear hne
    have hts0 : ts.length ≤ 60000 := by simp at hcm; omega
    have HW : Hid (∀ x ∈ ts, x.length ≤ 60000) := Lib.hid (fun x hx => by have := hcl x (by simp [hx]); omega)
    clear hcl hcm
    go_enter Tryz.func36, Tryz.ntmps36
    go_wp2_with fail
    refine hWs.mono ?_
    rintro e w1 ⟨A, n, cp, rfl, hn, hncp, hr, hb1⟩
    obtain ⟨N, rfl⟩ : ∃ N, n = N + 1 := ⟨ts.length, by simpa using hn⟩
    have hts : ts.length = N := by simpa using hn.symm
    obtain ⟨b, off, rfl, hb, hcells⟩ := hr.2 (by omega)
    have hc0 : w1.cell? ⟨b, off, none⟩ = some (.string ⟨x0.toArray⟩) := by have := hcells 0 _ rfl; rwa [Nat.add_zero] at this
    have HCL : Hid (∀ j u, (ts.map strV)[j]? = some u → w1.cell? ⟨b, off + (j + 1), none⟩ = some u) := Lib.hid (fun j u hu => hcells (j + 1) u (by simpa using hu))
    clear hcells hr hn hWs
    by_cases hx0 : x0 = Fld.cycle.name
    · subst hx0
      rw [show (⟨(Fld.cycle.name).toArray⟩ : ByteArray) = ⟨#[99, 121, 99, 108, 101]⟩ from rfl] at hc0
      have HL : Hid (listL arcL Fld.cycle.name (Fld.cycle.name :: ts) = if (ts.map arcL).any (fun p => decide (p.2 ≠ 0 ∧ p.2 ≠ 11)) then ([], 10) else if 1000 < ts.length then ([], 20) else if (ts.map arcL).any (fun p => decide (p.2 ≠ 0)) then ([], 11) else ((ts.map arcL).map (·.1), 0)) := Lib.hid (by
        unfold listL; rw [if_neg (by simp)]; rfl)
      obtain ⟨i0, hi, hz0, hz1, hz2⟩ := info_parts info2
      have HI := Lib.hid hi
      have HZ0 := Lib.hid hz0
      have HZ1 := Lib.hid hz1
      have HZ2 := Lib.hid hz2
      clear hi hz0 hz1 hz2
      go_wp2_with fail
      go_loopw [7, 8, 9] (fun l bg i wr => ∃ (k : Nat) (X : List Int), k ≤ N ∧ i = .int .i64 (k + 1) ∧ bg = .bool (((ts.take k).map arcL).any (fun p => decide (p.2 ≠ 0))) ∧ ((ts.take k).map arcL).any (fun p => decide (p.2 ≠ 0 ∧ p.2 ≠ 11)) = false ∧ (((ts.take k).map arcL).any (fun p => decide (p.2 ≠ 0)) = false → X = ((ts.take k).map arcL).map (·.1)) ∧ X.length = k ∧ wr.ownsRow w1.heap.size 2 1 l k (X.map I) ∧ Below w1.heap.size w1 wr) (fun _ _ i _ => N + 1 - (Lib.intOf i).toNat)
      case atStart => exact ⟨0, [], Nat.zero_le _, rfl, rfl, rfl, fun _ => rfl, rfl, World.ownsRow_nil _ _ _ _, Below.refl _ _⟩
      case round =>
        obtain ⟨k, X, hk, rfl, rfl, hno, hXX, hXl, hown, hbw1⟩ := hrel
        have hbw : Below w.heap.size w wr := hb1.trans (hbw1.mono hb1.size)
        have HNO := Lib.hid hno
        have HXX := Lib.hid hXX
        have HO := Lib.hid hown
        have HXL := Lib.hid hXl
        have hbs := hbw.size
        clear hno hXX hown hXl
        obtain ⟨A', cp', rfl⟩ := own_form HO.out
        by_cases hlt : k < N
        · obtain ⟨x, hx⟩ : ∃ x, ts[k]? = some x := ⟨_, List.getElem?_eq_getElem (by omega)⟩
          have hcell : wr.cell? ⟨b, off + (k + 1), none⟩ = some (.string ⟨x.toArray⟩) := (hbw1.cell (p := ⟨b, off + (k + 1), none⟩) hb).trans (HCL.out k _ (by rw [List.getElem?_map, hx]; rfl))
          have hxl : (⟨x.toArray⟩ : ByteArray).size ≤ 60000 := HW.out x (List.mem_of_getElem? hx)
          have HT : Hid (Calls Tryz.prog 57 #[.string ⟨x.toArray⟩] wr fun e w' => e = .returned (.tuple #[.int .i64 (numL x).1, .int .i64 (numL x).2]) ∧ w' = wr) := Lib.hid (rNumber_in ⟨x.toArray⟩ (by omega) wr)
          have HA1 := Lib.hid (fun f => any_snoc (turn := arcL) f hx)
          have HA2 := Lib.hid (map_snoc (turn := arcL) hx)
          have HBX := Lib.hid (list_bad (turn := arcL) (name := Fld.cycle.name) (ws := Fld.cycle.name :: ts) rfl (x := x) (List.mem_of_getElem? hx))
          have herr := numL_err x
          have B1 : Hid (k + 1 ≤ maxLen) := Lib.hid (by unfold maxLen; omega)
          have B2 : Hid ((k + 1) * 8 ≤ 140737488355328) := Lib.hid (by omega)
          have B3 : Hid (∀ o, w1.heap.size ≤ (wr.alloc o).heap.size) := Lib.hid (fun o => by have := hbw1.size; simp; omega)
          clear hx
          obtain ⟨bg, hbg⟩ : ∃ bg, ((ts.take k).map arcL).any (fun p => decide (p.2 ≠ 0)) = bg := ⟨_, rfl⟩
          rw [hbg] at HXX ⊢
          have HBG := Lib.hid hbg
          clear hbg
          have harc : arcL x = if (numL x).2 ≠ 0 then (0, (numL x).2) else if (numL x).1 < 0 then (0, 11) else ((numL x).1, 0) := rfl
          generalize (⟨x.toArray⟩ : ByteArray) = Xs at hcell hxl HT
          obtain ⟨vv, hvv⟩ : ∃ vv, numL x = vv := ⟨_, rfl⟩
          rw [hvv] at HT herr harc
          obtain ⟨v, er⟩ := vv
          clear hvv
          rcases herr with he | he | he
          · obtain rfl : er = 0 := he
            by_cases hneg : v < 0
            · obtain harc' : arcL x = (0, 11) := by rw [harc, if_neg (by simp), if_pos hneg]
              rw [harc'] at HA1 HA2 HBX
              clear harc harc'
              cases bg
              all_goals
                go_wp2_with fail
                refine HT.out.mono ?_
                rintro e w2 ⟨rfl, hw2⟩
                obtain rfl := hw2.symm
                go_wp2_with (at_builtin; refine wpList_append_own _ rfl _ _ 28 rfl w1.heap.size 2 i0 (.int .i64 0) 1 8 Tryz.underlying28 HI.out HZ0.out HZ1.out HZ2.out rfl (by decide) _ _ _ rfl (HO.out.alloc _) ⟨wr.heap.size, 0, none⟩ 1 1 [.int .i64 (v)] rfl rfl (cell_one_new _ _ _) (by simp [Value.oneCell']) B1.out B2.out (B3.out _) ?_)
                intro v' w3 hown' hgrow _
                have HOW := Lib.hid hown'
                clear hown'
                go_wp2_with fail
                go_roundw
                case measure => simp [Lib.intOf]; omega
                case rel =>
                  refine ⟨k + 1, X ++ [v], by omega, by go_num, ?_, ?_, ?_, by rw [List.length_append, HXL.out]; rfl, ?_, (hbw1.alloc (Below.size hbw1) _).grown hgrow (by have := hbw1.size; simp; omega) (fun j hj => (HO.out.lt j hj).1)⟩
                  · rw [HA1.out, HBG.out]; simp <;> omega
                  · rw [HA1.out, HNO.out]; simp
                  · rw [HA1.out, HBG.out, HA2.out]
                    intro h
                    first
                      | (simp at h; done)
                      | (rw [HXX.out (by simp)])
                  · rw [List.map_append]; exact HOW.out
            · obtain harc' : arcL x = (v, 0) := by rw [harc, if_neg (by simp), if_neg hneg]
              rw [harc'] at HA1 HA2 HBX
              clear harc harc'
              cases bg
              all_goals
                go_wp2_with fail
                refine HT.out.mono ?_
                rintro e w2 ⟨rfl, hw2⟩
                obtain rfl := hw2.symm
                go_wp2_with (at_builtin; refine wpList_append_own _ rfl _ _ 28 rfl w1.heap.size 2 i0 (.int .i64 0) 1 8 Tryz.underlying28 HI.out HZ0.out HZ1.out HZ2.out rfl (by decide) _ _ _ rfl (HO.out.alloc _) ⟨wr.heap.size, 0, none⟩ 1 1 [.int .i64 (v)] rfl rfl (cell_one_new _ _ _) (by simp [Value.oneCell']) B1.out B2.out (B3.out _) ?_)
                intro v' w3 hown' hgrow _
                have HOW := Lib.hid hown'
                clear hown'
                go_wp2_with fail
                go_roundw
                case measure => simp [Lib.intOf]; omega
                case rel =>
                  refine ⟨k + 1, X ++ [v], by omega, by go_num, ?_, ?_, ?_, by rw [List.length_append, HXL.out]; rfl, ?_, (hbw1.alloc (Below.size hbw1) _).grown hgrow (by have := hbw1.size; simp; omega) (fun j hj => (HO.out.lt j hj).1)⟩
                  · rw [HA1.out, HBG.out]; simp <;> omega
                  · rw [HA1.out, HNO.out]; simp
                  · rw [HA1.out, HBG.out, HA2.out]
                    intro h
                    first
                      | (simp at h; done)
                      | (rw [HXX.out (by simp)])
                  · rw [List.map_append]; exact HOW.out
          · obtain rfl : er = 10 := he
            obtain harc' : arcL x = (0, 10) := by rw [harc, if_pos (by simp)]
            rw [harc'] at HA1 HA2 HBX
            clear harc harc'
            go_wp2_with fail
            refine HT.out.mono ?_
            rintro e w2 ⟨rfl, hw2⟩
            obtain rfl := hw2.symm
            go_wp2_with fail
            refine bodyPost_ret (v := .tuple #[.slice none 0 0, .int .i64 10]) (by simp [results, Tryz.results36, go_sem]) rfl ?_
            rw [HBX.out (by simp) (by simp)]
            exact ⟨none, 0, 0, rfl, rfl, World.ownsRow_nil _ _ _ _, hbw⟩
          · obtain rfl : er = 11 := he
            obtain harc' : arcL x = (0, 11) := by rw [harc, if_pos (by simp)]
            rw [harc'] at HA1 HA2 HBX
            clear harc harc'
            cases bg
            all_goals
              go_wp2_with fail
              refine HT.out.mono ?_
              rintro e w2 ⟨rfl, hw2⟩
              obtain rfl := hw2.symm
              go_wp2_with (at_builtin; refine wpList_append_own _ rfl _ _ 28 rfl w1.heap.size 2 i0 (.int .i64 0) 1 8 Tryz.underlying28 HI.out HZ0.out HZ1.out HZ2.out rfl (by decide) _ _ _ rfl (HO.out.alloc _) ⟨wr.heap.size, 0, none⟩ 1 1 [.int .i64 (v)] rfl rfl (cell_one_new _ _ _) (by simp [Value.oneCell']) B1.out B2.out (B3.out _) ?_)
              intro v' w3 hown' hgrow _
              have HOW := Lib.hid hown'
              clear hown'
              go_wp2_with fail
              go_roundw
              case measure => simp [Lib.intOf]; omega
              case rel =>
                refine ⟨k + 1, X ++ [v], by omega, by go_num, ?_, ?_, ?_, by rw [List.length_append, HXL.out]; rfl, ?_, (hbw1.alloc (Below.size hbw1) _).grown hgrow (by have := hbw1.size; simp; omega) (fun j hj => (HO.out.lt j hj).1)⟩
                · rw [HA1.out, HBG.out]; simp <;> omega
                · rw [HA1.out, HNO.out]; simp
                · rw [HA1.out, HBG.out, HA2.out]
                  intro h
                  first
                    | (simp at h; done)
                    | (rw [HXX.out (by simp)])
                · rw [List.map_append]; exact HOW.out
        · obtain rfl : k = N := by omega
          have htk : ts.take k = ts := List.take_of_length_le (by omega)
          rw [htk] at HNO HXX ⊢
          clear htk
          rw [if_neg (by rw [HNO.out]; simp), hts] at HL
          obtain ⟨bg, hbg⟩ : ∃ bg, (ts.map arcL).any (fun p => decide (p.2 ≠ 0)) = bg := ⟨_, rfl⟩
          rw [hbg] at HXX HL ⊢
          clear hbg
          by_cases h1000 : 1000 < k
          · rw [if_pos h1000] at HL
            have h1000' : (1000 : Int) < (k : Int) := by omega
            go_wp2_with fail
            refine bodyPost_ret (v := .tuple #[.slice none 0 0, .int .i64 20]) (by simp [results, Tryz.results36, go_sem]) rfl ?_
            rw [HL.out]
            exact ⟨none, 0, 0, rfl, rfl, World.ownsRow_nil _ _ _ _, hbw⟩
          · rw [if_neg h1000] at HL
            have h1000' : ¬ (1000 : Int) < (k : Int) := by omega
            cases bg
            · rw [if_neg (by simp)] at HL
              go_wp2_with fail
              refine bodyPost_ret (v := .tuple #[.slice A' k cp', .int .i64 0]) (by simp [results, Tryz.results36, go_sem]) rfl ?_
              rw [HL.out]
              have hX := HXX.out (by simp)
              refine ⟨A', k, cp', rfl, ?_, ?_, hbw⟩
              · show k = ((ts.map arcL).map (·.1)).length
                rw [← hX, HXL.out]
              · show wr.ownsRow w.heap.size 2 1 (.slice A' k cp') k (((ts.map arcL).map (·.1)).map I)
                rw [← hX]; exact own_mono HO.out hb1.size
            · rw [if_pos rfl] at HL
              go_wp2_with fail
              refine bodyPost_ret (v := .tuple #[.slice none 0 0, .int .i64 11]) (by simp [results, Tryz.results36, go_sem]) rfl ?_
              rw [HL.out]
              exact ⟨none, 0, 0, rfl, rfl, World.ownsRow_nil _ _ _ _, hbw⟩
    · have hbs : ((⟨x0.toArray⟩ : ByteArray).toList == (⟨#[99, 121, 99, 108, 101]⟩ : ByteArray).toList) = false := by
        rw [Lib.toList_data, Lib.toList_data]; simpa [Fld.name] using hx0
      have HE : Hid (listL arcL Fld.cycle.name (x0 :: ts) = ([], 10)) := Lib.hid (by unfold listL; rw [if_pos (by simpa using hx0)])
      have hbs2 : ((⟨x0.toArray⟩ : ByteArray).toList == [99, 121, 99, 108, 101]) = false := by rw [Lib.toList_data]; simpa [Fld.name] using hx0
      generalize (⟨x0.toArray⟩ : ByteArray) = X0 at hc0 hbs hbs2
      go_wp2_with fail
      refine bodyPost_ret (v := .tuple #[.slice none 0 0, .int .i64 10]) (by simp [results, Tryz.results36, go_sem]) rfl ?_
      rw [HE.out]
      exact ⟨none, 0, 0, rfl, rfl, World.ownsRow_nil _ _ _ _, hb1⟩

end Go.Proofs.YtpfbgoogajgciaaGreatDoor
