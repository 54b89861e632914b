/- The document's answer: cut (42), Lines (30), Words (31). Conditions: none. -/
import Derived.Test.YtoagphighgejnaaGreatDoorF2
set_option linter.unusedSimpArgs false
set_option linter.unusedVariables false
namespace Go.Proofs.YtoagphighgejnaaGreatDoor
open Go.RowKit Go.Shelf

def midL (l : List UInt8) (f k : Nat) : List UInt8 := (l.drop f).take (k - f)
theorem mid_succ {l : List UInt8} {f k : Nat} {b : UInt8} (hfk : f ≤ k) (h : l[k]? = some b) : midL l f (k + 1) = midL l f k ++ [b] := by
  unfold midL
  rw [show k + 1 - f = (k - f) + 1 by omega, List.take_add_one, List.getElem?_drop, show f + (k - f) = k by omega, h]; rfl
theorem mid_cut {l : List UInt8} {f k : Nat} {b : UInt8} (hfk : f ≤ k) (h : l[k]? = some b) : l.drop f = midL l f k ++ b :: l.drop (k + 1) := by
  unfold midL
  have hlt : k < l.length := (List.getElem?_eq_some_iff.1 h).1
  have e : (l.drop f).drop (k - f) = b :: l.drop (k + 1) := by
    rw [List.drop_drop, show f + (k - f) = k by omega, List.drop_eq_getElem_cons hlt]
    rw [List.getElem?_eq_getElem hlt] at h
    rw [Option.some.inj h]
  rw [← e, List.take_append_drop]
theorem mid_all {l : List UInt8} {f : Nat} : midL l f l.length = l.drop f := List.take_of_length_le (by simp)

theorem sub_ext (s : ByteArray) (a b : Nat) : strV (midL s.data.toList a b) = .string (s.extract a b) := by
  rw [← strV_data (s.extract a b), Lib.extract_data]; rfl

set_option maxHeartbeats 1600000 in
set_option maxRecDepth 100000 in
theorem cut_in (s : ByteArray) (c : UInt8) (hsz : s.size ≤ 1000000) (w : World) :
    Calls Tryz.prog 30 #[.string s, .int .u8 (c.toNat : Int)] w fun e w' => ∃ A n cp, e = .returned (.slice A n cp) ∧ n = (cutL c s.data.toList).length ∧ n ≤ cp ∧ Reads w' w'.heap.size 1 A n ((cutL c s.data.toList).map strV) ∧ Below w.heap.size w w' := by
  have hsl : s.data.toList.length = s.size := rfl
  obtain ⟨l, hl⟩ : ∃ l, s.data.toList = l := ⟨_, rfl⟩
  rw [hl] at hsl
  rw [hl]
  have HL := Lib.hid hl
  clear hl
  obtain ⟨i0, hi, hz0, hz1, hz2⟩ := info_parts infoStr
  have HI := Lib.hid hi
  have HZ0 := Lib.hid hz0
  have HZ1 := Lib.hid hz1
  have HZ2 := Lib.hid hz2
  clear hi hz0 hz1 hz2
  go_enter Tryz.func30, Tryz.ntmps30
  go_wp2_with fail
  go_loopw [5, 6, 7] (fun v f i wr => ∃ (k fr : Nat) (P : List (List UInt8)), k ≤ s.size ∧ fr ≤ k ∧ i = .int .i64 k ∧ f = .int .i64 fr ∧ cutL c l = P ++ cutL c (l.drop fr) ∧ c ∉ midL l fr k ∧ P.length ≤ k ∧ wr.ownsRow w.heap.size 9 1 v P.length (P.map strV) ∧ Below w.heap.size w wr) (fun _ _ i _ => s.size - (Lib.intOf i).toNat)
  case atStart => exact ⟨0, 0, [], Nat.zero_le _, Nat.le_refl _, rfl, rfl, rfl, by simp [midL], Nat.le_refl _, World.ownsRow_nil _ _ _ _, Below.refl _ _⟩
  case round =>
    obtain ⟨k, fr, P, hk, hfk, rfl, rfl, hcut, hfree, hPk, hown, hbw⟩ := hrel
    have HC := Lib.hid hcut
    have HFR := Lib.hid hfree
    have HO := Lib.hid hown
    have hbs := hbw.size
    clear hcut hfree hown
    obtain ⟨p, hp⟩ : ∃ p, p = P.length := ⟨_, rfl⟩
    rw [← hp] at HO hPk
    obtain ⟨A, cp, rfl⟩ := own_form HO.out
    have HP := Lib.hid hp
    clear hp
    by_cases hlt : k < s.size
    · have HG : Hid (l[k]? = some (s[k]'hlt)) := Lib.hid (by rw [← HL.out]; exact get_at hlt)
      by_cases hb : s[k]'hlt = c
      · have hb' : ((s[k]'hlt).toNat : Int) = (c.toNat : Int) := by rw [hb]
        have hown0 : (wr.alloc (.cells #[.string (s.extract fr k)] 9)).ownsRow w.heap.size 9 1 (.slice A p cp) p (P.map strV) := HO.out.alloc _
        have b1 : p + 1 ≤ maxLen := by unfold maxLen; omega
        have b2 : (p + 1) * 16 ≤ 140737488355328 := by omega
        have b3 : w.heap.size ≤ (wr.alloc (.cells #[.string (s.extract fr k)] 9)).heap.size := by simp; omega
        have HO0 := Lib.hid hown0
        have B1 := Lib.hid b1
        have B2 := Lib.hid b2
        have B3 := Lib.hid b3
        clear hown0 b1 b2 b3
        go_wp2_with (at_builtin; refine wpList_append_own _ rfl _ _ 34 rfl w.heap.size 9 i0 (.string ⟨#[]⟩) 1 16 Tryz.underlying34 HI.out HZ0.out HZ1.out HZ2.out rfl (by decide) _ _ _ rfl HO0.out ⟨wr.heap.size, 0, none⟩ 1 1 [.string (s.extract fr k)] rfl rfl (cell_one_new _ _ _) (by simp [Value.oneCell']) B1.out B2.out B3.out ?_)
        intro v' w1 hown' hgrow _
        go_wp2_with fail
        refine ⟨⟨k + 1, k + 1, P ++ [midL l fr k], by omega, Nat.le_refl _, rfl, rfl, ?_, ?_, ?_, ?_, ?_⟩, by simp [Lib.intOf]; omega⟩
        · rw [HC.out, mid_cut hfk HG.out, hb, cutL_at c _ _ HFR.out, List.append_assoc]; rfl
        · simp [midL]
        · rw [List.length_append, ← HP.out]; simp; omega
        · rw [List.length_append, ← HP.out, List.map_append, List.map_cons, List.map_nil, ← HL.out, sub_ext]; exact hown'
        · exact (hbw.alloc hbs _).grown hgrow (by simp; omega) (fun j hj => (HO.out.lt j hj).1)
      · have hb' : ¬ ((s[k]'hlt).toNat : Int) = (c.toNat : Int) := fun e => hb (UInt8.toNat_inj.1 (by omega))
        go_wp2_with fail
        refine ⟨⟨k + 1, fr, P, by omega, by omega, rfl, rfl, HC.out, ?_, by rw [← HP.out]; omega, ?_, hbw⟩, by simp [Lib.intOf]; omega⟩
        · rw [mid_succ hfk HG.out]
          intro hm
          rcases List.mem_append.1 hm with h | h
          · exact HFR.out h
          · simp at h; exact hb h.symm
        · rw [← HP.out]; exact HO.out
    · have hks : k = l.length := by omega
      have hend : cutL c l = P ++ [midL l fr s.size] := by
        rw [HC.out, ← hsl, mid_all, cutL_none c _ (by rw [← mid_all, ← hks]; exact HFR.out)]
      have HE := Lib.hid hend
      clear hend
      have hown0 : (wr.alloc (.cells #[.string (s.extract fr s.size)] 9)).ownsRow w.heap.size 9 1 (.slice A p cp) p (P.map strV) := HO.out.alloc _
      have b1 : p + 1 ≤ maxLen := by unfold maxLen; omega
      have b2 : (p + 1) * 16 ≤ 140737488355328 := by omega
      have b3 : w.heap.size ≤ (wr.alloc (.cells #[.string (s.extract fr s.size)] 9)).heap.size := by simp; omega
      have HO0 := Lib.hid hown0
      have B1 := Lib.hid b1
      have B2 := Lib.hid b2
      have B3 := Lib.hid b3
      clear hown0 b1 b2 b3
      go_wp2_with (at_builtin; refine wpList_append_own _ rfl _ _ 34 rfl w.heap.size 9 i0 (.string ⟨#[]⟩) 1 16 Tryz.underlying34 HI.out HZ0.out HZ1.out HZ2.out rfl (by decide) _ _ _ rfl HO0.out ⟨wr.heap.size, 0, none⟩ 1 1 [.string (s.extract fr s.size)] rfl rfl (cell_one_new _ _ _) (by simp [Value.oneCell']) B1.out B2.out B3.out ?_)
      intro v' w1 hown' hgrow _
      obtain ⟨A', cp', rfl⟩ := own_form hown'
      have hcp := own_cap hown'
      go_wp2_with fail
      go_ret
      refine ⟨A', p + 1, cp', rfl, ?_, hcp, ?_, (hbw.alloc hbs _).grown hgrow (by simp; omega) (fun j hj => (HO.out.lt j hj).1)⟩
      · rw [HE.out, List.length_append, ← HP.out]; rfl
      · rw [HE.out, List.map_append, List.map_cons, List.map_nil, ← HL.out, sub_ext]
        exact Reads.of_own hown'

set_option maxHeartbeats 1600000 in
theorem rWords_in (s : ByteArray) (hsz : s.size ≤ 1000000) (w : World) :
    Calls Tryz.prog 13 #[.string s] w fun e w' => ∃ A n cp, e = .returned (.slice A n cp) ∧ n = (cutL 32 s.data.toList).length ∧ n ≤ cp ∧ Reads w' w'.heap.size 1 A n ((cutL 32 s.data.toList).map strV) ∧ Below w.heap.size w w' := by
  have h := cut_in s 32 hsz w
  rw [show (((32 : UInt8).toNat : Nat) : Int) = 32 from rfl] at h
  go_enter Tryz.func13, Tryz.ntmps13
  go_wp2_with fail
  refine h.mono ?_
  rintro e w1 ⟨A, n, cp, rfl, h1, h2, h3, h4⟩
  have H1 := Lib.hid h1
  clear h1 h
  go_wp2_with fail
  go_ret
  exact ⟨A, n, cp, rfl, H1.out, h2, h3, h4⟩

set_option maxHeartbeats 1600000 in
theorem rLines_in (s : ByteArray) (hsz : s.size ≤ 1000000) (w : World) :
    Calls Tryz.prog 12 #[.string s] w fun e w' => ∃ A n cp, e = .returned (.slice A n cp) ∧ n = (linesL s.data.toList).length ∧ n ≤ cp ∧ Reads w' w'.heap.size 1 A n ((linesL s.data.toList).map strV) ∧ Below w.heap.size w w' := by
  have h := cut_in s 10 hsz w
  rw [show (((10 : UInt8).toNat : Nat) : Int) = 10 from rfl] at h
  obtain ⟨L, hL⟩ : ∃ L, cutL 10 s.data.toList = L := ⟨_, rfl⟩
  have hne : L ≠ [] := by rw [← hL]; exact cutL_ne 10 _
  have hll : L.length ≤ 1000001 := by
    rw [← hL, cutL_length]
    have h1 := List.count_le_length (a := (10 : UInt8)) (l := s.data.toList)
    have h2 : s.data.toList.length = s.size := rfl
    omega
  have HLL : Hid (linesL s.data.toList = if L.getLast? = some [] then L.dropLast else L) := Lib.hid (by unfold linesL; rw [hL])
  rw [hL] at h
  clear hL
  obtain ⟨n, hn⟩ : ∃ n, L.length = n + 1 := ⟨L.length - 1, by have := List.length_pos_iff.2 hne; omega⟩
  go_enter Tryz.func12, Tryz.ntmps12
  go_wp2_with fail
  refine h.mono ?_
  rintro e w1 ⟨A, m, cp, rfl, h1, h2, h3, h4⟩
  clear h
  obtain rfl : m = n + 1 := by omega
  obtain ⟨b, off, u, rfl, hb, hx, hcell⟩ := h3.at_ (show n < n + 1 by omega)
  simp only [List.getElem?_map, Option.map_eq_some_iff] at hx
  obtain ⟨x, hx, rfl⟩ := hx
  have hlast : L.getLast? = some x := by rw [List.getLast?_eq_getElem?, hn]; exact hx
  have HX := Lib.hid hlast
  have HR := Lib.hid h3
  have HN := Lib.hid hn
  unfold strV at hcell
  have hn2 : n ≤ 1000001 := by omega
  clear h1 h3 hx hlast hn hll
  by_cases hxe : x = []
  · subst hxe
    go_wp2
    go_ret
    refine ⟨some ⟨b, off, none⟩, n, cp, rfl, ?_, by omega, ?_, h4⟩
    · rw [HLL.out, if_pos HX.out, List.length_dropLast, HN.out]; rfl
    · rw [HLL.out, if_pos HX.out]
      refine ⟨by rw [List.length_map, List.length_dropLast, HN.out]; omega, fun _ => ⟨b, off, rfl, hb, fun j u hu => ?_⟩⟩
      obtain ⟨b', off', e, -, hc⟩ := HR.out.2 (by omega)
      cases e
      refine hc j u ?_
      rw [List.getElem?_map, Option.map_eq_some_iff] at hu ⊢
      obtain ⟨y, hy, rfl⟩ := hu
      refine ⟨y, ?_, rfl⟩
      rw [List.dropLast_eq_take, List.getElem?_take] at hy
      split at hy
      · exact hy
      · cases hy
  · have hem : x.isEmpty = false := by
      cases x with
      | nil => exact absurd rfl hxe
      | cons _ _ => rfl
    go_wp2
    go_ret
    refine ⟨some ⟨b, off, none⟩, n + 1, cp, rfl, ?_, h2, ?_, h4⟩
    · rw [HLL.out, if_neg (by rw [HX.out]; simpa using hxe), HN.out]
    · rw [HLL.out, if_neg (by rw [HX.out]; simpa using hxe)]; exact HR.out
end Go.Proofs.YtoagphighgejnaaGreatDoor
