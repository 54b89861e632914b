/- FileCut (7). Conditions: none. -/
import Derived.Test.YtoagphighgejnaaGreatDoorPB
import Derived.Test.YtoagphighgejnaaGreatDoorN6
import Derived.Test.YtoagphighgejnaaGreatDoorRJ
set_option linter.unusedSimpArgs false
set_option linter.unusedVariables false
namespace Go.Proofs.YtoagphighgejnaaGreatDoor
open Go.RowKit Go.Shelf

theorem prob_boxed {w w1 : World} {p : ProbV} {sb m ca : Nat} {A : Option Addr} (h : ProbNew w p sb m ca A w1) : ∃ mx nn ps pt, probV p.max (some ⟨sb, 0, none⟩) p.sup.length p.sup.length A m ca p.s p.t = .agg #[.bool mx, .slice (some ⟨sb, 0, none⟩) nn nn, .slice A m ca, .int .i64 ps, .int .i64 pt] ∧
    ProbIs w1 p (.agg #[.bool mx, .slice (some ⟨sb, 0, none⟩) nn nn, .slice A m ca, .int .i64 ps, .int .i64 pt]) ∧ m = p.arcs.length ∧ FitsF p ∧ Below w.heap.size w w1 ∧ p.sup.length ≤ 7 ∧ m ≤ 18 := by
  refine ⟨_, _, _, _, rfl, h.is, ?_, h.fits, h.b, h.n7, h.m18⟩
  have := h.a.1; rw [arcCells_length] at this; omega
theorem linesP_many (p : ProbV) (h : FitsF p) : (linesP p).length ≤ 323 := by unfold linesP; rw [List.length_map]; exact all_many p h
theorem join_small (p : ProbV) (h : FitsF p) (L : List (List UInt8)) (hL : ∀ x ∈ L, x ∈ linesP p) (hn : L.length ≤ 330) : (Lib.join L [10]).length ≤ 43890 := by
  have h1 := join_len 10 132 L (fun x hx => line_len p h x (hL x hx))
  have h2 : L.length * (1 + 132) ≤ 330 * 133 := Nat.mul_le_mul hn (by omega)
  omega
theorem parse_join (p : ProbV) (h : FitsF p) (L : List (List UInt8)) (hL : ∀ x ∈ L, x ∈ linesP p) (hn : L ≠ []) (hl : L.length ≤ 330) : parseF (Lib.join L [10]) = readE rd0 0 L := by
  unfold parseF
  rw [if_neg (by have := join_small p h L hL hl; omega), join_some p L hL hn]
theorem lines_two (p : ProbV) (ha : p.arcs ≠ []) : 2 ≤ (linesP p).length := by
  rw [linesP_eq]
  have : 0 < p.arcs.length := List.length_pos_iff.2 ha
  simp only [List.length_cons, List.length_append, List.length_map]; omega
theorem cut_parse (p : ProbV) (h : FitsF p) (ha : p.arcs ≠ []) : parseF (Lib.join (linesP p).dropLast [10]) = (prob0, 12, 0) := by
  have h2 := lines_two p ha
  rw [parse_join p h _ (fun x hx => (List.dropLast_sublist _).subset hx) (fun e => by have := congrArg List.length e; simp at this; omega) (by have := linesP_many p h; simp; omega)]
  exact read_cut p h ha
theorem more_parse (p : ProbV) (h : FitsF p) (ha : p.arcs ≠ []) (t : List UInt8) (ht : (linesP p).getLast? = some t) : parseF (textP p ++ t) = (prob0, 12, ((linesP p).length : Int) + 1) := by
  have hm : t ∈ linesP p := List.mem_of_getLast? ht
  unfold parseF
  rw [if_neg (by have h1 := text_len p h; have h2 := line_len p h t hm; rw [List.length_append]; omega)]
  unfold textP
  rw [lines_flat_end _ (line_no10 p) t (line_no10 p t hm) (line_ne p t hm)]
  exact read_more p h ha t ht
/-- a text's bytes -/
theorem str_of (l : List UInt8) : ∃ X : ByteArray, strV l = .string X ∧ X.data.toList = l ∧ X.size = l.length := ⟨⟨l.toArray⟩, rfl, rfl, rfl⟩
set_option maxHeartbeats 3200000 in
set_option maxRecDepth 100000 in
theorem FileCut_in (A D : Option Addr) (n c nd cd : Nat) (cs ds : List Int) (mo : Bool) (w : World) (hE : Env w) (hr : Reads w w.heap.size 1 A n (cs.map U)) (hy : Byt cs) (hd : Reads w w.heap.size 1 D nd (ds.map U)) (hyd : Byt ds) (hn : n ≤ 9223372036854775807) (hnd : nd ≤ 9223372036854775807) :
    Calls Tryz.prog 7 #[.slice A n c, .slice D nd cd, .bool mo] w fun e w' => e = .returned (.bool true) ∧ Below w.heap.size w w' := by
  have HPB := Lib.hid (Prob_any A D n c nd cd w.heap.size cs ds mo w hr hy hd hyd (Nat.le_refl _) hn hnd)
  have HE := Lib.hid hE
  clear hE hr hy hd hyd hn hnd
  go_enter Tryz.func7, Tryz.ntmps7
  go_wp2_with fail
  refine HPB.out.mono ?_
  rintro e w1 ⟨p, sb, m, ca, Aa, rfl, hN⟩
  obtain ⟨mx, nn, ps, pt, hv, hI, hm, hF, hb1, -, -⟩ := prob_boxed hN
  rw [hv]
  have hb2 := (Below.refl w1.heap.size w1).alloc (Nat.le_refl _) (.cells #[.bool mx, .slice (some ⟨sb, 0, none⟩) nn nn, .slice Aa m ca, .int .i64 ps, .int .i64 pt] 31)
  have HI := Lib.hid (hI.below hb2)
  have HF := Lib.hid hF
  have HM := Lib.hid hm
  have HB1 := Lib.hid (hb1.trans (hb2.mono hb1.size))
  have kb := Blk.new w1 31 #[.bool mx, .slice (some ⟨sb, 0, none⟩) nn nn, .slice Aa m ca, .int .i64 ps, .int .i64 pt]
  have HK := Lib.hid kb
  obtain ⟨p0, p1, p2, p3, p4⟩ := blk5 kb
  clear hv hI hm hF hb1 hb2 kb hN HPB
  go_wp2_with fail
  generalize w1.alloc (.cells #[.bool mx, .slice (some ⟨sb, 0, none⟩) nn nn, .slice Aa m ca, .int .i64 ps, .int .i64 pt] 31) = W1 at *
  refine (Print_in p _ W1 HI.out (HE.out.on HB1.out)).mono ?_
  rintro e w2 ⟨T, kk, rfl, hT, hb3⟩
  obtain ⟨rfl, rfl⟩ := hT.one (.inl ⟨HF.out, rfl, rfl⟩)
  obtain ⟨X, hX, hXl, hXs⟩ := str_of (textP p)
  rw [hX]
  have HB2 := Lib.hid (HB1.out.trans (hb3.mono HB1.out.size))
  have HLN := Lib.hid (rLines_in X (by rw [hXs]; have := text_len p HF.out; omega) w2)
  rw [hXl, lines_text] at HLN
  have HX := Lib.hid (And.intro hXl hXs)
  obtain ⟨q0, q1, q2, q3, q4⟩ := blk5 (HK.out.below hb3 HK.out.lt)
  have HK2 := Lib.hid (HK.out.below hb3 HK.out.lt)
  clear hT hX hXl hXs hb3 p0 p1 p2 p3 p4 HK HI
  go_wp2_with fail
  refine HLN.out.mono ?_
  rintro e w3 ⟨A2, n2, c2, rfl, hn2, hc2, hr2, hb4⟩
  have HB3 := Lib.hid (HB2.out.trans (hb4.mono HB2.out.size))
  obtain ⟨r0, r1, r2, r3, r4⟩ := blk5 (HK2.out.below hb4 HK2.out.lt)
  have HL2 := Lib.hid (And.intro hn2 hr2)
  have HKN := Lib.hid (known_in w3 (HE.out.on HB3.out))
  clear hn2 hr2 hb4 HLN q0 q1 q2 q3 q4
  by_cases hm0 : m = 0
  · subst hm0
    go_wp2_with fail
    refine HKN.out.mono ?_
    rintro e w4 ⟨rfl, hb5⟩
    have HB4 := Lib.hid (HB3.out.trans (hb5.mono HB3.out.size))
    clear hb5 r0 r1 r2 r3 r4 HKN
    go_wp2_with fail
    go_ret
    exact ⟨rfl, HB4.out⟩
  · have hmb : ((m : Int) == 0) = false := by simp [hm0]
    have ha : p.arcs ≠ [] := fun e => hm0 (by have := HM.out; rw [e] at this; exact this)
    have hn22 : 2 ≤ n2 := by rw [HL2.out.1]; exact lines_two p ha
    have hn2' : ¬ (n2 : Int) < 2 := by omega
    obtain ⟨n3, hn3⟩ : ∃ n3, n2 = n3 + 1 := ⟨n2 - 1, by omega⟩
    subst hn3
    have HA := Lib.hid ha
    have HN22 := Lib.hid hn22
    clear hm0 ha hn22
    have hlen := HL2.out.1
    obtain ⟨t, ht⟩ : ∃ t, (linesP p)[n3]? = some t := ⟨_, List.getElem?_eq_getElem (by omega)⟩
    have hlast : (linesP p).getLast? = some t := by rw [List.getLast?_eq_getElem?, ← hlen]; exact ht
    have HT := Lib.hid hlast
    have htm : t ∈ linesP p := List.mem_of_getElem? ht
    have HTM := Lib.hid htm
    have hdl : (linesP p).take n3 = (linesP p).dropLast := by rw [List.dropLast_eq_take, ← hlen]; rfl
    have hsh := Reads.shorter HL2.out.2
    rw [← List.map_take, hdl] at hsh
    have HJ := Lib.hid (rJoin_in A2 n3 c2 w3.heap.size (linesP p).dropLast ⟨#[10]⟩ w3 hsh (by have := linesP_many p HF.out; omega) (fun k => by
      have h1 := join_small p HF.out ((linesP p).dropLast.take k) (fun x hx => (List.dropLast_sublist _).subset (List.mem_of_mem_take hx)) (by rw [List.length_take, List.length_dropLast]; have := linesP_many p HF.out; omega)
      have h2 : (⟨#[10]⟩ : ByteArray).data.toList = [10] := rfl
      have h3 : (⟨#[10]⟩ : ByteArray).size = 1 := rfl
      rw [h2]; omega))
    change Hid (Calls Tryz.prog 15 #[.slice A2 n3 c2, .string ⟨#[10]⟩] w3 fun e w' => e = .returned (strV (Lib.join (linesP p).dropLast [10])) ∧ ∃ q, w' = w3.drewN q) at HJ
    obtain ⟨J, hJ, hJl, hJs⟩ := str_of (Lib.join (linesP p).dropLast [10])
    rw [hJ] at HJ
    have HCP := Lib.hid (show parseF J.data.toList = (prob0, 12, 0) by rw [hJl]; exact cut_parse p HF.out HA.out)
    clear hdl hsh hJ hJl hJs hlast htm
    have hn323 : n3 + 1 ≤ 323 := by have := linesP_many p HF.out; omega
    obtain ⟨b2, off2, u2, rfl, hb2, hx2, hcell⟩ := HL2.out.2.at_ (k := n3) (by omega)
    rw [List.getElem?_map, ht] at hx2
    cases hx2
    obtain ⟨Y, hY, hYl, hYs⟩ := str_of t
    rw [hY] at hcell
    have hXY : ¬ 9223372036854775807 < X.size + Y.size := by have h1 := text_len p HF.out; have h2 := line_len p HF.out t HTM.out; have := HX.out.2; omega
    have HPJ : Hid (∀ W, Env W → Calls Tryz.prog 20 #[.string J] W (ParTells W (prob0, 12, 0))) := by rw [← HCP.out]; exact Lib.hid (fun W h => Parse_any J W h)
    have HPK : Hid (∀ W, Env W → Calls Tryz.prog 20 #[.string (X ++ Y)] W (ParTells W (prob0, 12, ((n3 + 1 : Nat) : Int) + 1))) := by
      have h1 : parseF (X ++ Y).data.toList = (prob0, 12, ((n3 + 1 : Nat) : Int) + 1) := by
        rw [show (X ++ Y).data.toList = textP p ++ t by rw [← HX.out.1, ← hYl]; simp, more_parse p HF.out HA.out t HT.out, hlen]
      rw [← h1]
      exact Lib.hid (fun W h => Parse_any (X ++ Y) W h)
    have hsub : IntKind.i64.wrap (((n3 + 1 : Nat) : Int) - 1) = (n3 : Int) := by rw [IntWalk.i64_in _ (by omega)]; omega
    have hadd : IntKind.i64.wrap (((n3 + 1 : Nat) : Int) + 1) = ((n3 + 1 : Nat) : Int) + 1 := IntWalk.i64_in _ (by omega)
    have HCE := Lib.hid (And.intro hb2 hcell)
    clear ht hY hYl hYs hlen hb2 hcell HL2 HT HCP HK2
    go_wp2_with fail
    refine HJ.out.mono ?_
    rintro e _ ⟨rfl, q, rfl⟩
    have HB4 := Lib.hid (HB3.out.trans ((below_drN w3 q).mono HB3.out.size))
    have HB34 := Lib.hid (below_drN w3 q)
    clear HJ r0 r1 r2 r3 r4
    go_wp2_with fail
    refine (HPJ.out _ (HE.out.on HB4.out)).mono ?_
    rintro e w5 ⟨v5, rfl, hv5, hb5⟩
    obtain ⟨mx5, S5, n5, c5, A5, m5, d5, ps5, pt5, rfl⟩ := hv5.form
    have hb6 := (Below.refl w5.heap.size w5).alloc (Nat.le_refl _) (.cells #[.bool mx5, .slice S5 n5 c5, .slice A5 m5 d5, .int .i64 ps5, .int .i64 pt5] 31)
    have hb56 := hb5.trans (hb6.mono hb5.size)
    have HB6 := Lib.hid (HB4.out.trans (hb56.mono HB4.out.size))
    have tc := ((HB34.out.trans (hb56.mono HB34.out.size)).cell (p := ⟨b2, off2 + n3, none⟩) HCE.out.1).trans HCE.out.2
    clear hb5 hb6 hb56 hv5
    go_wp2_with fail
    generalize w5.alloc (.cells #[.bool mx5, .slice S5 n5 c5, .slice A5 m5 d5, .int .i64 ps5, .int .i64 pt5] 31) = W6 at *
    refine (HPK.out _ (HE.out.on HB6.out)).mono ?_
    rintro e w7 ⟨v7, rfl, hv7, hb7⟩
    obtain ⟨mx7, S7, n7, c7, A7, m7, d7, ps7, pt7, rfl⟩ := hv7.form
    have hb8 := (Below.refl w7.heap.size w7).alloc (Nat.le_refl _) (.cells #[.bool mx7, .slice S7 n7 c7, .slice A7 m7 d7, .int .i64 ps7, .int .i64 pt7] 31)
    have HB8 := Lib.hid (HB6.out.trans ((hb7.trans (hb8.mono hb7.size)).mono HB6.out.size))
    clear hb7 hb8 hv7 tc
    go_wp2_with fail
    generalize w7.alloc (.cells #[.bool mx7, .slice S7 n7 c7, .slice A7 m7 d7, .int .i64 ps7, .int .i64 pt7] 31) = W8 at *
    refine (known_in W8 (HE.out.on HB8.out)).mono ?_
    rintro e w9 ⟨rfl, hb9⟩
    have HB9 := Lib.hid (HB8.out.trans (hb9.mono HB8.out.size))
    clear hb9
    go_wp2_with fail
    go_ret
    exact ⟨rfl, HB9.out⟩
end Go.Proofs.YtoagphighgejnaaGreatDoor
