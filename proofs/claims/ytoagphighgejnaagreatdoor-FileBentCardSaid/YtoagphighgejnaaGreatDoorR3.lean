/- For every input the law FileBent returns true and leaves its arguments as they were. Conditions: the row's own; the card ties the listed variables to the program's text. -/
import Derived.Test.YtoagphighgejnaaGreatDoorRC
import Derived.Test.YtoagphighgejnaaGreatDoorPB
import Derived.Test.YtoagphighgejnaaGreatDoorN6
import Derived.Test.YtoagphighgejnaaGreatDoorRJ
import Derived.Test.YtoagphighgejnaaGreatDoorRX
import Derived.Deep.DeepCutAuto
import Derived.Deep.CutBlock
set_option linter.unusedSimpArgs false
set_option linter.unusedVariables false
namespace Go.Proofs.YtoagphighgejnaaGreatDoor
open Go.ChangeShapes Go.WideShapes Go.ChangeAt Go.RowKit

section
variable {H : Type} {enc : TypeId × Value → H} {P : Program} {w : World} {base : Nat} {spare : Nat → Bool} {held : Bool}
theorem trodAll_five {t0 t1 t2 t3 t4 : TypeId} {args : Array Value} {ds : List (DataW H)} {ps : List MemPlace} (h : DataW.TrodAll enc P w base spare held [t0, t1, t2, t3, t4] args.toList ds ps) :
    ∃ v0 v1 v2 v3 v4 d0 d1 d2 d3 d4 p0 p1 p2 p3 p4, args = #[v0, v1, v2, v3, v4] ∧ ds = [d0, d1, d2, d3, d4] ∧ ps = p0 ++ (p1 ++ (p2 ++ (p3 ++ p4))) ∧ DataW.Trod enc P w base spare held t0 v0 d0 p0 ∧ DataW.Trod enc P w base spare held t1 v1 d1 p1 ∧ DataW.Trod enc P w base spare held t2 v2 d2 p2 ∧ DataW.Trod enc P w base spare held t3 v3 d3 p3 ∧ DataW.Trod enc P w base spare held t4 v4 d4 p4 := by
  obtain ⟨v0, vs0, d0, ds0, p0, q0, hargs, rfl, rfl, h0, r0⟩ := trodAll_cons h
  obtain ⟨v1, vs1, d1, ds1, p1, q1, rfl, rfl, rfl, h1, r1⟩ := trodAll_cons r0
  obtain ⟨v2, vs2, d2, ds2, p2, q2, rfl, rfl, rfl, h2, r2⟩ := trodAll_cons r1
  obtain ⟨v3, vs3, d3, ds3, p3, q3, rfl, rfl, rfl, h3, r3⟩ := trodAll_cons r2
  obtain ⟨v4, vs4, d4, ds4, p4, q4, rfl, rfl, rfl, h4, r4⟩ := trodAll_cons r3
  obtain ⟨rfl, rfl, rfl⟩ := trodAll_nil r4
  exact ⟨v0, v1, v2, v3, v4, d0, d1, d2, d3, d4, p0, p1, p2, p3, p4, by cases args; simp_all, rfl, by simp, h0, h1, h2, h3, h4⟩
theorem trodAll_six {t0 t1 t2 t3 t4 t5 : TypeId} {args : Array Value} {ds : List (DataW H)} {ps : List MemPlace} (h : DataW.TrodAll enc P w base spare held [t0, t1, t2, t3, t4, t5] args.toList ds ps) :
    ∃ v0 v1 v2 v3 v4 v5 d0 d1 d2 d3 d4 d5 p0 p1 p2 p3 p4 p5, args = #[v0, v1, v2, v3, v4, v5] ∧ ds = [d0, d1, d2, d3, d4, d5] ∧ ps = p0 ++ (p1 ++ (p2 ++ (p3 ++ (p4 ++ p5)))) ∧ DataW.Trod enc P w base spare held t0 v0 d0 p0 ∧ DataW.Trod enc P w base spare held t1 v1 d1 p1 ∧ DataW.Trod enc P w base spare held t2 v2 d2 p2 ∧ DataW.Trod enc P w base spare held t3 v3 d3 p3 ∧ DataW.Trod enc P w base spare held t4 v4 d4 p4 ∧ DataW.Trod enc P w base spare held t5 v5 d5 p5 := by
  obtain ⟨v0, vs0, d0, ds0, p0, q0, hargs, rfl, rfl, h0, r0⟩ := trodAll_cons h
  obtain ⟨v1, vs1, d1, ds1, p1, q1, rfl, rfl, rfl, h1, r1⟩ := trodAll_cons r0
  obtain ⟨v2, vs2, d2, ds2, p2, q2, rfl, rfl, rfl, h2, r2⟩ := trodAll_cons r1
  obtain ⟨v3, vs3, d3, ds3, p3, q3, rfl, rfl, rfl, h3, r3⟩ := trodAll_cons r2
  obtain ⟨v4, vs4, d4, ds4, p4, q4, rfl, rfl, rfl, h4, r4⟩ := trodAll_cons r3
  obtain ⟨v5, vs5, d5, ds5, p5, q5, rfl, rfl, rfl, h5, r5⟩ := trodAll_cons r4
  obtain ⟨rfl, rfl, rfl⟩ := trodAll_nil r5
  exact ⟨v0, v1, v2, v3, v4, v5, d0, d1, d2, d3, d4, d5, p0, p1, p2, p3, p4, p5, by cases args; simp_all, rfl, by simp, h0, h1, h2, h3, h4, h5⟩
end
theorem wf_u16 {x : Int} (h : (Lit.int .u16 x).wf = true) : 0 ≤ x ∧ x ≤ 65535 := by
  have h1 : IntKind.u16.min = 0 := by decide
  have h2 : IntKind.u16.max = 65535 := by decide
  simp [Lit.wf, h1, h2] at h
  omega
end Go.Proofs.YtoagphighgejnaaGreatDoor
set_option linter.unusedSimpArgs false
set_option linter.unusedVariables false
namespace Go.Proofs.YtoagphighgejnaaGreatDoor
open Go.RowKit Go.Shelf

theorem prob_boxed {w w1 : World} {p : ProbV} {sb m ca : Nat} {A : Option Addr} (h : ProbNew w p sb m ca A w1) : ∃ mx nn ps pt, probV p.max (some ⟨sb, 0, none⟩) p.sup.length p.sup.length A m ca p.s p.t = .agg #[.bool mx, .slice (some ⟨sb, 0, none⟩) nn nn, .slice A m ca, .int .i64 ps, .int .i64 pt] ∧
    ProbIs w1 p (.agg #[.bool mx, .slice (some ⟨sb, 0, none⟩) nn nn, .slice A m ca, .int .i64 ps, .int .i64 pt]) ∧ m = p.arcs.length ∧ FitsF p ∧ Below w.heap.size w w1 ∧ p.sup.length ≤ 7 ∧ m ≤ 18 := by
  refine ⟨_, _, _, _, rfl, h.is, ?_, h.fits, h.b, h.n7, h.m18⟩
  have := h.a.1; rw [arcCells_length] at this; omega
theorem linesP_many (p : ProbV) (h : FitsF p) : (linesP p).length ≤ 323 := by unfold linesP; rw [List.length_map]; exact all_many p h
theorem join_small (p : ProbV) (h : FitsF p) (L : List (List UInt8)) (hL : ∀ x ∈ L, x ∈ linesP p) (hn : L.length ≤ 330) : (Lib.join L [10]).length ≤ 43890 := by
  have h1 := join_len 10 132 L (fun x hx => line_len p h x (hL x hx))
  have h2 : L.length * (1 + 132) ≤ 330 * 133 := Nat.mul_le_mul hn (by omega)
  omega
theorem parse_join (p : ProbV) (h : FitsF p) (L : List (List UInt8)) (hL : ∀ x ∈ L, x ∈ linesP p) (hn : L ≠ []) (hl : L.length ≤ 330) : parseF (Lib.join L [10]) = readE rd0 0 L := by
  unfold parseF
  rw [if_neg (by have := join_small p h L hL hl; omega), join_some p L hL hn]
theorem lines_two (p : ProbV) (ha : p.arcs ≠ []) : 2 ≤ (linesP p).length := by
  rw [linesP_eq]
  have : 0 < p.arcs.length := List.length_pos_iff.2 ha
  simp only [List.length_cons, List.length_append, List.length_map]; omega
theorem cut_parse (p : ProbV) (h : FitsF p) (ha : p.arcs ≠ []) : parseF (Lib.join (linesP p).dropLast [10]) = (prob0, 12, 0) := by
  have h2 := lines_two p ha
  rw [parse_join p h _ (fun x hx => (List.dropLast_sublist _).subset hx) (fun e => by have := congrArg List.length e; simp at this; omega) (by have := linesP_many p h; simp; omega)]
  exact read_cut p h ha
theorem more_parse (p : ProbV) (h : FitsF p) (ha : p.arcs ≠ []) (t : List UInt8) (ht : (linesP p).getLast? = some t) : parseF (textP p ++ t) = (prob0, 12, ((linesP p).length : Int) + 1) := by
  have hm : t ∈ linesP p := List.mem_of_getLast? ht
  unfold parseF
  rw [if_neg (by have h1 := text_len p h; have h2 := line_len p h t hm; rw [List.length_append]; omega)]
  unfold textP
  rw [lines_flat_end _ (line_no10 p) t (line_no10 p t hm) (line_ne p t hm)]
  exact read_more p h ha t ht
/-- a text's bytes -/
theorem str_of (l : List UInt8) : ∃ X : ByteArray, strV l = .string X ∧ X.data.toList = l ∧ X.size = l.length := ⟨⟨l.toArray⟩, rfl, rfl, rfl⟩
set_option maxHeartbeats 3200000 in
set_option maxRecDepth 100000 in
theorem FileCut_in (A D : Option Addr) (n c nd cd : Nat) (cs ds : List Int) (mo : Bool) (w : World) (hE : Env w) (hr : Reads w w.heap.size 1 A n (cs.map U)) (hy : Byt cs) (hd : Reads w w.heap.size 1 D nd (ds.map U)) (hyd : Byt ds) (hn : n ≤ 9223372036854775807) (hnd : nd ≤ 9223372036854775807) :
    Calls Tryz.prog 7 #[.slice A n c, .slice D nd cd, .bool mo] w fun e w' => e = .returned (.bool true) ∧ Below w.heap.size w w' := by
  have HPB := Lib.hid (Prob_any A D n c nd cd w.heap.size cs ds mo w hr hy hd hyd (Nat.le_refl _) hn hnd)
  have HE := Lib.hid hE
  clear hE hr hy hd hyd hn hnd
  go_enter Tryz.func7, Tryz.ntmps7
  go_wp2_with fail
  refine HPB.out.mono ?_
  rintro e w1 ⟨p, sb, m, ca, Aa, rfl, hN⟩
  obtain ⟨mx, nn, ps, pt, hv, hI, hm, hF, hb1, -, -⟩ := prob_boxed hN
  rw [hv]
  have hb2 := (Below.refl w1.heap.size w1).alloc (Nat.le_refl _) (.cells #[.bool mx, .slice (some ⟨sb, 0, none⟩) nn nn, .slice Aa m ca, .int .i64 ps, .int .i64 pt] 31)
  have HI := Lib.hid (hI.below hb2)
  have HF := Lib.hid hF
  have HM := Lib.hid hm
  have HB1 := Lib.hid (hb1.trans (hb2.mono hb1.size))
  have kb := Blk.new w1 31 #[.bool mx, .slice (some ⟨sb, 0, none⟩) nn nn, .slice Aa m ca, .int .i64 ps, .int .i64 pt]
  have HK := Lib.hid kb
  obtain ⟨p0, p1, p2, p3, p4⟩ := blk5 kb
  clear hv hI hm hF hb1 hb2 kb hN HPB
  go_wp2_with fail
  generalize w1.alloc (.cells #[.bool mx, .slice (some ⟨sb, 0, none⟩) nn nn, .slice Aa m ca, .int .i64 ps, .int .i64 pt] 31) = W1 at *
  refine (Print_in p _ W1 HI.out (HE.out.on HB1.out)).mono ?_
  rintro e w2 ⟨T, kk, rfl, hT, hb3⟩
  obtain ⟨rfl, rfl⟩ := hT.one (.inl ⟨HF.out, rfl, rfl⟩)
  obtain ⟨X, hX, hXl, hXs⟩ := str_of (textP p)
  rw [hX]
  have HB2 := Lib.hid (HB1.out.trans (hb3.mono HB1.out.size))
  have HLN := Lib.hid (rLines_in X (by rw [hXs]; have := text_len p HF.out; omega) w2)
  rw [hXl, lines_text] at HLN
  have HX := Lib.hid (And.intro hXl hXs)
  obtain ⟨q0, q1, q2, q3, q4⟩ := blk5 (HK.out.below hb3 HK.out.lt)
  have HK2 := Lib.hid (HK.out.below hb3 HK.out.lt)
  clear hT hX hXl hXs hb3 p0 p1 p2 p3 p4 HK HI
  go_wp2_with fail
  refine HLN.out.mono ?_
  rintro e w3 ⟨A2, n2, c2, rfl, hn2, hc2, hr2, hb4⟩
  have HB3 := Lib.hid (HB2.out.trans (hb4.mono HB2.out.size))
  obtain ⟨r0, r1, r2, r3, r4⟩ := blk5 (HK2.out.below hb4 HK2.out.lt)
  have HL2 := Lib.hid (And.intro hn2 hr2)
  have HKN := Lib.hid (known_in w3 (HE.out.on HB3.out))
  clear hn2 hr2 hb4 HLN q0 q1 q2 q3 q4
  by_cases hm0 : m = 0
  · subst hm0
    go_wp2_with fail
    refine HKN.out.mono ?_
    rintro e w4 ⟨rfl, hb5⟩
    have HB4 := Lib.hid (HB3.out.trans (hb5.mono HB3.out.size))
    clear hb5 r0 r1 r2 r3 r4 HKN
    go_wp2_with fail
    go_ret
    exact ⟨rfl, HB4.out⟩
  · have hmb : ((m : Int) == 0) = false := by simp [hm0]
    have ha : p.arcs ≠ [] := fun e => hm0 (by have := HM.out; rw [e] at this; exact this)
    have hn22 : 2 ≤ n2 := by rw [HL2.out.1]; exact lines_two p ha
    have hn2' : ¬ (n2 : Int) < 2 := by omega
    obtain ⟨n3, hn3⟩ : ∃ n3, n2 = n3 + 1 := ⟨n2 - 1, by omega⟩
    subst hn3
    have HA := Lib.hid ha
    have HN22 := Lib.hid hn22
    clear hm0 ha hn22
    have hlen := HL2.out.1
    obtain ⟨t, ht⟩ : ∃ t, (linesP p)[n3]? = some t := ⟨_, List.getElem?_eq_getElem (by omega)⟩
    have hlast : (linesP p).getLast? = some t := by rw [List.getLast?_eq_getElem?, ← hlen]; exact ht
    have HT := Lib.hid hlast
    have htm : t ∈ linesP p := List.mem_of_getElem? ht
    have HTM := Lib.hid htm
    have hdl : (linesP p).take n3 = (linesP p).dropLast := by rw [List.dropLast_eq_take, ← hlen]; rfl
    have hsh := Reads.shorter HL2.out.2
    rw [← List.map_take, hdl] at hsh
    have HJ := Lib.hid (rJoin_in A2 n3 c2 w3.heap.size (linesP p).dropLast ⟨#[10]⟩ w3 hsh (by have := linesP_many p HF.out; omega) (fun k => by
      have h1 := join_small p HF.out ((linesP p).dropLast.take k) (fun x hx => (List.dropLast_sublist _).subset (List.mem_of_mem_take hx)) (by rw [List.length_take, List.length_dropLast]; have := linesP_many p HF.out; omega)
      have h2 : (⟨#[10]⟩ : ByteArray).data.toList = [10] := rfl
      have h3 : (⟨#[10]⟩ : ByteArray).size = 1 := rfl
      rw [h2]; omega))
    change Hid (Calls Tryz.prog 15 #[.slice A2 n3 c2, .string ⟨#[10]⟩] w3 fun e w' => e = .returned (strV (Lib.join (linesP p).dropLast [10])) ∧ ∃ q, w' = w3.drewN q) at HJ
    obtain ⟨J, hJ, hJl, hJs⟩ := str_of (Lib.join (linesP p).dropLast [10])
    rw [hJ] at HJ
    have HCP := Lib.hid (show parseF J.data.toList = (prob0, 12, 0) by rw [hJl]; exact cut_parse p HF.out HA.out)
    clear hdl hsh hJ hJl hJs hlast htm
    have hn323 : n3 + 1 ≤ 323 := by have := linesP_many p HF.out; omega
    obtain ⟨b2, off2, u2, rfl, hb2, hx2, hcell⟩ := HL2.out.2.at_ (k := n3) (by omega)
    rw [List.getElem?_map, ht] at hx2
    cases hx2
    obtain ⟨Y, hY, hYl, hYs⟩ := str_of t
    rw [hY] at hcell
    have hXY : ¬ 9223372036854775807 < X.size + Y.size := by have h1 := text_len p HF.out; have h2 := line_len p HF.out t HTM.out; have := HX.out.2; omega
    have HPJ : Hid (∀ W, Env W → Calls Tryz.prog 20 #[.string J] W (ParTells W (prob0, 12, 0))) := by rw [← HCP.out]; exact Lib.hid (fun W h => Parse_any J W h)
    have HPK : Hid (∀ W, Env W → Calls Tryz.prog 20 #[.string (X ++ Y)] W (ParTells W (prob0, 12, ((n3 + 1 : Nat) : Int) + 1))) := by
      have h1 : parseF (X ++ Y).data.toList = (prob0, 12, ((n3 + 1 : Nat) : Int) + 1) := by
        rw [show (X ++ Y).data.toList = textP p ++ t by rw [← HX.out.1, ← hYl]; simp, more_parse p HF.out HA.out t HT.out, hlen]
      rw [← h1]
      exact Lib.hid (fun W h => Parse_any (X ++ Y) W h)
    have hsub : IntKind.i64.wrap (((n3 + 1 : Nat) : Int) - 1) = (n3 : Int) := by rw [IntWalk.i64_in _ (by omega)]; omega
    have hadd : IntKind.i64.wrap (((n3 + 1 : Nat) : Int) + 1) = ((n3 + 1 : Nat) : Int) + 1 := IntWalk.i64_in _ (by omega)
    have HCE := Lib.hid (And.intro hb2 hcell)
    clear ht hY hYl hYs hlen hb2 hcell HL2 HT HCP HK2
    go_wp2_with fail
    refine HJ.out.mono ?_
    rintro e _ ⟨rfl, q, rfl⟩
    have HB4 := Lib.hid (HB3.out.trans ((below_drN w3 q).mono HB3.out.size))
    have HB34 := Lib.hid (below_drN w3 q)
    clear HJ r0 r1 r2 r3 r4
    go_wp2_with fail
    refine (HPJ.out _ (HE.out.on HB4.out)).mono ?_
    rintro e w5 ⟨v5, rfl, hv5, hb5⟩
    obtain ⟨mx5, S5, n5, c5, A5, m5, d5, ps5, pt5, rfl⟩ := hv5.form
    have hb6 := (Below.refl w5.heap.size w5).alloc (Nat.le_refl _) (.cells #[.bool mx5, .slice S5 n5 c5, .slice A5 m5 d5, .int .i64 ps5, .int .i64 pt5] 31)
    have hb56 := hb5.trans (hb6.mono hb5.size)
    have HB6 := Lib.hid (HB4.out.trans (hb56.mono HB4.out.size))
    have tc := ((HB34.out.trans (hb56.mono HB34.out.size)).cell (p := ⟨b2, off2 + n3, none⟩) HCE.out.1).trans HCE.out.2
    clear hb5 hb6 hb56 hv5
    go_wp2_with fail
    generalize w5.alloc (.cells #[.bool mx5, .slice S5 n5 c5, .slice A5 m5 d5, .int .i64 ps5, .int .i64 pt5] 31) = W6 at *
    refine (HPK.out _ (HE.out.on HB6.out)).mono ?_
    rintro e w7 ⟨v7, rfl, hv7, hb7⟩
    obtain ⟨mx7, S7, n7, c7, A7, m7, d7, ps7, pt7, rfl⟩ := hv7.form
    have hb8 := (Below.refl w7.heap.size w7).alloc (Nat.le_refl _) (.cells #[.bool mx7, .slice S7 n7 c7, .slice A7 m7 d7, .int .i64 ps7, .int .i64 pt7] 31)
    have HB8 := Lib.hid (HB6.out.trans ((hb7.trans (hb8.mono hb7.size)).mono HB6.out.size))
    clear hb7 hb8 hv7 tc
    go_wp2_with fail
    generalize w7.alloc (.cells #[.bool mx7, .slice S7 n7 c7, .slice A7 m7 d7, .int .i64 ps7, .int .i64 pt7] 31) = W8 at *
    refine (known_in W8 (HE.out.on HB8.out)).mono ?_
    rintro e w9 ⟨rfl, hb9⟩
    have HB9 := Lib.hid (HB8.out.trans (hb9.mono HB8.out.size))
    clear hb9
    go_wp2_with fail
    go_ret
    exact ⟨rfl, HB9.out⟩
end Go.Proofs.YtoagphighgejnaaGreatDoor
set_option linter.unusedSimpArgs false
set_option linter.unusedVariables false
namespace Go.Proofs.YtoagphighgejnaaGreatDoor
open Go.RowKit Go.Shelf

theorem reads_low {w : World} {B k m : Nat} {b off : Nat} {xs : List Value} (h : Reads w B 1 (some ⟨b, off, none⟩) (k + m) xs) : Reads w B 1 (some ⟨b, off + k, none⟩) m (xs.drop k) := by
  refine ⟨by rw [List.length_drop, h.1]; omega, fun hm => ?_⟩
  obtain ⟨b', off', e, hb, hc⟩ := h.2 (by omega)
  injection e with e
  injection e with e1 e2
  subst e1 e2
  refine ⟨b, off + k, rfl, hb, fun j u hu => ?_⟩
  rw [List.getElem?_drop] at hu
  have := hc (k + j) u hu
  rwa [Nat.add_assoc]
theorem reads_up {w : World} {B n k : Nat} {A : Option Addr} {xs : List Value} (h : Reads w B 1 A n xs) (hk : k ≤ n) : Reads w B 1 A k (xs.take k) := by
  refine ⟨by rw [List.length_take, h.1]; omega, fun hp => ?_⟩
  obtain ⟨b, off, e, hb, hc⟩ := h.2 (by omega)
  refine ⟨b, off, e, hb, fun j u hu => hc j u ?_⟩
  have hjk : j < k := by
    rcases Nat.lt_or_ge j k with h | h
    · exact h
    · rw [List.getElem?_eq_none (by rw [List.length_take]; omega)] at hu; cases hu
  rwa [List.getElem?_take_of_lt hjk] at hu
theorem reads_none {w : World} {B : Nat} {A : Option Addr} : Reads w B 1 A 0 [] := ⟨rfl, fun h => absurd h (by omega)⟩
theorem reads_str {w : World} {B n b off : Nat} {L : List (List UInt8)} (h : Reads w B 1 (some ⟨b, off, none⟩) n (L.map strV)) {i : Nat} {t : List UInt8} (ht : L[i]? = some t) : w.cell? ⟨b, off + i, none⟩ = some (strV t) := by
  have hi : i < L.length := (List.getElem?_eq_some_iff.1 ht).1
  have hl := h.1
  rw [List.length_map] at hl
  obtain ⟨b', off', e, hb, hc⟩ := h.2 (by omega)
  injection e with e
  injection e with e1 e2
  subst e1 e2
  exact hc i _ (by rw [List.getElem?_map, ht]; rfl)
theorem one_cells (L : List (List UInt8)) : ∀ u ∈ L.map strV, u.oneCell' = true := by
  intro u hu
  obtain ⟨x, -, rfl⟩ := List.mem_map.1 hu
  rfl
/-- a list of texts in a row of one's own, behind a world -/
structure TxtIs (Wb : World) (ws : List (List UInt8)) (A : Option Addr) (n c : Nat) (wx : World) : Prop where
  own : wx.ownsRow Wb.heap.size 9 1 (.slice A n c) n (ws.map strV)
  b : Below Wb.heap.size Wb wx
theorem TxtIs.nil (Wb wx : World) (hb : Below Wb.heap.size Wb wx) : TxtIs Wb [] none 0 0 wx := ⟨World.ownsRow_nil _ _ _ _, hb⟩
theorem TxtIs.len {Wb wx : World} {ws : List (List UInt8)} {A : Option Addr} {n c : Nat} (h : TxtIs Wb ws A n c wx) : n = ws.length := by have := h.own.1; simpa using this.symm
theorem TxtIs.on {Wb wx wy : World} {ws : List (List UInt8)} {A : Option Addr} {n c : Nat} (h : TxtIs Wb ws A n c wx) (hb : Below wx.heap.size wx wy) : TxtIs Wb ws A n c wy := ⟨own_below h.own hb, h.b.trans (hb.mono h.b.size)⟩
theorem TxtIs.reads {Wb wx : World} {ws : List (List UInt8)} {A : Option Addr} {n c : Nat} (h : TxtIs Wb ws A n c wx) : Reads wx wx.heap.size 1 A n (ws.map strV) := Reads.of_own h.own
theorem TxtIs.app {Wb wx wy : World} {ws news : List (List UInt8)} {A : Option Addr} {n c m : Nat} {v' : Value} (h : TxtIs Wb ws A n c wx) (ho : wy.ownsRow Wb.heap.size 9 1 v' (n + m) (ws.map strV ++ news.map strV)) (hg : wx.grownBy wy (Value.slice A n c).ownBlock) :
    ∃ A' c', v' = .slice A' (n + m) c' ∧ TxtIs Wb (ws ++ news) A' (n + m) c' wy := by
  obtain ⟨A', c', rfl⟩ := own_form ho
  exact ⟨A', c', rfl, by rw [List.map_append]; exact ho, h.b.grown hg h.b.size (fun g hg => (h.own.lt g hg).1)⟩
theorem str_cat {T L : ByteArray} {a b : List UInt8} (hT : strV a = .string T) (hL : strV b = .string L) : Value.string (T ++ L) = strV (a ++ b) := by
  unfold strV at hT hL
  injection hT with hT
  injection hL with hL
  subst hT hL
  rw [← strV_data]
  refine congrArg strV ?_
  simp
theorem TxtIs.first {Wb wx wy : World} {news : List (List UInt8)} {m : Nat} {v' : Value} (hb : Below Wb.heap.size Wb wx) (ho : wy.ownsRow Wb.heap.size 9 1 v' m (news.map strV)) (hg : wx.grownBy wy (Value.slice none 0 0).ownBlock) :
    ∃ A' c', v' = .slice A' m c' ∧ TxtIs Wb news A' m c' wy := by
  obtain ⟨A', c', rfl⟩ := own_form ho
  exact ⟨A', c', rfl, ho, hb.grown hg hb.size (fun g hg => by cases hg)⟩
theorem TxtIs.add {Wb wx wy : World} {ws : List (List UInt8)} {t : List UInt8} {Y : ByteArray} {A : Option Addr} {n c : Nat} {v' : Value} {o : Obj} (h : TxtIs Wb ws A n c wx) (hY : strV t = .string Y) (ho : wy.ownsRow Wb.heap.size 9 1 v' (n + 1) (ws.map strV ++ [.string Y])) (hg : (wx.alloc o).grownBy wy (Value.slice A n c).ownBlock) :
    ∃ A' c', v' = .slice A' (n + 1) c' ∧ TxtIs Wb (ws ++ [t]) A' (n + 1) c' wy := by
  obtain ⟨A', c', rfl⟩ := own_form ho
  exact ⟨A', c', rfl, by rw [List.map_append, List.map_cons, List.map_nil, hY]; exact ho, (h.b.alloc h.b.size o).grown hg (by have := h.b.size; simp; omega) (fun g hg => (h.own.lt g hg).1)⟩
theorem TxtIs.firstOne {Wb wx wy : World} {t : List UInt8} {Y : ByteArray} {v' : Value} {o : Obj} (hb : Below Wb.heap.size Wb wx) (hY : strV t = .string Y) (ho : wy.ownsRow Wb.heap.size 9 1 v' 1 [.string Y]) (hg : (wx.alloc o).grownBy wy (Value.slice none 0 0).ownBlock) :
    ∃ A' c', v' = .slice A' 1 c' ∧ TxtIs Wb [t] A' 1 c' wy := by
  obtain ⟨A', c', rfl⟩ := own_form ho
  exact ⟨A', c', rfl, by rw [List.map_cons, List.map_nil, hY]; exact ho, (hb.alloc hb.size o).grown hg (by have := hb.size; simp; omega) (fun g hg => by cases hg)⟩
end Go.Proofs.YtoagphighgejnaaGreatDoor
set_option linter.unusedSimpArgs false
set_option linter.unusedVariables false
namespace Go.Proofs.YtoagphighgejnaaGreatDoor
open Go.RowKit Go.Shelf

theorem join_hlim (L : List (List UInt8)) (c : UInt8) (h1 : ∀ x ∈ L, x.length ≤ 130000) (h2 : L.length ≤ 1000) : ∀ k, (Lib.join (L.take k) (⟨#[c]⟩ : ByteArray).data.toList).length + (⟨#[c]⟩ : ByteArray).size ≤ 1000000000 := by
  intro k
  have h3 := join_len c 130000 (L.take k) (fun x hx => h1 x (List.mem_of_mem_take hx))
  have h4 : (L.take k).length ≤ 1000 := by rw [List.length_take]; omega
  have h5 : (L.take k).length * (1 + 130000) ≤ 1000 * 130001 := Nat.mul_le_mul h4 (by omega)
  have h6 : (⟨#[c]⟩ : ByteArray).data.toList = [c] := rfl
  have h7 : (⟨#[c]⟩ : ByteArray).size = 1 := rfl
  rw [h6]; omega
/-- a list of texts that may be joined -/
structure Fine (M : Nat) (L : List (List UInt8)) (N : Nat) : Prop where
  l : ∀ x ∈ L, x.length ≤ M
  n : L.length ≤ N
theorem Fine.app {M N K : Nat} {L R : List (List UInt8)} (h : Fine M L N) (k : Fine M R K) : Fine M (L ++ R) (N + K) :=
  ⟨fun x hx => (List.mem_append.1 hx).elim (h.l x) (k.l x), by rw [List.length_append]; have := h.n; have := k.n; omega⟩
theorem Fine.sub {M N : Nat} {L R : List (List UInt8)} (h : Fine M L N) (hs : ∀ x ∈ R, x ∈ L) (hl : R.length ≤ N) : Fine M R N := ⟨fun x hx => h.l x (hs x hx), hl⟩
theorem Fine.take {M N : Nat} {L : List (List UInt8)} (h : Fine M L N) (k : Nat) : Fine M (L.take k) N := h.sub (fun x hx => List.mem_of_mem_take hx) (by rw [List.length_take]; have := h.n; omega)
theorem Fine.drop {M N : Nat} {L : List (List UInt8)} (h : Fine M L N) (k : Nat) : Fine M (L.drop k) N := h.sub (fun x hx => List.mem_of_mem_drop hx) (by rw [List.length_drop]; have := h.n; omega)
theorem Fine.one {M : Nat} {x : List UInt8} (h : x.length ≤ M) : Fine M [x] 1 := ⟨fun y hy => by rw [List.mem_singleton.1 hy]; exact h, by simp⟩
theorem Fine.mono {M M' N N' : Nat} {L : List (List UInt8)} (h : Fine M L N) (h1 : M ≤ M') (h2 : N ≤ N') : Fine M' L N' := ⟨fun x hx => Nat.le_trans (h.l x hx) h1, Nat.le_trans h.n h2⟩
theorem Fine.join {M N : Nat} {L : List (List UInt8)} (h : Fine M L N) (c : UInt8) : (Lib.join L [c]).length ≤ N * (1 + M) := Nat.le_trans (join_len c M L h.l) (Nat.mul_le_mul h.n (Nat.le_refl _))

set_option maxHeartbeats 6400000 in
set_option maxRecDepth 100000 in
theorem FileBent_in (A D G : Option Addr) (n c nd cd ng cg : Nat) (cs ds gs : List Int) (mo : Bool) (at_ how : Int) (w : World) (hE : Env w) (hr : Reads w w.heap.size 1 A n (cs.map U)) (hy : Byt cs) (hd : Reads w w.heap.size 1 D nd (ds.map U)) (hyd : Byt ds) (hg : Reads w w.heap.size 1 G ng (gs.map U)) (hyg : Byt gs) (hn : n ≤ 9223372036854775807) (hnd : nd ≤ 9223372036854775807) (hng : ng ≤ 9223372036854775807)
    (hat : 0 ≤ at_ ∧ at_ ≤ 65535) (hho : 0 ≤ how ∧ how ≤ 255) :
    Calls Tryz.prog 3 #[.slice A n c, .slice D nd cd, .slice G ng cg, .bool mo, .int .u16 at_, .int .u8 how] w fun e w' => e = .returned (.bool true) ∧ Below w.heap.size w w' := by
  have HPB := Lib.hid (Prob_any A D n c nd cd w.heap.size cs ds mo w hr hy hd hyd (Nat.le_refl _) hn hnd)
  have HNR := Lib.hid (fun W (hb : Below w.heap.size w W) => Near_in G ng cg gs W ((hg.below hb).more hb.size) hyg hng)
  have HE := Lib.hid hE
  have HAT := Lib.hid (And.intro hat hho)
  clear hE hr hy hd hyd hn hnd hat hho hg hyg hng
  go_enter Tryz.func3, Tryz.ntmps3
  go_wp2_with fail
  refine HPB.out.mono ?_
  rintro e w1 ⟨p, sb, m, ca, Aa, rfl, hN⟩
  obtain ⟨mx, nn, ps, pt, hv, hI, hm, hF, hb1, -, -⟩ := prob_boxed hN
  rw [hv]
  have HI := Lib.hid hI
  have HF := Lib.hid hF
  have HB1 := Lib.hid hb1
  clear hv hI hm hF hb1 hN HPB
  go_wp2_with fail
  refine (rPrint_in p _ w1 HI.out).mono ?_
  rintro e w2 ⟨T, kk, rfl, hT, hb3⟩
  obtain ⟨rfl, rfl⟩ := hT.one (.inl ⟨HF.out, rfl, rfl⟩)
  obtain ⟨X, hX, hXl, hXs⟩ := str_of (textP p)
  rw [hX]
  have HB2 := Lib.hid (HB1.out.trans (hb3.mono HB1.out.size))
  have HX := Lib.hid (And.intro hXl hXs)
  clear hT hX hXl hXs hb3 HI
  go_wp2_with fail
  refine (known_in w2 (HE.out.on HB2.out)).mono ?_
  rintro e w3 ⟨rfl, hb4⟩
  have HB3 := Lib.hid (HB2.out.trans (hb4.mono HB2.out.size))
  clear hb4
  go_wp2_with fail
  have HLN := Lib.hid (rLines_in X (by rw [HX.out.2]; have := text_len p HF.out; omega) w3)
  rw [HX.out.1, lines_text] at HLN
  refine HLN.out.mono ?_
  rintro e w4 ⟨A2, n2, c2, rfl, hn2, hc2, hr2, hb5⟩
  have HB4 := Lib.hid (HB3.out.trans (hb5.mono HB3.out.size))
  have hn1 : 0 < n2 := by rw [hn2, linesP_eq]; simp
  obtain ⟨b2, off2, u2, rfl, hb2, -, -⟩ := hr2.at_ hn1
  have hn323 : n2 ≤ 323 := by rw [hn2]; exact linesP_many p HF.out
  have hat2 := HAT.out.1
  obtain ⟨k, hk, hkm⟩ : ∃ k : Nat, k < n2 ∧ at_ % (n2 : Int) = (k : Int) := ⟨(at_ % (n2 : Int)).toNat, by
    have h1 := Int.emod_lt_of_pos at_ (show (0 : Int) < (n2 : Int) by omega); have h2 := Int.emod_nonneg at_ (show (n2 : Int) ≠ 0 by omega); omega, by
    have h2 := Int.emod_nonneg at_ (show (n2 : Int) ≠ 0 by omega); omega⟩
  obtain ⟨lk, hlk⟩ : ∃ t, (linesP p)[k]? = some t := ⟨_, List.getElem?_eq_getElem (by omega)⟩
  obtain ⟨Yk, hYk, hYl, hYs⟩ := str_of lk
  have hck : w4.cell? ⟨b2, off2 + k, none⟩ = some (.string Yk) := by
    have := reads_str hr2 hlk
    rwa [hYk] at this
  have hlk132 : lk.length ≤ 132 := line_len p HF.out lk (List.mem_of_getElem? hlk)
  have HL2 := Lib.hid (And.intro hn2 hr2)
  have HC2 := Lib.hid hc2
  have HWD := Lib.hid (rWords_in Yk (by omega) w4)
  rw [hYl] at HWD
  have HLK := Lib.hid hlk132
  have hnz : ¬ (n2 : Int) = 0 := by omega
  have hnz2 : ¬ n2 = 0 := by omega
  clear hb5 HLN hr2 hn2 hc2 hlk hYk hYl hYs hlk132 HB3
  go_wp2_with fail
  refine HWD.out.mono ?_
  rintro e w5 ⟨Aw, nw, cw, rfl, hnw, hcw, hrw, hb6⟩
  have HB5 := Lib.hid (HB4.out.trans (hb6.mono HB4.out.size))
  have H45 := Lib.hid hb6
  obtain ⟨Wd, hWd⟩ : ∃ L, L = cutL 32 lk := ⟨_, rfl⟩
  rw [← hWd] at hnw hrw
  have hFW : Fine 132 Wd 133 := by
    rw [hWd]
    exact ⟨fun x hx => Nat.le_trans (cut_len 32 lk x hx) HLK.out, Nat.le_trans (cut_many 32 lk) (by have := HLK.out; omega)⟩
  have hnw1 : 0 < nw := by rw [hnw, hWd]; exact List.length_pos_iff.2 (cutL_ne 32 lk)
  obtain ⟨bw, offw, uw, rfl, hbw, -, -⟩ := hrw.at_ hnw1
  have hnw133 : nw ≤ 133 := by rw [hnw]; exact hFW.n
  have HW := Lib.hid (And.intro hnw (And.intro hrw (And.intro hFW hcw)))
  have hho2 := HAT.out.2
  obtain ⟨j, hj, hjm⟩ : ∃ j : Nat, j < nw ∧ how / 4 % (nw : Int) = (j : Int) := ⟨(how / 4 % (nw : Int)).toNat, by
    have h1 := Int.emod_lt_of_pos (how / 4) (show (0 : Int) < (nw : Int) by omega); have h2 := Int.emod_nonneg (how / 4) (show (nw : Int) ≠ 0 by omega); omega, by
    have h2 := Int.emod_nonneg (how / 4) (show (nw : Int) ≠ 0 by omega); omega⟩
  have hwz : ¬ (nw : Int) = 0 := by omega
  have hwz2 : ¬ nw = 0 := by omega
  clear hnw hrw hFW hcw hb6 hWd HWD hck HB4
  go_wp2_with fail
  refine (HNR.out w5 HB5.out).mono ?_
  rintro e w6 ⟨Xn, rfl, hXn, hb7⟩
  have HB6 := Lib.hid (HB5.out.trans (hb7.mono HB5.out.size))
  have H46 := Lib.hid (H45.out.trans (hb7.mono H45.out.size))
  have HR6 := Lib.hid (And.intro ((HL2.out.2.below H46.out).more H46.out.size) ((HW.out.2.1.below hb7).more hb7.size))
  have HXN := Lib.hid (show strV Xn.data.toList = .string Xn ∧ Xn.data.toList.length ≤ 432 from ⟨strV_data Xn, hXn⟩)
  clear hXn hb7 H45 HB5
  obtain ⟨i0, hi, hz0, hz1, hz2⟩ := info_parts infoStr
  have HIS := Lib.hid (And.intro hi (And.intro hz0 (And.intro hz1 hz2)))
  clear hi hz0 hz1 hz2
  have hkc : k ≤ c2 := by have := HC2.out; omega
  have HU := Lib.hid (show Reads w6 w6.heap.size 1 (some ⟨b2, off2, none⟩) k (((linesP p).take k).map strV) by have := reads_up HR6.out.1 (show k ≤ n2 by omega); rwa [← List.map_take] at this)
  obtain ⟨hi, hz0, hz1, hz2⟩ := HIS.out
  go_wp2_with (at_builtin; refine wpList_append_any _ rfl _ _ 34 rfl w6.heap.size 9 i0 (.string ⟨#[]⟩) 1 16 Tryz.underlying34 hi hz0 hz1 hz2 rfl (by decide) (.slice none 0 0) 0 (([] : List (List UInt8)).map strV) rfl (World.ownsRow_nil _ _ _ _) _ _ k _ (((linesP p).take k).map strV) rfl HU.out (one_cells _) (by unfold maxLen; omega) (by omega) (Nat.le_refl _) ?_)
  intro v' w7 hown' hgrow _
  obtain ⟨A6, c6, rfl, hT7⟩ := TxtIs.first (news := (linesP p).take k) (Below.refl _ w6) (by rw [List.map_take]; simpa using hown') hgrow
  have HT7 := Lib.hid hT7
  have HV7 := Lib.hid (show Reads w7 w7.heap.size 1 (some ⟨bw, offw, none⟩) j ((Wd.take j).map strV) by have := reads_up ((HR6.out.2.below hT7.b).more hT7.b.size) (show j ≤ nw by omega); rwa [← List.map_take] at this)
  have hjc : j ≤ cw := by have := HW.out.2.2.2; omega
  clear hT7 hown' hgrow hi hz0 hz1 hz2 HU
  obtain ⟨hi, hz0, hz1, hz2⟩ := HIS.out
  go_wp2_with (at_builtin; refine wpList_append_any _ rfl _ _ 34 rfl w7.heap.size 9 i0 (.string ⟨#[]⟩) 1 16 Tryz.underlying34 hi hz0 hz1 hz2 rfl (by decide) (.slice none 0 0) 0 (([] : List (List UInt8)).map strV) rfl (World.ownsRow_nil _ _ _ _) _ _ j _ ((Wd.take j).map strV) rfl HV7.out (one_cells _) (by unfold maxLen; omega) (by omega) (Nat.le_refl _) ?_)
  intro v' w8 hown' hgrow _
  obtain ⟨A7, c7, rfl, hT8⟩ := TxtIs.first (news := Wd.take j) (Below.refl _ w7) (by rw [List.map_take]; simpa using hown') hgrow
  have HT8 := Lib.hid hT8
  clear hT8 hown' hgrow hi hz0 hz1 hz2 HV7
  go_upto_block 0 with fail
  go_cut [20, 21] from 67 to 105 (fun o v wx => ∃ (A : Option Addr) (c n1 : Nat) (L1 : List (List UInt8)) (A' : Option Addr) (c' n' : Nat) (L2 : List (List UInt8)), o = .slice A n1 c ∧ v = .slice A' n' c' ∧ TxtIs w6 L1 A n1 c wx ∧ Reads wx wx.heap.size 1 A' n' (L2.map strV) ∧ Fine 20000 L1 400 ∧ Fine 432 L2 300)
  case first =>
    have HFL := Lib.hid (show Fine 20000 ((linesP p).take k) 399 from ⟨fun x hx => by have := line_len p HF.out x (List.mem_of_mem_take hx); omega, by rw [List.length_take]; have := HL2.out.1; omega⟩)
    have HF8 := Lib.hid (show Fine 432 (Wd.take j) 133 from (HW.out.2.2.1.take j).mono (by omega) (by omega))
    have HFX := Lib.hid (Fine.one HXN.out.2)
    have HFD := Lib.hid (show ∀ i, Fine 432 (Wd.drop i) 133 from fun i => (HW.out.2.2.1.drop i).mono (by omega) (by omega))
    have hwc := HW.out.2.2.2
    have HO8 := Lib.hid (HT7.out.on HT8.out.b)
    have HW8 := Lib.hid (show Reads w8 w8.heap.size 1 (some ⟨bw, offw, none⟩) nw (Wd.map strV) by
      have h1 := (HR6.out.2.below HT7.out.b).more HT7.out.b.size
      exact (h1.below HT8.out.b).more HT8.out.b.size)
    have hw4 : 0 ≤ how % 4 ∧ how % 4 < 4 := by omega
    by_cases h0 : how % 4 = 0
    · have e0 : (how % 4 == 0) = true := by simp [h0]
      clear h0 hw4
      have HNW := Lib.hid (reads_fresh w8 [.string Xn])
      obtain ⟨hi, hz0, hz1, hz2⟩ := HIS.out
      have HSZ8 := HT8.out.b.size
      go_wp2_with (at_builtin; refine wpList_append_any _ rfl _ _ 34 rfl w7.heap.size 9 i0 (.string ⟨#[]⟩) 1 16 Tryz.underlying34 hi hz0 hz1 hz2 rfl (by decide) (.slice A7 j c7) j ((Wd.take j).map strV) rfl (HT8.out.own.alloc _) _ _ 1 _ [.string Xn] rfl HNW.out (by simp [Value.oneCell']) (by unfold maxLen; omega) (by omega) (by have := HT8.out.b.size; simp; omega) ?_)
      intro v' w9 hown' hgrow _
      obtain ⟨A9, c9, rfl, hT9⟩ := HT8.out.add HXN.out.1 (by rw [List.map_take]; exact hown') hgrow
      have HT9 := Lib.hid hT9
      have HO9 := Lib.hid (HT7.out.on hT9.b)
      have HW9 := Lib.hid (show Reads w9 w9.heap.size 1 (some ⟨bw, offw, none⟩) nw (Wd.map strV) by
        have h1 := (HR6.out.2.below HT7.out.b).more HT7.out.b.size
        exact (h1.below hT9.b).more hT9.b.size)
      clear hT9 hown' hgrow hi hz0 hz1 hz2 HNW HT8 HW8 HO8
      obtain ⟨r, hr⟩ : ∃ r, nw = j + 1 + r := ⟨nw - (j + 1), by omega⟩
      have HRR := Lib.hid hr
      have HRD := Lib.hid (show Reads w9 w9.heap.size 1 (some ⟨bw, offw + (j + 1), none⟩) r ((Wd.drop (j + 1)).map strV) by
        have h1 := HW9.out
        rw [hr] at h1
        have := reads_low h1
        rwa [← List.map_drop] at this)
      have HSZ := HT9.out.b.size
      have hlo : IntKind.i64.wrap ((j : Int) + 1) = (j : Int) + 1 := IntWalk.i64_in _ (by omega)
      have htn : ((j : Int) + 1).toNat = j + 1 := by omega
      have hlo0 : (0 : Int) ≤ (j : Int) + 1 := by omega
      have hn9 : (j + 1) ≤ 1000 := by omega
      clear hr
      by_cases hm0 : j + 1 = nw
      · obtain rfl : r = 0 := by have := HRR.out; omega
        have HNIL := Lib.hid (show Wd.drop (j + 1) = [] from List.map_eq_nil_iff.1 (List.eq_nil_of_length_eq_zero HRD.out.1))
        have HM0 := Lib.hid hm0
        have hr2 : nw - (j + 1) = 0 := by omega
        have hr3 : ¬ (nw : Int) < (j : Int) + 1 := by omega
        by_cases hk4 : j + 1 = cw
        · clear hm0
          subst hk4
          obtain ⟨hi, hz0, hz1, hz2⟩ := HIS.out
          go_wp2_with (at_builtin; refine wpList_append_any _ rfl _ _ 34 rfl w7.heap.size 9 i0 (.string ⟨#[]⟩) 1 16 Tryz.underlying34 hi hz0 hz1 hz2 rfl (by decide) (.slice A9 (j + 1) c9) (j + 1) ((Wd.take j ++ [Xn.data.toList]).map strV) rfl HT9.out.own w9.heap.size _ 0 _ (([] : List (List UInt8)).map strV) rfl reads_none (one_cells _) (by unfold maxLen; omega) (by omega) HSZ ?_)
          intro v' w10 hown' hgrow _
          obtain ⟨A10, c10, rfl, hTT⟩ := HT9.out.app (news := []) (m := 0) (by simpa using hown') hgrow
          have hTT2 : TxtIs w7 ((Wd.take j ++ [Xn.data.toList]) ++ Wd.drop (j + 1)) A10 ((j + 1) + 0) c10 w10 := by rw [HNIL.out]; exact hTT
          have HT10 := Lib.hid hTT2
          clear hTT hTT2 hown' hgrow hi hz0 hz1 hz2
          go_wp2_with fail
          go_meet
          exact ⟨A6, c6, k, _, A10, c10, j + 1 + 0, _, rfl, rfl, HT7.out.on HT10.out.b, HT10.out.reads, HFL.out.mono (by omega) (by omega), ((HF8.out.app HFX.out).app (HFD.out _)).mono (by omega) (by omega)⟩
        · have hcc2 : j + 1 < cw := by omega
          have hle : (j : Int) + 1 ≤ (cw : Int) := by omega
          clear hm0
          obtain ⟨hi, hz0, hz1, hz2⟩ := HIS.out
          go_wp2_with (at_builtin; refine wpList_append_any _ rfl _ _ 34 rfl w7.heap.size 9 i0 (.string ⟨#[]⟩) 1 16 Tryz.underlying34 hi hz0 hz1 hz2 rfl (by decide) (.slice A9 (j + 1) c9) (j + 1) ((Wd.take j ++ [Xn.data.toList]).map strV) rfl HT9.out.own w9.heap.size _ 0 _ (([] : List (List UInt8)).map strV) rfl reads_none (one_cells _) (by unfold maxLen; omega) (by omega) HSZ ?_)
          intro v' w10 hown' hgrow _
          obtain ⟨A10, c10, rfl, hTT⟩ := HT9.out.app (news := []) (m := 0) (by simpa using hown') hgrow
          have hTT2 : TxtIs w7 ((Wd.take j ++ [Xn.data.toList]) ++ Wd.drop (j + 1)) A10 ((j + 1) + 0) c10 w10 := by rw [HNIL.out]; exact hTT
          have HT10 := Lib.hid hTT2
          clear hTT hTT2 hown' hgrow hi hz0 hz1 hz2
          go_wp2_with fail
          go_meet
          exact ⟨A6, c6, k, _, A10, c10, j + 1 + 0, _, rfl, rfl, HT7.out.on HT10.out.b, HT10.out.reads, HFL.out.mono (by omega) (by omega), ((HF8.out.app HFX.out).app (HFD.out _)).mono (by omega) (by omega)⟩
      · have hr2 : nw - (j + 1) = r := by have := HRR.out; omega
        have hr3 : ¬ (nw : Int) < (j : Int) + 1 := by omega
        have hk5 : j + 1 < cw := by omega
        obtain ⟨hi, hz0, hz1, hz2⟩ := HIS.out
        have hr9 : r ≤ 400 := by have := HRR.out; omega
        go_wp2_with (at_builtin; refine wpList_append_any _ rfl _ _ 34 rfl w7.heap.size 9 i0 (.string ⟨#[]⟩) 1 16 Tryz.underlying34 hi hz0 hz1 hz2 rfl (by decide) (.slice A9 (j + 1) c9) (j + 1) ((Wd.take j ++ [Xn.data.toList]).map strV) rfl HT9.out.own _ _ r _ ((Wd.drop (j + 1)).map strV) rfl HRD.out (one_cells _) (by unfold maxLen; omega) (by omega) HSZ ?_)
        intro v' w10 hown' hgrow _
        obtain ⟨A10, c10, rfl, hTT⟩ := HT9.out.app (news := Wd.drop (j + 1)) (m := r) (by simpa using hown') hgrow
        have HT10 := Lib.hid hTT
        clear hTT hown' hgrow hi hz0 hz1 hz2
        go_wp2_with fail
        go_meet
        exact ⟨A6, c6, k, _, A10, c10, j + 1 + r, _, rfl, rfl, HT7.out.on HT10.out.b, HT10.out.reads, HFL.out.mono (by omega) (by omega), ((HF8.out.app HFX.out).app (HFD.out _)).mono (by omega) (by omega)⟩
    · by_cases h1 : how % 4 = 1
      · have e0 : (how % 4 == 0) = false := by simp [h1]
        have e1 : (how % 4 == 1) = true := by simp [h1]
        clear h0 h1 hw4
        have HNW := Lib.hid (reads_fresh w8 [.string Xn])
        obtain ⟨hi, hz0, hz1, hz2⟩ := HIS.out
        have HSZ8 := HT8.out.b.size
        go_wp2_with (at_builtin; refine wpList_append_any _ rfl _ _ 34 rfl w7.heap.size 9 i0 (.string ⟨#[]⟩) 1 16 Tryz.underlying34 hi hz0 hz1 hz2 rfl (by decide) (.slice A7 j c7) j ((Wd.take j).map strV) rfl (HT8.out.own.alloc _) _ _ 1 _ [.string Xn] rfl HNW.out (by simp [Value.oneCell']) (by unfold maxLen; omega) (by omega) (by have := HT8.out.b.size; simp; omega) ?_)
        intro v' w9 hown' hgrow _
        obtain ⟨A9, c9, rfl, hT9⟩ := HT8.out.add HXN.out.1 (by rw [List.map_take]; exact hown') hgrow
        have HT9 := Lib.hid hT9
        have HO9 := Lib.hid (HT7.out.on hT9.b)
        have HW9 := Lib.hid (show Reads w9 w9.heap.size 1 (some ⟨bw, offw, none⟩) nw (Wd.map strV) by
          have h1 := (HR6.out.2.below HT7.out.b).more HT7.out.b.size
          exact (h1.below hT9.b).more hT9.b.size)
        clear hT9 hown' hgrow hi hz0 hz1 hz2 HNW HT8 HW8 HO8
        obtain ⟨r, hr⟩ : ∃ r, nw = j + r := ⟨nw - j, by omega⟩
        have HRR := Lib.hid hr
        have HRD := Lib.hid (show Reads w9 w9.heap.size 1 (some ⟨bw, offw + j, none⟩) r ((Wd.drop j).map strV) by
          have h1 := HW9.out
          rw [hr] at h1
          have := reads_low h1
          rwa [← List.map_drop] at this)
        have HSZ := HT9.out.b.size
        have hn9 : (j + 1) ≤ 1000 := by omega
        clear hr
        have hr2 : nw - j = r := by have := HRR.out; omega
        have hr3 : ¬ (nw : Int) < (j : Int) := by omega
        have hk5 : j < cw := by omega
        obtain ⟨hi, hz0, hz1, hz2⟩ := HIS.out
        have hr9 : r ≤ 400 := by have := HRR.out; omega
        go_wp2_with (at_builtin; refine wpList_append_any _ rfl _ _ 34 rfl w7.heap.size 9 i0 (.string ⟨#[]⟩) 1 16 Tryz.underlying34 hi hz0 hz1 hz2 rfl (by decide) (.slice A9 (j + 1) c9) (j + 1) ((Wd.take j ++ [Xn.data.toList]).map strV) rfl HT9.out.own _ _ r _ ((Wd.drop j).map strV) rfl HRD.out (one_cells _) (by unfold maxLen; omega) (by omega) HSZ ?_)
        intro v' w10 hown' hgrow _
        obtain ⟨A10, c10, rfl, hTT⟩ := HT9.out.app (news := Wd.drop j) (m := r) (by simpa using hown') hgrow
        have HT10 := Lib.hid hTT
        clear hTT hown' hgrow hi hz0 hz1 hz2
        go_wp2_with fail
        go_meet
        exact ⟨A6, c6, k, _, A10, c10, j + 1 + r, _, rfl, rfl, HT7.out.on HT10.out.b, HT10.out.reads, HFL.out.mono (by omega) (by omega), ((HF8.out.app HFX.out).app (HFD.out _)).mono (by omega) (by omega)⟩
      · by_cases h2 : how % 4 = 2
        · have e0 : (how % 4 == 0) = false := by simp [h2]
          have e1 : (how % 4 == 1) = false := by simp [h2]
          have e2 : (how % 4 == 2) = true := by simp [h2]
          clear h0 h1 h2 hw4
          obtain ⟨r, hr⟩ : ∃ r, nw = j + 1 + r := ⟨nw - (j + 1), by omega⟩
          have HRR := Lib.hid hr
          have HRD := Lib.hid (show Reads w8 w8.heap.size 1 (some ⟨bw, offw + (j + 1), none⟩) r ((Wd.drop (j + 1)).map strV) by
            have h1 := HW8.out
            rw [hr] at h1
            have := reads_low h1
            rwa [← List.map_drop] at this)
          have HSZ := HT8.out.b.size
          have hlo : IntKind.i64.wrap ((j : Int) + 1) = (j : Int) + 1 := IntWalk.i64_in _ (by omega)
          have htn : ((j : Int) + 1).toNat = j + 1 := by omega
          have hlo0 : (0 : Int) ≤ (j : Int) + 1 := by omega
          have hn9 : j ≤ 1000 := by omega
          clear hr
          by_cases hm0 : j + 1 = nw
          · obtain rfl : r = 0 := by have := HRR.out; omega
            have HNIL := Lib.hid (show Wd.drop (j + 1) = [] from List.map_eq_nil_iff.1 (List.eq_nil_of_length_eq_zero HRD.out.1))
            have HM0 := Lib.hid hm0
            have hr2 : nw - (j + 1) = 0 := by omega
            have hr3 : ¬ (nw : Int) < (j : Int) + 1 := by omega
            by_cases hk4 : j + 1 = cw
            · clear hm0
              subst hk4
              obtain ⟨hi, hz0, hz1, hz2⟩ := HIS.out
              go_wp2_with (at_builtin; refine wpList_append_any _ rfl _ _ 34 rfl w7.heap.size 9 i0 (.string ⟨#[]⟩) 1 16 Tryz.underlying34 hi hz0 hz1 hz2 rfl (by decide) (.slice A7 j c7) j ((Wd.take j).map strV) rfl HT8.out.own w8.heap.size _ 0 _ (([] : List (List UInt8)).map strV) rfl reads_none (one_cells _) (by unfold maxLen; omega) (by omega) HSZ ?_)
              intro v' w10 hown' hgrow _
              obtain ⟨A10, c10, rfl, hTT⟩ := HT8.out.app (news := []) (m := 0) (by simpa using hown') hgrow
              have hTT2 : TxtIs w7 ((Wd.take j) ++ Wd.drop (j + 1)) A10 (j + 0) c10 w10 := by rw [HNIL.out]; exact hTT
              have HT10 := Lib.hid hTT2
              clear hTT hTT2 hown' hgrow hi hz0 hz1 hz2
              go_wp2_with fail
              go_meet
              exact ⟨A6, c6, k, _, A10, c10, j + 0, _, rfl, rfl, HT7.out.on HT10.out.b, HT10.out.reads, HFL.out.mono (by omega) (by omega), (HF8.out.app (HFD.out _)).mono (by omega) (by omega)⟩
            · have hcc2 : j + 1 < cw := by omega
              have hle : (j : Int) + 1 ≤ (cw : Int) := by omega
              clear hm0
              obtain ⟨hi, hz0, hz1, hz2⟩ := HIS.out
              go_wp2_with (at_builtin; refine wpList_append_any _ rfl _ _ 34 rfl w7.heap.size 9 i0 (.string ⟨#[]⟩) 1 16 Tryz.underlying34 hi hz0 hz1 hz2 rfl (by decide) (.slice A7 j c7) j ((Wd.take j).map strV) rfl HT8.out.own w8.heap.size _ 0 _ (([] : List (List UInt8)).map strV) rfl reads_none (one_cells _) (by unfold maxLen; omega) (by omega) HSZ ?_)
              intro v' w10 hown' hgrow _
              obtain ⟨A10, c10, rfl, hTT⟩ := HT8.out.app (news := []) (m := 0) (by simpa using hown') hgrow
              have hTT2 : TxtIs w7 ((Wd.take j) ++ Wd.drop (j + 1)) A10 (j + 0) c10 w10 := by rw [HNIL.out]; exact hTT
              have HT10 := Lib.hid hTT2
              clear hTT hTT2 hown' hgrow hi hz0 hz1 hz2
              go_wp2_with fail
              go_meet
              exact ⟨A6, c6, k, _, A10, c10, j + 0, _, rfl, rfl, HT7.out.on HT10.out.b, HT10.out.reads, HFL.out.mono (by omega) (by omega), (HF8.out.app (HFD.out _)).mono (by omega) (by omega)⟩
          · have hr2 : nw - (j + 1) = r := by have := HRR.out; omega
            have hr3 : ¬ (nw : Int) < (j : Int) + 1 := by omega
            have hk5 : j + 1 < cw := by omega
            obtain ⟨hi, hz0, hz1, hz2⟩ := HIS.out
            have hr9 : r ≤ 400 := by have := HRR.out; omega
            go_wp2_with (at_builtin; refine wpList_append_any _ rfl _ _ 34 rfl w7.heap.size 9 i0 (.string ⟨#[]⟩) 1 16 Tryz.underlying34 hi hz0 hz1 hz2 rfl (by decide) (.slice A7 j c7) j ((Wd.take j).map strV) rfl HT8.out.own _ _ r _ ((Wd.drop (j + 1)).map strV) rfl HRD.out (one_cells _) (by unfold maxLen; omega) (by omega) HSZ ?_)
            intro v' w10 hown' hgrow _
            obtain ⟨A10, c10, rfl, hTT⟩ := HT8.out.app (news := Wd.drop (j + 1)) (m := r) (by simpa using hown') hgrow
            have HT10 := Lib.hid hTT
            clear hTT hown' hgrow hi hz0 hz1 hz2
            go_wp2_with fail
            go_meet
            exact ⟨A6, c6, k, _, A10, c10, j + r, _, rfl, rfl, HT7.out.on HT10.out.b, HT10.out.reads, HFL.out.mono (by omega) (by omega), (HF8.out.app (HFD.out _)).mono (by omega) (by omega)⟩
        · have e0 : (how % 4 == 0) = false := by simp [h0]
          have e1 : (how % 4 == 1) = false := by simp [h1]
          have e2 : (how % 4 == 2) = false := by simp [h2]
          clear h0 h1 h2 hw4
          have HJ := Lib.hid (rJoin_in (some ⟨bw, offw, none⟩) nw cw w8.heap.size Wd ⟨#[32]⟩ w8 HW8.out (by omega) (join_hlim Wd 32 (fun x hx => by have := HW.out.2.2.1.l x hx; omega) (by have := HW.out.2.2.1.n; omega)))
          change Hid (Calls Tryz.prog 15 #[.slice (some ⟨bw, offw, none⟩) nw cw, .string ⟨#[32]⟩] w8 fun e w' => e = .returned (strV (Lib.join Wd [32])) ∧ ∃ q, w' = w8.drewN q) at HJ
          have hjl : (Lib.join Wd [32]).length ≤ 20000 := by have := HW.out.2.2.1.join 32; omega
          obtain ⟨J, hJ, hJl, -⟩ := str_of (Lib.join Wd [32])
          rw [hJ] at HJ
          have HJJ := Lib.hid hJ
          have HJL := Lib.hid hjl
          clear hJ hJl hjl
          go_wp2_with fail
          refine HJ.out.mono ?_
          rintro e wd ⟨rfl, q, hq⟩
          have HTd := Lib.hid (HO8.out.on (show Below w8.heap.size w8 wd by rw [hq]; exact below_drN w8 q))
          have HNW := Lib.hid (reads_fresh wd [.string J])
          clear hq HJ
          obtain ⟨hi, hz0, hz1, hz2⟩ := HIS.out
          have HSZ8 := HTd.out.b.size
          go_wp2_with (at_builtin; refine wpList_append_any _ rfl _ _ 34 rfl w6.heap.size 9 i0 (.string ⟨#[]⟩) 1 16 Tryz.underlying34 hi hz0 hz1 hz2 rfl (by decide) (.slice A6 k c6) k (((linesP p).take k).map strV) rfl (HTd.out.own.alloc _) _ _ 1 _ [.string J] rfl HNW.out (by simp [Value.oneCell']) (by unfold maxLen; omega) (by omega) (by have := HTd.out.b.size; simp; omega) ?_)
          intro v' w9 hown' hgrow _
          obtain ⟨A9, c9, rfl, hT9⟩ := HTd.out.add HJJ.out (by rw [List.map_take]; exact hown') hgrow
          have HT9 := Lib.hid hT9
          clear hT9 hown' hgrow hi hz0 hz1 hz2 HNW
          go_wp2_with fail
          go_meet
          exact ⟨A9, c9, k + 1, _, some ⟨bw, offw, none⟩, cw, nw, Wd, rfl, rfl, HT9.out, (HR6.out.2.below HT9.out.b).more HT9.out.b.size, (HFL.out.app (Fine.one HJL.out)).mono (by omega) (by omega), HW.out.2.2.1.mono (by omega) (by omega)⟩
  case rest =>
  obtain ⟨A8, c8, n8, L8, Av, cv, nv, Lv, rfl, rfl, hT8, hrv, hF8, hFv⟩ := hcut
  have hn8 : n8 ≤ 400 := by have := hT8.len; have := hF8.n; omega
  have hnv : nv ≤ 300 := by have h1 := hrv.1; rw [List.length_map] at h1; have := hFv.n; omega
  have HT8 := Lib.hid hT8
  have HF8 := Lib.hid hF8
  have HJ := Lib.hid (rJoin_in Av nv cv wc.heap.size Lv ⟨#[32]⟩ wc hrv (by omega) (join_hlim Lv 32 (fun x hx => by have := hFv.l x hx; omega) (by have := hFv.n; omega)))
  change Hid (Calls Tryz.prog 15 #[.slice Av nv cv, .string ⟨#[32]⟩] wc fun e w' => e = .returned (strV (Lib.join Lv [32])) ∧ ∃ q, w' = wc.drewN q) at HJ
  have hjl : (Lib.join Lv [32]).length ≤ 130000 := by have := hFv.join 32; omega
  obtain ⟨J, hJ, hJl, -⟩ := str_of (Lib.join Lv [32])
  rw [hJ] at HJ
  have HJJ := Lib.hid hJ
  have HJL := Lib.hid hjl
  clear hJ hJl hjl hT8 hF8 hFv hrv HT7
  go_wp2_with fail
  refine HJ.out.mono ?_
  rintro e wd ⟨rfl, q, hq⟩
  have HTd := Lib.hid (HT8.out.on (show Below wc.heap.size wc wd by rw [hq]; exact below_drN wc q))
  have HNW := Lib.hid (reads_fresh wd [.string J])
  clear hq HJ
  obtain ⟨hi, hz0, hz1, hz2⟩ := HIS.out
  have HSZ8 := HTd.out.b.size
  go_wp2_with (at_builtin; refine wpList_append_any _ rfl _ _ 34 rfl w6.heap.size 9 i0 (.string ⟨#[]⟩) 1 16 Tryz.underlying34 hi hz0 hz1 hz2 rfl (by decide) (.slice A8 n8 c8) n8 (L8.map strV) rfl (HTd.out.own.alloc _) _ _ 1 _ [.string J] rfl HNW.out (by simp [Value.oneCell']) (by unfold maxLen; omega) (by omega) (by have := HTd.out.b.size; simp; omega) ?_)
  intro v' w9 hown' hgrow _
  obtain ⟨A9, c9, rfl, hT9⟩ := HTd.out.add HJJ.out hown' hgrow
  have HT9 := Lib.hid hT9
  have HLC := HC2.out
  have HFLL := Lib.hid (show Fine 130000 ((linesP p).drop (k + 1)) 330 from ⟨fun x hx => by have := line_len p HF.out x (List.mem_of_mem_drop hx); omega, by rw [List.length_drop]; have := HL2.out.1; omega⟩)
  have HL9 := Lib.hid ((HR6.out.1.below HT9.out.b).more HT9.out.b.size)
  clear hT9 hown' hgrow hi hz0 hz1 hz2 HNW
  go_upto_region 25 with fail
  go_cut [20] from 111 to 116 (fun s wx => ∃ (A : Option Addr) (c n : Nat) (L : List (List UInt8)), s = .slice A n c ∧ TxtIs w6 L A n c wx ∧ Fine 130000 L 900)
  case first =>
    obtain ⟨r, hr⟩ : ∃ r, n2 = k + 1 + r := ⟨n2 - (k + 1), by omega⟩
    have HRR := Lib.hid hr
    have HRD := Lib.hid (show Reads w9 w9.heap.size 1 (some ⟨b2, off2 + (k + 1), none⟩) r (((linesP p).drop (k + 1)).map strV) by
      have h1 := HL9.out
      rw [hr] at h1
      have := reads_low h1
      rwa [← List.map_drop] at this)
    have HSZ := HT9.out.b.size
    have hlo : IntKind.i64.wrap ((k : Int) + 1) = (k : Int) + 1 := IntWalk.i64_in _ (by omega)
    have htn : ((k : Int) + 1).toNat = k + 1 := by omega
    have hlo0 : (0 : Int) ≤ (k : Int) + 1 := by omega
    have hn9 : (n8 + 1) ≤ 1000 := by omega
    clear hr
    by_cases hm0 : k + 1 = n2
    · obtain rfl : r = 0 := by have := HRR.out; omega
      have HNIL := Lib.hid (show (linesP p).drop (k + 1) = [] from List.map_eq_nil_iff.1 (List.eq_nil_of_length_eq_zero HRD.out.1))
      have HM0 := Lib.hid hm0
      have hr2 : n2 - (k + 1) = 0 := by omega
      have hr3 : ¬ (n2 : Int) < (k : Int) + 1 := by omega
      by_cases hk4 : k + 1 = c2
      · clear hm0
        subst hk4
        obtain ⟨hi, hz0, hz1, hz2⟩ := HIS.out
        go_wp2_with (at_builtin; refine wpList_append_any _ rfl _ _ 34 rfl w6.heap.size 9 i0 (.string ⟨#[]⟩) 1 16 Tryz.underlying34 hi hz0 hz1 hz2 rfl (by decide) (.slice A9 (n8 + 1) c9) (n8 + 1) ((L8 ++ [Lib.join Lv [32]]).map strV) rfl HT9.out.own w9.heap.size _ 0 _ (([] : List (List UInt8)).map strV) rfl reads_none (one_cells _) (by unfold maxLen; omega) (by omega) HSZ ?_)
        intro v' w10 hown' hgrow _
        obtain ⟨A10, c10, rfl, hTT⟩ := HT9.out.app (news := []) (m := 0) (by simpa using hown') hgrow
        have hTT2 : TxtIs w6 ((L8 ++ [Lib.join Lv [32]]) ++ (linesP p).drop (k + 1)) A10 ((n8 + 1) + 0) c10 w10 := by rw [HNIL.out]; exact hTT
        have HT10 := Lib.hid hTT2
        clear hTT hTT2 hown' hgrow hi hz0 hz1 hz2
        go_wp2_with fail
        go_meet
        exact ⟨A10, c10, n8 + 1 + 0, _, rfl, HT10.out, (((HF8.out.mono (show 20000 ≤ 130000 by decide) (Nat.le_refl _)).app (Fine.one HJL.out)).app HFLL.out).mono (by omega) (by omega)⟩
      · have hcc2 : k + 1 < c2 := by omega
        have hle : (k : Int) + 1 ≤ (c2 : Int) := by omega
        clear hm0
        obtain ⟨hi, hz0, hz1, hz2⟩ := HIS.out
        go_wp2_with (at_builtin; refine wpList_append_any _ rfl _ _ 34 rfl w6.heap.size 9 i0 (.string ⟨#[]⟩) 1 16 Tryz.underlying34 hi hz0 hz1 hz2 rfl (by decide) (.slice A9 (n8 + 1) c9) (n8 + 1) ((L8 ++ [Lib.join Lv [32]]).map strV) rfl HT9.out.own w9.heap.size _ 0 _ (([] : List (List UInt8)).map strV) rfl reads_none (one_cells _) (by unfold maxLen; omega) (by omega) HSZ ?_)
        intro v' w10 hown' hgrow _
        obtain ⟨A10, c10, rfl, hTT⟩ := HT9.out.app (news := []) (m := 0) (by simpa using hown') hgrow
        have hTT2 : TxtIs w6 ((L8 ++ [Lib.join Lv [32]]) ++ (linesP p).drop (k + 1)) A10 ((n8 + 1) + 0) c10 w10 := by rw [HNIL.out]; exact hTT
        have HT10 := Lib.hid hTT2
        clear hTT hTT2 hown' hgrow hi hz0 hz1 hz2
        go_wp2_with fail
        go_meet
        exact ⟨A10, c10, n8 + 1 + 0, _, rfl, HT10.out, (((HF8.out.mono (show 20000 ≤ 130000 by decide) (Nat.le_refl _)).app (Fine.one HJL.out)).app HFLL.out).mono (by omega) (by omega)⟩
    · have hr2 : n2 - (k + 1) = r := by have := HRR.out; omega
      have hr3 : ¬ (n2 : Int) < (k : Int) + 1 := by omega
      have hk5 : k + 1 < c2 := by omega
      obtain ⟨hi, hz0, hz1, hz2⟩ := HIS.out
      have hr9 : r ≤ 400 := by have := HRR.out; omega
      go_wp2_with (at_builtin; refine wpList_append_any _ rfl _ _ 34 rfl w6.heap.size 9 i0 (.string ⟨#[]⟩) 1 16 Tryz.underlying34 hi hz0 hz1 hz2 rfl (by decide) (.slice A9 (n8 + 1) c9) (n8 + 1) ((L8 ++ [Lib.join Lv [32]]).map strV) rfl HT9.out.own _ _ r _ (((linesP p).drop (k + 1)).map strV) rfl HRD.out (one_cells _) (by unfold maxLen; omega) (by omega) HSZ ?_)
      intro v' w10 hown' hgrow _
      obtain ⟨A10, c10, rfl, hTT⟩ := HT9.out.app (news := (linesP p).drop (k + 1)) (m := r) (by simpa using hown') hgrow
      have HT10 := Lib.hid hTT
      clear hTT hown' hgrow hi hz0 hz1 hz2
      go_wp2_with fail
      go_meet
      exact ⟨A10, c10, n8 + 1 + r, _, rfl, HT10.out, (((HF8.out.mono (show 20000 ≤ 130000 by decide) (Nat.le_refl _)).app (Fine.one HJL.out)).app HFLL.out).mono (by omega) (by omega)⟩
  case rest =>
  obtain ⟨Az, cz, nz, Lz, rfl, hTz, hFz⟩ := hcut
  have hnz9 : nz ≤ 900 := by have := hTz.len; have := hFz.n; omega
  have HB7 := Lib.hid (HB6.out.trans (hTz.b.mono HB6.out.size))
  have HJ := Lib.hid (rJoin_in Az nz cz wc.heap.size Lz ⟨#[10]⟩ wc hTz.reads (by omega) (join_hlim Lz 10 hFz.l (by have := hFz.n; omega)))
  change Hid (Calls Tryz.prog 15 #[.slice Az nz cz, .string ⟨#[10]⟩] wc fun e w' => e = .returned (strV (Lib.join Lz [10])) ∧ ∃ q, w' = wc.drewN q) at HJ
  obtain ⟨JJ, hJ, hJl, -⟩ := str_of (Lib.join Lz [10])
  rw [hJ] at HJ
  clear hJ hJl hTz hFz HT9 HJJ HJL HFLL HL9
  go_wp2_with fail
  refine HJ.out.mono ?_
  rintro e wd ⟨rfl, q, hq⟩
  have HB8 := Lib.hid (HB7.out.trans ((show Below wc.heap.size wc wd by rw [hq]; exact below_drN wc q).mono HB7.out.size))
  clear hq HJ
  go_wp2_with fail
  refine (parses_in JJ wd (HE.out.on HB8.out)).mono ?_
  rintro e w13 ⟨rfl, hb13⟩
  have HB13 := Lib.hid (HB8.out.trans (hb13.mono HB8.out.size))
  clear hb13
  go_wp2_with fail
  go_ret
  exact ⟨rfl, HB13.out⟩
end Go.Proofs.YtoagphighgejnaaGreatDoor
set_option linter.unusedSimpArgs false
set_option linter.unusedVariables false
namespace Go.Proofs.YtoagphighgejnaaGreatDoor
open Go.ChangeShapes Go.WideShapes Go.ChangeAt Go.RowKit
open Go.ChangeMaps (open_string shut_string)

set_option maxRecDepth 100000 in
theorem fileBent_lifted (os : Os) (started : os.Started) (H : Type) (enc : TypeId × Value → H) (F : Stop.Interp) :
    ReturnsInHanded {} Tryz.checked os 3 .any ((OpenSpec.ofChange Rows.fileBentSpec).preRow enc Tryz.prog Tryz.f3 Rows.fileBentRow.domain false Rows.fileBentRow.laid) (((OpenSpec.ofChange Rows.fileBentSpec).at F).post enc Tryz.prog Tryz.f3 false true false false) := by
  have hx : DataW.whole enc Tryz.prog ((World.laidAll Tryz.prog os laid7).forCall (fun _ _ => 0) ⟨#[], #[.slice none 0 0, .slice none 0 0, .slice none 0 0, .bool false, .int .u16 0, .int .u8 0], []⟩).memory Tryz.f3.params.toList Rows.fileBentSpec.vars false (#[.slice none 0 0, .slice none 0 0, .slice none 0 0, .bool false, .int .u16 0, .int .u8 0] : Array Value).toList 8 = some ([.nil, .nil, .nil, .lit (.bool false), .lit (.int .u16 0), .lit (.int .u8 0)], [], []) := by kernel_rfl
  refine returnsInHanded_of_row (C := Tryz.checked) (s := (OpenSpec.ofChange Rows.fileBentSpec)) own started (by kernel_rfl) Tryz.func3
    (witness7 (enc := enc) os #[.slice none 0 0, .slice none 0 0, .slice none 0 0, .bool false, .int .u16 0, .int .u8 0] (by kernel_rfl) (OpenSpec.preRow_of_cond 8 hx (by kernel_rfl) (fun k hk => by cases hk) (by kernel_rfl) (met7 os _))) ?_
  intro W base args ds gs before hval0 hW _ hcond hsz0 hL hSh _
  have hsz : (DataW.weightsEach Tryz.prog (Tryz.f3.params.toList ++ Rows.fileBentSpec.plain.varTypes Tryz.prog) (ds ++ gs)).all (· ≤ reachBytes) = true := hsz0
  clear hsz0
  have hval : ∀ (j : Nat) t v, Tryz.f3.params[j]? = some t → args[j]? = some v → Value.okWide Tryz.prog W .any base t v := hval0
  have hW' := hW
  have hlt : ∀ p ∈ before, p.block < W.heap.size := fun p hp => hW'.lt p hp
  obtain ⟨p, q, hA0, hV, rfl, _, _⟩ := hW
  have hA : DataW.TrodAll enc Tryz.prog W 0 (fun _ => true) true Tryz.f3.params.toList args.toList ds p := hA0
  rw [Tryz.params3] at hA hval hsz
  have hA1 := hA
  obtain ⟨v0, v1, v2, v3, v4, v5, d0, d1, d2, d3, d4, d5, p0, p1, p2, p3, p4, p5, rfl, rfl, rfl, h0, h1, h2, h3, h4, h5⟩ := trodAll_six hA
  obtain ⟨rfl, rfl⟩ := trodVars_none hV
  obtain ⟨A0, n0, c0, y0, rfl, r0, b0, k0⟩ := open_nums Tryz.underlying22 Tryz.underlying5 cells5 (hval 0 22 v0 rfl rfl) h0
  obtain ⟨A1, n1, c1, y1, rfl, r1, b1, k1⟩ := open_nums Tryz.underlying22 Tryz.underlying5 cells5 (hval 1 22 v1 rfl rfl) h1
  obtain ⟨A2, n2, c2, y2, rfl, r2, b2, k2⟩ := open_nums Tryz.underlying22 Tryz.underlying5 cells5 (hval 2 22 v2 rfl rfl) h2
  obtain ⟨x3, rfl, rfl, rfl⟩ := open_bool Tryz.underlying4 (hval 3 4 v3 rfl rfl) h3
  obtain ⟨x4, rfl, rfl, rfl, w4⟩ := open_int Tryz.underlying23 (hval 4 23 v4 rfl rfl) h4
  have l4 : 0 ≤ x4 ∧ x4 ≤ 65535 := by
    have m0 : IntKind.u16.min = 0 := rfl
    have m1 : IntKind.u16.max = 65535 := rfl
    have h : IntKind.u16.min ≤ x4 ∧ x4 ≤ IntKind.u16.max := by simpa [Lit.wf] using w4
    rwa [m0, m1] at h
  obtain ⟨x5, rfl, rfl, rfl, w5⟩ := open_int Tryz.underlying5 (hval 5 5 v5 rfl rfl) h5
  have l5 : 0 ≤ x5 ∧ x5 ≤ 255 := by
    have m0 : IntKind.u8.min = 0 := rfl
    have m1 : IntKind.u8.max = 255 := rfl
    have h : IntKind.u8.min ≤ x5 ∧ x5 ≤ IntKind.u8.max := by simpa [Lit.wf] using w5
    rwa [m0, m1] at h
  clear hA0 hval0
  simp only [List.append_nil] at hW' hlt
  have hE : Env W := env_of hL hSh
  refine (FileBent_in A0 A1 A2 n0 c0 n1 c1 n2 c2 y0 y1 y2 x3 x4 x5 W hE r0 (fun x hx => wf_u8 (b0 x hx)) r1 (fun x hx => wf_u8 (b1 x hx)) r2 (fun x hx => wf_u8 (b2 x hx)) k0 k1 k2 l4 l5).mono fun e W' ⟨he, hb⟩ => ?_
  subst he
  exact ⟨_, rfl, post_of_below (pa := _) (pv := []) hW' (fun _ _ _ => trodAll_mk1 (shut_bool Tryz.underlying4 true)) (fun sp hsp => trodAll_stay laidOut hb (by decide +kernel) hA1 (fun p hp => hlt p (by simpa using hp)) (fun p hp => hsp p (by simpa using hp))) (fun _ _ => rfl) (by simp) hb (ok_one (by kernel_rfl) rfl (okWide_bool_mk Tryz.underlying4 true))⟩

theorem fileBent_said : Rows.FileBentSaid :=
  OpenClaim.holds_of_cond 3 Tryz.f3 rfl rfl rfl rfl rfl rfl rfl ⟨rfl, rfl, rfl, rfl, rfl⟩ rfl rfl rfl rfl rfl (by kernel_rfl) Tryz.func3 (by kernel_rfl)
    (of_decide_eq_true (by kernel_rfl)) (by unfold Func.isWrapper; first | (rw [if_pos (by decide +kernel)]; kernel_rfl) | (rw [if_neg (by decide +kernel)]; exact ⟨rfl, rfl⟩))
    (fun os started H enc _ F => by rw [OpenClaim.pre_eq_preRow]; exact fileBent_lifted os started H enc F)

theorem fileBent_plain (f : FuncId) (fn : Func) (hf : Tryz.pinned.checked.prog.funcNamed "quittance/quittancelaw08.FileBent" = some f) (hfn : Tryz.pinned.checked.prog.funcs[f]? = some fn) :
    true = Tryz.pinned.checked.prog.looks [] ∧ ∀ (j : Nat) t, fn.params[j]? = some t → Tryz.pinned.checked.prog.wantsStandIn t = false := by
  obtain rfl : f = 3 := Option.some.inj ((show Tryz.prog.funcNamed "quittance/quittancelaw08.FileBent" = some 3 by kernel_rfl).symm.trans hf) |>.symm
  obtain rfl : fn = Tryz.f3 := (Option.some.inj (Tryz.func3.symm.trans hfn)).symm
  refine ⟨by kernel_rfl, fun j t ht => ?_⟩
  rw [Tryz.params3] at ht
  have hm : t ∈ [22, 22, 22, 4, 23, 5] := by simpa using Array.mem_of_getElem? ht
  have hall : ([22, 22, 22, 4, 23, 5].all fun u => !Tryz.prog.wantsStandIn u) = true := by kernel_rfl
  exact (show Tryz.prog.wantsStandIn t = false by simpa using List.all_eq_true.1 hall t hm)

theorem fileBent_card : Rows.FileBentCardSaid :=
  Claim7.holds_tied_plain_at .later [] _ _ _ _ fileBent_said (fun _ h => by cases h) (by kernel_rfl) (fun _ h => by cases h) fileBent_row_tie rfl ⟨rfl, rfl⟩ (by kernel_rfl) rfl fileBent_plain (by kernel_rfl)
end Go.Proofs.YtoagphighgejnaaGreatDoor
