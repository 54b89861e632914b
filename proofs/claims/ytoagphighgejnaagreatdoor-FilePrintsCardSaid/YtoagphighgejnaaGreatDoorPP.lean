/- A problem's file: Print (19). Conditions: none. -/
import Derived.Test.YtoagphighgejnaaGreatDoorPD
import Derived.Deep.DeepCutAuto
set_option linter.unusedSimpArgs false
set_option linter.unusedVariables false
namespace Go.Proofs.YtoagphighgejnaaGreatDoor
open Go.RowKit Go.Shelf


set_option maxHeartbeats 6400000 in
set_option maxRecDepth 100000 in
theorem print_false (S A : Option Addr) (n c m d : Nat) (sup : List Int) (arcs : List ArcV) (ps pt : Int) (w : World) (hn : n = sup.length) (hm : m = arcs.length) (hc : n ≤ c) (hd : m ≤ d) (r : Reads w w.heap.size 1 S n (sup.map I)) (ra : Reads w w.heap.size 5 A m (arcCells arcs)) (hE : Env w) :
    Calls Tryz.prog 19 #[probV false S n c A m d ps pt] w (PriTells ⟨false, sup, arcs, ps, pt⟩ w) := by
  have hb0 := (Below.refl w.heap.size w).alloc (Nat.le_refl _) (.cells #[.bool false, .slice S n c, .slice A m d, .int .i64 ps, .int .i64 pt] 31)
  have HFI := Lib.hid (fits_in ⟨false, sup, arcs, ps, pt⟩ (probV false S n c A m d ps pt) (w.alloc (.cells #[.bool false, .slice S n c, .slice A m d, .int .i64 ps, .int .i64 pt] 31)) ⟨_, _, _, _, _, _, rfl, hn, hm, hc, hd, (r.below hb0).more hb0.size, (ra.below hb0).more hb0.size⟩)
  have HL := Lib.hid (And.intro hn hm)
  have HR := Lib.hid (And.intro ((r.below hb0).more hb0.size) ((ra.below hb0).more hb0.size))
  have HB := Lib.hid hb0
  have HE := Lib.hid hE
  have kb := Blk.new w 31 #[.bool false, .slice S n c, .slice A m d, .int .i64 ps, .int .i64 pt]
  obtain ⟨p0, p1, p2, p3, p4⟩ := blk5 kb
  have hlt := kb.lt
  have HKB := Lib.hid kb
  clear hn hm hc hd r ra hb0 kb hE
  unfold probV at HFI ⊢
  go_enter Tryz.func19, Tryz.ntmps19
  go_wp2_with fail
  generalize w.alloc (.cells #[.bool false, .slice S n c, .slice A m d, .int .i64 ps, .int .i64 pt] 31) = W0 at *
  refine HFI.out.mono ?_
  rintro e w1 ⟨bb, rfl, hbb, hb1⟩
  obtain ⟨q0, q1, q2, q3, q4⟩ := blk5 (HKB.out.below hb1 HKB.out.lt)
  have hlt1 : w.heap.size < w1.heap.size := by have := hb1.size; omega
  have HR1 := Lib.hid (And.intro ((HR.out.1.below hb1).more hb1.size) ((HR.out.2.below hb1).more hb1.size))
  have HBW := Lib.hid (HB.out.trans (hb1.mono HB.out.size))
  have HE1 := Lib.hid (HE.out.on HBW.out)
  have Hbb := Lib.hid hbb
  clear hbb hb1 p0 p1 p2 p3 p4 hlt HFI HR HB HKB HE
  cases bb
  · have HNF := Lib.hid (show ¬ FitsF ⟨false, sup, arcs, ps, pt⟩ from fun h => by have := Hbb.out.2 h; cases this)
    clear Hbb
    go_wp2_with fail
    go_ret2
    exact ⟨[], 1, rfl, .inr ⟨HNF.out, rfl, rfl⟩, HBW.out⟩
  have HF := Lib.hid (Hbb.out.1 rfl)
  clear Hbb
  go_upto_region 7 with fail
  have hbp := (Below.refl w1.heap.size w1).alloc (Nat.le_refl _) (.cells #[.pointer none, .slice none 0 0] 67)
  have HPG := Lib.hid (page_new w1)
  have HRP := Lib.hid (And.intro (HR1.out.1.below hbp) (HR1.out.2.below hbp))
  have z0 := (hbp.cell (p := ⟨w.heap.size, 0, none⟩) hlt1).trans q0
  have z1 := (hbp.cell (p := ⟨w.heap.size, 1, none⟩) hlt1).trans q1
  have z2 := (hbp.cell (p := ⟨w.heap.size, 2, none⟩) hlt1).trans q2
  have z3 := (hbp.cell (p := ⟨w.heap.size, 3, none⟩) hlt1).trans q3
  have z4 := (hbp.cell (p := ⟨w.heap.size, 4, none⟩) hlt1).trans q4
  have HBP := Lib.hid hbp
  have HEP := Lib.hid (HE1.out.on hbp)
  have HBWP := Lib.hid (HBW.out.trans (hbp.mono HBW.out.size))
  have h8 := HE1.out.size
  clear hbp q0 q1 q2 q3 q4 HE1 HR1
  generalize hWP : w1.alloc (.cells #[.pointer none, .slice none 0 0] 67) = WP at *
  have hwp : w1.heap.size < WP.heap.size := by rw [← hWP]; simp
  clear hWP
  generalize hpb : w1.heap.size = pb at *
  have HN := Lib.hid (fun (x : Int) (h0 : -4294967296 ≤ x) (h1 : x ≤ 4294967296) W (hb : Below WP.heap.size WP W) => number_in x (by omega) (by omega) W (HEP.out.on hb))
  have hn64 := HF.out.n64
  have hm256 := HF.out.m256
  have hpbs := hwp
  have HLN := Lib.hid (fun W (hb : Below WP.heap.size WP W) => line_new pb pb [] (headWs ⟨false, sup, arcs, ps, pt⟩) WP W HPG.out hb (by simp [headWs]) (by have := ln_small ⟨false, sup, arcs, ps, pt⟩ HF.out _ (head_mem _); omega) (by simp) (by omega))
  have hn_ : (n : Int) = (sup.length : Int) ∧ (m : Int) = (arcs.length : Int) := by have := HL.out; constructor <;> omega
  have HNn := Lib.hid (fun W hb => HN.out (n : Int) (by omega) (by have := HL.out; simp only at hn64; omega) W hb)
  have HNm := Lib.hid (fun W hb => HN.out (m : Int) (by omega) (by have := HL.out; simp only at hm256; omega) W hb)
  have HLN2 : Hid (∀ W, Below WP.heap.size WP W → Calls Tryz.prog 33 #[.pointer (some ⟨pb, 0, none⟩), .slice (some ⟨W.heap.size, 0, none⟩) 4 4] (W.alloc (.cells #[.string ⟨#[112]⟩, .string ⟨#[109, 105, 110]⟩, strV (Lib.itoa (n : Int)), strV (Lib.itoa (m : Int))] 9)) fun e w' => e = .returned (.tuple #[]) ∧ PageUsed pb pb (Lib.byteCells (txt (nodesT ⟨false, sup, arcs, ps, pt⟩ 0))) w' ∧ Below pb WP w') := by
    rw [hn_.1, hn_.2, nodesT_zero]
    exact HLN.out
  obtain ⟨Xn, hXn⟩ : ∃ X : ByteArray, strV (Lib.itoa (n : Int)) = .string X := ⟨_, rfl⟩
  obtain ⟨Xm, hXm⟩ : ∃ X : ByteArray, strV (Lib.itoa (m : Int)) = .string X := ⟨_, rfl⟩
  rw [hXn] at HNn HLN2
  rw [hXm] at HNm HLN2
  clear HLN hn_ hn64 hm256 hXn hXm
  go_cut [31] from 18 to 31 (fun s wx => PageAt pb pb (txt (nodesT ⟨false, sup, arcs, ps, pt⟩ 0)) WP wx)
  case first =>
    have hT := (Below.refl WP.heap.size WP).drew
    have hwl : w.heap.size < WP.heap.size := by omega
    go_region_law (first
      | (go_simp; go_at_call 34; first
          | ((with_reducible refine (HNn.out _ hT).mono ?_); rintro e wb ⟨rfl, hbb⟩; replace hT := hT.trans (hbb.mono hT.size); clear hbb; have y1 := (hT.cell (p := ⟨w.heap.size, 1, none⟩) hwl).trans z1; have y2 := (hT.cell (p := ⟨w.heap.size, 2, none⟩) hwl).trans z2)
          | ((with_reducible refine (HNm.out _ hT).mono ?_); rintro e wb ⟨rfl, hbb⟩; replace hT := hT.trans (hbb.mono hT.size); clear hbb; have y1 := (hT.cell (p := ⟨w.heap.size, 1, none⟩) hwl).trans z1; have y2 := (hT.cell (p := ⟨w.heap.size, 2, none⟩) hwl).trans z2))
      | (go_simp; go_at_call 33; refine (HLN2.out _ hT).mono ?_; rintro e w3 ⟨rfl, hp3, hb3⟩))
    all_goals
      go_wp2_with fail
      go_meet
      exact ⟨.inr hp3, hb3, by omega⟩
  case rest =>
  clear HNn HNm HLN2 HN HPG HBP
  have HP0 := Lib.hid hcut
  clear hcut
  have H8 := Lib.hid h8
  clear h8
  obtain ⟨i0, hi, hz0, hz1, hz2⟩ := info_parts infoStr
  have HI := Lib.hid (And.intro hi (And.intro hz0 (And.intro hz1 hz2)))
  clear hi hz0 hz1 hz2
  have y1 := (HP0.out.b.cell (p := ⟨w.heap.size, 1, none⟩) hlt1).trans z1
  go_wp2_with fail
  clear y1
  go_loopw [36] (fun i wr => ∃ k : Nat, k ≤ n ∧ i = .int .i64 k ∧ Hid (PageAt pb pb (txt (nodesT ⟨false, sup, arcs, ps, pt⟩ k)) WP wr)) (fun i _ => n - (intOf i).toNat)
  case atStart => exact ⟨0, Nat.zero_le _, rfl, HP0⟩
  case round =>
    obtain ⟨k, hk, rfl, HP⟩ := hrel
    have y0 := (HP.out.b.cell (p := ⟨w.heap.size, 0, none⟩) hlt1).trans z0
    have y2 := (HP.out.b.cell (p := ⟨w.heap.size, 2, none⟩) hlt1).trans z2
    have y3 := (HP.out.b.cell (p := ⟨w.heap.size, 3, none⟩) hlt1).trans z3
    have y4 := (HP.out.b.cell (p := ⟨w.heap.size, 4, none⟩) hlt1).trans z4
    have HEr := Lib.hid (HEP.out.below HP.out.b H8.out)
    have HSZ := Lib.hid (show pb ≤ wr.heap.size from Nat.le_trans HP.out.h HP.out.b.size)
    by_cases hkn : k < n
    · obtain ⟨x, hx⟩ : ∃ x, sup[k]? = some x := ⟨_, List.getElem?_eq_getElem (by have := HL.out.1; omega)⟩
      obtain ⟨b, off, u, rfl, hb, hx', hc⟩ := (HRP.out.1.below HP.out.b).at_ hkn
      rw [List.getElem?_map, hx] at hx'
      cases hx'
      unfold I at hc
      have HK := Lib.hid (show k ≤ 64 by have := HF.out.n64; have := HL.out.1; simp only at *; omega)
      have hk1 : IntKind.i64.wrap ((k : Int) + 1) = (k : Int) + 1 := IntWalk.i64_in _ (by have := HK.out; omega)
      have HXB := Lib.hid (HF.out.sup x (List.mem_of_getElem? hx))
      have HG := Lib.hid (getD_at hx)
      clear hx
      by_cases hx0 : x = 0
      · have hxb : (x != 0) = false := by simp [hx0]
        have HX0 := Lib.hid hx0
        clear hx0
        go_wp2_with fail
        go_roundw
        case rel => exact ⟨k + 1, by omega, by go_num, Lib.hid (by rw [nodesT_skip _ _ (by rw [show (⟨false, sup, arcs, ps, pt⟩ : ProbV).sup = sup from rfl, HG.out]; exact HX0.out)]; exact HP.out)⟩
        case measure => simp [intOf]; omega
      · have hxb : (x != 0) = true := by simp [hx0]
        have HX0 := Lib.hid hx0
        clear hx0
        go_wp2_with fail
        refine (number_in ((k : Int) + 1) (by have := HK.out; omega) (by have := HK.out; omega) wr HEr.out).mono ?_
        rintro e wa ⟨rfl, hba⟩
        obtain ⟨X1, hX1⟩ : ∃ X : ByteArray, strV (Lib.itoa ((k : Int) + 1)) = .string X := ⟨_, rfl⟩
        rw [hX1]
        have HBA := Lib.hid hba
        clear hba
        go_wp2_with fail
        refine (Text_in x (by have := HXB.out; omega) (by have := HXB.out; omega) wa (HEr.out.on HBA.out)).mono ?_
        rintro e wb ⟨rfl, hbb⟩
        have HBB := Lib.hid (HBA.out.trans (hbb.mono HBA.out.size))
        clear hbb
        obtain ⟨X2, hX2⟩ : ∃ X : ByteArray, strV (Lib.itoa x) = .string X := ⟨_, rfl⟩
        rw [show Value.string ⟨(Lib.itoa x).toArray⟩ = .string X2 from hX2]
        have HLN : Calls Tryz.prog 33 #[.pointer (some ⟨pb, 0, none⟩), .slice (some ⟨wb.heap.size, 0, none⟩) 3 3] (wb.alloc (.cells #[.string ⟨#[110]⟩, strV (Lib.itoa ((k : Int) + 1)), strV (Lib.itoa x)] 9)) fun e w' => e = .returned (.tuple #[]) ∧ PageUsed pb pb (Lib.byteCells (txt (nodesT ⟨false, sup, arcs, ps, pt⟩ (k + 1)))) w' ∧ Below pb wr w' := by
          have h0 : (⟨false, sup, arcs, ps, pt⟩ : ProbV).sup.getD k 0 ≠ 0 := by rw [show (⟨false, sup, arcs, ps, pt⟩ : ProbV).sup = sup from rfl, HG.out]; exact HX0.out
          have hm := node_mem ⟨false, sup, arcs, ps, pt⟩ (show k < sup.length by have := HL.out.1; omega) h0
          have := line_new pb pb (txt (nodesT ⟨false, sup, arcs, ps, pt⟩ k)) (nodeWs sup k) wr wb HP.out.p HBB.out (by simp [nodeWs]) (by have := ln_small ⟨false, sup, arcs, ps, pt⟩ HF.out _ hm; simp only at this; omega) (by have := nodesT_small ⟨false, sup, arcs, ps, pt⟩ HF.out (k := k) (by have := HL.out.1; simp only; omega); omega) HSZ.out
          rw [nodesT_succ _ _ h0]
          unfold nodeWs at this ⊢
          rw [HG.out] at this
          simp only [HG.out]
          exact this
        rw [hX1, hX2] at HLN
        have HLN2 := Lib.hid HLN
        clear HLN hX1 hX2
        go_wp2_with fail
        refine HLN2.out.mono ?_
        rintro e w3 ⟨rfl, hp3, hb3⟩
        have HN3 := Lib.hid (show PageAt pb pb (txt (nodesT ⟨false, sup, arcs, ps, pt⟩ (k + 1))) WP w3 from ⟨.inr hp3, HP.out.b.trans hb3, HP.out.h⟩)
        clear hp3 hb3 y0 y2 y3 y4 hc
        go_wp2_with fail
        go_roundw
        case rel => exact ⟨k + 1, by omega, by go_num, HN3⟩
        case measure => simp [intOf]; omega
    · obtain rfl : k = n := by omega
      have HPE := Lib.hid (show PageAt pb pb (txt (nodesT ⟨false, sup, arcs, ps, pt⟩ sup.length)) WP wr from HL.out.1 ▸ HP.out)
      clear HP
      have HPA := Lib.hid (show PageAt pb pb (txt (arcsT ⟨false, sup, arcs, ps, pt⟩ 0)) WP wr from arcsT_zero_min ⟨false, sup, arcs, ps, pt⟩ rfl ▸ HPE.out)
      go_wp2_with fail
      clear y3 y4 z3 z4
      go_loopw [72] (fun i wr => ∃ k : Nat, k ≤ m ∧ i = .int .i64 k ∧ Hid (PageAt pb pb (txt (arcsT ⟨false, sup, arcs, ps, pt⟩ k)) WP wr)) (fun i _ => m - (intOf i).toNat)
      case atStart => exact ⟨0, Nat.zero_le _, rfl, HPA⟩
      case round =>
        clear y0 y2 HPA HEr HSZ
        obtain ⟨k2, hk2, rfl, HP⟩ := hrel
        have HEr := Lib.hid (HEP.out.below HP.out.b H8.out)
        have HSZ := Lib.hid (Nat.le_trans HP.out.h HP.out.b.size)
        by_cases hkm : k2 < m
        · obtain ⟨a, ha⟩ : ∃ a, arcs[k2]? = some a := ⟨_, List.getElem?_eq_getElem (by have := HL.out.2; omega)⟩
          obtain ⟨b, off, rfl, hb, x0, x1, x2, x3, x4⟩ := (HRP.out.2.below HP.out.b).arc ha
          have HM := Lib.hid (List.mem_of_getElem? ha)
          have HAS := Lib.hid (arcsT_succ ⟨false, sup, arcs, ps, pt⟩ k2 a ha)
          have HK := Lib.hid (show k2 ≤ 256 by have := HF.out.m256; have := HL.out.2; simp only at *; omega)
          have HAOK := Lib.hid (HF.out.arcs a HM.out)
          have HAM := Lib.hid (arc_mem ⟨false, sup, arcs, ps, pt⟩ (a := a) HM.out)
          obtain ⟨af, at_, lo, cap, cost⟩ := a
          simp only at x0 x1 x2 x3 x4
          have HAB : Hid ((0 ≤ af ∧ af ≤ 64) ∧ (0 ≤ at_ ∧ at_ ≤ 64) ∧ (0 ≤ lo ∧ lo ≤ 2147483648) ∧ (-9223372036854775808 ≤ cap ∧ cap ≤ 9223372036854775807) ∧ -2147483648 ≤ cost ∧ cost ≤ 2147483648) := Lib.hid (by
            have h1 := HAOK.out.f; have h2 := HAOK.out.t; have h3 := HAOK.out.lo; have h4 := HAOK.out.cap; have h5 := HAOK.out.cost; have h6 := HF.out.n64
            simp only [infC] at h1 h2 h3 h4 h5 h6
            refine ⟨by omega, by omega, by omega, ?_, by omega⟩
            rcases h4 with h4 | h4 <;> omega)
          have hk1 : IntKind.i64.wrap ((k2 : Int) + 1) = (k2 : Int) + 1 := IntWalk.i64_in _ (by have := HK.out; omega)
          have haf : IntKind.i64.wrap (af + 1) = af + 1 := IntWalk.i64_in _ (by have := HAB.out; omega)
          have hat : IntKind.i64.wrap (at_ + 1) = at_ + 1 := IntWalk.i64_in _ (by have := HAB.out; omega)
          have hbx := HP.out.b.alloc (o := .cells #[.int .i64 af, .int .i64 at_, .int .i64 lo, .int .i64 cap, .int .i64 cost] 42) HSZ.out
          have HPX := Lib.hid (page_below HP.out.p ((Below.refl wr.heap.size wr).alloc (Nat.le_refl _) (.cells #[.int .i64 af, .int .i64 at_, .int .i64 lo, .int .i64 cap, .int .i64 cost] 42)))
          have HBX := Lib.hid hbx
          have HEX := Lib.hid (HEP.out.below hbx H8.out)
          obtain ⟨v0, v1, v2, v3, v4⟩ := blk5 (Blk.new wr 42 #[.int .i64 af, .int .i64 at_, .int .i64 lo, .int .i64 cap, .int .i64 cost])
          have hab : wr.heap.size < (wr.alloc (.cells #[.int .i64 af, .int .i64 at_, .int .i64 lo, .int .i64 cap, .int .i64 cost] 42)).heap.size := by simp
          have HTL := Lib.hid (arcsT_small ⟨false, sup, arcs, ps, pt⟩ HF.out k2)
          clear ha hb hbx
          go_upto_region 20 with fail
          generalize wr.alloc (.cells #[.int .i64 af, .int .i64 at_, .int .i64 lo, .int .i64 cap, .int .i64 cost] 42) = W2 at *
          generalize wr.heap.size = ab at *
          clear x0 x1 x2 x3 x4
          have hw2 : w.heap.size < W2.heap.size := by have := HSZ.out; omega
          have y0 := (HBX.out.cell (p := ⟨w.heap.size, 0, none⟩) hlt1).trans z0
          obtain ⟨XA, hXA⟩ : ∃ X : ByteArray, strV (Lib.itoa (af + 1)) = .string X := ⟨_, rfl⟩
          obtain ⟨XB, hXB⟩ : ∃ X : ByteArray, strV (Lib.itoa (at_ + 1)) = .string X := ⟨_, rfl⟩
          have HNA := Lib.hid (fun W (hb : Below W2.heap.size W2 W) => number_in (af + 1) (by have := HAB.out; omega) (by have := HAB.out; omega) W (HEX.out.on hb))
          have HNB := Lib.hid (fun W (hb : Below W2.heap.size W2 W) => number_in (at_ + 1) (by have := HAB.out; omega) (by have := HAB.out; omega) W (HEX.out.on hb))
          rw [hXA] at HNA
          rw [hXB] at HNB
          have HW3 : Hid (([[97], Lib.itoa (af + 1), Lib.itoa (at_ + 1)] : List (List UInt8)).map strV = [.string ⟨#[97]⟩, .string XA, .string XB]) := Lib.hid (by rw [← hXA, ← hXB]; rfl)
          clear hXA hXB
          go_cut [10] from 76 to 84 (fun s wx => RowIs W2.heap.size W2 [[97], Lib.itoa (af + 1), Lib.itoa (at_ + 1)] s wx)
          case first =>
            have hT := (Below.refl W2.heap.size W2).drew
            go_region_law (first
              | (go_simp; go_at_call 34; first
                  | ((with_reducible refine (HNA.out _ hT).mono ?_); rintro e wb ⟨rfl, hbb⟩; replace hT := hT.trans (hbb.mono hT.size); clear hbb; have x0 := (hT.cell (p := ⟨ab, 0, none⟩) hab).trans v0; have x1 := (hT.cell (p := ⟨ab, 1, none⟩) hab).trans v1)
                  | ((with_reducible refine (HNB.out _ hT).mono ?_); rintro e wb ⟨rfl, hbb⟩; replace hT := hT.trans (hbb.mono hT.size); clear hbb; have x0 := (hT.cell (p := ⟨ab, 0, none⟩) hab).trans v0; have x1 := (hT.cell (p := ⟨ab, 1, none⟩) hab).trans v1)))
            all_goals
              go_wp2_with fail
              go_meet
              refine ⟨?_, hT.alloc hT.size _⟩
              rw [HW3.out]
              exact own_fresh _ W2.heap.size hT.size [.string ⟨#[97]⟩, .string XA, .string XB] (by simp)
          case rest =>
          obtain ⟨A1, c1, rfl⟩ := own_form hcut.own
          have HC := Lib.hid hcut
          clear hcut HNA HNB HW3
          have t0 := (HC.out.b.cell (p := ⟨w.heap.size, 0, none⟩) hw2).trans y0
          obtain ⟨i0, hi, hz0, hz1, hz2⟩ := info_parts infoStr
          have HIS := Lib.hid (And.intro hi (And.intro hz0 (And.intro hz1 hz2)))
          clear hi hz0 hz1 hz2
          go_upto_region 23 with fail
          have HEC := Lib.hid (HEX.out.on HC.out.b)
          have habc : ab < wc.heap.size := by have := HC.out.b.size; omega
          have r2 := (HC.out.b.cell (p := ⟨ab, 2, none⟩) hab).trans v2
          have r3 := (HC.out.b.cell (p := ⟨ab, 3, none⟩) hab).trans v3
          have r4 := (HC.out.b.cell (p := ⟨ab, 4, none⟩) hab).trans v4
          obtain ⟨XL, hXL⟩ : ∃ X : ByteArray, strV (Lib.itoa lo) = .string X := ⟨_, rfl⟩
          obtain ⟨XC, hXC⟩ : ∃ X : ByteArray, strV (capW cap) = .string X := ⟨_, rfl⟩
          obtain ⟨XK, hXK⟩ : ∃ X : ByteArray, strV (Lib.itoa cost) = .string X := ⟨_, rfl⟩
          have HNL : Hid (∀ W, Below wc.heap.size wc W → Calls Tryz.prog 35 #[.int .i64 lo] W fun e w' => e = .returned (strV (Lib.itoa lo)) ∧ Below W.heap.size W w') := Lib.hid (fun W hb => Text_in lo (by have := HAB.out; omega) (by have := HAB.out; omega) W (HEC.out.on hb))
          have HNK : Hid (∀ W, Below wc.heap.size wc W → Calls Tryz.prog 35 #[.int .i64 cost] W fun e w' => e = .returned (strV (Lib.itoa cost)) ∧ Below W.heap.size W w') := Lib.hid (fun W hb => Text_in cost (by have := HAB.out; omega) (by have := HAB.out; omega) W (HEC.out.on hb))
          have HNC := Lib.hid (fun W (hb : Below wc.heap.size wc W) => bound_in cap (by have := HAB.out; omega) (by have := HAB.out; omega) W (HEC.out.on hb))
          rw [hXL] at HNL
          rw [hXK] at HNK
          rw [hXC] at HNC
          have HW6 : Hid (([[97], Lib.itoa (af + 1), Lib.itoa (at_ + 1)] : List (List UInt8)).map strV ++ [.string XL, .string XC, .string XK] = (arcWs false ⟨af, at_, lo, cap, cost⟩).map strV) := Lib.hid (by rw [← hXL, ← hXC, ← hXK]; rfl)
          clear hXL hXC hXK
          obtain ⟨hi, hz0, hz1, hz2⟩ := HIS.out
          go_cut [10] from 93 to 104 (fun s wx => RowIs W2.heap.size W2 (arcWs false ⟨af, at_, lo, cap, cost⟩) s wx)
          case first =>
            have hT := (Below.refl wc.heap.size wc).drew
            go_region_law (first
              | (go_simp; go_at_call 35; first
                  | ((with_reducible refine (HNL.out _ hT).mono ?_); rintro e wb ⟨rfl, hbb⟩; replace hT := hT.trans (hbb.mono hT.size); clear hbb; have x2 := (hT.cell (p := ⟨ab, 2, none⟩) habc).trans r2; have x3 := (hT.cell (p := ⟨ab, 3, none⟩) habc).trans r3; have x4 := (hT.cell (p := ⟨ab, 4, none⟩) habc).trans r4)
                  | ((with_reducible refine (HNK.out _ hT).mono ?_); rintro e wb ⟨rfl, hbb⟩; replace hT := hT.trans (hbb.mono hT.size); clear hbb; have x2 := (hT.cell (p := ⟨ab, 2, none⟩) habc).trans r2; have x3 := (hT.cell (p := ⟨ab, 3, none⟩) habc).trans r3; have x4 := (hT.cell (p := ⟨ab, 4, none⟩) habc).trans r4))
              | (go_simp; go_at_call 36; (with_reducible refine (HNC.out _ hT).mono ?_); rintro e wb ⟨rfl, hbb⟩; replace hT := hT.trans (hbb.mono hT.size); clear hbb; have x2 := (hT.cell (p := ⟨ab, 2, none⟩) habc).trans r2; have x3 := (hT.cell (p := ⟨ab, 3, none⟩) habc).trans r3; have x4 := (hT.cell (p := ⟨ab, 4, none⟩) habc).trans r4)
              | (refine step_append_any _ (by rfl) (.tmp 93) (.tmp 103) 34 (by rfl) W2.heap.size 9 i0 (.string ⟨#[]⟩) 1 16 Tryz.underlying34 hi hz0 hz1 hz2 rfl (by decide) (.slice A1 3 c1) 3 (([[97], Lib.itoa (af + 1), Lib.itoa (at_ + 1)] : List (List UInt8)).map strV) (by rfl) ((own_below HC.out.own hT).alloc _) _ (some ⟨wb.heap.size, 0, none⟩) 3 3 [.string XL, .string XC, .string XK] (by rfl) (reads_fresh wb [.string XL, .string XC, .string XK]) (by simp [Value.oneCell']) (by unfold maxLen; omega) (by omega) (by have h1 := hT.size; have h2 := HC.out.b.size; simp; omega) ?_; intro v' w5 hown5 hgrow5 hat5; obtain ⟨A5, c5, rfl⟩ := own_form hown5))
            all_goals
              go_wp2_with fail
              go_meet
              refine ⟨by rw [← HW6.out]; exact hown5, ?_⟩
              exact ((HC.out.b.trans (hT.mono HC.out.b.size)).alloc (by have h1 := hT.size; have h2 := HC.out.b.size; omega) _).grown hgrow5 (by have h1 := hT.size; have h2 := HC.out.b.size; simp; omega) (fun g hg => (HC.out.own.lt g hg).1)
          case rest =>
          obtain ⟨A2, c2, rfl⟩ := own_form hcut.own
          have HR2 := Lib.hid hcut
          clear hcut HNL HNK HNC HW6 r2 r3 r4 v0 v1 v2 v3 v4 t0 y0
          go_wp2_with fail
          refine (line_own pb pb W2.heap.size (txt (arcsT ⟨false, sup, arcs, ps, pt⟩ k2)) A2 _ c2 (arcWs false ⟨af, at_, lo, cap, cost⟩) W2 _ HPX.out HR2.out.b HR2.out.own (by simp [arcWs]) (by have := ln_small ⟨false, sup, arcs, ps, pt⟩ HF.out _ HAM.out; (try simp only at this); omega) (by have := HTL.out; omega) (by have := HSZ.out; omega)).mono ?_
          rintro e w9 ⟨rfl, hp3, hb3⟩
          have HN3 := Lib.hid (show PageAt pb pb (txt (arcsT ⟨false, sup, arcs, ps, pt⟩ (k2 + 1))) WP w9 from ⟨.inr (by rw [HAS.out]; exact hp3), HBX.out.trans hb3, HP.out.h⟩)
          clear hp3 hb3
          go_wp2_with fail
          go_roundw
          case rel => exact ⟨k2 + 1, by omega, by go_num, HN3⟩
          case measure => simp [intOf]; omega
        · obtain rfl : k2 = m := by omega
          have HPT := Lib.hid (page_text pb pb (txt (arcsT ⟨false, sup, arcs, ps, pt⟩ k2)) wr HP.out.p (txt_ne _ _))
          go_wp2_with fail
          refine HPT.out.mono ?_
          rintro e w9 ⟨rfl, hb9⟩
          have HB9 := Lib.hid (HBWP.out.trans ((HP.out.b.trans hb9).mono (by omega)))
          have HTX := Lib.hid (show txt (arcsT ⟨false, sup, arcs, ps, pt⟩ k2) = textP ⟨false, sup, arcs, ps, pt⟩ by rw [← arcsT_all, HL.out.2])
          clear hb9
          go_wp2_with fail
          go_ret2
          exact ⟨txt (arcsT ⟨false, sup, arcs, ps, pt⟩ k2), 0, rfl, .inl ⟨HF.out, HTX.out, rfl⟩, HB9.out⟩
end Go.Proofs.YtoagphighgejnaaGreatDoor
