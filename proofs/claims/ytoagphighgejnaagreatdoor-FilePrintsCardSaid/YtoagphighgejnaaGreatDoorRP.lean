/- The document's Print (9). Conditions: none. -/
import Derived.Test.YtoagphighgejnaaGreatDoorRB
import Derived.Deep.DeepCutAuto
import Derived.Deep.RegionLaw
set_option linter.unusedSimpArgs false
set_option linter.unusedVariables false
namespace Go.Proofs.YtoagphighgejnaaGreatDoor
open Go.RowKit Go.Shelf

set_option maxHeartbeats 6400000 in
set_option maxRecDepth 100000 in
theorem rprint_false (S A : Option Addr) (n c m d : Nat) (sup : List Int) (arcs : List ArcV) (ps pt : Int) (w : World) (hn : n = sup.length) (hm : m = arcs.length) (hc : n ≤ c) (hd : m ≤ d) (r : Reads w w.heap.size 1 S n (sup.map I)) (ra : Reads w w.heap.size 5 A m (arcCells arcs)) :
    Calls Tryz.prog 9 #[probV false S n c A m d ps pt] w (RPriTells ⟨false, sup, arcs, ps, pt⟩ w) := by
  have hb0 := (Below.refl w.heap.size w).alloc (Nat.le_refl _) (.cells #[.bool false, .slice S n c, .slice A m d, .int .i64 ps, .int .i64 pt] 31)
  have HFI := Lib.hid (rfits_in ⟨false, sup, arcs, ps, pt⟩ (probV false S n c A m d ps pt) (w.alloc (.cells #[.bool false, .slice S n c, .slice A m d, .int .i64 ps, .int .i64 pt] 31)) ⟨_, _, _, _, _, _, rfl, hn, hm, hc, hd, (r.below hb0).more hb0.size, (ra.below hb0).more hb0.size⟩)
  have HL := Lib.hid (And.intro hn hm)
  have HR := Lib.hid (And.intro ((r.below hb0).more hb0.size) ((ra.below hb0).more hb0.size))
  have HB := Lib.hid hb0
  have kb := Blk.new w 31 #[.bool false, .slice S n c, .slice A m d, .int .i64 ps, .int .i64 pt]
  obtain ⟨p0, p1, p2, p3, p4⟩ := blk5 kb
  have hlt := kb.lt
  have HKB := Lib.hid kb
  clear hn hm hc hd r ra hb0 kb
  unfold probV at HFI ⊢
  go_enter Tryz.func9, Tryz.ntmps9
  go_wp2_with fail
  generalize w.alloc (.cells #[.bool false, .slice S n c, .slice A m d, .int .i64 ps, .int .i64 pt] 31) = W0 at *
  refine HFI.out.mono ?_
  rintro e w1 ⟨bb, rfl, hbb, hb1⟩
  obtain ⟨z0, z1, z2, z3, z4⟩ := blk5 (HKB.out.below hb1 HKB.out.lt)
  have hlt1 : w.heap.size < w1.heap.size := by have := hb1.size; omega
  have HR1 := Lib.hid (And.intro ((HR.out.1.below hb1).more hb1.size) ((HR.out.2.below hb1).more hb1.size))
  have HBW := Lib.hid (HB.out.trans (hb1.mono HB.out.size))
  have Hbb := Lib.hid hbb
  clear hbb hb1 p0 p1 p2 p3 p4 hlt HFI HR HB HKB
  cases bb
  · have HNF := Lib.hid (show ¬ FitsF ⟨false, sup, arcs, ps, pt⟩ from fun h => by have := Hbb.out.2 h; cases this)
    clear Hbb
    go_wp2_with fail
    go_ret2
    exact ⟨[], 1, rfl, .inr ⟨HNF.out, rfl, rfl⟩, HBW.out⟩
  have HF := Lib.hid (Hbb.out.1 rfl)
  clear Hbb
  go_upto_region 6 with fail
  have HNM := Lib.hid (show n ≤ 64 ∧ m ≤ 256 by have h1 := HF.out.n64; have h2 := HF.out.m256; have := HL.out; simp only at h1 h2; omega)
  have hn_ : (n : Int) = (sup.length : Int) ∧ (m : Int) = (arcs.length : Int) := by have := HL.out; constructor <;> omega
  obtain ⟨Xn, hXn⟩ : ∃ X : ByteArray, strV (Lib.itoa (n : Int)) = .string X := ⟨_, rfl⟩
  obtain ⟨Xm, hXm⟩ : ∃ X : ByteArray, strV (Lib.itoa (m : Int)) = .string X := ⟨_, rfl⟩
  obtain ⟨LH, hLH⟩ : ∃ X : ByteArray, strV (lnW (headWs ⟨false, sup, arcs, ps, pt⟩) ++ [10]) = .string X := ⟨_, rfl⟩
  have QN := Lib.hid (fun k => Calls.quiet_of (n := k) (rText_in (n : Int) (by have := HNM.out; omega) (by have := HNM.out; omega) (w1.drewN k)))
  have QM := Lib.hid (fun k => Calls.quiet_of (n := k) (rText_in (m : Int) (by have := HNM.out; omega) (by have := HNM.out; omega) (w1.drewN k)))
  have HLN : Hid (∀ W, Blk W w1.heap.size 9 #[.string ⟨#[112]⟩, .string ⟨#[109, 105, 110]⟩, strV (Lib.itoa (n : Int)), strV (Lib.itoa (m : Int))] → Calls Tryz.prog 25 #[.slice (some ⟨w1.heap.size, 0, none⟩) 4 4] W fun e w' => e = .returned (strV (lnW (headWs ⟨false, sup, arcs, ps, pt⟩) ++ [10])) ∧ Below W.heap.size W w') := by
    rw [hn_.1, hn_.2]
    exact Lib.hid (fun W hk => pline_blk ⟨false, sup, arcs, ps, pt⟩ HF.out (headWs ⟨false, sup, arcs, ps, pt⟩) (head_mem _) w1.heap.size W hk)
  rw [hXn] at QN HLN
  rw [hXm] at QM HLN
  rw [hLH] at HLN
  have HLH := Lib.hid hLH
  clear hn_ hXn hXm hLH
  go_cut [5] from 14 to 26 (fun s wx => s = strV (txt (nodesR ⟨false, sup, arcs, ps, pt⟩ 0)) ∧ Below w1.heap.size w1 wx)
  case first =>
    refine wp_region_quiet_tail 11 (by kernel_rfl) (by kernel_rfl) ?_
    simp only [Nat.reduceSub, List.take_succ_cons, List.take_zero, List.drop_succ_cons, List.drop_zero]
    repeat (go_big_quiet_step ((first | (go_at_call 26; first | (with_reducible exact QN.out _) | (with_reducible exact QM.out _)))))
    refine wpQuiet_nil ?_
    rintro _ ⟨nq, rfl⟩
    go_wp2_with fail
    refine (HLN.out _ (by first | exact (Blk.new w1 9 _).drewN _ | exact Blk.new (w1.drewN nq) 9 _)).mono ?_
    rintro e w3 ⟨rfl, hb3⟩
    have HB3 := Lib.hid (show Below w1.heap.size w1 w3 by first | exact (below_ad w1 _ nq).trans (hb3.mono (by simp)) | exact (below_da w1 _ nq).trans (hb3.mono (by simp)))
    clear hb3
    go_wp2_with fail
    go_meet
    exact ⟨by rw [← HLH.out, ← nodesR_zero_min _ rfl], HB3.out⟩
  case rest =>
  obtain ⟨rfl, hcb⟩ := hcut
  have HBC := Lib.hid hcb
  have y0 := (hcb.cell (p := ⟨w.heap.size, 0, none⟩) hlt1).trans z0
  have y1 := (hcb.cell (p := ⟨w.heap.size, 1, none⟩) hlt1).trans z1
  have y2 := (hcb.cell (p := ⟨w.heap.size, 2, none⟩) hlt1).trans z2
  have y3 := (hcb.cell (p := ⟨w.heap.size, 3, none⟩) hlt1).trans z3
  have y4 := (hcb.cell (p := ⟨w.heap.size, 4, none⟩) hlt1).trans z4
  clear hcb QN QM HLN HLH
  go_wp2_with fail
  go_loopw [5, 6] (fun s i wr => ∃ k : Nat, k ≤ n ∧ i = .int .i64 k ∧ s = strV (txt (nodesR ⟨false, sup, arcs, ps, pt⟩ k)) ∧ Hid (Below w1.heap.size w1 wr)) (fun _ i _ => n - (intOf i).toNat)
  case atStart => exact ⟨0, Nat.zero_le _, rfl, rfl, HBC⟩
  case round =>
    clear y0 y1 y2 y3 y4 HBC
    obtain ⟨k, hk, rfl, rfl, HBr⟩ := hrel
    have y0 := (HBr.out.cell (p := ⟨w.heap.size, 0, none⟩) hlt1).trans z0
    have y1 := (HBr.out.cell (p := ⟨w.heap.size, 1, none⟩) hlt1).trans z1
    have y2 := (HBr.out.cell (p := ⟨w.heap.size, 2, none⟩) hlt1).trans z2
    have HSZ := Lib.hid HBr.out.size
    by_cases hkn : k < n
    · obtain ⟨x, hx⟩ : ∃ x, sup[k]? = some x := ⟨_, List.getElem?_eq_getElem (by have := HL.out.1; omega)⟩
      obtain ⟨b, off, u, rfl, hb, hx', hc⟩ := (HR1.out.1.below HBr.out).at_ hkn
      rw [List.getElem?_map, hx] at hx'
      cases hx'
      unfold I at hc
      have hk1 : IntKind.i64.wrap ((k : Int) + 1) = (k : Int) + 1 := IntWalk.i64_in _ (by have := HNM.out; omega)
      have hkn2 : (k : Int) < (n : Int) := by omega
      have HXB := Lib.hid (HF.out.sup x (List.mem_of_getElem? hx))
      have HG := Lib.hid (getD_at hx)
      clear hx
      obtain ⟨T, hT⟩ : ∃ T : ByteArray, strV (txt (nodesR ⟨false, sup, arcs, ps, pt⟩ k)) = .string T := ⟨_, rfl⟩
      rw [hT]
      have hTs : T.size ≤ 60000 := by rw [str_size hT]; exact nodesR_small ⟨false, sup, arcs, ps, pt⟩ HF.out (by have := HL.out.1; simp only; omega)
      have HT := Lib.hid hT
      clear hT
      by_cases hx0 : x = 0
      · have hxb : (x != 0) = false := by simp [hx0]
        have HX0 := Lib.hid hx0
        clear hx0
        go_wp2_with fail
        go_roundw
        case rel => exact ⟨k + 1, by omega, by go_num, by rw [← HT.out, nodesR_skip _ _ (by rw [show (⟨false, sup, arcs, ps, pt⟩ : ProbV).sup = sup from rfl, HG.out]; exact HX0.out)], HBr⟩
        case measure => simp [intOf]; omega
      · have hxb : (x != 0) = true := by simp [hx0]
        have HX0 := Lib.hid hx0
        clear hx0
        have HNZ := Lib.hid (show (⟨false, sup, arcs, ps, pt⟩ : ProbV).sup.getD k 0 ≠ 0 by rw [show (⟨false, sup, arcs, ps, pt⟩ : ProbV).sup = sup from rfl, HG.out]; exact HX0.out)
        have HMEM := Lib.hid (node_mem ⟨false, sup, arcs, ps, pt⟩ (show k < sup.length by have := HL.out.1; omega) HNZ.out)
        obtain ⟨X1, hX1⟩ : ∃ X : ByteArray, strV (Lib.itoa ((k : Int) + 1)) = .string X := ⟨_, rfl⟩
        obtain ⟨X2, hX2⟩ : ∃ X : ByteArray, strV (Lib.itoa x) = .string X := ⟨_, rfl⟩
        obtain ⟨LN, hLN⟩ : ∃ X : ByteArray, strV (lnW (nodeWs sup k) ++ [10]) = .string X := ⟨_, rfl⟩
        have QA := Lib.hid (fun j => Calls.quiet_of (n := j) (one_in (k : Int) (by omega) (by have := HNM.out; omega) (wr.drewN j)))
        have QB := Lib.hid (fun j => Calls.quiet_of (n := j) (rText_in x (by have := HXB.out; omega) (by have := HXB.out; omega) (wr.drewN j)))
        have HLN : Hid (∀ W, Blk W wr.heap.size 9 #[.string ⟨#[110]⟩, strV (Lib.itoa ((k : Int) + 1)), strV (Lib.itoa x)] → Calls Tryz.prog 25 #[.slice (some ⟨wr.heap.size, 0, none⟩) 3 3] W fun e w' => e = .returned (strV (lnW (nodeWs sup k) ++ [10])) ∧ Below W.heap.size W w') := by
          rw [← HG.out]
          exact Lib.hid (fun W hk => pline_blk ⟨false, sup, arcs, ps, pt⟩ HF.out (nodeWs sup k) HMEM.out wr.heap.size W hk)
        rw [hX1] at QA HLN
        rw [hX2] at QB HLN
        rw [hLN] at HLN
        have hLs : ¬ 9223372036854775807 < T.size + LN.size := by
          have h1 := ln_small ⟨false, sup, arcs, ps, pt⟩ HF.out _ HMEM.out
          have h2 := str_size hLN
          rw [List.length_append] at h2
          simp only [List.length_singleton] at h2
          simp only at h1
          omega
        have HSUM := Lib.hid (str_app HT.out hLN)
        clear hX1 hX2 hLN hTs
        go_upto_region 13 with fail
        refine wp_region_move_quiet_tail (.tmp 5) 10 (by kernel_rfl) rfl rfl (by kernel_rfl) (fun _ _ _ h => h) ?_
        simp only [Nat.reduceSub, List.take_succ_cons, List.take_zero, List.drop_succ_cons, List.drop_zero]
        repeat (go_big_quiet_step ((first | (go_at_call 27; (with_reducible exact QA.out _)) | (go_at_call 26; (with_reducible exact QB.out _)))))
        refine wpQuiet_nil ?_
        rintro _ ⟨nq, rfl⟩
        go_wp2_with fail
        refine (HLN.out _ (by first | exact (Blk.new wr 9 _).drewN _ | exact Blk.new (wr.drewN nq) 9 _)).mono ?_
        rintro e w3 ⟨rfl, hb3⟩
        have HB3 := Lib.hid (show Below wr.heap.size wr w3 by first | exact (below_ad wr _ nq).trans (hb3.mono (by simp)) | exact (below_da wr _ nq).trans (hb3.mono (by simp)))
        have HN3 := Lib.hid (HBr.out.trans (HB3.out.mono HSZ.out))
        clear hb3 y0 y1 y2 hc QA QB HLN
        go_wp2_with fail
        clear hLs
        go_roundw
        case rel => exact ⟨k + 1, by omega, by go_num, by rw [nodesR_succ _ _ HNZ.out]; exact HSUM.out, HN3⟩
        case measure => simp [intOf]; omega
    · obtain rfl : k = n := by omega
      have HTA := Lib.hid (show strV (txt (nodesR ⟨false, sup, arcs, ps, pt⟩ k)) = strV (txt (arcsT ⟨false, sup, arcs, ps, pt⟩ 0)) by rw [HL.out.1, ← arcsT_zero_ref ⟨false, sup, arcs, ps, pt⟩ HF.out])
      rw [HTA.out]
      go_wp2_with fail
      go_loopw [5, 7] (fun s i wr => ∃ j : Nat, j ≤ m ∧ i = .int .i64 j ∧ s = strV (txt (arcsT ⟨false, sup, arcs, ps, pt⟩ j)) ∧ Hid (Below w1.heap.size w1 wr)) (fun _ i _ => m - (intOf i).toNat)
      case atStart => exact ⟨0, Nat.zero_le _, rfl, rfl, HBr⟩
      case round =>
        clear y0 y1 y2 HBr HSZ
        obtain ⟨j, hj, rfl, rfl, HBr⟩ := hrel
        have HSZ := Lib.hid HBr.out.size
        have y2 := (HBr.out.cell (p := ⟨w.heap.size, 2, none⟩) hlt1).trans z2
        by_cases hjm : j < m
        · obtain ⟨a, ha⟩ : ∃ a, arcs[j]? = some a := ⟨_, List.getElem?_eq_getElem (by have := HL.out.2; omega)⟩
          obtain ⟨b, off, rfl, hb, x0, x1, x2, x3, x4⟩ := (HR1.out.2.below HBr.out).arc ha
          have HM := Lib.hid (List.mem_of_getElem? ha)
          have HAS := Lib.hid (arcsT_succ ⟨false, sup, arcs, ps, pt⟩ j a ha)
          have HAOK := Lib.hid (HF.out.arcs a HM.out)
          have HAM := Lib.hid (arc_mem ⟨false, sup, arcs, ps, pt⟩ (a := a) HM.out)
          obtain ⟨af, at_, lo, cap, cost⟩ := a
          simp only at x0 x1 x2 x3 x4
          have HAB : Hid ((0 ≤ af ∧ af ≤ 64) ∧ (0 ≤ at_ ∧ at_ ≤ 64) ∧ (0 ≤ lo ∧ lo ≤ 2147483648) ∧ (-9223372036854775808 ≤ cap ∧ cap ≤ 9223372036854775807) ∧ -2147483648 ≤ cost ∧ cost ≤ 2147483648) := Lib.hid (by
            have h1 := HAOK.out.f; have h2 := HAOK.out.t; have h3 := HAOK.out.lo; have h4 := HAOK.out.cap; have h5 := HAOK.out.cost; have h6 := HF.out.n64
            simp only [infC] at h1 h2 h3 h4 h5 h6
            refine ⟨by omega, by omega, by omega, ?_, by omega⟩
            rcases h4 with h4 | h4 <;> omega)
          have hk1 : IntKind.i64.wrap ((j : Int) + 1) = (j : Int) + 1 := IntWalk.i64_in _ (by have := HNM.out; omega)
          have hjm2 : (j : Int) < (m : Int) := by omega
          have hbx := HBr.out.alloc (o := .cells #[.int .i64 af, .int .i64 at_, .int .i64 lo, .int .i64 cap, .int .i64 cost] 42) HSZ.out
          have HBX := Lib.hid hbx
          obtain ⟨v0, v1, v2, v3, v4⟩ := blk5 (Blk.new wr 42 #[.int .i64 af, .int .i64 at_, .int .i64 lo, .int .i64 cap, .int .i64 cost])
          have s0 := (hbx.cell (p := ⟨w.heap.size, 0, none⟩) hlt1).trans z0
          obtain ⟨T, hT⟩ : ∃ T : ByteArray, strV (txt (arcsT ⟨false, sup, arcs, ps, pt⟩ j)) = .string T := ⟨_, rfl⟩
          rw [hT]
          have hTs : T.size ≤ 60000 := by rw [str_size hT]; exact arcsT_small ⟨false, sup, arcs, ps, pt⟩ HF.out j
          have HT := Lib.hid hT
          clear ha hb hbx hT
          go_upto_region 20 with fail
          generalize wr.alloc (.cells #[.int .i64 af, .int .i64 at_, .int .i64 lo, .int .i64 cap, .int .i64 cost] 42) = W2 at *
          clear x0 x1 x2 x3 x4 s0 y2
          obtain ⟨XA, hXA⟩ : ∃ X : ByteArray, strV (Lib.itoa (af + 1)) = .string X := ⟨_, rfl⟩
          obtain ⟨XB, hXB⟩ : ∃ X : ByteArray, strV (Lib.itoa (at_ + 1)) = .string X := ⟨_, rfl⟩
          obtain ⟨XC, hXC⟩ : ∃ X : ByteArray, strV (capW cap) = .string X := ⟨_, rfl⟩
          obtain ⟨LN, hLN⟩ : ∃ X : ByteArray, strV (lnW (arcWs false ⟨af, at_, lo, cap, cost⟩) ++ [10]) = .string X := ⟨_, rfl⟩
          have QA := Lib.hid (fun j => Calls.quiet_of (n := j) (one_in af (by have := HAB.out; omega) (by have := HAB.out; omega) (W2.drewN j)))
          have QB := Lib.hid (fun j => Calls.quiet_of (n := j) (one_in at_ (by have := HAB.out; omega) (by have := HAB.out; omega) (W2.drewN j)))
          have QC := Lib.hid (fun j => Calls.quiet_of (n := j) (cap_in cap (by have := HAB.out; omega) (by have := HAB.out; omega) (W2.drewN j)))
          rw [hXA] at QA
          rw [hXB] at QB
          rw [hXC] at QC
          obtain ⟨XL, hXL⟩ : ∃ X : ByteArray, strV (Lib.itoa lo) = .string X := ⟨_, rfl⟩
          obtain ⟨XK, hXK⟩ : ∃ X : ByteArray, strV (Lib.itoa cost) = .string X := ⟨_, rfl⟩
          have QL := Lib.hid (fun j => Calls.quiet_of (n := j) (rText_in lo (by have := HAB.out; omega) (by have := HAB.out; omega) (W2.drewN j)))
          have QK := Lib.hid (fun j => Calls.quiet_of (n := j) (rText_in cost (by have := HAB.out; omega) (by have := HAB.out; omega) (W2.drewN j)))
          rw [hXL] at QL
          rw [hXK] at QK
          have HLN : Hid (∀ W, Blk W W2.heap.size 9 #[.string ⟨#[97]⟩, strV (Lib.itoa (af + 1)), strV (Lib.itoa (at_ + 1)), strV (Lib.itoa lo), strV (capW cap), strV (Lib.itoa cost)] → Calls Tryz.prog 25 #[.slice (some ⟨W2.heap.size, 0, none⟩) 6 6] W fun e w' => e = .returned (strV (lnW (arcWs false ⟨af, at_, lo, cap, cost⟩) ++ [10])) ∧ Below W.heap.size W w') :=
            Lib.hid (fun W hk => pline_blk ⟨false, sup, arcs, ps, pt⟩ HF.out (arcWs false ⟨af, at_, lo, cap, cost⟩) HAM.out W2.heap.size W hk)
          rw [hXA, hXB, hXC, hXL, hXK, hLN] at HLN
          clear hXL hXK
          have hLs : ¬ 9223372036854775807 < T.size + LN.size := by
            have h1 := ln_small ⟨false, sup, arcs, ps, pt⟩ HF.out _ HAM.out
            have h2 := str_size hLN
            rw [List.length_append] at h2
            simp only [List.length_singleton] at h2
            (try simp only at h1)
            omega
          have HSUM := Lib.hid (str_app HT.out hLN)
          clear hXA hXB hXC hLN hTs
          refine wp_region_move_quiet_tail (.tmp 5) 16 (by kernel_rfl) rfl rfl (by kernel_rfl) (fun _ _ _ h => h) ?_
          simp only [Nat.reduceSub, List.take_succ_cons, List.take_zero, List.drop_succ_cons, List.drop_zero]
          repeat (go_big_quiet_step ((first | (go_at_call 27; first | (with_reducible exact QA.out _) | (with_reducible exact QB.out _)) | (go_at_call 26; first | (with_reducible exact QL.out _) | (with_reducible exact QK.out _)) | (go_at_call 28; (with_reducible exact QC.out _)))))
          refine wpQuiet_nil ?_
          rintro _ ⟨nq, rfl⟩
          go_wp2_with fail
          refine (HLN.out _ (by first | exact (Blk.new W2 9 _).drewN _ | exact Blk.new (W2.drewN nq) 9 _)).mono ?_
          rintro e w3 ⟨rfl, hb3⟩
          have HB3 := Lib.hid (show Below W2.heap.size W2 w3 by first | exact (below_ad W2 _ nq).trans (hb3.mono (by simp)) | exact (below_da W2 _ nq).trans (hb3.mono (by simp)))
          have HN3 := Lib.hid (HBX.out.trans (HB3.out.mono HBX.out.size))
          clear hb3 v0 v1 v2 v3 v4 QA QB QC HLN
          go_wp2_with fail
          clear hLs
          go_roundw
          case rel => exact ⟨j + 1, by omega, by go_num, by rw [HAS.out]; exact HSUM.out, HN3⟩
          case measure => simp [intOf]; omega
        · obtain rfl : j = m := by omega
          have HTX := Lib.hid (show txt (arcsT ⟨false, sup, arcs, ps, pt⟩ j) = textP ⟨false, sup, arcs, ps, pt⟩ by rw [← arcsT_all, HL.out.2])
          have HB9 := Lib.hid (HBW.out.trans (HBr.out.mono HBW.out.size))
          go_wp2_with fail
          go_ret2
          exact ⟨txt (arcsT ⟨false, sup, arcs, ps, pt⟩ j), 0, rfl, .inl ⟨HF.out, HTX.out, rfl⟩, HB9.out⟩
end Go.Proofs.YtoagphighgejnaaGreatDoor
