/- The document's answer: arc (33). Conditions: none. -/
import Derived.Test.YtoagphighgejnaaGreatDoorV4
import Derived.BigQuiet
import Derived.Test.YtoagphighgejnaaGreatDoorJ11
set_option linter.unusedSimpArgs false
set_option linter.unusedVariables false
namespace Go.Proofs.YtoagphighgejnaaGreatDoor
open Go.RowKit Go.Shelf

set_option maxRecDepth 100000 in
set_option maxHeartbeats 3200000 in
theorem rarc_len_true (B : Nat) (r : RdV) (S A H : Option Addr) (n c m c2 n3 c3 wb wo cc nn : Nat) (ws : List (List UInt8)) (w : World) (hS : RefS B w r S A H n c m c2 n3 c3) (hm : r.max = true) (hl : ¬ nn = 4) (hn : nn = ws.length) (hB : B ≤ w.heap.size) :
    Calls Tryz.prog 66 #[refV r 0 S A H n c m c2 n3 c3, .slice (some ⟨wb, wo, none⟩) nn cc] w (RTells B w (arcE r ws)) := by
  obtain ⟨q, HE⟩ : ∃ q, QIs q (arcE r ws) := ⟨_, rfl⟩
  rw [← HE]
  have hq : q = (10, r) := by
    have h : q = arcE r ws := HE
    rw [h]; subst hn
    unfold arcE; rw [hm]; simp only [Bool.false_eq_true, ↓reduceIte]
    unfold arcMaxE; split
    · exact absurd rfl hl
    · rfl
  have HQ := Lib.hid (show QIs q (10, r) from hq)
  have hl' : ¬ (nn : Int) = 4 := by omega
  have HBAD := Lib.hid (fun (k : Int) (w' : World) (hq : q = (k, r)) (hk : Kept (Bs B w) w w') (hS : RefS B w' r S A H n c m c2 n3 c3) => show RTells B w q (.returned (refV r k S A H n c m c2 n3 c3)) w' from ⟨hk, S, A, H, n, c, m, c2, n3, c3, by rw [hq], by rw [hq]; exact hS⟩)
  unfold refV at HBAD ⊢
  obtain ⟨b1, hb1⟩ : ∃ b, b = r.max := ⟨_, rfl⟩
  obtain ⟨b2, hb2⟩ : ∃ b, b = r.begun := ⟨_, rfl⟩
  obtain ⟨b3, hb3⟩ : ∃ b, b = decide (¬ r.arcs = []) := ⟨_, rfl⟩
  obtain ⟨b4, hb4⟩ : ∃ b, b = r.es.isSome := ⟨_, rfl⟩
  obtain ⟨b5, hb5⟩ : ∃ b, b = r.et.isSome := ⟨_, rfl⟩
  obtain ⟨i1, hi1⟩ : ∃ b, b = r.es.getD 0 := ⟨_, rfl⟩
  obtain ⟨i2, hi2⟩ : ∃ b, b = r.et.getD 0 := ⟨_, rfl⟩
  obtain ⟨i3, hi3⟩ : ∃ b, b = r.many := ⟨_, rfl⟩
  obtain ⟨i4, hi4⟩ : ∃ b : Int, b = r.sup.length := ⟨_, rfl⟩
  rw [← hb1, ← hb2, ← hb3, ← hb4, ← hb5, ← hi1, ← hi2, ← hi3, ← hi4] at HBAD ⊢
  have HPT := Lib.hid (And.intro hb1 (And.intro hb2 (And.intro hb3 (And.intro hb4 (And.intro hb5 (And.intro hi1 (And.intro hi2 (And.intro hi3 hi4))))))))
  have hI0 := Blk.new w 88 (pC b1 b2 b3 b4 b5 i1 i2 i3 i4 0 S A H n c m c2 n3 c3)
  have hI1 := hI0.alloc (.cells #[.bool false, .slice none 0 0, .slice none 0 0, .int .i64 0, .int .i64 0, .bool false, .int .i64 0, .int .i64 0, .bool false, .slice none 0 0, .bool false, .bool false, .int .i64 0] 88)
  have hZ1 := Blk.new (w.alloc (.cells (pC b1 b2 b3 b4 b5 i1 i2 i3 i4 0 S A H n c m c2 n3 c3) 88)) 88 #[.bool false, .slice none 0 0, .slice none 0 0, .int .i64 0, .int .i64 0, .bool false, .int .i64 0, .int .i64 0, .bool false, .slice none 0 0, .bool false, .bool false, .int .i64 0]
  have hbI : Below w.heap.size w ((w.alloc (.cells (pC b1 b2 b3 b4 b5 i1 i2 i3 i4 0 S A H n c m c2 n3 c3) 88)).alloc (.cells #[.bool false, .slice none 0 0, .slice none 0 0, .int .i64 0, .int .i64 0, .bool false, .int .i64 0, .int .i64 0, .bool false, .slice none 0 0, .bool false, .bool false, .int .i64 0] 88)) := ((Below.refl _ w).alloc (Nat.le_refl _) _).alloc (by simp) _
  simp only [World.size_alloc] at hZ1
  unfold pC at HBAD hI1 hZ1 hbI ⊢
  have HI := Lib.hid (And.intro hI1 (And.intro hZ1 hbI))
  clear hb1 hb2 hb3 hb4 hb5 hi1 hi2 hi3 hi4 hI0 hI1 hZ1 hbI
  obtain rfl : b1 = true := HPT.out.1.trans hm
  have HS := Lib.hid hS
  clear hS hl hn hq hm
  go_enter Tryz.func66, Tryz.ntmps66
  go_wp2_with fail
  generalize (w.alloc (.cells #[.bool true, .slice S n c, .slice A m c2, .int .i64 i1, .int .i64 i2, .bool b2, .int .i64 i4, .int .i64 i3, .bool b3, .slice H n3 c3, .bool b4, .bool b5, .int .i64 0] 88)).alloc (.cells #[.bool false, .slice none 0 0, .slice none 0 0, .int .i64 0, .int .i64 0, .bool false, .int .i64 0, .int .i64 0, .bool false, .slice none 0 0, .bool false, .bool false, .int .i64 0] 88) = W0 at *
  refine (fail_any true b2 b3 b4 b5 i1 i2 i3 i4 10 S A H n c m c2 n3 c3 _).mono ?_
  rintro e wf ⟨rfl, hbf⟩
  have hzf := HI.out.2.1.below hbf HI.out.2.1.lt
  have hbw := HI.out.2.2.trans (hbf.mono HI.out.2.2.size)
  obtain ⟨z0, z1, z2, z3, z4, z5, z6, z7, z8, z9, z10, z11, z12⟩ := cells13 hzf
  obtain ⟨f0, f1, f2, f3, f4, f5, f6, f7, f8, f9, f10, f11, f12⟩ := frozen13 hzf
  have lz := hzf.lt
  have HZ := Lib.hid (And.intro hzf hbw)
  clear hzf hbw hbf
  unfold pC
  go_wp2_with fail
  refine ret13 (fn := Tryz.f66) rfl rfl rfl (HZ.out.1.put13 (.bool true) (.slice S n c) (.slice A m c2) (.int .i64 i1) (.int .i64 i2) (.bool b2) (.int .i64 i4) (.int .i64 i3) (.bool b3) (.slice H n3 c3) (.bool b4) (.bool b5) (.int .i64 10)) (HBAD.out 10 _ HQ.out ((Kept.of_below HZ.out.2 (Bs B w)).put13 (.bool true) (.slice S n c) (.slice A m c2) (.int .i64 i1) (.int .i64 i2) (.bool b2) (.int .i64 i4) (.int .i64 i3) (.bool b3) (.slice H n3 c3) (.bool b4) (.bool b5) (.int .i64 10) (fun h => absurd h (by omega))) ?_)
  exact (HS.out.on HZ.out.2).far13_ HZ.out.1 (.bool true) (.slice S n c) (.slice A m c2) (.int .i64 i1) (.int .i64 i2) (.bool b2) (.int .i64 i4) (.int .i64 i3) (.bool b3) (.slice H n3 c3) (.bool b4) (.bool b5) (.int .i64 10)
set_option maxRecDepth 100000 in
set_option maxHeartbeats 3200000 in
theorem rarc_len_false (B : Nat) (r : RdV) (S A H : Option Addr) (n c m c2 n3 c3 wb wo cc nn : Nat) (ws : List (List UInt8)) (w : World) (hS : RefS B w r S A H n c m c2 n3 c3) (hm : r.max = false) (hl : ¬ nn = 6) (hn : nn = ws.length) (hB : B ≤ w.heap.size) :
    Calls Tryz.prog 66 #[refV r 0 S A H n c m c2 n3 c3, .slice (some ⟨wb, wo, none⟩) nn cc] w (RTells B w (arcE r ws)) := by
  obtain ⟨q, HE⟩ : ∃ q, QIs q (arcE r ws) := ⟨_, rfl⟩
  rw [← HE]
  have hq : q = (10, r) := by
    have h : q = arcE r ws := HE
    rw [h]; subst hn
    unfold arcE; rw [hm]; simp only [Bool.false_eq_true, ↓reduceIte]
    unfold arcMinE; split
    · exact absurd rfl hl
    · rfl
  have HQ := Lib.hid (show QIs q (10, r) from hq)
  have hl' : ¬ (nn : Int) = 6 := by omega
  have HBAD := Lib.hid (fun (k : Int) (w' : World) (hq : q = (k, r)) (hk : Kept (Bs B w) w w') (hS : RefS B w' r S A H n c m c2 n3 c3) => show RTells B w q (.returned (refV r k S A H n c m c2 n3 c3)) w' from ⟨hk, S, A, H, n, c, m, c2, n3, c3, by rw [hq], by rw [hq]; exact hS⟩)
  unfold refV at HBAD ⊢
  obtain ⟨b1, hb1⟩ : ∃ b, b = r.max := ⟨_, rfl⟩
  obtain ⟨b2, hb2⟩ : ∃ b, b = r.begun := ⟨_, rfl⟩
  obtain ⟨b3, hb3⟩ : ∃ b, b = decide (¬ r.arcs = []) := ⟨_, rfl⟩
  obtain ⟨b4, hb4⟩ : ∃ b, b = r.es.isSome := ⟨_, rfl⟩
  obtain ⟨b5, hb5⟩ : ∃ b, b = r.et.isSome := ⟨_, rfl⟩
  obtain ⟨i1, hi1⟩ : ∃ b, b = r.es.getD 0 := ⟨_, rfl⟩
  obtain ⟨i2, hi2⟩ : ∃ b, b = r.et.getD 0 := ⟨_, rfl⟩
  obtain ⟨i3, hi3⟩ : ∃ b, b = r.many := ⟨_, rfl⟩
  obtain ⟨i4, hi4⟩ : ∃ b : Int, b = r.sup.length := ⟨_, rfl⟩
  rw [← hb1, ← hb2, ← hb3, ← hb4, ← hb5, ← hi1, ← hi2, ← hi3, ← hi4] at HBAD ⊢
  have HPT := Lib.hid (And.intro hb1 (And.intro hb2 (And.intro hb3 (And.intro hb4 (And.intro hb5 (And.intro hi1 (And.intro hi2 (And.intro hi3 hi4))))))))
  have hI0 := Blk.new w 88 (pC b1 b2 b3 b4 b5 i1 i2 i3 i4 0 S A H n c m c2 n3 c3)
  have hI1 := hI0.alloc (.cells #[.bool false, .slice none 0 0, .slice none 0 0, .int .i64 0, .int .i64 0, .bool false, .int .i64 0, .int .i64 0, .bool false, .slice none 0 0, .bool false, .bool false, .int .i64 0] 88)
  have hZ1 := Blk.new (w.alloc (.cells (pC b1 b2 b3 b4 b5 i1 i2 i3 i4 0 S A H n c m c2 n3 c3) 88)) 88 #[.bool false, .slice none 0 0, .slice none 0 0, .int .i64 0, .int .i64 0, .bool false, .int .i64 0, .int .i64 0, .bool false, .slice none 0 0, .bool false, .bool false, .int .i64 0]
  have hbI : Below w.heap.size w ((w.alloc (.cells (pC b1 b2 b3 b4 b5 i1 i2 i3 i4 0 S A H n c m c2 n3 c3) 88)).alloc (.cells #[.bool false, .slice none 0 0, .slice none 0 0, .int .i64 0, .int .i64 0, .bool false, .int .i64 0, .int .i64 0, .bool false, .slice none 0 0, .bool false, .bool false, .int .i64 0] 88)) := ((Below.refl _ w).alloc (Nat.le_refl _) _).alloc (by simp) _
  simp only [World.size_alloc] at hZ1
  unfold pC at HBAD hI1 hZ1 hbI ⊢
  have HI := Lib.hid (And.intro hI1 (And.intro hZ1 hbI))
  clear hb1 hb2 hb3 hb4 hb5 hi1 hi2 hi3 hi4 hI0 hI1 hZ1 hbI
  obtain rfl : b1 = false := HPT.out.1.trans hm
  have HS := Lib.hid hS
  clear hS hl hn hq hm
  go_enter Tryz.func66, Tryz.ntmps66
  go_wp2_with fail
  generalize (w.alloc (.cells #[.bool false, .slice S n c, .slice A m c2, .int .i64 i1, .int .i64 i2, .bool b2, .int .i64 i4, .int .i64 i3, .bool b3, .slice H n3 c3, .bool b4, .bool b5, .int .i64 0] 88)).alloc (.cells #[.bool false, .slice none 0 0, .slice none 0 0, .int .i64 0, .int .i64 0, .bool false, .int .i64 0, .int .i64 0, .bool false, .slice none 0 0, .bool false, .bool false, .int .i64 0] 88) = W0 at *
  refine (fail_any false b2 b3 b4 b5 i1 i2 i3 i4 10 S A H n c m c2 n3 c3 _).mono ?_
  rintro e wf ⟨rfl, hbf⟩
  have hzf := HI.out.2.1.below hbf HI.out.2.1.lt
  have hbw := HI.out.2.2.trans (hbf.mono HI.out.2.2.size)
  obtain ⟨z0, z1, z2, z3, z4, z5, z6, z7, z8, z9, z10, z11, z12⟩ := cells13 hzf
  obtain ⟨f0, f1, f2, f3, f4, f5, f6, f7, f8, f9, f10, f11, f12⟩ := frozen13 hzf
  have lz := hzf.lt
  have HZ := Lib.hid (And.intro hzf hbw)
  clear hzf hbw hbf
  unfold pC
  go_wp2_with fail
  refine ret13 (fn := Tryz.f66) rfl rfl rfl (HZ.out.1.put13 (.bool false) (.slice S n c) (.slice A m c2) (.int .i64 i1) (.int .i64 i2) (.bool b2) (.int .i64 i4) (.int .i64 i3) (.bool b3) (.slice H n3 c3) (.bool b4) (.bool b5) (.int .i64 10)) (HBAD.out 10 _ HQ.out ((Kept.of_below HZ.out.2 (Bs B w)).put13 (.bool false) (.slice S n c) (.slice A m c2) (.int .i64 i1) (.int .i64 i2) (.bool b2) (.int .i64 i4) (.int .i64 i3) (.bool b3) (.slice H n3 c3) (.bool b4) (.bool b5) (.int .i64 10) (fun h => absurd h (by omega))) ?_)
  exact (HS.out.on HZ.out.2).far13_ HZ.out.1 (.bool false) (.slice S n c) (.slice A m c2) (.int .i64 i1) (.int .i64 i2) (.bool b2) (.int .i64 i4) (.int .i64 i3) (.bool b3) (.slice H n3 c3) (.bool b4) (.bool b5) (.int .i64 10)
set_option maxRecDepth 100000 in
set_option maxHeartbeats 6400000 in
theorem rarc_true (B : Nat) (r : RdV) (S A H : Option Addr) (n c0_ m c2 n3 c3 wb wo cc : Nat) (x a b c : List UInt8) (w : World) (hS : RefS B w r S A H n c0_ m c2 n3 c3) (hO : RdOk r) (hbg : r.begun = true) (hm : r.max = true) (hW : Reads w w.heap.size 1 (some ⟨wb, wo, none⟩) 4 ([x, a, b, c].map strV)) (hcc : 4 ≤ cc) (hlen : ∀ y ∈ [x, a, b, c], y.length ≤ 60000) (hB : B ≤ w.heap.size) :
    Calls Tryz.prog 66 #[refV r 0 S A H n c0_ m c2 n3 c3, .slice (some ⟨wb, wo, none⟩) 4 cc] w (RTells B w (arcE r [x, a, b, c])) := by
  obtain ⟨q, HE⟩ : ∃ q, QIs q (arcE r [x, a, b, c]) := ⟨_, rfl⟩
  rw [← HE]
  have hcc2 : 1 < cc := by omega
  have hcc3 : ¬ cc = 1 := by omega
  have lW := hW.lt_ (by decide)
  have HBAD := Lib.hid (fun (k : Int) (w' : World) (hq : q = (k, r)) (hk : Kept (Bs B w) w w') (hS : RefS B w' r S A H n c0_ m c2 n3 c3) => show RTells B w q (.returned (refV r k S A H n c0_ m c2 n3 c3)) w' from ⟨hk, S, A, H, n, c0_, m, c2, n3, c3, by rw [hq], by rw [hq]; exact hS⟩)
  unfold refV at HBAD ⊢
  obtain ⟨b1, hb1⟩ : ∃ b, b = r.max := ⟨_, rfl⟩
  obtain ⟨b2, hb2⟩ : ∃ b, b = r.begun := ⟨_, rfl⟩
  obtain ⟨b3, hb3⟩ : ∃ b, b = decide (¬ r.arcs = []) := ⟨_, rfl⟩
  obtain ⟨b4, hb4⟩ : ∃ b, b = r.es.isSome := ⟨_, rfl⟩
  obtain ⟨b5, hb5⟩ : ∃ b, b = r.et.isSome := ⟨_, rfl⟩
  obtain ⟨i1, hi1⟩ : ∃ b, b = r.es.getD 0 := ⟨_, rfl⟩
  obtain ⟨i2, hi2⟩ : ∃ b, b = r.et.getD 0 := ⟨_, rfl⟩
  obtain ⟨i3, hi3⟩ : ∃ b, b = r.many := ⟨_, rfl⟩
  obtain ⟨i4, hi4⟩ : ∃ b : Int, b = r.sup.length := ⟨_, rfl⟩
  rw [← hb1, ← hb2, ← hb3, ← hb4, ← hb5, ← hi1, ← hi2, ← hi3, ← hi4] at HBAD ⊢
  have HPT := Lib.hid (And.intro hb1 (And.intro hb2 (And.intro hb3 (And.intro hb4 (And.intro hb5 (And.intro hi1 (And.intro hi2 (And.intro hi3 hi4))))))))
  have hI0 := Blk.new w 88 (pC b1 b2 b3 b4 b5 i1 i2 i3 i4 0 S A H n c0_ m c2 n3 c3)
  have hI1 := hI0.alloc (.cells #[.bool false, .slice none 0 0, .slice none 0 0, .int .i64 0, .int .i64 0, .bool false, .int .i64 0, .int .i64 0, .bool false, .slice none 0 0, .bool false, .bool false, .int .i64 0] 88)
  have hZ1 := Blk.new (w.alloc (.cells (pC b1 b2 b3 b4 b5 i1 i2 i3 i4 0 S A H n c0_ m c2 n3 c3) 88)) 88 #[.bool false, .slice none 0 0, .slice none 0 0, .int .i64 0, .int .i64 0, .bool false, .int .i64 0, .int .i64 0, .bool false, .slice none 0 0, .bool false, .bool false, .int .i64 0]
  have hbI : Below w.heap.size w ((w.alloc (.cells (pC b1 b2 b3 b4 b5 i1 i2 i3 i4 0 S A H n c0_ m c2 n3 c3) 88)).alloc (.cells #[.bool false, .slice none 0 0, .slice none 0 0, .int .i64 0, .int .i64 0, .bool false, .int .i64 0, .int .i64 0, .bool false, .slice none 0 0, .bool false, .bool false, .int .i64 0] 88)) := ((Below.refl _ w).alloc (Nat.le_refl _) _).alloc (by simp) _
  simp only [World.size_alloc] at hZ1
  unfold pC at HBAD hI1 hZ1 hbI ⊢
  have HI := Lib.hid (And.intro hI1 (And.intro hZ1 hbI))
  clear hb1 hb2 hb3 hb4 hb5 hi1 hi2 hi3 hi4 hI0 hI1 hZ1 hbI
  obtain rfl : b1 = true := HPT.out.1.trans hm
  have hrd := ((hW.below HI.out.2.2).more HI.out.2.2.size).tail_ 1 3 rfl (by decide)
  have HN := Lib.hid (nums_in (some ⟨wb, wo + 1, none⟩) 3 (cc - 1) [a, b, c] _ hrd (by decide) (fun y hy => Nat.le_trans (hlen y (List.mem_cons_of_mem _ hy)) (by decide)))
  have HS := Lib.hid hS
  have HO := Lib.hid hO
  have HBG := Lib.hid hbg
  have HMX := Lib.hid hm
  clear hS hW hlen hrd hO hbg hm
  go_enter Tryz.func66, Tryz.ntmps66
  go_wp2_with fail
  generalize (w.alloc (.cells #[.bool true, .slice S n c0_, .slice A m c2, .int .i64 i1, .int .i64 i2, .bool b2, .int .i64 i4, .int .i64 i3, .bool b3, .slice H n3 c3, .bool b4, .bool b5, .int .i64 0] 88)).alloc (.cells #[.bool false, .slice none 0 0, .slice none 0 0, .int .i64 0, .int .i64 0, .bool false, .int .i64 0, .int .i64 0, .bool false, .slice none 0 0, .bool false, .bool false, .int .i64 0] 88) = W0 at *
  refine HN.out.mono ?_
  rintro e w1 ⟨Q, nq, cq, rfl, hnq, hown, hb1⟩
  have hX : Blk w1 w.heap.size 88 #[.bool true, .slice S n c0_, .slice A m c2, .int .i64 i1, .int .i64 i2, .bool b2, .int .i64 i4, .int .i64 i3, .bool b3, .slice H n3 c3, .bool b4, .bool b5, .int .i64 0] ∧ Blk w1 (w.heap.size + 1) 88 #[.bool false, .slice none 0 0, .slice none 0 0, .int .i64 0, .int .i64 0, .bool false, .int .i64 0, .int .i64 0, .bool false, .slice none 0 0, .bool false, .bool false, .int .i64 0] ∧ Below w.heap.size w w1 := ⟨HI.out.1.below hb1 HI.out.1.lt, HI.out.2.1.below hb1 HI.out.2.1.lt, HI.out.2.2.trans (hb1.mono HI.out.2.2.size)⟩
  obtain rfl : nq = 3 := hnq
  obtain ⟨qb, qo, u0, hQ, hqb, hu0, qc0⟩ := (Reads.of_own hown).at_ (k := 0) (by omega)
  subst hQ
  obtain ⟨qb', qo', u1, hQ', hqb', hu1, qc1⟩ := (Reads.of_own hown).at_ (k := 1) (by omega)
  injection hQ' with hQ'
  injection hQ' with e1 e2 e3
  subst e1 e2
  clear hqb' e3
  obtain ⟨qb', qo', u2, hQ', hqb', hu2, qc2⟩ := (Reads.of_own hown).at_ (k := 2) (by omega)
  injection hQ' with hQ'
  injection hQ' with e1 e2 e3
  subst e1 e2
  clear hqb' e3
  simp only [List.map_cons, List.map_nil, List.getElem?_cons_zero, List.getElem?_cons_succ, Option.some.injEq] at hu0 hu1 hu2
  subst hu0 hu1 hu2
  unfold I at qc0 qc1 qc2
  rw [Nat.add_zero] at qc0
  have HX := Lib.hid hX
  obtain ⟨c0, c1, c2', c3', c4, c5, c6, c7, c8, c9, c10, c11, c12⟩ := cells13 hX.1
  have lp := hX.1.lt
  have hqne : ¬ qb = w.heap.size := fun e => own_blk_ne hown hX.1 (by decide) (by rw [e]; rfl)
  have hqge : W0.heap.size ≤ qb := own_from hown qb qo rfl
  have HOW := Lib.hid hown
  obtain ⟨er, her⟩ : ∃ er, er = errL [a, b, c] := ⟨_, rfl⟩
  rw [← her]
  have hcase : er = 10 ∨ er = 11 ∨ er = 0 := by
    rw [her]
    by_cases h1 : errL [a, b, c] = 10
    · exact .inl h1
    · by_cases h0 : errL [a, b, c] = 0
      · exact .inr (.inr h0)
      · exact .inr (.inl (err_11 h1 h0))
  have HER := Lib.hid her
  have hbad : er = 10 → q.1 = 10 ∧ q = (10, r) := by
    intro h10
    have h : q = arcE r [x, a, b, c] := HE
    obtain ⟨y, hy, hy0⟩ := errL_10.1 (HER.out.symm.trans h10)
    have hb : badW a ∨ badW b ∨ badW c := by
      simp only [List.mem_cons, List.not_mem_nil, or_false] at hy
      rcases hy with rfl | rfl | rfl
      · exact .inl hy0
      · exact .inr (.inl hy0)
      · exact .inr (.inr hy0)
    unfold arcE at h; rw [if_pos HMX.out] at h; unfold arcMaxE at h; simp only at h; rw [if_pos hb] at h
    rw [h]; exact ⟨rfl, rfl⟩
  have hgood : ¬ er = 10 → q = (if (r.arcs.length : Int) = r.many then (12, r) else if ¬ inW a 1 r.sup.length ∨ ¬ inW b 1 r.sup.length ∨ ¬ bndW c 0 then (11, r)
    else (0, { r with arcs := r.arcs ++ [⟨(numL a).1 - 1, (numL b).1 - 1, 0, bndV c, 0⟩] })) := by
    intro h10
    have h : q = arcE r [x, a, b, c] := HE
    have hne : ∀ y ∈ [a, b, c], (numL y).2 ≠ 10 := fun y hy h0 => h10 (HER.out.trans (errL_10.2 ⟨y, hy, h0⟩))
    unfold arcE at h; rw [if_pos HMX.out, arcMax_form r x a b c hne] at h
    exact h
  have HBADQ := Lib.hid hbad
  have HGOOD := Lib.hid (show ¬ er = 10 → QIs q _ from hgood)
  have HI4 := Lib.hid (show i4 = r.sup.length from HPT.out.2.2.2.2.2.2.2.2)
  have HI3 := Lib.hid (show i3 = r.many from HPT.out.2.2.2.2.2.2.2.1)
  clear hX hown her hbad hgood hb1 HN
  obtain ⟨sb, hb, hS, hH, hn, hc_, hn3, hc3, hmid⟩ : ∃ sb hb, S = some ⟨sb, 0, none⟩ ∧ H = some ⟨hb, 0, none⟩ ∧ n = r.sup.length ∧ c0_ = r.sup.length ∧ n3 = r.sup.length ∧ c3 = r.sup.length ∧ RefMid B w r sb hb m c2 A := by
    rcases HS.out with ⟨h, _⟩ | ⟨_, h⟩
    · have := HBG.out; rw [h] at this; cases this
    · exact h
  subst hS hH
  have hma := arcs_len hmid.a
  have hm256 : m ≤ 256 := by have := HO.out.many; omega
  have HMA := Lib.hid hma
  have HM0 := Lib.hid hmid
  have HNN := Lib.hid (And.intro hn (And.intro hc_ (And.intro hn3 hc3)))
  clear hn hc_ hn3 hc3 hmid hma
  by_cases h10 : er = 10
  · have HQ := Lib.hid (show QIs q (10, r) from (HBADQ.out h10).2)
    subst h10
    clear hcase
    go_wp2_with fail
    refine (fail_any true b2 b3 b4 b5 i1 i2 i3 i4 10 (some ⟨sb, 0, none⟩) A (some ⟨hb, 0, none⟩) n c0_ m c2 n3 c3 _).mono ?_
    rintro e wf ⟨rfl, hbf⟩
    have hzf := HX.out.2.1.below hbf HX.out.2.1.lt
    have hbw := HX.out.2.2.trans (hbf.mono HX.out.2.2.size)
    obtain ⟨z0, z1, z2, z3, z4, z5, z6, z7, z8, z9, z10, z11, z12⟩ := cells13 hzf
    obtain ⟨f0, f1, f2, f3, f4, f5, f6, f7, f8, f9, f10, f11, f12⟩ := frozen13 hzf
    have lz := hzf.lt
    have HZ := Lib.hid (And.intro hzf hbw)
    clear hzf hbw hbf
    unfold pC
    go_wp2_with fail
    refine ret13 (fn := Tryz.f66) rfl rfl rfl (HZ.out.1.put13 (.bool true) (.slice (some ⟨sb, 0, none⟩) n c0_) (.slice A m c2) (.int .i64 i1) (.int .i64 i2) (.bool b2) (.int .i64 i4) (.int .i64 i3) (.bool b3) (.slice (some ⟨hb, 0, none⟩) n3 c3) (.bool b4) (.bool b5) (.int .i64 10)) (HBAD.out 10 _ HQ.out ((Kept.of_below HZ.out.2 (Bs B w)).put13 (.bool true) (.slice (some ⟨sb, 0, none⟩) n c0_) (.slice A m c2) (.int .i64 i1) (.int .i64 i2) (.bool b2) (.int .i64 i4) (.int .i64 i3) (.bool b3) (.slice (some ⟨hb, 0, none⟩) n3 c3) (.bool b4) (.bool b5) (.int .i64 10) (fun h => absurd h (by omega))) ?_)
    exact (HS.out.on HZ.out.2).far13_ HZ.out.1 (.bool true) (.slice (some ⟨sb, 0, none⟩) n c0_) (.slice A m c2) (.int .i64 i1) (.int .i64 i2) (.bool b2) (.int .i64 i4) (.int .i64 i3) (.bool b3) (.slice (some ⟨hb, 0, none⟩) n3 c3) (.bool b4) (.bool b5) (.int .i64 10)
  · have hq1 := HGOOD.out h10
    by_cases hful : i3 ≤ (m : Int)
    · have HQ := Lib.hid (show QIs q (12, r) from by
        have h : q = _ := hq1
        rw [if_pos (by have := HO.out.many; have := HMA.out; have := HI3.out; omega)] at h; exact h)
      clear hcase hq1
      go_wp2_with fail
      refine (fail_any true b2 b3 b4 b5 i1 i2 i3 i4 12 (some ⟨sb, 0, none⟩) A (some ⟨hb, 0, none⟩) n c0_ m c2 n3 c3 _).mono ?_
      rintro e wf ⟨rfl, hbf⟩
      have hzf := HX.out.2.1.below hbf HX.out.2.1.lt
      have hbw := HX.out.2.2.trans (hbf.mono HX.out.2.2.size)
      obtain ⟨z0, z1, z2, z3, z4, z5, z6, z7, z8, z9, z10, z11, z12⟩ := cells13 hzf
      obtain ⟨f0, f1, f2, f3, f4, f5, f6, f7, f8, f9, f10, f11, f12⟩ := frozen13 hzf
      have lz := hzf.lt
      have HZ := Lib.hid (And.intro hzf hbw)
      clear hzf hbw hbf
      unfold pC
      go_wp2_with fail
      refine ret13 (fn := Tryz.f66) rfl rfl rfl (HZ.out.1.put13 (.bool true) (.slice (some ⟨sb, 0, none⟩) n c0_) (.slice A m c2) (.int .i64 i1) (.int .i64 i2) (.bool b2) (.int .i64 i4) (.int .i64 i3) (.bool b3) (.slice (some ⟨hb, 0, none⟩) n3 c3) (.bool b4) (.bool b5) (.int .i64 12)) (HBAD.out 12 _ HQ.out ((Kept.of_below HZ.out.2 (Bs B w)).put13 (.bool true) (.slice (some ⟨sb, 0, none⟩) n c0_) (.slice A m c2) (.int .i64 i1) (.int .i64 i2) (.bool b2) (.int .i64 i4) (.int .i64 i3) (.bool b3) (.slice (some ⟨hb, 0, none⟩) n3 c3) (.bool b4) (.bool b5) (.int .i64 12) (fun h => absurd h (by omega))) ?_)
      exact (HS.out.on HZ.out.2).far13_ HZ.out.1 (.bool true) (.slice (some ⟨sb, 0, none⟩) n c0_) (.slice A m c2) (.int .i64 i1) (.int .i64 i2) (.bool b2) (.int .i64 i4) (.int .i64 i3) (.bool b3) (.slice (some ⟨hb, 0, none⟩) n3 c3) (.bool b4) (.bool b5) (.int .i64 12)
    · have hq2 : q = if ¬ inW a 1 r.sup.length ∨ ¬ inW b 1 r.sup.length ∨ ¬ bndW c 0 then (11, r)
    else (0, { r with arcs := r.arcs ++ [⟨(numL a).1 - 1, (numL b).1 - 1, 0, bndV c, 0⟩] }) := by
        have h : q = _ := hq1
        rw [if_neg (by have := HO.out.many; have := HMA.out; have := HI3.out; omega)] at h
        exact h
      have HQ1 : QIs q _ := hq2
      clear hq1 hq2
      obtain ⟨bd, hbd⟩ : ∃ bd : Bool, bd = decide (¬ (er = 0 ∧ (1 ≤ (numL a).1 ∧ (numL a).1 ≤ i4) ∧ (1 ≤ (numL b).1 ∧ (numL b).1 ≤ i4) ∧ ((numL c).1 = -1 ∨ (0 ≤ (numL c).1 ∧ (numL c).1 ≤ 2147483648)))) := ⟨_, rfl⟩
      have HBD := Lib.hid hbd
      clear hbd
      go_upto_region 18 with fail
      go_cut [95] from 56 to 95 (fun v wx => ∃ k, v = .bool bd ∧ wx = w1.drewN k)
      case first =>
        rcases hcase with hc | hc | hc
        · exact absurd hc h10
        · subst hc
          have hbt : bd = true := by rw [HBD.out]; simp
          have HBT := Lib.hid hbt
          clear hbt h10
          go_quiet (fail)
          go_wp2_with fail
          go_meet
          exact ⟨_, by rw [HBT.out], rfl⟩
        · subst hc
          clear h10
          have QL := Lib.hid (in_q (show decide ((0 : Int) ≤ 0 ∧ (0 : Int) ≤ 2147483648) = true by decide) w1)
          by_cases hA : 1 ≤ (numL a).1 ∧ (numL a).1 ≤ i4
          · have QA := Lib.hid (in_q (show decide (1 ≤ (numL a).1 ∧ (numL a).1 ≤ i4) = true by simpa using hA) w1)
            by_cases hB : 1 ≤ (numL b).1 ∧ (numL b).1 ≤ i4
            · have QB := Lib.hid (in_q (show decide (1 ≤ (numL b).1 ∧ (numL b).1 ≤ i4) = true by simpa using hB) w1)
              by_cases hM : (numL c).1 = -1
              · have hC : (numL c).1 = -1 ∨ (0 ≤ (numL c).1 ∧ (numL c).1 ≤ 2147483648) := .inl hM
                have hmb : ((numL c).1 != -1) = false := by simp [hM]
                clear hM
                have hbt : bd = false := by rw [HBD.out]; simp only [decide_eq_false_iff_not, Classical.not_not]; exact ⟨trivial, hA, hB, hC⟩
                have HBT := Lib.hid hbt
                clear hbt
                have QK := Lib.hid (in_q (show decide ((-2147483648 : Int) ≤ 0 ∧ (0 : Int) ≤ 2147483648) = true by decide) w1)
                go_quiet ((go_at_call 46; first | (with_reducible exact QL.out _) | (with_reducible exact QA.out _) | (with_reducible exact QB.out _) | (with_reducible exact QK.out _)))
                go_wp2_with fail
                go_meet
                exact ⟨_, by rw [HBT.out], rfl⟩
              · by_cases hI : 0 ≤ (numL c).1 ∧ (numL c).1 ≤ 2147483648
                · have hC : (numL c).1 = -1 ∨ (0 ≤ (numL c).1 ∧ (numL c).1 ≤ 2147483648) := .inr hI
                  have QC := Lib.hid (in_q (show decide (0 ≤ (numL c).1 ∧ (numL c).1 ≤ 2147483648) = true by simpa using hI) w1)
                  have hbt : bd = false := by rw [HBD.out]; simp only [decide_eq_false_iff_not, Classical.not_not]; exact ⟨trivial, hA, hB, hC⟩
                  have HBT := Lib.hid hbt
                  clear hbt
                  have QK := Lib.hid (in_q (show decide ((-2147483648 : Int) ≤ 0 ∧ (0 : Int) ≤ 2147483648) = true by decide) w1)
                  go_quiet ((go_at_call 46; first | (with_reducible exact QL.out _) | (with_reducible exact QA.out _) | (with_reducible exact QB.out _) | (with_reducible exact QC.out _) | (with_reducible exact QK.out _)))
                  go_wp2_with fail
                  go_meet
                  exact ⟨_, by rw [HBT.out], rfl⟩
                · have hC : ¬ ((numL c).1 = -1 ∨ (0 ≤ (numL c).1 ∧ (numL c).1 ≤ 2147483648)) := fun h => h.elim hM hI
                  have QC := Lib.hid (in_q (show decide (0 ≤ (numL c).1 ∧ (numL c).1 ≤ 2147483648) = false by simpa using hI) w1)
                  have hbt : bd = true := by rw [HBD.out]; simp only [decide_eq_true_eq]; intro h; exact hC h.2.2.2
                  have HBT := Lib.hid hbt
                  clear hbt
                  go_quiet ((go_at_call 46; first | (with_reducible exact QL.out _) | (with_reducible exact QA.out _) | (with_reducible exact QB.out _) | (with_reducible exact QC.out _)))
                  go_wp2_with fail
                  go_meet
                  exact ⟨_, by rw [HBT.out], rfl⟩
            · have QB := Lib.hid (in_q (show decide (1 ≤ (numL b).1 ∧ (numL b).1 ≤ i4) = false by simpa using hB) w1)
              have hbt : bd = true := by rw [HBD.out]; simp only [decide_eq_true_eq]; intro h; exact hB h.2.2.1
              have HBT := Lib.hid hbt
              clear hbt
              go_quiet ((go_at_call 46; first | (with_reducible exact QL.out _) | (with_reducible exact QA.out _) | (with_reducible exact QB.out _)))
              go_wp2_with fail
              go_meet
              exact ⟨_, by rw [HBT.out], rfl⟩
          · have QA := Lib.hid (in_q (show decide (1 ≤ (numL a).1 ∧ (numL a).1 ≤ i4) = false by simpa using hA) w1)
            have hbt : bd = true := by rw [HBD.out]; simp only [decide_eq_true_eq]; intro h; exact hA h.2.1
            have HBT := Lib.hid hbt
            clear hbt
            go_quiet ((go_at_call 46; first | (with_reducible exact QL.out _) | (with_reducible exact QA.out _)))
            go_wp2_with fail
            go_meet
            exact ⟨_, by rw [HBT.out], rfl⟩
      case rest =>
        obtain ⟨k, rfl, rfl⟩ := hcut
        have HX2 := Lib.hid (show Blk (w1.drewN k) w.heap.size 88 _ ∧ Blk (w1.drewN k) (w.heap.size + 1) 88 _ ∧ Below w.heap.size w (w1.drewN k) from And.intro (HX.out.1.drewN k) (And.intro (HX.out.2.1.drewN k) (below_dr HX.out.2.2 k)))
        have qd0 : (w1.drewN k).cell? ⟨qb, qo, none⟩ = some (.int .i64 (numL a).1) := qc0
        have qd1 : (w1.drewN k).cell? ⟨qb, qo + 1, none⟩ = some (.int .i64 (numL b).1) := qc1
        have qd2 : (w1.drewN k).cell? ⟨qb, qo + 2, none⟩ = some (.int .i64 (numL c).1) := qc2
        clear lp c0 c1 c2' c3' c4 c5 c6 c7 c8 c9 c10 c11 c12 HX qc0 qc1 qc2
        generalize w1.drewN k = W2 at *
        obtain ⟨c0, c1, c2', c3', c4, c5, c6, c7, c8, c9, c10, c11, c12⟩ := cells13 HX2.out.1
        have lp := HX2.out.1.lt
        cases bd
        · have hok : er = 0 ∧ (1 ≤ (numL a).1 ∧ (numL a).1 ≤ i4) ∧ (1 ≤ (numL b).1 ∧ (numL b).1 ≤ i4) ∧ ((numL c).1 = -1 ∨ (0 ≤ (numL c).1 ∧ (numL c).1 ≤ 2147483648)) := by have := HBD.out; rw [eq_comm, decide_eq_false_iff_not, Classical.not_not] at this; exact this
          obtain ⟨he0, hA, hB', hC⟩ := hok
          have hall := errL_0.1 (HER.out.symm.trans he0)
          have hqf : q = (0, { r with arcs := r.arcs ++ [⟨(numL a).1 - 1, (numL b).1 - 1, 0, bndV c, 0⟩] }) := by
            have h : q = _ := HQ1
            rw [if_neg (by
              simp only [not_or, Classical.not_not]
              exact ⟨(inW_of (hall a (by simp))).2 (by rw [← HI4.out]; exact hA), (inW_of (hall b (by simp))).2 (by rw [← HI4.out]; exact hB'), (bnd_in (hall c (by simp))).2 hC⟩)] at h
            exact h
          subst he0
          have hi64 := HO.out.n64
          have hwa : IntKind.i64.wrap ((numL a).1 - 1) = (numL a).1 - 1 := IntWalk.i64_in _ (by have := HI4.out; omega)
          have hwb : IntKind.i64.wrap ((numL b).1 - 1) = (numL b).1 - 1 := IntWalk.i64_in _ (by have := HI4.out; omega)
          obtain ⟨CV, hCV⟩ : ∃ v, v = bndV c := ⟨_, rfl⟩
          rw [← hCV] at hqf
          have HQ := Lib.hid (show QIs q _ from hqf)
          have HCV := Lib.hid hCV
          clear hqf hCV hall hcase HQ1 HGOOD HBADQ
          go_upto_if 99 with fail
          go_cut [9] from 99 to 99 (fun v wx => v = .int .i64 CV ∧ wx = W2)
          case first =>
            by_cases hM : (numL c).1 = -1
            · have hv : CV = 4611686018427387904 := by rw [HCV.out]; unfold bndV; rw [if_pos hM]
              have HV := Lib.hid hv
              have hmb : ((numL c).1 == -1) = true := by simp [hM]
              clear hv hM
              go_wp2_with fail
              go_meet
              exact ⟨by rw [HV.out], rfl⟩
            · have hmb : ((numL c).1 == -1) = false := by simp [hM]
              have hv : CV = (numL c).1 := by rw [HCV.out]; unfold bndV; rw [if_neg hM]
              have HV := Lib.hid hv
              clear hv
              go_wp2_with fail
              go_meet
              exact ⟨by rw [HV.out], rfl⟩
          case rest =>
            obtain ⟨rfl, rfl⟩ := hcut
            have hk2 : ¬ hb = w.heap.size := by have := HM0.out.h.lt; omega
            have hk4 : ¬ sb = w.heap.size := by have := HM0.out.s.lt; omega
            have hzp : ¬ w.heap.size + 1 = w.heap.size := by omega
            have hpz : ¬ w.heap.size = w.heap.size + 1 := by omega
            have f8 := HX2.out.1.frozen 8
            have hM2 := HM0.out.on HX2.out.2.2
            have HM3 := Lib.hid (show RefMid B (wc.setCell ⟨w.heap.size, 8, none⟩ (.bool true)) r sb hb m c2 A from
              ⟨hM2.s.far (p := ⟨w.heap.size, 8, none⟩) hk4 _, hM2.h.far (p := ⟨w.heap.size, 8, none⟩) hk2 _, own_off hM2.a (p := ⟨w.heap.size, 8, none⟩) HX2.out.1 (by decide) _, hM2.sB, hM2.hB⟩)
            have hX3 := HX2.out.1.set_ 8 (.bool true)
            simp only [List.setIfInBounds_toArray, List.set_cons_succ, List.set_cons_zero] at hX3
            have HX3 := Lib.hid (And.intro hX3 (And.intro (HX2.out.2.1.far (p := ⟨w.heap.size, 8, none⟩) hzp (.bool true)) ((Kept.of_below HX2.out.2.2 (Bs B w)).setCell (p := ⟨w.heap.size, 8, none⟩) (fun h => absurd h (by simp)) (.bool true))))
            have qe0 : (wc.setCell ⟨w.heap.size, 8, none⟩ (.bool true)).cell? ⟨qb, qo, none⟩ = some (.int .i64 (numL a).1) := by simpa [go_sem, hqne] using qd0
            have qe1 : (wc.setCell ⟨w.heap.size, 8, none⟩ (.bool true)).cell? ⟨qb, qo + 1, none⟩ = some (.int .i64 (numL b).1) := by simpa [go_sem, hqne] using qd1
            have qe2 : (wc.setCell ⟨w.heap.size, 8, none⟩ (.bool true)).cell? ⟨qb, qo + 2, none⟩ = some (.int .i64 (numL c).1) := by simpa [go_sem, hqne] using qd2
            go_upto_region 23 with fail
            clear hM2 hX3 lp c0 c1 c2' c3' c4 c5 c6 c7 c8 c9 c10 c11 c12 f8 HX2 qd0 qd1 qd2
            generalize wc.setCell ⟨w.heap.size, 8, none⟩ (.bool true) = W3 at *
            obtain ⟨c0, c1, c2', c3', c4, c5_, c6, c7, c8, c9, c10, c11, c12⟩ := cells13 HX3.out.1
            have lp := HX3.out.1.lt
            have hbd4 : ∀ o, Below W3.heap.size W3 (W3.drew.alloc o) := fun o => (Below.refl _ W3).drew.alloc (Nat.le_refl _) o
            have HBD4 := Lib.hid hbd4
            have hszB : B ≤ W3.heap.size := Nat.le_trans hB HX3.out.2.2.size
            have hinfo : (Tryz.prog.info? 42).map (fun i => (i.zero, i.size, i.bytes)) = some (some (.agg #[.int .i64 0, .int .i64 0, .int .i64 0, .int .i64 0, .int .i64 0]), 5, 40) := by kernel_rfl
            obtain ⟨i0, hi, hz0, hz1, hz2⟩ := info_parts hinfo
            clear hinfo hbd4
            have hpo : ∀ {w5 : World}, (Value.slice A m c2).ownBlock ≠ some w.heap.size ∧ (Value.slice A m c2).ownBlock ≠ some (w.heap.size + 1) := fun {_} => ⟨fun e => by have := (HM0.out.a.lt _ e).2; omega, fun e => by have := (HM0.out.a.lt _ e).2; omega⟩
            have HPO := Lib.hid (hpo (w5 := W3))
            clear hpo
            go_region_law
              (refine step_append_any _ (by rfl) (.tmp 104) (.tmp 117) 27 (by rfl) B 42 i0 (.agg #[.int .i64 0, .int .i64 0, .int .i64 0, .int .i64 0, .int .i64 0]) 5 40 Tryz.underlying27 hi hz0 hz1 hz2 rfl (by decide) (.slice A m c2) m (arcCells r.arcs) (by rfl) ((own_below HM3.out.a (Below.refl _ _).drew).alloc _) (W3.heap.size + 1) (some ⟨W3.heap.size, 0, none⟩) 1 1 [.int .i64 ((numL a).1 - 1), .int .i64 ((numL b).1 - 1), .int .i64 0, .int .i64 CV, .int .i64 0] (by rfl) (readsN W3.drew 42 [.int .i64 ((numL a).1 - 1), .int .i64 ((numL b).1 - 1), .int .i64 0, .int .i64 CV, .int .i64 0] 1 5 rfl) (by simp [Value.oneCell']) (by unfold maxLen; omega) (by omega) (by simp; omega) ?_; intro v' w5 hown5 hgrow5 hat5; obtain ⟨A5, c5, rfl⟩ := own_form hown5; have hB5 := (HX3.out.1.drew.alloc (.cells #[.int .i64 ((numL a).1 - 1), .int .i64 ((numL b).1 - 1), .int .i64 0, .int .i64 CV, .int .i64 0] 42)).grown hgrow5 (fun e => HPO.out.1 e.symm); have r5 := (hB5.cell 2).trans (show _ = some (Value.slice A m c2) from rfl); have f5 := hB5.frozen 2; have l5 := hB5.lt; have HG5 := Lib.hid (And.intro hown5 hgrow5); clear hown5 hgrow5 hat5 hB5)
            all_goals
              have hA5 := ref_app (y := ⟨(numL a).1 - 1, (numL b).1 - 1, 0, CV, 0⟩) (HM3.out.on (HBD4.out (.cells #[.int .i64 ((numL a).1 - 1), .int .i64 ((numL b).1 - 1), .int .i64 0, .int .i64 CV, .int .i64 0] 42))) HG5.out.2 HG5.out.1
              have hP5 := (HX3.out.1.drew.alloc (.cells #[.int .i64 ((numL a).1 - 1), .int .i64 ((numL b).1 - 1), .int .i64 0, .int .i64 CV, .int .i64 0] 42)).grown HG5.out.2 (fun e => HPO.out.1 e.symm)
              have hZ5 := (HX3.out.2.1.drew.alloc (.cells #[.int .i64 ((numL a).1 - 1), .int .i64 ((numL b).1 - 1), .int .i64 0, .int .i64 CV, .int .i64 0] 42)).grown HG5.out.2 (fun e => HPO.out.2 e.symm)
              have hK5 := (HX3.out.2.2.trans (Kept.of_below (HBD4.out (.cells #[.int .i64 ((numL a).1 - 1), .int .i64 ((numL b).1 - 1), .int .i64 0, .int .i64 CV, .int .i64 0] 42)) (Bs B w))).trans (hA5.2.mono fun k _ e => bs_own HM0.out.a e.symm)
              have hP6 := hP5.set_ 2 (.slice A5 (m + 1) c5)
              simp only [List.setIfInBounds_toArray, List.set_cons_succ, List.set_cons_zero] at hP6
              have hZ6 := hZ5.far (p := ⟨w.heap.size, 2, none⟩) hzp (.slice A5 (m + 1) c5)
              have hK6 := hK5.setCell (p := ⟨w.heap.size, 2, none⟩) (fun h => absurd h (by simp)) (.slice A5 (m + 1) c5)
              have hM6 := (show RefMid B (w5.setCell ⟨w.heap.size, 2, none⟩ (.slice A5 (m + 1) c5)) _ sb hb (m + 1) c5 A5 from ⟨hA5.1.s.far (p := ⟨w.heap.size, 2, none⟩) hk4 _, hA5.1.h.far (p := ⟨w.heap.size, 2, none⟩) hk2 _, own_off hA5.1.a (p := ⟨w.heap.size, 2, none⟩) hP5 (by decide) _, hA5.1.sB, hA5.1.hB⟩)
              clear hA5 hP5 hZ5 hK5 r5 f5 l5 c0 c1 c2' c3' c4 c5_ c6 c7 c8 c9 c10 c11 c12 lp
              have HM6 := Lib.hid hM6
              have HX6 := Lib.hid (And.intro hP6 (And.intro hZ6 hK6))
              clear hP6 hZ6 hK6 hM6 HG5
              generalize w5.setCell ⟨w.heap.size, 2, none⟩ (.slice A5 (m + 1) c5) = W6 at *
              obtain ⟨c0, c1, c2', c3', c4, c5_, c6, c7, c8, c9, c10, c11, c12⟩ := cells13 HX6.out.1
              obtain ⟨z0, z1, z2, z3, z4, z5, z6, z7, z8, z9, z10, z11, z12⟩ := cells13 HX6.out.2.1
              obtain ⟨f0, f1, f2, f3, f4, f5, f6, f7, f8, f9, f10, f11, f12⟩ := frozen13 HX6.out.2.1
              have lz := HX6.out.2.1.lt
              go_wp2_with fail
              change bodyPost _ _ _ _ _ (put13 W6 (w.heap.size + 1) (.bool true) (.slice (some ⟨sb, 0, none⟩) n c0_) (.slice A5 (m + 1) c5) (.int .i64 i1) (.int .i64 i2) (.bool b2) (.int .i64 i4) (.int .i64 i3) (.bool true) (.slice (some ⟨hb, 0, none⟩) n3 c3) (.bool b4) (.bool b5) (.int .i64 0))
              refine ret13 (fn := Tryz.f66) rfl rfl rfl (HX6.out.2.1.put13 (.bool true) (.slice (some ⟨sb, 0, none⟩) n c0_) (.slice A5 (m + 1) c5) (.int .i64 i1) (.int .i64 i2) (.bool b2) (.int .i64 i4) (.int .i64 i3) (.bool true) (.slice (some ⟨hb, 0, none⟩) n3 c3) (.bool b4) (.bool b5) (.int .i64 0)) ?_
              have hqq : q = _ := HQ.out
              rw [hqq]
              have hv2 := HNN.out
              have hRS : RefS B W6 { r with arcs := r.arcs ++ [⟨(numL a).1 - 1, (numL b).1 - 1, 0, CV, 0⟩] } (some ⟨sb, 0, none⟩) A5 (some ⟨hb, 0, none⟩) n c0_ (m + 1) c5 n3 c3 := .inr ⟨HBG.out, sb, hb, rfl, rfl, hv2.1, hv2.2.1, hv2.2.2.1, hv2.2.2.2, HM6.out⟩
              refine ⟨HX6.out.2.2.put13 (.bool true) (.slice (some ⟨sb, 0, none⟩) n c0_) (.slice A5 (m + 1) c5) (.int .i64 i1) (.int .i64 i2) (.bool b2) (.int .i64 i4) (.int .i64 i3) (.bool true) (.slice (some ⟨hb, 0, none⟩) n3 c3) (.bool b4) (.bool b5) (.int .i64 0) (fun h => absurd h (by omega)), some ⟨sb, 0, none⟩, A5, some ⟨hb, 0, none⟩, n, c0_, m + 1, c5, n3, c3, ?_, hRS.far13_ HX6.out.2.1 (.bool true) (.slice (some ⟨sb, 0, none⟩) n c0_) (.slice A5 (m + 1) c5) (.int .i64 i1) (.int .i64 i2) (.bool b2) (.int .i64 i4) (.int .i64 i3) (.bool true) (.slice (some ⟨hb, 0, none⟩) n3 c3) (.bool b4) (.bool b5) (.int .i64 0)⟩
              obtain ⟨p1, p2, p3, p4, p5, p6, p7, p8, p9⟩ := HPT.out
              simp [refV, pC, ← p1, p2, p4, p5, p6, p7, p8, p9]
        · have HQ := Lib.hid (show QIs q (11, r) from by
            have h : q = _ := HQ1
            have hno : ¬ (er = 0 ∧ (1 ≤ (numL a).1 ∧ (numL a).1 ≤ i4) ∧ (1 ≤ (numL b).1 ∧ (numL b).1 ≤ i4) ∧ ((numL c).1 = -1 ∨ (0 ≤ (numL c).1 ∧ (numL c).1 ≤ 2147483648))) := by have := HBD.out; rw [eq_comm, decide_eq_true_eq] at this; exact this
            rw [if_pos (Classical.byContradiction fun hn => hno (by
              simp only [not_or, Classical.not_not] at hn
              obtain ⟨⟨ha0, ha⟩, ⟨hb0, hbb⟩, ⟨hc0, hcc_⟩⟩ := hn
              exact ⟨HER.out.trans (errL_0.2 (by simp [ha0, hb0, hc0])), by rw [HI4.out]; exact ha, by rw [HI4.out]; exact hbb, hcc_⟩))] at h
            exact h)
          go_wp2_with fail
          refine (fail_any true b2 b3 b4 b5 i1 i2 i3 i4 11 (some ⟨sb, 0, none⟩) A (some ⟨hb, 0, none⟩) n c0_ m c2 n3 c3 _).mono ?_
          rintro e wf ⟨rfl, hbf⟩
          have hzf := HX2.out.2.1.below hbf HX2.out.2.1.lt
          have hbw := HX2.out.2.2.trans (hbf.mono HX2.out.2.2.size)
          obtain ⟨z0, z1, z2, z3, z4, z5, z6, z7, z8, z9, z10, z11, z12⟩ := cells13 hzf
          obtain ⟨f0, f1, f2, f3, f4, f5, f6, f7, f8, f9, f10, f11, f12⟩ := frozen13 hzf
          have lz := hzf.lt
          have HZ := Lib.hid (And.intro hzf hbw)
          clear hzf hbw hbf
          unfold pC
          go_wp2_with fail
          refine ret13 (fn := Tryz.f66) rfl rfl rfl (HZ.out.1.put13 (.bool true) (.slice (some ⟨sb, 0, none⟩) n c0_) (.slice A m c2) (.int .i64 i1) (.int .i64 i2) (.bool b2) (.int .i64 i4) (.int .i64 i3) (.bool b3) (.slice (some ⟨hb, 0, none⟩) n3 c3) (.bool b4) (.bool b5) (.int .i64 11)) (HBAD.out 11 _ HQ.out ((Kept.of_below HZ.out.2 (Bs B w)).put13 (.bool true) (.slice (some ⟨sb, 0, none⟩) n c0_) (.slice A m c2) (.int .i64 i1) (.int .i64 i2) (.bool b2) (.int .i64 i4) (.int .i64 i3) (.bool b3) (.slice (some ⟨hb, 0, none⟩) n3 c3) (.bool b4) (.bool b5) (.int .i64 11) (fun h => absurd h (by omega))) ?_)
          exact (HS.out.on HZ.out.2).far13_ HZ.out.1 (.bool true) (.slice (some ⟨sb, 0, none⟩) n c0_) (.slice A m c2) (.int .i64 i1) (.int .i64 i2) (.bool b2) (.int .i64 i4) (.int .i64 i3) (.bool b3) (.slice (some ⟨hb, 0, none⟩) n3 c3) (.bool b4) (.bool b5) (.int .i64 11)
end Go.Proofs.YtoagphighgejnaaGreatDoor
