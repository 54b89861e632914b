/- The document's answer: line (21). Conditions: none. -/
import Derived.Test.YtoagphighgejnaaGreatDoorV5
import Derived.Test.YtoagphighgejnaaGreatDoorV6
import Derived.Test.YtoagphighgejnaaGreatDoorV7
import Derived.Test.YtoagphighgejnaaGreatDoorV8
import Derived.Test.YtoagphighgejnaaGreatDoorV9
set_option linter.unusedSimpArgs false
set_option linter.unusedVariables false
namespace Go.Proofs.YtoagphighgejnaaGreatDoor
open Go.RowKit Go.Shelf

theorem rarc_any (B : Nat) (r : RdV) (S A H : Option Addr) (n c m c2 n3 c3 wb wo cc nn : Nat) (ws : List (List UInt8)) (w : World) (hS : RefS B w r S A H n c m c2 n3 c3) (hO : RdOk r) (hbg : r.begun = true) (hW : Reads w w.heap.size 1 (some ⟨wb, wo, none⟩) nn (ws.map strV)) (hcc : nn ≤ cc) (hn : nn = ws.length) (hlen : ∀ y ∈ ws, y.length ≤ 60000) (hB : B ≤ w.heap.size) :
    Calls Tryz.prog 66 #[refV r 0 S A H n c m c2 n3 c3, .slice (some ⟨wb, wo, none⟩) nn cc] w (RTells B w (arcE r ws)) := by
  cases hm : r.max with
  | true =>
    by_cases hl : nn = 4
    · subst hl
      match ws, hn with
      | [x, a, b, k], _ => exact rarc_true B r S A H n c m c2 n3 c3 wb wo cc x a b k w hS hO hbg hm hW hcc hlen hB
    · exact rarc_len_true B r S A H n c m c2 n3 c3 wb wo cc nn ws w hS hm hl hn hB
  | false =>
    by_cases hl : nn = 6
    · subst hl
      match ws, hn with
      | [x, a, b, l, k, d], _ => exact rarc_false B r S A H n c m c2 n3 c3 wb wo cc x a b l k d w hS hO hbg hm hW hcc hlen hB
    · exact rarc_len_false B r S A H n c m c2 n3 c3 wb wo cc nn ws w hS hm hl hn hB
theorem Bs.back {B : Nat} {w W : World} (hb : Below w.heap.size w W) {k : Nat} (h : Bs B W k) : Bs B w k := ⟨h.1, fun t cs h' => h.2 t cs (h'.below hb h'.lt)⟩
theorem refV_form (r : RdV) (e : Int) (S A H : Option Addr) (n c m c2 n3 c3 : Nat) : ∃ b1 b2 b3 b4 b5 i1 i2 i3 i4, refV r e S A H n c m c2 n3 c3 = .agg #[.bool b1, .slice S n c, .slice A m c2, .int .i64 i1, .int .i64 i2, .bool b2, .int .i64 i4, .int .i64 i3, .bool b3, .slice H n3 c3, .bool b4, .bool b5, .int .i64 e] := ⟨_, _, _, _, _, _, _, _, _, rfl⟩
def QV (a b : Value) : Prop := a = b
set_option maxRecDepth 100000 in
set_option maxHeartbeats 800000 in
theorem rline_c (B : Nat) (r : RdV) (S A H : Option Addr) (n c m c2 n3 c3 wb wo cc nn : Nat) (x : List UInt8) (ts : List (List UInt8)) (w : World) (hS : RefS B w r S A H n c m c2 n3 c3) (hO : RdOk r) (hx : x = [99]) (hW : Reads w w.heap.size 1 (some ⟨wb, wo, none⟩) nn ((x :: ts).map strV)) (hcc : nn ≤ cc) (hn : nn = (x :: ts).length) (hlen : ∀ y ∈ x :: ts, y.length ≤ 60000) (hB : B ≤ w.heap.size) :
    Calls Tryz.prog 48 #[refV r 0 S A H n c m c2 n3 c3, .slice (some ⟨wb, wo, none⟩) nn cc] w (RTells B w (lineE r (x :: ts))) := by
  obtain ⟨q, HE⟩ : ∃ q, QIs q (lineE r (x :: ts)) := ⟨_, rfl⟩
  rw [← HE]
  have hq : q = (0, r) := by
    have h : q = lineE r (x :: ts) := HE
    rw [h]; unfold lineE; rw [if_pos (by rw [hx]; rfl)]
  have hn0 : 0 < nn := by rw [hn]; simp
  have lW := hW.lt_ hn0
  have hc' : w.cell? ⟨wb, wo + 0, none⟩ = some (.string ⟨#[99]⟩) := by subst hx; exact hW.get (k := 0) rfl
  have HBAD := Lib.hid (fun (k : Int) (w' : World) (hq : q = (k, r)) (hk : Kept (Bs B w) w w') (hS : RefS B w' r S A H n c m c2 n3 c3) => show RTells B w q (.returned (refV r k S A H n c m c2 n3 c3)) w' from ⟨hk, S, A, H, n, c, m, c2, n3, c3, by rw [hq], by rw [hq]; exact hS⟩)
  unfold refV at HBAD ⊢
  obtain ⟨b1, hb1⟩ : ∃ b, b = r.max := ⟨_, rfl⟩
  obtain ⟨b2, hb2⟩ : ∃ b, b = r.begun := ⟨_, rfl⟩
  obtain ⟨b3, hb3⟩ : ∃ b, b = decide (¬ r.arcs = []) := ⟨_, rfl⟩
  obtain ⟨b4, hb4⟩ : ∃ b, b = r.es.isSome := ⟨_, rfl⟩
  obtain ⟨b5, hb5⟩ : ∃ b, b = r.et.isSome := ⟨_, rfl⟩
  obtain ⟨i1, hi1⟩ : ∃ b, b = r.es.getD 0 := ⟨_, rfl⟩
  obtain ⟨i2, hi2⟩ : ∃ b, b = r.et.getD 0 := ⟨_, rfl⟩
  obtain ⟨i3, hi3⟩ : ∃ b, b = r.many := ⟨_, rfl⟩
  obtain ⟨i4, hi4⟩ : ∃ b : Int, b = r.sup.length := ⟨_, rfl⟩
  rw [← hb1, ← hb2, ← hb3, ← hb4, ← hb5, ← hi1, ← hi2, ← hi3, ← hi4] at HBAD ⊢
  have HPT := Lib.hid (And.intro hb1 (And.intro hb2 (And.intro hb3 (And.intro hb4 (And.intro hb5 (And.intro hi1 (And.intro hi2 (And.intro hi3 hi4))))))))
  have hI0 := Blk.new w 88 (pC b1 b2 b3 b4 b5 i1 i2 i3 i4 0 S A H n c m c2 n3 c3)
  have hI1 := hI0.alloc (.cells #[.bool false, .slice none 0 0, .slice none 0 0, .int .i64 0, .int .i64 0, .bool false, .int .i64 0, .int .i64 0, .bool false, .slice none 0 0, .bool false, .bool false, .int .i64 0] 88)
  have hZ1 := Blk.new (w.alloc (.cells (pC b1 b2 b3 b4 b5 i1 i2 i3 i4 0 S A H n c m c2 n3 c3) 88)) 88 #[.bool false, .slice none 0 0, .slice none 0 0, .int .i64 0, .int .i64 0, .bool false, .int .i64 0, .int .i64 0, .bool false, .slice none 0 0, .bool false, .bool false, .int .i64 0]
  have hbI : Below w.heap.size w ((w.alloc (.cells (pC b1 b2 b3 b4 b5 i1 i2 i3 i4 0 S A H n c m c2 n3 c3) 88)).alloc (.cells #[.bool false, .slice none 0 0, .slice none 0 0, .int .i64 0, .int .i64 0, .bool false, .int .i64 0, .int .i64 0, .bool false, .slice none 0 0, .bool false, .bool false, .int .i64 0] 88)) := ((Below.refl _ w).alloc (Nat.le_refl _) _).alloc (by simp) _
  simp only [World.size_alloc] at hZ1
  unfold pC at HBAD hI1 hZ1 hbI ⊢
  have HI := Lib.hid (And.intro hI1 (And.intro hZ1 hbI))
  clear hb1 hb2 hb3 hb4 hb5 hi1 hi2 hi3 hi4 hI0 hI1 hZ1 hbI
  have hc1 := (HI.out.2.2.cell (p := ⟨wb, wo + 0, none⟩) lW).trans hc'
  rw [Nat.add_zero] at hc1
  have lW1 : wb < ((w.alloc (.cells #[.bool b1, .slice S n c, .slice A m c2, .int .i64 i1, .int .i64 i2, .bool b2, .int .i64 i4, .int .i64 i3, .bool b3, .slice H n3 c3, .bool b4, .bool b5, .int .i64 0] 88)).alloc (.cells #[.bool false, .slice none 0 0, .slice none 0 0, .int .i64 0, .int .i64 0, .bool false, .int .i64 0, .int .i64 0, .bool false, .slice none 0 0, .bool false, .bool false, .int .i64 0] 88)).heap.size := Nat.lt_of_lt_of_le lW HI.out.2.2.size
  have HQ := Lib.hid (show QIs q _ from hq)
  have HS := Lib.hid hS
  clear hn hS hq hW hlen hO hc' hx
  go_enter Tryz.func48, Tryz.ntmps48
  go_upto_region 2 with fail
  generalize (w.alloc (.cells #[.bool b1, .slice S n c, .slice A m c2, .int .i64 i1, .int .i64 i2, .bool b2, .int .i64 i4, .int .i64 i3, .bool b3, .slice H n3 c3, .bool b4, .bool b5, .int .i64 0] 88)).alloc (.cells #[.bool false, .slice none 0 0, .slice none 0 0, .int .i64 0, .int .i64 0, .bool false, .int .i64 0, .int .i64 0, .bool false, .slice none 0 0, .bool false, .bool false, .int .i64 0] 88) = W0 at *
  obtain ⟨c0, c1, c2'_, c3'_, c4, c5, c6, c7, c8, c9, c10, c11, c12⟩ := cells13 HI.out.1
  have lp := HI.out.1.lt
  obtain ⟨z0, z1, z2, z3, z4, z5, z6, z7, z8, z9, z10, z11, z12⟩ := cells13 HI.out.2.1
  obtain ⟨f0, f1, f2, f3, f4, f5, f6, f7, f8, f9, f10, f11, f12⟩ := frozen13 HI.out.2.1
  have lz := HI.out.2.1.lt
  go_wp2_with fail
  refine ret13 (fn := Tryz.f48) rfl rfl rfl (HI.out.2.1.put13 (.bool b1) (.slice S n c) (.slice A m c2) (.int .i64 i1) (.int .i64 i2) (.bool b2) (.int .i64 i4) (.int .i64 i3) (.bool b3) (.slice H n3 c3) (.bool b4) (.bool b5) (.int .i64 0)) (HBAD.out 0 _ HQ.out ((Kept.of_below HI.out.2.2 (Bs B w)).put13 (.bool b1) (.slice S n c) (.slice A m c2) (.int .i64 i1) (.int .i64 i2) (.bool b2) (.int .i64 i4) (.int .i64 i3) (.bool b3) (.slice H n3 c3) (.bool b4) (.bool b5) (.int .i64 0) (fun h => absurd h (by omega))) ((HS.out.on HI.out.2.2).far13_ HI.out.2.1 (.bool b1) (.slice S n c) (.slice A m c2) (.int .i64 i1) (.int .i64 i2) (.bool b2) (.int .i64 i4) (.int .i64 i3) (.bool b3) (.slice H n3 c3) (.bool b4) (.bool b5) (.int .i64 0)))
set_option maxRecDepth 100000 in
set_option maxHeartbeats 800000 in
theorem rline_p (B : Nat) (r : RdV) (S A H : Option Addr) (n c m c2 n3 c3 wb wo cc nn : Nat) (x : List UInt8) (ts : List (List UInt8)) (w : World) (hS : RefS B w r S A H n c m c2 n3 c3) (hO : RdOk r) (hx : x = [112]) (hW : Reads w w.heap.size 1 (some ⟨wb, wo, none⟩) nn ((x :: ts).map strV)) (hcc : nn ≤ cc) (hn : nn = (x :: ts).length) (hlen : ∀ y ∈ x :: ts, y.length ≤ 60000) (hB : B ≤ w.heap.size) :
    Calls Tryz.prog 48 #[refV r 0 S A H n c m c2 n3 c3, .slice (some ⟨wb, wo, none⟩) nn cc] w (RTells B w (lineE r (x :: ts))) := by
  obtain ⟨q, HE⟩ : ∃ q, QIs q (lineE r (x :: ts)) := ⟨_, rfl⟩
  rw [← HE]
  have hq : q = headE r (x :: ts) := by
    have h : q = lineE r (x :: ts) := HE
    rw [h]; unfold lineE; rw [if_neg (by rw [hx]; simp), if_pos (by rw [hx]; rfl)]
  have hn0 : 0 < nn := by rw [hn]; simp
  have lW := hW.lt_ hn0
  have hc' : w.cell? ⟨wb, wo + 0, none⟩ = some (.string ⟨#[112]⟩) := by subst hx; exact hW.get (k := 0) rfl
  have HC := Lib.hid (fun (W0 : World) (hb : Below w.heap.size w W0) => show Calls Tryz.prog 64 #[refV r 0 S A H n c m c2 n3 c3, .slice (some ⟨wb, wo, none⟩) nn cc] W0 (RTells B W0 q) from by
    rw [hq]
    exact rhead_any B r S A H n c m c2 n3 c3 wb wo cc nn (x :: ts) W0 (hS.on hb) hO ((hW.below hb).more hb.size) hcc hn hlen (Nat.le_trans hB hb.size))
  have HBAD := Lib.hid (fun (k : Int) (w' : World) (hq : q = (k, r)) (hk : Kept (Bs B w) w w') (hS : RefS B w' r S A H n c m c2 n3 c3) => show RTells B w q (.returned (refV r k S A H n c m c2 n3 c3)) w' from ⟨hk, S, A, H, n, c, m, c2, n3, c3, by rw [hq], by rw [hq]; exact hS⟩)
  unfold refV at HBAD HC ⊢
  obtain ⟨b1, hb1⟩ : ∃ b, b = r.max := ⟨_, rfl⟩
  obtain ⟨b2, hb2⟩ : ∃ b, b = r.begun := ⟨_, rfl⟩
  obtain ⟨b3, hb3⟩ : ∃ b, b = decide (¬ r.arcs = []) := ⟨_, rfl⟩
  obtain ⟨b4, hb4⟩ : ∃ b, b = r.es.isSome := ⟨_, rfl⟩
  obtain ⟨b5, hb5⟩ : ∃ b, b = r.et.isSome := ⟨_, rfl⟩
  obtain ⟨i1, hi1⟩ : ∃ b, b = r.es.getD 0 := ⟨_, rfl⟩
  obtain ⟨i2, hi2⟩ : ∃ b, b = r.et.getD 0 := ⟨_, rfl⟩
  obtain ⟨i3, hi3⟩ : ∃ b, b = r.many := ⟨_, rfl⟩
  obtain ⟨i4, hi4⟩ : ∃ b : Int, b = r.sup.length := ⟨_, rfl⟩
  rw [← hb1, ← hb2, ← hb3, ← hb4, ← hb5, ← hi1, ← hi2, ← hi3, ← hi4] at HBAD HC ⊢
  have HPT := Lib.hid (And.intro hb1 (And.intro hb2 (And.intro hb3 (And.intro hb4 (And.intro hb5 (And.intro hi1 (And.intro hi2 (And.intro hi3 hi4))))))))
  have hI0 := Blk.new w 88 (pC b1 b2 b3 b4 b5 i1 i2 i3 i4 0 S A H n c m c2 n3 c3)
  have hI1 := hI0.alloc (.cells #[.bool false, .slice none 0 0, .slice none 0 0, .int .i64 0, .int .i64 0, .bool false, .int .i64 0, .int .i64 0, .bool false, .slice none 0 0, .bool false, .bool false, .int .i64 0] 88)
  have hZ1 := Blk.new (w.alloc (.cells (pC b1 b2 b3 b4 b5 i1 i2 i3 i4 0 S A H n c m c2 n3 c3) 88)) 88 #[.bool false, .slice none 0 0, .slice none 0 0, .int .i64 0, .int .i64 0, .bool false, .int .i64 0, .int .i64 0, .bool false, .slice none 0 0, .bool false, .bool false, .int .i64 0]
  have hbI : Below w.heap.size w ((w.alloc (.cells (pC b1 b2 b3 b4 b5 i1 i2 i3 i4 0 S A H n c m c2 n3 c3) 88)).alloc (.cells #[.bool false, .slice none 0 0, .slice none 0 0, .int .i64 0, .int .i64 0, .bool false, .int .i64 0, .int .i64 0, .bool false, .slice none 0 0, .bool false, .bool false, .int .i64 0] 88)) := ((Below.refl _ w).alloc (Nat.le_refl _) _).alloc (by simp) _
  simp only [World.size_alloc] at hZ1
  unfold pC at HBAD HC hI1 hZ1 hbI ⊢
  have HI := Lib.hid (And.intro hI1 (And.intro hZ1 hbI))
  clear hb1 hb2 hb3 hb4 hb5 hi1 hi2 hi3 hi4 hI0 hI1 hZ1 hbI
  have hc1 := (HI.out.2.2.cell (p := ⟨wb, wo + 0, none⟩) lW).trans hc'
  rw [Nat.add_zero] at hc1
  have lW1 : wb < ((w.alloc (.cells #[.bool b1, .slice S n c, .slice A m c2, .int .i64 i1, .int .i64 i2, .bool b2, .int .i64 i4, .int .i64 i3, .bool b3, .slice H n3 c3, .bool b4, .bool b5, .int .i64 0] 88)).alloc (.cells #[.bool false, .slice none 0 0, .slice none 0 0, .int .i64 0, .int .i64 0, .bool false, .int .i64 0, .int .i64 0, .bool false, .slice none 0 0, .bool false, .bool false, .int .i64 0] 88)).heap.size := Nat.lt_of_lt_of_le lW HI.out.2.2.size
  have HQ := Lib.hid (show QIs q _ from hq)
  have HS := Lib.hid hS
  clear hn hS hq hW hlen hO hc' hx
  go_enter Tryz.func48, Tryz.ntmps48
  go_wp2_with fail
  generalize (w.alloc (.cells #[.bool b1, .slice S n c, .slice A m c2, .int .i64 i1, .int .i64 i2, .bool b2, .int .i64 i4, .int .i64 i3, .bool b3, .slice H n3 c3, .bool b4, .bool b5, .int .i64 0] 88)).alloc (.cells #[.bool false, .slice none 0 0, .slice none 0 0, .int .i64 0, .int .i64 0, .bool false, .int .i64 0, .int .i64 0, .bool false, .slice none 0 0, .bool false, .bool false, .int .i64 0] 88) = W0 at *
  obtain ⟨c0, c1, c2'_, c3'_, c4, c5, c6, c7, c8, c9, c10, c11, c12⟩ := cells13 HI.out.1
  have lp := HI.out.1.lt
  refine (HC.out _ HI.out.2.2).mono ?_
  rintro e w1 ⟨hk1, S', A', H', n', c', m', c2', n3', c3', rfl, hS1⟩
  have hz1 := HI.out.2.1.kept hk1 (fun h => absurd (h.2 _ _ HI.out.2.1) (by decide))
  have hkw := (Kept.of_below HI.out.2.2 (Bs B w)).trans (hk1.mono fun k _ h => h.back HI.out.2.2)
  obtain ⟨d1, d2, d3, d4, d5, j1, j2, j3, j4, hd⟩ := refV_form q.2 q.1 S' A' H' n' c' m' c2' n3' c3'
  have HDD := Lib.hid (show QV _ _ from hd)
  rw [hd]
  obtain ⟨qe, hqe⟩ : ∃ k, k = q.1 := ⟨_, rfl⟩
  have HQE := Lib.hid hqe
  rw [← hqe]
  obtain ⟨z0, z1, z2, z3, z4, z5, z6, z7, z8, z9, z10, z11, z12⟩ := cells13 hz1
  obtain ⟨f0, f1, f2, f3, f4, f5, f6, f7, f8, f9, f10, f11, f12⟩ := frozen13 hz1
  have lz := hz1.lt
  have HZ := Lib.hid (And.intro hz1 (And.intro hkw hS1))
  clear hz1 hkw hS1 hk1 hd hqe c0 c1 c2'_ c3'_ c4 c5 c6 c7 c8 c9 c10 c11 c12 lp
  go_wp2_with fail
  refine ret13 (fn := Tryz.f48) rfl rfl rfl (HZ.out.1.put13 (.bool d1) (.slice S' n' c') (.slice A' m' c2') (.int .i64 j1) (.int .i64 j2) (.bool d2) (.int .i64 j4) (.int .i64 j3) (.bool d3) (.slice H' n3' c3') (.bool d4) (.bool d5) (.int .i64 qe)) ⟨HZ.out.2.1.put13 (.bool d1) (.slice S' n' c') (.slice A' m' c2') (.int .i64 j1) (.int .i64 j2) (.bool d2) (.int .i64 j4) (.int .i64 j3) (.bool d3) (.slice H' n3' c3') (.bool d4) (.bool d5) (.int .i64 qe) (fun h => absurd h (by omega)), S', A', H', n', c', m', c2', n3', c3', ?_, HZ.out.2.2.far13_ HZ.out.1 (.bool d1) (.slice S' n' c') (.slice A' m' c2') (.int .i64 j1) (.int .i64 j2) (.bool d2) (.int .i64 j4) (.int .i64 j3) (.bool d3) (.slice H' n3' c3') (.bool d4) (.bool d5) (.int .i64 qe)⟩
  have hdd : refV _ _ _ _ _ _ _ _ _ _ _ = _ := HDD.out
  rw [hdd, HQE.out]
set_option maxRecDepth 100000 in
set_option maxHeartbeats 800000 in
theorem rline_a0 (B : Nat) (r : RdV) (S A H : Option Addr) (n c m c2 n3 c3 wb wo cc nn : Nat) (x : List UInt8) (ts : List (List UInt8)) (w : World) (hS : RefS B w r S A H n c m c2 n3 c3) (hO : RdOk r) (hx : x = [97]) (hbg : r.begun = false) (hW : Reads w w.heap.size 1 (some ⟨wb, wo, none⟩) nn ((x :: ts).map strV)) (hcc : nn ≤ cc) (hn : nn = (x :: ts).length) (hlen : ∀ y ∈ x :: ts, y.length ≤ 60000) (hB : B ≤ w.heap.size) :
    Calls Tryz.prog 48 #[refV r 0 S A H n c m c2 n3 c3, .slice (some ⟨wb, wo, none⟩) nn cc] w (RTells B w (lineE r (x :: ts))) := by
  obtain ⟨q, HE⟩ : ∃ q, QIs q (lineE r (x :: ts)) := ⟨_, rfl⟩
  rw [← HE]
  have hq : q = (12, r) := by
    have h : q = lineE r (x :: ts) := HE
    rw [h]; unfold lineE; rw [if_neg (by rw [hx]; simp), if_neg (by rw [hx]; simp), if_neg (by rw [hx]; simp), if_pos (by rw [hx]; rfl), if_pos (by simp [hbg])]
  have hn0 : 0 < nn := by rw [hn]; simp
  have lW := hW.lt_ hn0
  have hc' : w.cell? ⟨wb, wo + 0, none⟩ = some (.string ⟨#[97]⟩) := by subst hx; exact hW.get (k := 0) rfl
  have HBAD := Lib.hid (fun (k : Int) (w' : World) (hq : q = (k, r)) (hk : Kept (Bs B w) w w') (hS : RefS B w' r S A H n c m c2 n3 c3) => show RTells B w q (.returned (refV r k S A H n c m c2 n3 c3)) w' from ⟨hk, S, A, H, n, c, m, c2, n3, c3, by rw [hq], by rw [hq]; exact hS⟩)
  unfold refV at HBAD ⊢
  obtain ⟨b1, hb1⟩ : ∃ b, b = r.max := ⟨_, rfl⟩
  obtain ⟨b2, hb2⟩ : ∃ b, b = r.begun := ⟨_, rfl⟩
  obtain ⟨b3, hb3⟩ : ∃ b, b = decide (¬ r.arcs = []) := ⟨_, rfl⟩
  obtain ⟨b4, hb4⟩ : ∃ b, b = r.es.isSome := ⟨_, rfl⟩
  obtain ⟨b5, hb5⟩ : ∃ b, b = r.et.isSome := ⟨_, rfl⟩
  obtain ⟨i1, hi1⟩ : ∃ b, b = r.es.getD 0 := ⟨_, rfl⟩
  obtain ⟨i2, hi2⟩ : ∃ b, b = r.et.getD 0 := ⟨_, rfl⟩
  obtain ⟨i3, hi3⟩ : ∃ b, b = r.many := ⟨_, rfl⟩
  obtain ⟨i4, hi4⟩ : ∃ b : Int, b = r.sup.length := ⟨_, rfl⟩
  rw [← hb1, ← hb2, ← hb3, ← hb4, ← hb5, ← hi1, ← hi2, ← hi3, ← hi4] at HBAD ⊢
  have HPT := Lib.hid (And.intro hb1 (And.intro hb2 (And.intro hb3 (And.intro hb4 (And.intro hb5 (And.intro hi1 (And.intro hi2 (And.intro hi3 hi4))))))))
  have hI0 := Blk.new w 88 (pC b1 b2 b3 b4 b5 i1 i2 i3 i4 0 S A H n c m c2 n3 c3)
  have hI1 := hI0.alloc (.cells #[.bool false, .slice none 0 0, .slice none 0 0, .int .i64 0, .int .i64 0, .bool false, .int .i64 0, .int .i64 0, .bool false, .slice none 0 0, .bool false, .bool false, .int .i64 0] 88)
  have hZ1 := Blk.new (w.alloc (.cells (pC b1 b2 b3 b4 b5 i1 i2 i3 i4 0 S A H n c m c2 n3 c3) 88)) 88 #[.bool false, .slice none 0 0, .slice none 0 0, .int .i64 0, .int .i64 0, .bool false, .int .i64 0, .int .i64 0, .bool false, .slice none 0 0, .bool false, .bool false, .int .i64 0]
  have hbI : Below w.heap.size w ((w.alloc (.cells (pC b1 b2 b3 b4 b5 i1 i2 i3 i4 0 S A H n c m c2 n3 c3) 88)).alloc (.cells #[.bool false, .slice none 0 0, .slice none 0 0, .int .i64 0, .int .i64 0, .bool false, .int .i64 0, .int .i64 0, .bool false, .slice none 0 0, .bool false, .bool false, .int .i64 0] 88)) := ((Below.refl _ w).alloc (Nat.le_refl _) _).alloc (by simp) _
  simp only [World.size_alloc] at hZ1
  unfold pC at HBAD hI1 hZ1 hbI ⊢
  have HI := Lib.hid (And.intro hI1 (And.intro hZ1 hbI))
  clear hb1 hb2 hb3 hb4 hb5 hi1 hi2 hi3 hi4 hI0 hI1 hZ1 hbI
  have hc1 := (HI.out.2.2.cell (p := ⟨wb, wo + 0, none⟩) lW).trans hc'
  rw [Nat.add_zero] at hc1
  have lW1 : wb < ((w.alloc (.cells #[.bool b1, .slice S n c, .slice A m c2, .int .i64 i1, .int .i64 i2, .bool b2, .int .i64 i4, .int .i64 i3, .bool b3, .slice H n3 c3, .bool b4, .bool b5, .int .i64 0] 88)).alloc (.cells #[.bool false, .slice none 0 0, .slice none 0 0, .int .i64 0, .int .i64 0, .bool false, .int .i64 0, .int .i64 0, .bool false, .slice none 0 0, .bool false, .bool false, .int .i64 0] 88)).heap.size := Nat.lt_of_lt_of_le lW HI.out.2.2.size
  have HQ := Lib.hid (show QIs q _ from hq)
  have HS := Lib.hid hS
  clear hn hS hq hW hlen hO hc' hx
  obtain rfl : b2 = false := HPT.out.2.1.trans hbg
  go_enter Tryz.func48, Tryz.ntmps48
  go_wp2_with fail
  generalize (w.alloc (.cells #[.bool b1, .slice S n c, .slice A m c2, .int .i64 i1, .int .i64 i2, .bool false, .int .i64 i4, .int .i64 i3, .bool b3, .slice H n3 c3, .bool b4, .bool b5, .int .i64 0] 88)).alloc (.cells #[.bool false, .slice none 0 0, .slice none 0 0, .int .i64 0, .int .i64 0, .bool false, .int .i64 0, .int .i64 0, .bool false, .slice none 0 0, .bool false, .bool false, .int .i64 0] 88) = W0 at *
  refine (fail_any b1 false b3 b4 b5 i1 i2 i3 i4 12 S A H n c m c2 n3 c3 _).mono ?_
  rintro e wf ⟨rfl, hbf⟩
  have hzf := HI.out.2.1.below hbf HI.out.2.1.lt
  have hbw := HI.out.2.2.trans (hbf.mono HI.out.2.2.size)
  obtain ⟨z0, z1, z2, z3, z4, z5, z6, z7, z8, z9, z10, z11, z12⟩ := cells13 hzf
  obtain ⟨f0, f1, f2, f3, f4, f5, f6, f7, f8, f9, f10, f11, f12⟩ := frozen13 hzf
  have lz := hzf.lt
  have HZ := Lib.hid (And.intro hzf hbw)
  clear hzf hbw hbf
  unfold pC
  go_wp2_with fail
  refine ret13 (fn := Tryz.f48) rfl rfl rfl (HZ.out.1.put13 (.bool b1) (.slice S n c) (.slice A m c2) (.int .i64 i1) (.int .i64 i2) (.bool false) (.int .i64 i4) (.int .i64 i3) (.bool b3) (.slice H n3 c3) (.bool b4) (.bool b5) (.int .i64 12)) (HBAD.out 12 _ HQ.out ((Kept.of_below HZ.out.2 (Bs B w)).put13 (.bool b1) (.slice S n c) (.slice A m c2) (.int .i64 i1) (.int .i64 i2) (.bool false) (.int .i64 i4) (.int .i64 i3) (.bool b3) (.slice H n3 c3) (.bool b4) (.bool b5) (.int .i64 12) (fun h => absurd h (by omega))) ?_)
  exact (HS.out.on HZ.out.2).far13_ HZ.out.1 (.bool b1) (.slice S n c) (.slice A m c2) (.int .i64 i1) (.int .i64 i2) (.bool false) (.int .i64 i4) (.int .i64 i3) (.bool b3) (.slice H n3 c3) (.bool b4) (.bool b5) (.int .i64 12)
set_option maxRecDepth 100000 in
set_option maxHeartbeats 800000 in
theorem rline_n0 (B : Nat) (r : RdV) (S A H : Option Addr) (n c m c2 n3 c3 wb wo cc nn : Nat) (x : List UInt8) (ts : List (List UInt8)) (w : World) (hS : RefS B w r S A H n c m c2 n3 c3) (hO : RdOk r) (hx : x = [110]) (hbg : r.begun = false) (hW : Reads w w.heap.size 1 (some ⟨wb, wo, none⟩) nn ((x :: ts).map strV)) (hcc : nn ≤ cc) (hn : nn = (x :: ts).length) (hlen : ∀ y ∈ x :: ts, y.length ≤ 60000) (hB : B ≤ w.heap.size) :
    Calls Tryz.prog 48 #[refV r 0 S A H n c m c2 n3 c3, .slice (some ⟨wb, wo, none⟩) nn cc] w (RTells B w (lineE r (x :: ts))) := by
  obtain ⟨q, HE⟩ : ∃ q, QIs q (lineE r (x :: ts)) := ⟨_, rfl⟩
  rw [← HE]
  have hq : q = (12, r) := by
    have h : q = lineE r (x :: ts) := HE
    rw [h]; unfold lineE; rw [if_neg (by rw [hx]; simp), if_neg (by rw [hx]; simp), if_pos (by rw [hx]; rfl), if_pos (by simp [hbg])]
  have hn0 : 0 < nn := by rw [hn]; simp
  have lW := hW.lt_ hn0
  have hc' : w.cell? ⟨wb, wo + 0, none⟩ = some (.string ⟨#[110]⟩) := by subst hx; exact hW.get (k := 0) rfl
  have HBAD := Lib.hid (fun (k : Int) (w' : World) (hq : q = (k, r)) (hk : Kept (Bs B w) w w') (hS : RefS B w' r S A H n c m c2 n3 c3) => show RTells B w q (.returned (refV r k S A H n c m c2 n3 c3)) w' from ⟨hk, S, A, H, n, c, m, c2, n3, c3, by rw [hq], by rw [hq]; exact hS⟩)
  unfold refV at HBAD ⊢
  obtain ⟨b1, hb1⟩ : ∃ b, b = r.max := ⟨_, rfl⟩
  obtain ⟨b2, hb2⟩ : ∃ b, b = r.begun := ⟨_, rfl⟩
  obtain ⟨b3, hb3⟩ : ∃ b, b = decide (¬ r.arcs = []) := ⟨_, rfl⟩
  obtain ⟨b4, hb4⟩ : ∃ b, b = r.es.isSome := ⟨_, rfl⟩
  obtain ⟨b5, hb5⟩ : ∃ b, b = r.et.isSome := ⟨_, rfl⟩
  obtain ⟨i1, hi1⟩ : ∃ b, b = r.es.getD 0 := ⟨_, rfl⟩
  obtain ⟨i2, hi2⟩ : ∃ b, b = r.et.getD 0 := ⟨_, rfl⟩
  obtain ⟨i3, hi3⟩ : ∃ b, b = r.many := ⟨_, rfl⟩
  obtain ⟨i4, hi4⟩ : ∃ b : Int, b = r.sup.length := ⟨_, rfl⟩
  rw [← hb1, ← hb2, ← hb3, ← hb4, ← hb5, ← hi1, ← hi2, ← hi3, ← hi4] at HBAD ⊢
  have HPT := Lib.hid (And.intro hb1 (And.intro hb2 (And.intro hb3 (And.intro hb4 (And.intro hb5 (And.intro hi1 (And.intro hi2 (And.intro hi3 hi4))))))))
  have hI0 := Blk.new w 88 (pC b1 b2 b3 b4 b5 i1 i2 i3 i4 0 S A H n c m c2 n3 c3)
  have hI1 := hI0.alloc (.cells #[.bool false, .slice none 0 0, .slice none 0 0, .int .i64 0, .int .i64 0, .bool false, .int .i64 0, .int .i64 0, .bool false, .slice none 0 0, .bool false, .bool false, .int .i64 0] 88)
  have hZ1 := Blk.new (w.alloc (.cells (pC b1 b2 b3 b4 b5 i1 i2 i3 i4 0 S A H n c m c2 n3 c3) 88)) 88 #[.bool false, .slice none 0 0, .slice none 0 0, .int .i64 0, .int .i64 0, .bool false, .int .i64 0, .int .i64 0, .bool false, .slice none 0 0, .bool false, .bool false, .int .i64 0]
  have hbI : Below w.heap.size w ((w.alloc (.cells (pC b1 b2 b3 b4 b5 i1 i2 i3 i4 0 S A H n c m c2 n3 c3) 88)).alloc (.cells #[.bool false, .slice none 0 0, .slice none 0 0, .int .i64 0, .int .i64 0, .bool false, .int .i64 0, .int .i64 0, .bool false, .slice none 0 0, .bool false, .bool false, .int .i64 0] 88)) := ((Below.refl _ w).alloc (Nat.le_refl _) _).alloc (by simp) _
  simp only [World.size_alloc] at hZ1
  unfold pC at HBAD hI1 hZ1 hbI ⊢
  have HI := Lib.hid (And.intro hI1 (And.intro hZ1 hbI))
  clear hb1 hb2 hb3 hb4 hb5 hi1 hi2 hi3 hi4 hI0 hI1 hZ1 hbI
  have hc1 := (HI.out.2.2.cell (p := ⟨wb, wo + 0, none⟩) lW).trans hc'
  rw [Nat.add_zero] at hc1
  have lW1 : wb < ((w.alloc (.cells #[.bool b1, .slice S n c, .slice A m c2, .int .i64 i1, .int .i64 i2, .bool b2, .int .i64 i4, .int .i64 i3, .bool b3, .slice H n3 c3, .bool b4, .bool b5, .int .i64 0] 88)).alloc (.cells #[.bool false, .slice none 0 0, .slice none 0 0, .int .i64 0, .int .i64 0, .bool false, .int .i64 0, .int .i64 0, .bool false, .slice none 0 0, .bool false, .bool false, .int .i64 0] 88)).heap.size := Nat.lt_of_lt_of_le lW HI.out.2.2.size
  have HQ := Lib.hid (show QIs q _ from hq)
  have HS := Lib.hid hS
  clear hn hS hq hW hlen hO hc' hx
  obtain rfl : b2 = false := HPT.out.2.1.trans hbg
  go_enter Tryz.func48, Tryz.ntmps48
  go_wp2_with fail
  generalize (w.alloc (.cells #[.bool b1, .slice S n c, .slice A m c2, .int .i64 i1, .int .i64 i2, .bool false, .int .i64 i4, .int .i64 i3, .bool b3, .slice H n3 c3, .bool b4, .bool b5, .int .i64 0] 88)).alloc (.cells #[.bool false, .slice none 0 0, .slice none 0 0, .int .i64 0, .int .i64 0, .bool false, .int .i64 0, .int .i64 0, .bool false, .slice none 0 0, .bool false, .bool false, .int .i64 0] 88) = W0 at *
  refine (fail_any b1 false b3 b4 b5 i1 i2 i3 i4 12 S A H n c m c2 n3 c3 _).mono ?_
  rintro e wf ⟨rfl, hbf⟩
  have hzf := HI.out.2.1.below hbf HI.out.2.1.lt
  have hbw := HI.out.2.2.trans (hbf.mono HI.out.2.2.size)
  obtain ⟨z0, z1, z2, z3, z4, z5, z6, z7, z8, z9, z10, z11, z12⟩ := cells13 hzf
  obtain ⟨f0, f1, f2, f3, f4, f5, f6, f7, f8, f9, f10, f11, f12⟩ := frozen13 hzf
  have lz := hzf.lt
  have HZ := Lib.hid (And.intro hzf hbw)
  clear hzf hbw hbf
  unfold pC
  go_wp2_with fail
  refine ret13 (fn := Tryz.f48) rfl rfl rfl (HZ.out.1.put13 (.bool b1) (.slice S n c) (.slice A m c2) (.int .i64 i1) (.int .i64 i2) (.bool false) (.int .i64 i4) (.int .i64 i3) (.bool b3) (.slice H n3 c3) (.bool b4) (.bool b5) (.int .i64 12)) (HBAD.out 12 _ HQ.out ((Kept.of_below HZ.out.2 (Bs B w)).put13 (.bool b1) (.slice S n c) (.slice A m c2) (.int .i64 i1) (.int .i64 i2) (.bool false) (.int .i64 i4) (.int .i64 i3) (.bool b3) (.slice H n3 c3) (.bool b4) (.bool b5) (.int .i64 12) (fun h => absurd h (by omega))) ?_)
  exact (HS.out.on HZ.out.2).far13_ HZ.out.1 (.bool b1) (.slice S n c) (.slice A m c2) (.int .i64 i1) (.int .i64 i2) (.bool false) (.int .i64 i4) (.int .i64 i3) (.bool b3) (.slice H n3 c3) (.bool b4) (.bool b5) (.int .i64 12)
set_option maxRecDepth 100000 in
set_option maxHeartbeats 800000 in
theorem rline_a1 (B : Nat) (r : RdV) (S A H : Option Addr) (n c m c2 n3 c3 wb wo cc nn : Nat) (x : List UInt8) (ts : List (List UInt8)) (w : World) (hS : RefS B w r S A H n c m c2 n3 c3) (hO : RdOk r) (hx : x = [97]) (hbg : r.begun = true) (hW : Reads w w.heap.size 1 (some ⟨wb, wo, none⟩) nn ((x :: ts).map strV)) (hcc : nn ≤ cc) (hn : nn = (x :: ts).length) (hlen : ∀ y ∈ x :: ts, y.length ≤ 60000) (hB : B ≤ w.heap.size) :
    Calls Tryz.prog 48 #[refV r 0 S A H n c m c2 n3 c3, .slice (some ⟨wb, wo, none⟩) nn cc] w (RTells B w (lineE r (x :: ts))) := by
  obtain ⟨q, HE⟩ : ∃ q, QIs q (lineE r (x :: ts)) := ⟨_, rfl⟩
  rw [← HE]
  have hq : q = arcE r (x :: ts) := by
    have h : q = lineE r (x :: ts) := HE
    rw [h]; unfold lineE; rw [if_neg (by rw [hx]; simp), if_neg (by rw [hx]; simp), if_neg (by rw [hx]; simp), if_pos (by rw [hx]; rfl), if_neg (by simp [hbg])]
  have hn0 : 0 < nn := by rw [hn]; simp
  have lW := hW.lt_ hn0
  have hc' : w.cell? ⟨wb, wo + 0, none⟩ = some (.string ⟨#[97]⟩) := by subst hx; exact hW.get (k := 0) rfl
  have HC := Lib.hid (fun (W0 : World) (hb : Below w.heap.size w W0) => show Calls Tryz.prog 66 #[refV r 0 S A H n c m c2 n3 c3, .slice (some ⟨wb, wo, none⟩) nn cc] W0 (RTells B W0 q) from by
    rw [hq]
    exact rarc_any B r S A H n c m c2 n3 c3 wb wo cc nn (x :: ts) W0 (hS.on hb) hO hbg ((hW.below hb).more hb.size) hcc hn hlen (Nat.le_trans hB hb.size))
  have HBAD := Lib.hid (fun (k : Int) (w' : World) (hq : q = (k, r)) (hk : Kept (Bs B w) w w') (hS : RefS B w' r S A H n c m c2 n3 c3) => show RTells B w q (.returned (refV r k S A H n c m c2 n3 c3)) w' from ⟨hk, S, A, H, n, c, m, c2, n3, c3, by rw [hq], by rw [hq]; exact hS⟩)
  unfold refV at HBAD HC ⊢
  obtain ⟨b1, hb1⟩ : ∃ b, b = r.max := ⟨_, rfl⟩
  obtain ⟨b2, hb2⟩ : ∃ b, b = r.begun := ⟨_, rfl⟩
  obtain ⟨b3, hb3⟩ : ∃ b, b = decide (¬ r.arcs = []) := ⟨_, rfl⟩
  obtain ⟨b4, hb4⟩ : ∃ b, b = r.es.isSome := ⟨_, rfl⟩
  obtain ⟨b5, hb5⟩ : ∃ b, b = r.et.isSome := ⟨_, rfl⟩
  obtain ⟨i1, hi1⟩ : ∃ b, b = r.es.getD 0 := ⟨_, rfl⟩
  obtain ⟨i2, hi2⟩ : ∃ b, b = r.et.getD 0 := ⟨_, rfl⟩
  obtain ⟨i3, hi3⟩ : ∃ b, b = r.many := ⟨_, rfl⟩
  obtain ⟨i4, hi4⟩ : ∃ b : Int, b = r.sup.length := ⟨_, rfl⟩
  rw [← hb1, ← hb2, ← hb3, ← hb4, ← hb5, ← hi1, ← hi2, ← hi3, ← hi4] at HBAD HC ⊢
  have HPT := Lib.hid (And.intro hb1 (And.intro hb2 (And.intro hb3 (And.intro hb4 (And.intro hb5 (And.intro hi1 (And.intro hi2 (And.intro hi3 hi4))))))))
  have hI0 := Blk.new w 88 (pC b1 b2 b3 b4 b5 i1 i2 i3 i4 0 S A H n c m c2 n3 c3)
  have hI1 := hI0.alloc (.cells #[.bool false, .slice none 0 0, .slice none 0 0, .int .i64 0, .int .i64 0, .bool false, .int .i64 0, .int .i64 0, .bool false, .slice none 0 0, .bool false, .bool false, .int .i64 0] 88)
  have hZ1 := Blk.new (w.alloc (.cells (pC b1 b2 b3 b4 b5 i1 i2 i3 i4 0 S A H n c m c2 n3 c3) 88)) 88 #[.bool false, .slice none 0 0, .slice none 0 0, .int .i64 0, .int .i64 0, .bool false, .int .i64 0, .int .i64 0, .bool false, .slice none 0 0, .bool false, .bool false, .int .i64 0]
  have hbI : Below w.heap.size w ((w.alloc (.cells (pC b1 b2 b3 b4 b5 i1 i2 i3 i4 0 S A H n c m c2 n3 c3) 88)).alloc (.cells #[.bool false, .slice none 0 0, .slice none 0 0, .int .i64 0, .int .i64 0, .bool false, .int .i64 0, .int .i64 0, .bool false, .slice none 0 0, .bool false, .bool false, .int .i64 0] 88)) := ((Below.refl _ w).alloc (Nat.le_refl _) _).alloc (by simp) _
  simp only [World.size_alloc] at hZ1
  unfold pC at HBAD HC hI1 hZ1 hbI ⊢
  have HI := Lib.hid (And.intro hI1 (And.intro hZ1 hbI))
  clear hb1 hb2 hb3 hb4 hb5 hi1 hi2 hi3 hi4 hI0 hI1 hZ1 hbI
  have hc1 := (HI.out.2.2.cell (p := ⟨wb, wo + 0, none⟩) lW).trans hc'
  rw [Nat.add_zero] at hc1
  have lW1 : wb < ((w.alloc (.cells #[.bool b1, .slice S n c, .slice A m c2, .int .i64 i1, .int .i64 i2, .bool b2, .int .i64 i4, .int .i64 i3, .bool b3, .slice H n3 c3, .bool b4, .bool b5, .int .i64 0] 88)).alloc (.cells #[.bool false, .slice none 0 0, .slice none 0 0, .int .i64 0, .int .i64 0, .bool false, .int .i64 0, .int .i64 0, .bool false, .slice none 0 0, .bool false, .bool false, .int .i64 0] 88)).heap.size := Nat.lt_of_lt_of_le lW HI.out.2.2.size
  have HQ := Lib.hid (show QIs q _ from hq)
  have HS := Lib.hid hS
  clear hn hS hq hW hlen hO hc' hx
  obtain rfl : b2 = true := HPT.out.2.1.trans hbg
  go_enter Tryz.func48, Tryz.ntmps48
  go_wp2_with fail
  generalize (w.alloc (.cells #[.bool b1, .slice S n c, .slice A m c2, .int .i64 i1, .int .i64 i2, .bool true, .int .i64 i4, .int .i64 i3, .bool b3, .slice H n3 c3, .bool b4, .bool b5, .int .i64 0] 88)).alloc (.cells #[.bool false, .slice none 0 0, .slice none 0 0, .int .i64 0, .int .i64 0, .bool false, .int .i64 0, .int .i64 0, .bool false, .slice none 0 0, .bool false, .bool false, .int .i64 0] 88) = W0 at *
  obtain ⟨c0, c1, c2'_, c3'_, c4, c5, c6, c7, c8, c9, c10, c11, c12⟩ := cells13 HI.out.1
  have lp := HI.out.1.lt
  refine (HC.out _ HI.out.2.2).mono ?_
  rintro e w1 ⟨hk1, S', A', H', n', c', m', c2', n3', c3', rfl, hS1⟩
  have hz1 := HI.out.2.1.kept hk1 (fun h => absurd (h.2 _ _ HI.out.2.1) (by decide))
  have hkw := (Kept.of_below HI.out.2.2 (Bs B w)).trans (hk1.mono fun k _ h => h.back HI.out.2.2)
  obtain ⟨d1, d2, d3, d4, d5, j1, j2, j3, j4, hd⟩ := refV_form q.2 q.1 S' A' H' n' c' m' c2' n3' c3'
  have HDD := Lib.hid (show QV _ _ from hd)
  rw [hd]
  obtain ⟨qe, hqe⟩ : ∃ k, k = q.1 := ⟨_, rfl⟩
  have HQE := Lib.hid hqe
  rw [← hqe]
  obtain ⟨z0, z1, z2, z3, z4, z5, z6, z7, z8, z9, z10, z11, z12⟩ := cells13 hz1
  obtain ⟨f0, f1, f2, f3, f4, f5, f6, f7, f8, f9, f10, f11, f12⟩ := frozen13 hz1
  have lz := hz1.lt
  have HZ := Lib.hid (And.intro hz1 (And.intro hkw hS1))
  clear hz1 hkw hS1 hk1 hd hqe c0 c1 c2'_ c3'_ c4 c5 c6 c7 c8 c9 c10 c11 c12 lp
  go_wp2_with fail
  refine ret13 (fn := Tryz.f48) rfl rfl rfl (HZ.out.1.put13 (.bool d1) (.slice S' n' c') (.slice A' m' c2') (.int .i64 j1) (.int .i64 j2) (.bool d2) (.int .i64 j4) (.int .i64 j3) (.bool d3) (.slice H' n3' c3') (.bool d4) (.bool d5) (.int .i64 qe)) ⟨HZ.out.2.1.put13 (.bool d1) (.slice S' n' c') (.slice A' m' c2') (.int .i64 j1) (.int .i64 j2) (.bool d2) (.int .i64 j4) (.int .i64 j3) (.bool d3) (.slice H' n3' c3') (.bool d4) (.bool d5) (.int .i64 qe) (fun h => absurd h (by omega)), S', A', H', n', c', m', c2', n3', c3', ?_, HZ.out.2.2.far13_ HZ.out.1 (.bool d1) (.slice S' n' c') (.slice A' m' c2') (.int .i64 j1) (.int .i64 j2) (.bool d2) (.int .i64 j4) (.int .i64 j3) (.bool d3) (.slice H' n3' c3') (.bool d4) (.bool d5) (.int .i64 qe)⟩
  have hdd : refV _ _ _ _ _ _ _ _ _ _ _ = _ := HDD.out
  rw [hdd, HQE.out]
set_option maxRecDepth 100000 in
set_option maxHeartbeats 800000 in
theorem rline_n1 (B : Nat) (r : RdV) (S A H : Option Addr) (n c m c2 n3 c3 wb wo cc nn : Nat) (x : List UInt8) (ts : List (List UInt8)) (w : World) (hS : RefS B w r S A H n c m c2 n3 c3) (hO : RdOk r) (hx : x = [110]) (hbg : r.begun = true) (hm : r.max = true) (hW : Reads w w.heap.size 1 (some ⟨wb, wo, none⟩) nn ((x :: ts).map strV)) (hcc : nn ≤ cc) (hn : nn = (x :: ts).length) (hlen : ∀ y ∈ x :: ts, y.length ≤ 60000) (hB : B ≤ w.heap.size) :
    Calls Tryz.prog 48 #[refV r 0 S A H n c m c2 n3 c3, .slice (some ⟨wb, wo, none⟩) nn cc] w (RTells B w (lineE r (x :: ts))) := by
  obtain ⟨q, HE⟩ : ∃ q, QIs q (lineE r (x :: ts)) := ⟨_, rfl⟩
  rw [← HE]
  have hq : q = endE r (x :: ts) := by
    have h : q = lineE r (x :: ts) := HE
    rw [h]; unfold lineE; rw [if_neg (by rw [hx]; simp), if_neg (by rw [hx]; simp), if_pos (by rw [hx]; rfl), if_neg (by simp [hbg]), if_pos hm]
  have hn0 : 0 < nn := by rw [hn]; simp
  have lW := hW.lt_ hn0
  have hc' : w.cell? ⟨wb, wo + 0, none⟩ = some (.string ⟨#[110]⟩) := by subst hx; exact hW.get (k := 0) rfl
  have HC := Lib.hid (fun (W0 : World) (hb : Below w.heap.size w W0) => show Calls Tryz.prog 67 #[refV r 0 S A H n c m c2 n3 c3, .slice (some ⟨wb, wo, none⟩) nn cc] W0 (RTells B W0 q) from by
    rw [hq]
    exact rend_any B r S A H n c m c2 n3 c3 wb wo cc nn (x :: ts) W0 (hS.on hb) hO hbg ((hW.below hb).more hb.size) hcc hn hlen (Nat.le_trans hB hb.size))
  have HBAD := Lib.hid (fun (k : Int) (w' : World) (hq : q = (k, r)) (hk : Kept (Bs B w) w w') (hS : RefS B w' r S A H n c m c2 n3 c3) => show RTells B w q (.returned (refV r k S A H n c m c2 n3 c3)) w' from ⟨hk, S, A, H, n, c, m, c2, n3, c3, by rw [hq], by rw [hq]; exact hS⟩)
  unfold refV at HBAD HC ⊢
  obtain ⟨b1, hb1⟩ : ∃ b, b = r.max := ⟨_, rfl⟩
  obtain ⟨b2, hb2⟩ : ∃ b, b = r.begun := ⟨_, rfl⟩
  obtain ⟨b3, hb3⟩ : ∃ b, b = decide (¬ r.arcs = []) := ⟨_, rfl⟩
  obtain ⟨b4, hb4⟩ : ∃ b, b = r.es.isSome := ⟨_, rfl⟩
  obtain ⟨b5, hb5⟩ : ∃ b, b = r.et.isSome := ⟨_, rfl⟩
  obtain ⟨i1, hi1⟩ : ∃ b, b = r.es.getD 0 := ⟨_, rfl⟩
  obtain ⟨i2, hi2⟩ : ∃ b, b = r.et.getD 0 := ⟨_, rfl⟩
  obtain ⟨i3, hi3⟩ : ∃ b, b = r.many := ⟨_, rfl⟩
  obtain ⟨i4, hi4⟩ : ∃ b : Int, b = r.sup.length := ⟨_, rfl⟩
  rw [← hb1, ← hb2, ← hb3, ← hb4, ← hb5, ← hi1, ← hi2, ← hi3, ← hi4] at HBAD HC ⊢
  have HPT := Lib.hid (And.intro hb1 (And.intro hb2 (And.intro hb3 (And.intro hb4 (And.intro hb5 (And.intro hi1 (And.intro hi2 (And.intro hi3 hi4))))))))
  have hI0 := Blk.new w 88 (pC b1 b2 b3 b4 b5 i1 i2 i3 i4 0 S A H n c m c2 n3 c3)
  have hI1 := hI0.alloc (.cells #[.bool false, .slice none 0 0, .slice none 0 0, .int .i64 0, .int .i64 0, .bool false, .int .i64 0, .int .i64 0, .bool false, .slice none 0 0, .bool false, .bool false, .int .i64 0] 88)
  have hZ1 := Blk.new (w.alloc (.cells (pC b1 b2 b3 b4 b5 i1 i2 i3 i4 0 S A H n c m c2 n3 c3) 88)) 88 #[.bool false, .slice none 0 0, .slice none 0 0, .int .i64 0, .int .i64 0, .bool false, .int .i64 0, .int .i64 0, .bool false, .slice none 0 0, .bool false, .bool false, .int .i64 0]
  have hbI : Below w.heap.size w ((w.alloc (.cells (pC b1 b2 b3 b4 b5 i1 i2 i3 i4 0 S A H n c m c2 n3 c3) 88)).alloc (.cells #[.bool false, .slice none 0 0, .slice none 0 0, .int .i64 0, .int .i64 0, .bool false, .int .i64 0, .int .i64 0, .bool false, .slice none 0 0, .bool false, .bool false, .int .i64 0] 88)) := ((Below.refl _ w).alloc (Nat.le_refl _) _).alloc (by simp) _
  simp only [World.size_alloc] at hZ1
  unfold pC at HBAD HC hI1 hZ1 hbI ⊢
  have HI := Lib.hid (And.intro hI1 (And.intro hZ1 hbI))
  clear hb1 hb2 hb3 hb4 hb5 hi1 hi2 hi3 hi4 hI0 hI1 hZ1 hbI
  have hc1 := (HI.out.2.2.cell (p := ⟨wb, wo + 0, none⟩) lW).trans hc'
  rw [Nat.add_zero] at hc1
  have lW1 : wb < ((w.alloc (.cells #[.bool b1, .slice S n c, .slice A m c2, .int .i64 i1, .int .i64 i2, .bool b2, .int .i64 i4, .int .i64 i3, .bool b3, .slice H n3 c3, .bool b4, .bool b5, .int .i64 0] 88)).alloc (.cells #[.bool false, .slice none 0 0, .slice none 0 0, .int .i64 0, .int .i64 0, .bool false, .int .i64 0, .int .i64 0, .bool false, .slice none 0 0, .bool false, .bool false, .int .i64 0] 88)).heap.size := Nat.lt_of_lt_of_le lW HI.out.2.2.size
  have HQ := Lib.hid (show QIs q _ from hq)
  have HS := Lib.hid hS
  clear hn hS hq hW hlen hO hc' hx
  obtain rfl : b2 = true := HPT.out.2.1.trans hbg
  obtain rfl : b1 = true := HPT.out.1.trans hm
  go_enter Tryz.func48, Tryz.ntmps48
  go_wp2_with fail
  generalize (w.alloc (.cells #[.bool true, .slice S n c, .slice A m c2, .int .i64 i1, .int .i64 i2, .bool true, .int .i64 i4, .int .i64 i3, .bool b3, .slice H n3 c3, .bool b4, .bool b5, .int .i64 0] 88)).alloc (.cells #[.bool false, .slice none 0 0, .slice none 0 0, .int .i64 0, .int .i64 0, .bool false, .int .i64 0, .int .i64 0, .bool false, .slice none 0 0, .bool false, .bool false, .int .i64 0] 88) = W0 at *
  obtain ⟨c0, c1, c2'_, c3'_, c4, c5, c6, c7, c8, c9, c10, c11, c12⟩ := cells13 HI.out.1
  have lp := HI.out.1.lt
  refine (HC.out _ HI.out.2.2).mono ?_
  rintro e w1 ⟨hk1, S', A', H', n', c', m', c2', n3', c3', rfl, hS1⟩
  have hz1 := HI.out.2.1.kept hk1 (fun h => absurd (h.2 _ _ HI.out.2.1) (by decide))
  have hkw := (Kept.of_below HI.out.2.2 (Bs B w)).trans (hk1.mono fun k _ h => h.back HI.out.2.2)
  obtain ⟨d1, d2, d3, d4, d5, j1, j2, j3, j4, hd⟩ := refV_form q.2 q.1 S' A' H' n' c' m' c2' n3' c3'
  have HDD := Lib.hid (show QV _ _ from hd)
  rw [hd]
  obtain ⟨qe, hqe⟩ : ∃ k, k = q.1 := ⟨_, rfl⟩
  have HQE := Lib.hid hqe
  rw [← hqe]
  obtain ⟨z0, z1, z2, z3, z4, z5, z6, z7, z8, z9, z10, z11, z12⟩ := cells13 hz1
  obtain ⟨f0, f1, f2, f3, f4, f5, f6, f7, f8, f9, f10, f11, f12⟩ := frozen13 hz1
  have lz := hz1.lt
  have HZ := Lib.hid (And.intro hz1 (And.intro hkw hS1))
  clear hz1 hkw hS1 hk1 hd hqe c0 c1 c2'_ c3'_ c4 c5 c6 c7 c8 c9 c10 c11 c12 lp
  go_wp2_with fail
  refine ret13 (fn := Tryz.f48) rfl rfl rfl (HZ.out.1.put13 (.bool d1) (.slice S' n' c') (.slice A' m' c2') (.int .i64 j1) (.int .i64 j2) (.bool d2) (.int .i64 j4) (.int .i64 j3) (.bool d3) (.slice H' n3' c3') (.bool d4) (.bool d5) (.int .i64 qe)) ⟨HZ.out.2.1.put13 (.bool d1) (.slice S' n' c') (.slice A' m' c2') (.int .i64 j1) (.int .i64 j2) (.bool d2) (.int .i64 j4) (.int .i64 j3) (.bool d3) (.slice H' n3' c3') (.bool d4) (.bool d5) (.int .i64 qe) (fun h => absurd h (by omega)), S', A', H', n', c', m', c2', n3', c3', ?_, HZ.out.2.2.far13_ HZ.out.1 (.bool d1) (.slice S' n' c') (.slice A' m' c2') (.int .i64 j1) (.int .i64 j2) (.bool d2) (.int .i64 j4) (.int .i64 j3) (.bool d3) (.slice H' n3' c3') (.bool d4) (.bool d5) (.int .i64 qe)⟩
  have hdd : refV _ _ _ _ _ _ _ _ _ _ _ = _ := HDD.out
  rw [hdd, HQE.out]
set_option maxRecDepth 100000 in
set_option maxHeartbeats 800000 in
theorem rline_n2 (B : Nat) (r : RdV) (S A H : Option Addr) (n c m c2 n3 c3 wb wo cc nn : Nat) (x : List UInt8) (ts : List (List UInt8)) (w : World) (hS : RefS B w r S A H n c m c2 n3 c3) (hO : RdOk r) (hx : x = [110]) (hbg : r.begun = true) (hm : r.max = false) (hW : Reads w w.heap.size 1 (some ⟨wb, wo, none⟩) nn ((x :: ts).map strV)) (hcc : nn ≤ cc) (hn : nn = (x :: ts).length) (hlen : ∀ y ∈ x :: ts, y.length ≤ 60000) (hB : B ≤ w.heap.size) :
    Calls Tryz.prog 48 #[refV r 0 S A H n c m c2 n3 c3, .slice (some ⟨wb, wo, none⟩) nn cc] w (RTells B w (lineE r (x :: ts))) := by
  obtain ⟨q, HE⟩ : ∃ q, QIs q (lineE r (x :: ts)) := ⟨_, rfl⟩
  rw [← HE]
  have hq : q = nodeE r (x :: ts) := by
    have h : q = lineE r (x :: ts) := HE
    rw [h]; unfold lineE; rw [if_neg (by rw [hx]; simp), if_neg (by rw [hx]; simp), if_pos (by rw [hx]; rfl), if_neg (by simp [hbg]), if_neg (by simp [hm])]
  have hn0 : 0 < nn := by rw [hn]; simp
  have lW := hW.lt_ hn0
  have hc' : w.cell? ⟨wb, wo + 0, none⟩ = some (.string ⟨#[110]⟩) := by subst hx; exact hW.get (k := 0) rfl
  have HC := Lib.hid (fun (W0 : World) (hb : Below w.heap.size w W0) => show Calls Tryz.prog 68 #[refV r 0 S A H n c m c2 n3 c3, .slice (some ⟨wb, wo, none⟩) nn cc] W0 (RTells B W0 q) from by
    rw [hq]
    exact rnode_any B r S A H n c m c2 n3 c3 wb wo cc nn (x :: ts) W0 (hS.on hb) hO hbg ((hW.below hb).more hb.size) hcc hn hlen (Nat.le_trans hB hb.size))
  have HBAD := Lib.hid (fun (k : Int) (w' : World) (hq : q = (k, r)) (hk : Kept (Bs B w) w w') (hS : RefS B w' r S A H n c m c2 n3 c3) => show RTells B w q (.returned (refV r k S A H n c m c2 n3 c3)) w' from ⟨hk, S, A, H, n, c, m, c2, n3, c3, by rw [hq], by rw [hq]; exact hS⟩)
  unfold refV at HBAD HC ⊢
  obtain ⟨b1, hb1⟩ : ∃ b, b = r.max := ⟨_, rfl⟩
  obtain ⟨b2, hb2⟩ : ∃ b, b = r.begun := ⟨_, rfl⟩
  obtain ⟨b3, hb3⟩ : ∃ b, b = decide (¬ r.arcs = []) := ⟨_, rfl⟩
  obtain ⟨b4, hb4⟩ : ∃ b, b = r.es.isSome := ⟨_, rfl⟩
  obtain ⟨b5, hb5⟩ : ∃ b, b = r.et.isSome := ⟨_, rfl⟩
  obtain ⟨i1, hi1⟩ : ∃ b, b = r.es.getD 0 := ⟨_, rfl⟩
  obtain ⟨i2, hi2⟩ : ∃ b, b = r.et.getD 0 := ⟨_, rfl⟩
  obtain ⟨i3, hi3⟩ : ∃ b, b = r.many := ⟨_, rfl⟩
  obtain ⟨i4, hi4⟩ : ∃ b : Int, b = r.sup.length := ⟨_, rfl⟩
  rw [← hb1, ← hb2, ← hb3, ← hb4, ← hb5, ← hi1, ← hi2, ← hi3, ← hi4] at HBAD HC ⊢
  have HPT := Lib.hid (And.intro hb1 (And.intro hb2 (And.intro hb3 (And.intro hb4 (And.intro hb5 (And.intro hi1 (And.intro hi2 (And.intro hi3 hi4))))))))
  have hI0 := Blk.new w 88 (pC b1 b2 b3 b4 b5 i1 i2 i3 i4 0 S A H n c m c2 n3 c3)
  have hI1 := hI0.alloc (.cells #[.bool false, .slice none 0 0, .slice none 0 0, .int .i64 0, .int .i64 0, .bool false, .int .i64 0, .int .i64 0, .bool false, .slice none 0 0, .bool false, .bool false, .int .i64 0] 88)
  have hZ1 := Blk.new (w.alloc (.cells (pC b1 b2 b3 b4 b5 i1 i2 i3 i4 0 S A H n c m c2 n3 c3) 88)) 88 #[.bool false, .slice none 0 0, .slice none 0 0, .int .i64 0, .int .i64 0, .bool false, .int .i64 0, .int .i64 0, .bool false, .slice none 0 0, .bool false, .bool false, .int .i64 0]
  have hbI : Below w.heap.size w ((w.alloc (.cells (pC b1 b2 b3 b4 b5 i1 i2 i3 i4 0 S A H n c m c2 n3 c3) 88)).alloc (.cells #[.bool false, .slice none 0 0, .slice none 0 0, .int .i64 0, .int .i64 0, .bool false, .int .i64 0, .int .i64 0, .bool false, .slice none 0 0, .bool false, .bool false, .int .i64 0] 88)) := ((Below.refl _ w).alloc (Nat.le_refl _) _).alloc (by simp) _
  simp only [World.size_alloc] at hZ1
  unfold pC at HBAD HC hI1 hZ1 hbI ⊢
  have HI := Lib.hid (And.intro hI1 (And.intro hZ1 hbI))
  clear hb1 hb2 hb3 hb4 hb5 hi1 hi2 hi3 hi4 hI0 hI1 hZ1 hbI
  have hc1 := (HI.out.2.2.cell (p := ⟨wb, wo + 0, none⟩) lW).trans hc'
  rw [Nat.add_zero] at hc1
  have lW1 : wb < ((w.alloc (.cells #[.bool b1, .slice S n c, .slice A m c2, .int .i64 i1, .int .i64 i2, .bool b2, .int .i64 i4, .int .i64 i3, .bool b3, .slice H n3 c3, .bool b4, .bool b5, .int .i64 0] 88)).alloc (.cells #[.bool false, .slice none 0 0, .slice none 0 0, .int .i64 0, .int .i64 0, .bool false, .int .i64 0, .int .i64 0, .bool false, .slice none 0 0, .bool false, .bool false, .int .i64 0] 88)).heap.size := Nat.lt_of_lt_of_le lW HI.out.2.2.size
  have HQ := Lib.hid (show QIs q _ from hq)
  have HS := Lib.hid hS
  clear hn hS hq hW hlen hO hc' hx
  obtain rfl : b2 = true := HPT.out.2.1.trans hbg
  obtain rfl : b1 = false := HPT.out.1.trans hm
  go_enter Tryz.func48, Tryz.ntmps48
  go_wp2_with fail
  generalize (w.alloc (.cells #[.bool false, .slice S n c, .slice A m c2, .int .i64 i1, .int .i64 i2, .bool true, .int .i64 i4, .int .i64 i3, .bool b3, .slice H n3 c3, .bool b4, .bool b5, .int .i64 0] 88)).alloc (.cells #[.bool false, .slice none 0 0, .slice none 0 0, .int .i64 0, .int .i64 0, .bool false, .int .i64 0, .int .i64 0, .bool false, .slice none 0 0, .bool false, .bool false, .int .i64 0] 88) = W0 at *
  obtain ⟨c0, c1, c2'_, c3'_, c4, c5, c6, c7, c8, c9, c10, c11, c12⟩ := cells13 HI.out.1
  have lp := HI.out.1.lt
  refine (HC.out _ HI.out.2.2).mono ?_
  rintro e w1 ⟨hk1, S', A', H', n', c', m', c2', n3', c3', rfl, hS1⟩
  have hz1 := HI.out.2.1.kept hk1 (fun h => absurd (h.2 _ _ HI.out.2.1) (by decide))
  have hkw := (Kept.of_below HI.out.2.2 (Bs B w)).trans (hk1.mono fun k _ h => h.back HI.out.2.2)
  obtain ⟨d1, d2, d3, d4, d5, j1, j2, j3, j4, hd⟩ := refV_form q.2 q.1 S' A' H' n' c' m' c2' n3' c3'
  have HDD := Lib.hid (show QV _ _ from hd)
  rw [hd]
  obtain ⟨qe, hqe⟩ : ∃ k, k = q.1 := ⟨_, rfl⟩
  have HQE := Lib.hid hqe
  rw [← hqe]
  obtain ⟨z0, z1, z2, z3, z4, z5, z6, z7, z8, z9, z10, z11, z12⟩ := cells13 hz1
  obtain ⟨f0, f1, f2, f3, f4, f5, f6, f7, f8, f9, f10, f11, f12⟩ := frozen13 hz1
  have lz := hz1.lt
  have HZ := Lib.hid (And.intro hz1 (And.intro hkw hS1))
  clear hz1 hkw hS1 hk1 hd hqe c0 c1 c2'_ c3'_ c4 c5 c6 c7 c8 c9 c10 c11 c12 lp
  go_wp2_with fail
  refine ret13 (fn := Tryz.f48) rfl rfl rfl (HZ.out.1.put13 (.bool d1) (.slice S' n' c') (.slice A' m' c2') (.int .i64 j1) (.int .i64 j2) (.bool d2) (.int .i64 j4) (.int .i64 j3) (.bool d3) (.slice H' n3' c3') (.bool d4) (.bool d5) (.int .i64 qe)) ⟨HZ.out.2.1.put13 (.bool d1) (.slice S' n' c') (.slice A' m' c2') (.int .i64 j1) (.int .i64 j2) (.bool d2) (.int .i64 j4) (.int .i64 j3) (.bool d3) (.slice H' n3' c3') (.bool d4) (.bool d5) (.int .i64 qe) (fun h => absurd h (by omega)), S', A', H', n', c', m', c2', n3', c3', ?_, HZ.out.2.2.far13_ HZ.out.1 (.bool d1) (.slice S' n' c') (.slice A' m' c2') (.int .i64 j1) (.int .i64 j2) (.bool d2) (.int .i64 j4) (.int .i64 j3) (.bool d3) (.slice H' n3' c3') (.bool d4) (.bool d5) (.int .i64 qe)⟩
  have hdd : refV _ _ _ _ _ _ _ _ _ _ _ = _ := HDD.out
  rw [hdd, HQE.out]
set_option maxRecDepth 100000 in
set_option maxHeartbeats 800000 in
theorem rline_x (B : Nat) (r : RdV) (S A H : Option Addr) (n c m c2 n3 c3 wb wo cc nn : Nat) (x : List UInt8) (ts : List (List UInt8)) (w : World) (hS : RefS B w r S A H n c m c2 n3 c3) (hO : RdOk r) (hx1 : ¬ x = [99]) (hx2 : ¬ x = [112]) (hx3 : ¬ x = [110]) (hx4 : ¬ x = [97]) (hW : Reads w w.heap.size 1 (some ⟨wb, wo, none⟩) nn ((x :: ts).map strV)) (hcc : nn ≤ cc) (hn : nn = (x :: ts).length) (hlen : ∀ y ∈ x :: ts, y.length ≤ 60000) (hB : B ≤ w.heap.size) :
    Calls Tryz.prog 48 #[refV r 0 S A H n c m c2 n3 c3, .slice (some ⟨wb, wo, none⟩) nn cc] w (RTells B w (lineE r (x :: ts))) := by
  obtain ⟨q, HE⟩ : ∃ q, QIs q (lineE r (x :: ts)) := ⟨_, rfl⟩
  rw [← HE]
  have hq : q = (10, r) := by
    have h : q = lineE r (x :: ts) := HE
    rw [h]; unfold lineE; rw [if_neg (by simpa using hx1), if_neg (by simpa using hx2), if_neg (by simpa using hx3), if_neg (by simpa using hx4)]
  have hn0 : 0 < nn := by rw [hn]; simp
  have lW := hW.lt_ hn0
  obtain ⟨K, hK⟩ : ∃ K : ByteArray, K = ⟨x.toArray⟩ := ⟨_, rfl⟩
  have hKd : K.toList = x := by rw [Lib.toList_data, hK]
  have k1 : (K.toList == [99]) = false := by rw [hKd, beq_eq_false_iff_ne]; exact hx1
  have k2 : (K.toList == [112]) = false := by rw [hKd, beq_eq_false_iff_ne]; exact hx2
  have k3 : (K.toList == [110]) = false := by rw [hKd, beq_eq_false_iff_ne]; exact hx3
  have k4 : (K.toList == [97]) = false := by rw [hKd, beq_eq_false_iff_ne]; exact hx4
  have hc' : w.cell? ⟨wb, wo + 0, none⟩ = some (.string K) := by rw [hK]; exact hW.get (k := 0) rfl
  have HBAD := Lib.hid (fun (k : Int) (w' : World) (hq : q = (k, r)) (hk : Kept (Bs B w) w w') (hS : RefS B w' r S A H n c m c2 n3 c3) => show RTells B w q (.returned (refV r k S A H n c m c2 n3 c3)) w' from ⟨hk, S, A, H, n, c, m, c2, n3, c3, by rw [hq], by rw [hq]; exact hS⟩)
  unfold refV at HBAD ⊢
  obtain ⟨b1, hb1⟩ : ∃ b, b = r.max := ⟨_, rfl⟩
  obtain ⟨b2, hb2⟩ : ∃ b, b = r.begun := ⟨_, rfl⟩
  obtain ⟨b3, hb3⟩ : ∃ b, b = decide (¬ r.arcs = []) := ⟨_, rfl⟩
  obtain ⟨b4, hb4⟩ : ∃ b, b = r.es.isSome := ⟨_, rfl⟩
  obtain ⟨b5, hb5⟩ : ∃ b, b = r.et.isSome := ⟨_, rfl⟩
  obtain ⟨i1, hi1⟩ : ∃ b, b = r.es.getD 0 := ⟨_, rfl⟩
  obtain ⟨i2, hi2⟩ : ∃ b, b = r.et.getD 0 := ⟨_, rfl⟩
  obtain ⟨i3, hi3⟩ : ∃ b, b = r.many := ⟨_, rfl⟩
  obtain ⟨i4, hi4⟩ : ∃ b : Int, b = r.sup.length := ⟨_, rfl⟩
  rw [← hb1, ← hb2, ← hb3, ← hb4, ← hb5, ← hi1, ← hi2, ← hi3, ← hi4] at HBAD ⊢
  have HPT := Lib.hid (And.intro hb1 (And.intro hb2 (And.intro hb3 (And.intro hb4 (And.intro hb5 (And.intro hi1 (And.intro hi2 (And.intro hi3 hi4))))))))
  have hI0 := Blk.new w 88 (pC b1 b2 b3 b4 b5 i1 i2 i3 i4 0 S A H n c m c2 n3 c3)
  have hI1 := hI0.alloc (.cells #[.bool false, .slice none 0 0, .slice none 0 0, .int .i64 0, .int .i64 0, .bool false, .int .i64 0, .int .i64 0, .bool false, .slice none 0 0, .bool false, .bool false, .int .i64 0] 88)
  have hZ1 := Blk.new (w.alloc (.cells (pC b1 b2 b3 b4 b5 i1 i2 i3 i4 0 S A H n c m c2 n3 c3) 88)) 88 #[.bool false, .slice none 0 0, .slice none 0 0, .int .i64 0, .int .i64 0, .bool false, .int .i64 0, .int .i64 0, .bool false, .slice none 0 0, .bool false, .bool false, .int .i64 0]
  have hbI : Below w.heap.size w ((w.alloc (.cells (pC b1 b2 b3 b4 b5 i1 i2 i3 i4 0 S A H n c m c2 n3 c3) 88)).alloc (.cells #[.bool false, .slice none 0 0, .slice none 0 0, .int .i64 0, .int .i64 0, .bool false, .int .i64 0, .int .i64 0, .bool false, .slice none 0 0, .bool false, .bool false, .int .i64 0] 88)) := ((Below.refl _ w).alloc (Nat.le_refl _) _).alloc (by simp) _
  simp only [World.size_alloc] at hZ1
  unfold pC at HBAD hI1 hZ1 hbI ⊢
  have HI := Lib.hid (And.intro hI1 (And.intro hZ1 hbI))
  clear hb1 hb2 hb3 hb4 hb5 hi1 hi2 hi3 hi4 hI0 hI1 hZ1 hbI
  have hc1 := (HI.out.2.2.cell (p := ⟨wb, wo + 0, none⟩) lW).trans hc'
  rw [Nat.add_zero] at hc1
  have lW1 : wb < ((w.alloc (.cells #[.bool b1, .slice S n c, .slice A m c2, .int .i64 i1, .int .i64 i2, .bool b2, .int .i64 i4, .int .i64 i3, .bool b3, .slice H n3 c3, .bool b4, .bool b5, .int .i64 0] 88)).alloc (.cells #[.bool false, .slice none 0 0, .slice none 0 0, .int .i64 0, .int .i64 0, .bool false, .int .i64 0, .int .i64 0, .bool false, .slice none 0 0, .bool false, .bool false, .int .i64 0] 88)).heap.size := Nat.lt_of_lt_of_le lW HI.out.2.2.size
  have HQ := Lib.hid (show QIs q _ from hq)
  have HS := Lib.hid hS
  clear hn hS hq hW hlen hO hc' hK hKd hx1 hx2 hx3 hx4
  go_enter Tryz.func48, Tryz.ntmps48
  go_wp2_with fail
  generalize (w.alloc (.cells #[.bool b1, .slice S n c, .slice A m c2, .int .i64 i1, .int .i64 i2, .bool b2, .int .i64 i4, .int .i64 i3, .bool b3, .slice H n3 c3, .bool b4, .bool b5, .int .i64 0] 88)).alloc (.cells #[.bool false, .slice none 0 0, .slice none 0 0, .int .i64 0, .int .i64 0, .bool false, .int .i64 0, .int .i64 0, .bool false, .slice none 0 0, .bool false, .bool false, .int .i64 0] 88) = W0 at *
  refine (fail_any b1 b2 b3 b4 b5 i1 i2 i3 i4 10 S A H n c m c2 n3 c3 _).mono ?_
  rintro e wf ⟨rfl, hbf⟩
  have hzf := HI.out.2.1.below hbf HI.out.2.1.lt
  have hbw := HI.out.2.2.trans (hbf.mono HI.out.2.2.size)
  obtain ⟨z0, z1, z2, z3, z4, z5, z6, z7, z8, z9, z10, z11, z12⟩ := cells13 hzf
  obtain ⟨f0, f1, f2, f3, f4, f5, f6, f7, f8, f9, f10, f11, f12⟩ := frozen13 hzf
  have lz := hzf.lt
  have HZ := Lib.hid (And.intro hzf hbw)
  clear hzf hbw hbf
  unfold pC
  go_wp2_with fail
  refine ret13 (fn := Tryz.f48) rfl rfl rfl (HZ.out.1.put13 (.bool b1) (.slice S n c) (.slice A m c2) (.int .i64 i1) (.int .i64 i2) (.bool b2) (.int .i64 i4) (.int .i64 i3) (.bool b3) (.slice H n3 c3) (.bool b4) (.bool b5) (.int .i64 10)) (HBAD.out 10 _ HQ.out ((Kept.of_below HZ.out.2 (Bs B w)).put13 (.bool b1) (.slice S n c) (.slice A m c2) (.int .i64 i1) (.int .i64 i2) (.bool b2) (.int .i64 i4) (.int .i64 i3) (.bool b3) (.slice H n3 c3) (.bool b4) (.bool b5) (.int .i64 10) (fun h => absurd h (by omega))) ?_)
  exact (HS.out.on HZ.out.2).far13_ HZ.out.1 (.bool b1) (.slice S n c) (.slice A m c2) (.int .i64 i1) (.int .i64 i2) (.bool b2) (.int .i64 i4) (.int .i64 i3) (.bool b3) (.slice H n3 c3) (.bool b4) (.bool b5) (.int .i64 10)
theorem rline_any (B : Nat) (r : RdV) (S A H : Option Addr) (n c m c2 n3 c3 wb wo cc nn : Nat) (ws : List (List UInt8)) (w : World) (hS : RefS B w r S A H n c m c2 n3 c3) (hO : RdOk r) (hW : Reads w w.heap.size 1 (some ⟨wb, wo, none⟩) nn (ws.map strV)) (hcc : nn ≤ cc) (hn : nn = ws.length) (h0 : 0 < nn) (hlen : ∀ y ∈ ws, y.length ≤ 60000) (hB : B ≤ w.heap.size) :
    Calls Tryz.prog 48 #[refV r 0 S A H n c m c2 n3 c3, .slice (some ⟨wb, wo, none⟩) nn cc] w (RTells B w (lineE r ws)) := by
  match ws, hn with
  | [], hn => rw [hn] at h0; exact absurd h0 (by simp)
  | x :: ts, hn =>
    by_cases h1 : x = [99]
    · exact rline_c B r S A H n c m c2 n3 c3 wb wo cc nn x ts w hS hO h1 hW hcc hn hlen hB
    by_cases h2 : x = [112]
    · exact rline_p B r S A H n c m c2 n3 c3 wb wo cc nn x ts w hS hO h2 hW hcc hn hlen hB
    by_cases h3 : x = [110]
    · cases hb : r.begun
      · exact rline_n0 B r S A H n c m c2 n3 c3 wb wo cc nn x ts w hS hO h3 hb hW hcc hn hlen hB
      · cases hm : r.max
        · exact rline_n2 B r S A H n c m c2 n3 c3 wb wo cc nn x ts w hS hO h3 hb hm hW hcc hn hlen hB
        · exact rline_n1 B r S A H n c m c2 n3 c3 wb wo cc nn x ts w hS hO h3 hb hm hW hcc hn hlen hB
    by_cases h4 : x = [97]
    · cases hb : r.begun
      · exact rline_a0 B r S A H n c m c2 n3 c3 wb wo cc nn x ts w hS hO h4 hb hW hcc hn hlen hB
      · exact rline_a1 B r S A H n c m c2 n3 c3 wb wo cc nn x ts w hS hO h4 hb hW hcc hn hlen hB
    · exact rline_x B r S A H n c m c2 n3 c3 wb wo cc nn x ts w hS hO h1 h2 h3 h4 hW hcc hn hlen hB
end Go.Proofs.YtoagphighgejnaaGreatDoor
