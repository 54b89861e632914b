/- The document's answer: head (31), the rest. Conditions: none. -/
import Derived.Test.YtoagphighgejnaaGreatDoorV4
set_option linter.unusedSimpArgs false
set_option linter.unusedVariables false
namespace Go.Proofs.YtoagphighgejnaaGreatDoor
open Go.RowKit Go.Shelf

set_option maxRecDepth 100000 in
set_option maxHeartbeats 6400000 in
theorem rhead_min (B : Nat) (r : RdV) (S A H : Option Addr) (n c m c2 n3 c3 wb wo cc : Nat) (x a b : List UInt8) (w : World) (hS : RefS B w r S A H n c m c2 n3 c3) (hO : RdOk r) (hW : Reads w w.heap.size 1 (some ⟨wb, wo, none⟩) 4 ([x, wMin, a, b].map strV)) (hcc : 4 ≤ cc) (hlen : ∀ y ∈ [x, wMin, a, b], y.length ≤ 60000) (hB : B ≤ w.heap.size) :
    Calls Tryz.prog 64 #[refV r 0 S A H n c m c2 n3 c3, .slice (some ⟨wb, wo, none⟩) 4 cc] w (RTells B w (headE r [x, wMin, a, b])) := by
  obtain ⟨q, HE⟩ : ∃ q, QIs q (headE r [x, wMin, a, b]) := ⟨_, rfl⟩
  rw [← HE]
  have hc' : w.cell? ⟨wb, wo + 1, none⟩ = some (.string ⟨#[109, 105, 110]⟩) := hW.get (k := 1) rfl
  have hcc2 : 2 < cc := by omega
  have hcc3 : ¬ cc = 2 := by omega
  have lW := hW.lt_ (by decide)
  have HBAD := Lib.hid (fun (k : Int) (w' : World) (hq : q = (k, r)) (hk : Kept (Bs B w) w w') (hS : RefS B w' r S A H n c m c2 n3 c3) => show RTells B w q (.returned (refV r k S A H n c m c2 n3 c3)) w' from ⟨hk, S, A, H, n, c, m, c2, n3, c3, by rw [hq], by rw [hq]; exact hS⟩)
  unfold refV at HBAD ⊢
  obtain ⟨b1, hb1⟩ : ∃ b, b = r.max := ⟨_, rfl⟩
  obtain ⟨b2, hb2⟩ : ∃ b, b = r.begun := ⟨_, rfl⟩
  obtain ⟨b3, hb3⟩ : ∃ b, b = decide (¬ r.arcs = []) := ⟨_, rfl⟩
  obtain ⟨b4, hb4⟩ : ∃ b, b = r.es.isSome := ⟨_, rfl⟩
  obtain ⟨b5, hb5⟩ : ∃ b, b = r.et.isSome := ⟨_, rfl⟩
  obtain ⟨i1, hi1⟩ : ∃ b, b = r.es.getD 0 := ⟨_, rfl⟩
  obtain ⟨i2, hi2⟩ : ∃ b, b = r.et.getD 0 := ⟨_, rfl⟩
  obtain ⟨i3, hi3⟩ : ∃ b, b = r.many := ⟨_, rfl⟩
  obtain ⟨i4, hi4⟩ : ∃ b : Int, b = r.sup.length := ⟨_, rfl⟩
  rw [← hb1, ← hb2, ← hb3, ← hb4, ← hb5, ← hi1, ← hi2, ← hi3, ← hi4] at HBAD ⊢
  have HPT := Lib.hid (And.intro hb1 (And.intro hb2 (And.intro hb3 (And.intro hb4 (And.intro hb5 (And.intro hi1 (And.intro hi2 (And.intro hi3 hi4))))))))
  have hI0 := Blk.new w 88 (pC b1 b2 b3 b4 b5 i1 i2 i3 i4 0 S A H n c m c2 n3 c3)
  have hI1 := hI0.alloc (.cells #[.bool false, .slice none 0 0, .slice none 0 0, .int .i64 0, .int .i64 0, .bool false, .int .i64 0, .int .i64 0, .bool false, .slice none 0 0, .bool false, .bool false, .int .i64 0] 88)
  have hZ1 := Blk.new (w.alloc (.cells (pC b1 b2 b3 b4 b5 i1 i2 i3 i4 0 S A H n c m c2 n3 c3) 88)) 88 #[.bool false, .slice none 0 0, .slice none 0 0, .int .i64 0, .int .i64 0, .bool false, .int .i64 0, .int .i64 0, .bool false, .slice none 0 0, .bool false, .bool false, .int .i64 0]
  have hbI : Below w.heap.size w ((w.alloc (.cells (pC b1 b2 b3 b4 b5 i1 i2 i3 i4 0 S A H n c m c2 n3 c3) 88)).alloc (.cells #[.bool false, .slice none 0 0, .slice none 0 0, .int .i64 0, .int .i64 0, .bool false, .int .i64 0, .int .i64 0, .bool false, .slice none 0 0, .bool false, .bool false, .int .i64 0] 88)) := ((Below.refl _ w).alloc (Nat.le_refl _) _).alloc (by simp) _
  simp only [World.size_alloc] at hZ1
  unfold pC at HBAD hI1 hZ1 hbI ⊢
  have HI := Lib.hid (And.intro hI1 (And.intro hZ1 hbI))
  clear hb1 hb2 hb3 hb4 hb5 hi1 hi2 hi3 hi4 hI0 hI1 hZ1 hbI
  have hrd := ((hW.below HI.out.2.2).more HI.out.2.2.size).tail_ 2 2 rfl (by decide)
  have HN := Lib.hid (nums_in (some ⟨wb, wo + 2, none⟩) 2 (cc - 2) [a, b] _ hrd (by decide) (fun y hy => Nat.le_trans (hlen y (by simp at hy ⊢; rcases hy with rfl | rfl <;> simp)) (by decide)))
  have hc1 := (HI.out.2.2.cell (p := ⟨wb, wo + 1, none⟩) lW).trans hc'
  have lW1 : wb < ((w.alloc (.cells #[.bool b1, .slice S n c, .slice A m c2, .int .i64 i1, .int .i64 i2, .bool b2, .int .i64 i4, .int .i64 i3, .bool b3, .slice H n3 c3, .bool b4, .bool b5, .int .i64 0] 88)).alloc (.cells #[.bool false, .slice none 0 0, .slice none 0 0, .int .i64 0, .int .i64 0, .bool false, .int .i64 0, .int .i64 0, .bool false, .slice none 0 0, .bool false, .bool false, .int .i64 0] 88)).heap.size := Nat.lt_of_lt_of_le lW HI.out.2.2.size
  have HS := Lib.hid hS
  have HO := Lib.hid hO
  clear hS hW hlen hrd hO
  go_enter Tryz.func64, Tryz.ntmps64
  go_wp2_with fail
  generalize (w.alloc (.cells #[.bool b1, .slice S n c, .slice A m c2, .int .i64 i1, .int .i64 i2, .bool b2, .int .i64 i4, .int .i64 i3, .bool b3, .slice H n3 c3, .bool b4, .bool b5, .int .i64 0] 88)).alloc (.cells #[.bool false, .slice none 0 0, .slice none 0 0, .int .i64 0, .int .i64 0, .bool false, .int .i64 0, .int .i64 0, .bool false, .slice none 0 0, .bool false, .bool false, .int .i64 0] 88) = W0 at *
  refine HN.out.mono ?_
  rintro e w1 ⟨Q, nq, cq, rfl, hnq, hown, hb1⟩
  have hX : Blk w1 w.heap.size 88 #[.bool b1, .slice S n c, .slice A m c2, .int .i64 i1, .int .i64 i2, .bool b2, .int .i64 i4, .int .i64 i3, .bool b3, .slice H n3 c3, .bool b4, .bool b5, .int .i64 0] ∧ Blk w1 (w.heap.size + 1) 88 #[.bool false, .slice none 0 0, .slice none 0 0, .int .i64 0, .int .i64 0, .bool false, .int .i64 0, .int .i64 0, .bool false, .slice none 0 0, .bool false, .bool false, .int .i64 0] ∧ Below w.heap.size w w1 := ⟨HI.out.1.below hb1 HI.out.1.lt, HI.out.2.1.below hb1 HI.out.2.1.lt, HI.out.2.2.trans (hb1.mono HI.out.2.2.size)⟩
  obtain rfl : nq = 2 := hnq
  obtain ⟨qb, qo, u0, hQ, hqb, hu0, qc0⟩ := (Reads.of_own hown).at_ (k := 0) (by omega)
  obtain ⟨qb', qo', u1, hQ', hqb', hu1, qc1⟩ := (Reads.of_own hown).at_ (k := 1) (by omega)
  rw [hQ] at hQ'
  injection hQ' with hQ'
  injection hQ' with e1 e2 e3
  subst e1 e2
  subst hQ
  simp only [List.map_cons, List.map_nil, List.getElem?_cons_zero, List.getElem?_cons_succ, Option.some.injEq] at hu0 hu1
  subst hu0 hu1
  unfold I at qc0 qc1
  rw [Nat.add_zero] at qc0
  have HX := Lib.hid hX
  have hcw : w1.cell? ⟨wb, wo + 1, none⟩ = some (.string ⟨#[109, 105, 110]⟩) := (hb1.cell (p := ⟨wb, wo + 1, none⟩) lW1).trans hc1
  have lW2 := Nat.lt_of_lt_of_le lW1 hb1.size
  obtain ⟨c0, c1, c2', c3', c4, c5, c6, c7, c8, c9, c10, c11, c12⟩ := cells13 hX.1
  have lp := hX.1.lt
  have hqne : ¬ qb = w.heap.size := fun e => own_blk_ne hown hX.1 (by decide) (by rw [e]; rfl)
  have HOW := Lib.hid hown
  obtain ⟨er, her⟩ : ∃ er, er = errL [a, b] := ⟨_, rfl⟩
  rw [← her]
  have hcase : er = 10 ∨ er = 11 ∨ er = 0 := by
    rw [her]
    by_cases h1 : errL [a, b] = 10
    · exact .inl h1
    · by_cases h0 : errL [a, b] = 0
      · exact .inr (.inr h0)
      · exact .inr (.inl (err_11 h1 h0))
  have HER := Lib.hid her
  have hqE : q = if badW a ∨ badW b then (10, r) else if r.begun = true then (12, r) else if ¬ inW a 1 64 then (11, r) else if ¬ inW b 0 256 then (11, r)
    else (0, ⟨true, (numL b).1, decide (wMin = wMax), List.replicate (numL a).1.toNat 0, r.arcs, List.replicate (numL a).1.toNat false, none, none⟩) := by
    have h : q = headE r [x, wMin, a, b] := HE
    unfold headE at h; simp only at h; rw [if_neg (by decide)] at h; exact h
  have HQE : QIs q _ := hqE
  clear hX hown her hqE hb1 HN
  rcases hcase with hc | hc | hc
  · have hbad : badW a ∨ badW b := by
      obtain ⟨y, hy, hy0⟩ := errL_10.1 (HER.out.symm.trans hc)
      simp only [List.mem_cons, List.not_mem_nil, or_false] at hy
      rcases hy with rfl | rfl
      · exact .inl hy0
      · exact .inr hy0
    have HQ := Lib.hid (show QIs q (10, r) from by have h : q = _ := HQE; rw [if_pos hbad] at h; exact h)
    subst hc
    clear hbad
    go_wp2_with fail
    refine (fail_any b1 b2 b3 b4 b5 i1 i2 i3 i4 10 S A H n c m c2 n3 c3 _).mono ?_
    rintro e wf ⟨rfl, hbf⟩
    have hzf := HX.out.2.1.below hbf HX.out.2.1.lt
    have hbw := HX.out.2.2.trans (hbf.mono HX.out.2.2.size)
    obtain ⟨z0, z1, z2, z3, z4, z5, z6, z7, z8, z9, z10, z11, z12⟩ := cells13 hzf
    obtain ⟨f0, f1, f2, f3, f4, f5, f6, f7, f8, f9, f10, f11, f12⟩ := frozen13 hzf
    have lz := hzf.lt
    have HZ := Lib.hid (And.intro hzf hbw)
    clear hzf hbw hbf
    unfold pC
    go_wp2_with fail
    refine ret13 (fn := Tryz.f64) rfl rfl rfl (HZ.out.1.put13 (.bool b1) (.slice S n c) (.slice A m c2) (.int .i64 i1) (.int .i64 i2) (.bool b2) (.int .i64 i4) (.int .i64 i3) (.bool b3) (.slice H n3 c3) (.bool b4) (.bool b5) (.int .i64 10)) (HBAD.out 10 _ HQ.out ((Kept.of_below HZ.out.2 (Bs B w)).put13 (.bool b1) (.slice S n c) (.slice A m c2) (.int .i64 i1) (.int .i64 i2) (.bool b2) (.int .i64 i4) (.int .i64 i3) (.bool b3) (.slice H n3 c3) (.bool b4) (.bool b5) (.int .i64 10) (fun h => absurd h (by omega))) ?_)
    exact (HS.out.on HZ.out.2).far13_ HZ.out.1 (.bool b1) (.slice S n c) (.slice A m c2) (.int .i64 i1) (.int .i64 i2) (.bool b2) (.int .i64 i4) (.int .i64 i3) (.bool b3) (.slice H n3 c3) (.bool b4) (.bool b5) (.int .i64 10)
  · have hnb : ¬ (badW a ∨ badW b) := by
      intro h
      have : errL [a, b] = 10 := errL_10.2 (by rcases h with h | h; exact ⟨a, by simp, h⟩; exact ⟨b, by simp, h⟩)
      rw [← HER.out, hc] at this
      cases this
    have hno : ¬ (inW a 1 64 ∧ inW b 0 256) := by
      rintro ⟨⟨h1, -⟩, ⟨h2, -⟩⟩
      have : errL [a, b] = 0 := errL_0.2 (by simp [h1, h2])
      rw [← HER.out, hc] at this
      cases this
    subst hc
    have HB2 := Lib.hid (show b2 = r.begun from HPT.out.2.1)
    cases b2
    · have HQ := Lib.hid (show QIs q (11, r) from by
        have h : q = _ := HQE
        rw [if_neg hnb, if_neg (by rw [← HB2.out]; simp)] at h
        by_cases hA : inW a 1 64
        · rw [if_neg (by simpa using hA), if_pos (fun hB => hno ⟨hA, hB⟩)] at h; exact h
        · rw [if_pos hA] at h; exact h)
      clear hnb hno
      go_wp2_with fail
      refine (fail_any b1 false b3 b4 b5 i1 i2 i3 i4 11 S A H n c m c2 n3 c3 _).mono ?_
      rintro e wf ⟨rfl, hbf⟩
      have hzf := HX.out.2.1.below hbf HX.out.2.1.lt
      have hbw := HX.out.2.2.trans (hbf.mono HX.out.2.2.size)
      obtain ⟨z0, z1, z2, z3, z4, z5, z6, z7, z8, z9, z10, z11, z12⟩ := cells13 hzf
      obtain ⟨f0, f1, f2, f3, f4, f5, f6, f7, f8, f9, f10, f11, f12⟩ := frozen13 hzf
      have lz := hzf.lt
      have HZ := Lib.hid (And.intro hzf hbw)
      clear hzf hbw hbf
      unfold pC
      go_wp2_with fail
      refine ret13 (fn := Tryz.f64) rfl rfl rfl (HZ.out.1.put13 (.bool b1) (.slice S n c) (.slice A m c2) (.int .i64 i1) (.int .i64 i2) (.bool false) (.int .i64 i4) (.int .i64 i3) (.bool b3) (.slice H n3 c3) (.bool b4) (.bool b5) (.int .i64 11)) (HBAD.out 11 _ HQ.out ((Kept.of_below HZ.out.2 (Bs B w)).put13 (.bool b1) (.slice S n c) (.slice A m c2) (.int .i64 i1) (.int .i64 i2) (.bool false) (.int .i64 i4) (.int .i64 i3) (.bool b3) (.slice H n3 c3) (.bool b4) (.bool b5) (.int .i64 11) (fun h => absurd h (by omega))) ?_)
      exact (HS.out.on HZ.out.2).far13_ HZ.out.1 (.bool b1) (.slice S n c) (.slice A m c2) (.int .i64 i1) (.int .i64 i2) (.bool false) (.int .i64 i4) (.int .i64 i3) (.bool b3) (.slice H n3 c3) (.bool b4) (.bool b5) (.int .i64 11)
    · have HQ := Lib.hid (show QIs q (12, r) from by
        have h : q = _ := HQE
        rw [if_neg hnb, if_pos HB2.out.symm] at h; exact h)
      clear hnb hno
      go_wp2_with fail
      refine (fail_any b1 true b3 b4 b5 i1 i2 i3 i4 12 S A H n c m c2 n3 c3 _).mono ?_
      rintro e wf ⟨rfl, hbf⟩
      have hzf := HX.out.2.1.below hbf HX.out.2.1.lt
      have hbw := HX.out.2.2.trans (hbf.mono HX.out.2.2.size)
      obtain ⟨z0, z1, z2, z3, z4, z5, z6, z7, z8, z9, z10, z11, z12⟩ := cells13 hzf
      obtain ⟨f0, f1, f2, f3, f4, f5, f6, f7, f8, f9, f10, f11, f12⟩ := frozen13 hzf
      have lz := hzf.lt
      have HZ := Lib.hid (And.intro hzf hbw)
      clear hzf hbw hbf
      unfold pC
      go_wp2_with fail
      refine ret13 (fn := Tryz.f64) rfl rfl rfl (HZ.out.1.put13 (.bool b1) (.slice S n c) (.slice A m c2) (.int .i64 i1) (.int .i64 i2) (.bool true) (.int .i64 i4) (.int .i64 i3) (.bool b3) (.slice H n3 c3) (.bool b4) (.bool b5) (.int .i64 12)) (HBAD.out 12 _ HQ.out ((Kept.of_below HZ.out.2 (Bs B w)).put13 (.bool b1) (.slice S n c) (.slice A m c2) (.int .i64 i1) (.int .i64 i2) (.bool true) (.int .i64 i4) (.int .i64 i3) (.bool b3) (.slice H n3 c3) (.bool b4) (.bool b5) (.int .i64 12) (fun h => absurd h (by omega))) ?_)
      exact (HS.out.on HZ.out.2).far13_ HZ.out.1 (.bool b1) (.slice S n c) (.slice A m c2) (.int .i64 i1) (.int .i64 i2) (.bool true) (.int .i64 i4) (.int .i64 i3) (.bool b3) (.slice H n3 c3) (.bool b4) (.bool b5) (.int .i64 12)
  · have hall := errL_0.1 (HER.out.symm.trans hc)
    have ha0 : (numL a).2 = 0 := hall a (by simp)
    have hb0 : (numL b).2 = 0 := hall b (by simp)
    have hnb : ¬ (badW a ∨ badW b) := by unfold badW; omega
    subst hc
    have HB2 := Lib.hid (show b2 = r.begun from HPT.out.2.1)
    cases b2
    · by_cases hA : 1 ≤ (numL a).1 ∧ (numL a).1 ≤ 64
      · by_cases hBb : 0 ≤ (numL b).1 ∧ (numL b).1 ≤ 256
        · have dA : decide (1 ≤ (numL a).1 ∧ (numL a).1 ≤ 64) = true := by simpa using hA
          have dB : decide (0 ≤ (numL b).1 ∧ (numL b).1 ≤ 256) = true := by simpa using hBb
          have HI1 := Lib.hid (in_in (numL a).1 1 64 w1)
          have HI2 := Lib.hid (in_in (numL b).1 0 256 w1)
          rw [dA] at HI1
          rw [dB] at HI2
          have hr0 : r = rd0 := HO.out.none_ HB2.out.symm
          have HQ := Lib.hid (show QIs q _ from by
            have h : q = _ := HQE
            rw [if_neg hnb, if_neg (by rw [← HB2.out]; simp), if_neg (by rw [inW_of ha0]; simpa using hA), if_neg (by rw [inW_of hb0]; simpa using hBb)] at h; exact h)
          obtain ⟨N, hN⟩ : ∃ N : Nat, (numL a).1 = N := ⟨(numL a).1.toNat, by omega⟩
          have hN64 : N ≤ 64 := by omega
          rw [hN] at qc0 HI1 HQ
          have hmi := makeInts N hN64
          have hmb := makeBools N hN64
          have HNN := Lib.hid hN
          obtain ⟨f0, f1, f2, f3, f4, f5, f6, f7, f8, f9, f10, f11, f12⟩ := frozen13 HX.out.1
          have lz := HX.out.2.1.lt
          obtain ⟨z0, z1, z2, z3, z4, z5, z6, z7, z8, z9, z10, z11, z12⟩ := cells13 HX.out.2.1
          obtain ⟨g0, g1, g2, g3, g4, g5, g6, g7, g8, g9, g10, g11, g12⟩ := frozen13 HX.out.2.1
          have hwne : ¬ wb = w.heap.size := by omega
          have hwne2 : ¬ w.heap.size = wb := by omega
          have hpz : ¬ w.heap.size = w.heap.size + 1 := by omega
          have hzp : ¬ w.heap.size + 1 = w.heap.size := by omega
          clear hall ha0 hb0 hnb hA hBb dA dB hN
          go_wp2_with fail
          refine HI1.out.mono ?_
          rintro e _ ⟨rfl, rfl⟩
          go_wp2_with fail
          refine HI2.out.mono ?_
          rintro e _ ⟨rfl, rfl⟩
          go_wp2_with fail
          have hZ5 := ((((((HX.out.2.1.far (p := ⟨w.heap.size, 5, none⟩) hzp (.bool true)).far (p := ⟨w.heap.size, 6, none⟩) hzp (.int .i64 N)).far (p := ⟨w.heap.size, 7, none⟩) hzp (.int .i64 (numL b).1)).far (p := ⟨w.heap.size, 0, none⟩) hzp (.bool false)).far (p := ⟨w.heap.size, 1, none⟩) hzp (.slice (some ⟨w1.heap.size, 0, none⟩) N N)).far (p := ⟨w.heap.size, 9, none⟩) hzp (.slice (some ⟨w1.heap.size + 1, 0, none⟩) N N))
          have hK5 := (((((((Kept.of_below HX.out.2.2 (Bs B w)).setCell (p := ⟨w.heap.size, 5, none⟩) (fun h => absurd h (by simp)) (.bool true)).setCell (p := ⟨w.heap.size, 6, none⟩) (fun h => absurd h (by simp)) (.int .i64 N)).setCell (p := ⟨w.heap.size, 7, none⟩) (fun h => absurd h (by simp)) (.int .i64 (numL b).1)).setCell (p := ⟨w.heap.size, 0, none⟩) (fun h => absurd h (by simp)) (.bool false)).setCell (p := ⟨w.heap.size, 1, none⟩) (fun h => absurd h (by simp)) (.slice (some ⟨w1.heap.size, 0, none⟩) N N)).setCell (p := ⟨w.heap.size, 9, none⟩) (fun h => absurd h (by simp)) (.slice (some ⟨w1.heap.size + 1, 0, none⟩) N N))
          have hs5 : (((((((w1.setCell ⟨w.heap.size, 5, none⟩ (.bool true)).setCell ⟨w.heap.size, 6, none⟩ (.int .i64 N)).setCell ⟨w.heap.size, 7, none⟩ (.int .i64 (numL b).1)).setCell ⟨w.heap.size, 0, none⟩ (.bool false)).setCell ⟨w.heap.size, 1, none⟩ (.slice (some ⟨w1.heap.size, 0, none⟩) N N)).setCell ⟨w.heap.size, 9, none⟩ (.slice (some ⟨w1.heap.size + 1, 0, none⟩) N N))).heap.size = w1.heap.size := by simp [World.setCell]
          change bodyPost _ _ _ _ _ (((put13 ((((((w1.setCell ⟨w.heap.size, 5, none⟩ (.bool true)).setCell ⟨w.heap.size, 6, none⟩ (.int .i64 N)).setCell ⟨w.heap.size, 7, none⟩ (.int .i64 (numL b).1)).setCell ⟨w.heap.size, 0, none⟩ (.bool false)).setCell ⟨w.heap.size, 1, none⟩ (.slice (some ⟨w1.heap.size, 0, none⟩) N N)).setCell ⟨w.heap.size, 9, none⟩ (.slice (some ⟨w1.heap.size + 1, 0, none⟩) N N)) (w.heap.size + 1) (.bool false) (.slice (some ⟨w1.heap.size, 0, none⟩) N N) (.slice A m c2) (.int .i64 i1) (.int .i64 i2) (.bool true) (.int .i64 N) (.int .i64 (numL b).1) (.bool b3) (.slice (some ⟨w1.heap.size + 1, 0, none⟩) N N) (.bool b4) (.bool b5) (.int .i64 0)).alloc (.cells (ints (List.replicate N 0)) 2)).alloc (.cells (bools (List.replicate N false)) 4))
          generalize ((((((w1.setCell ⟨w.heap.size, 5, none⟩ (.bool true)).setCell ⟨w.heap.size, 6, none⟩ (.int .i64 N)).setCell ⟨w.heap.size, 7, none⟩ (.int .i64 (numL b).1)).setCell ⟨w.heap.size, 0, none⟩ (.bool false)).setCell ⟨w.heap.size, 1, none⟩ (.slice (some ⟨w1.heap.size, 0, none⟩) N N)).setCell ⟨w.heap.size, 9, none⟩ (.slice (some ⟨w1.heap.size + 1, 0, none⟩) N N)) = W5 at hZ5 hK5 hs5 ⊢
          have hZ6 := hZ5.put13 (.bool false) (.slice (some ⟨w1.heap.size, 0, none⟩) N N) (.slice A m c2) (.int .i64 i1) (.int .i64 i2) (.bool true) (.int .i64 N) (.int .i64 (numL b).1) (.bool b3) (.slice (some ⟨w1.heap.size + 1, 0, none⟩) N N) (.bool b4) (.bool b5) (.int .i64 0)
          have hK6 := hK5.put13 (b := w.heap.size + 1) (.bool false) (.slice (some ⟨w1.heap.size, 0, none⟩) N N) (.slice A m c2) (.int .i64 i1) (.int .i64 i2) (.bool true) (.int .i64 N) (.int .i64 (numL b).1) (.bool b3) (.slice (some ⟨w1.heap.size + 1, 0, none⟩) N N) (.bool b4) (.bool b5) (.int .i64 0) (fun h => absurd h (by omega))
          have hs6 := (size13 W5 (w.heap.size + 1) (.bool false) (.slice (some ⟨w1.heap.size, 0, none⟩) N N) (.slice A m c2) (.int .i64 i1) (.int .i64 i2) (.bool true) (.int .i64 N) (.int .i64 (numL b).1) (.bool b3) (.slice (some ⟨w1.heap.size + 1, 0, none⟩) N N) (.bool b4) (.bool b5) (.int .i64 0)).trans hs5
          generalize put13 W5 (w.heap.size + 1) (.bool false) (.slice (some ⟨w1.heap.size, 0, none⟩) N N) (.slice A m c2) (.int .i64 i1) (.int .i64 i2) (.bool true) (.int .i64 N) (.int .i64 (numL b).1) (.bool b3) (.slice (some ⟨w1.heap.size + 1, 0, none⟩) N N) (.bool b4) (.bool b5) (.int .i64 0) = W6 at hZ6 hK6 hs6 ⊢
          have s1 := (Blk.new W6 2 (ints (List.replicate N 0))).alloc (.cells (bools (List.replicate N false)) 4)
          have t1 := Blk.new (W6.alloc (.cells (ints (List.replicate N 0)) 2)) 4 (bools (List.replicate N false))
          rw [World.size_alloc, hs6] at t1
          rw [hs6] at s1
          have hZ7 := (hZ6.alloc (.cells (ints (List.replicate N 0)) 2)).alloc (.cells (bools (List.replicate N false)) 4)
          have hK7 := (hK6.alloc (.cells (ints (List.replicate N 0)) 2)).alloc (.cells (bools (List.replicate N false)) 4)
          generalize (W6.alloc (.cells (ints (List.replicate N 0)) 2)).alloc (.cells (bools (List.replicate N false)) 4) = WF at *
          refine ret13 (fn := Tryz.f64) rfl rfl rfl hZ7 ?_
          have hwB : B ≤ w1.heap.size := Nat.le_trans hB HX.out.2.2.size
          obtain ⟨p1, p2, p3, p4, p5, p6, p7, p8, p9⟩ := HPT.out
          have hS0 := HS.out
          rcases hS0 with ⟨-, -, rfl, -, -, -, rfl, rfl, -, -⟩ | ⟨hbg, -⟩
          · have hqe : q = _ := HQ.out
            subst hr0
            rw [hqe]
            refine ⟨hK7, some ⟨w1.heap.size, 0, none⟩, none, some ⟨w1.heap.size + 1, 0, none⟩, N, N, 0, 0, N, N, ?_, .inr ⟨rfl, w1.heap.size, w1.heap.size + 1, rfl, rfl, by simp, by simp, by simp, by simp, ⟨by simpa using s1, by simpa using t1, ⟨rfl, .inl ⟨rfl, rfl⟩⟩, hwB, by omega⟩⟩⟩
            rw [p3, p4, p5, p6, p7]
            simp [refV, pC, rd0]
            decide
          · rw [← HB2.out] at hbg; cases hbg
        · have HQ := Lib.hid (show QIs q (11, r) from by
            have h : q = _ := HQE
            rw [if_neg hnb, if_neg (by rw [← HB2.out]; simp), if_neg (by rw [inW_of ha0]; simpa using hA), if_pos (by rw [inW_of hb0]; exact hBb)] at h; exact h)
          have dA : decide (1 ≤ (numL a).1 ∧ (numL a).1 ≤ 64) = true := by simpa using hA
          have dB : decide (0 ≤ (numL b).1 ∧ (numL b).1 ≤ 256) = false := by simpa using hBb
          have HI1 := Lib.hid (in_in (numL a).1 1 64 w1)
          have HI2 := Lib.hid (in_in (numL b).1 0 256 w1)
          rw [dA] at HI1
          rw [dB] at HI2
          clear hall ha0 hb0 hnb hA hBb dA dB
          go_wp2_with fail
          refine HI1.out.mono ?_
          rintro e _ ⟨rfl, rfl⟩
          go_wp2_with fail
          refine HI2.out.mono ?_
          rintro e _ ⟨rfl, rfl⟩
          go_wp2_with fail
          refine (fail_any b1 false b3 b4 b5 i1 i2 i3 i4 11 S A H n c m c2 n3 c3 _).mono ?_
          rintro e wf ⟨rfl, hbf⟩
          have hzf := HX.out.2.1.below hbf HX.out.2.1.lt
          have hbw := HX.out.2.2.trans (hbf.mono HX.out.2.2.size)
          obtain ⟨z0, z1, z2, z3, z4, z5, z6, z7, z8, z9, z10, z11, z12⟩ := cells13 hzf
          obtain ⟨f0, f1, f2, f3, f4, f5, f6, f7, f8, f9, f10, f11, f12⟩ := frozen13 hzf
          have lz := hzf.lt
          have HZ := Lib.hid (And.intro hzf hbw)
          clear hzf hbw hbf
          unfold pC
          go_wp2_with fail
          refine ret13 (fn := Tryz.f64) rfl rfl rfl (HZ.out.1.put13 (.bool b1) (.slice S n c) (.slice A m c2) (.int .i64 i1) (.int .i64 i2) (.bool false) (.int .i64 i4) (.int .i64 i3) (.bool b3) (.slice H n3 c3) (.bool b4) (.bool b5) (.int .i64 11)) (HBAD.out 11 _ HQ.out ((Kept.of_below HZ.out.2 (Bs B w)).put13 (.bool b1) (.slice S n c) (.slice A m c2) (.int .i64 i1) (.int .i64 i2) (.bool false) (.int .i64 i4) (.int .i64 i3) (.bool b3) (.slice H n3 c3) (.bool b4) (.bool b5) (.int .i64 11) (fun h => absurd h (by omega))) ?_)
          exact (HS.out.on HZ.out.2).far13_ HZ.out.1 (.bool b1) (.slice S n c) (.slice A m c2) (.int .i64 i1) (.int .i64 i2) (.bool false) (.int .i64 i4) (.int .i64 i3) (.bool b3) (.slice H n3 c3) (.bool b4) (.bool b5) (.int .i64 11)
      · have HQ := Lib.hid (show QIs q (11, r) from by
          have h : q = _ := HQE
          rw [if_neg hnb, if_neg (by rw [← HB2.out]; simp), if_pos (by rw [inW_of ha0]; exact hA)] at h; exact h)
        have dA : decide (1 ≤ (numL a).1 ∧ (numL a).1 ≤ 64) = false := by simpa using hA
        have HI1 := Lib.hid (in_in (numL a).1 1 64 w1)
        rw [dA] at HI1
        clear hall ha0 hb0 hnb hA dA
        go_wp2_with fail
        refine HI1.out.mono ?_
        rintro e _ ⟨rfl, rfl⟩
        go_wp2_with fail
        refine (fail_any b1 false b3 b4 b5 i1 i2 i3 i4 11 S A H n c m c2 n3 c3 _).mono ?_
        rintro e wf ⟨rfl, hbf⟩
        have hzf := HX.out.2.1.below hbf HX.out.2.1.lt
        have hbw := HX.out.2.2.trans (hbf.mono HX.out.2.2.size)
        obtain ⟨z0, z1, z2, z3, z4, z5, z6, z7, z8, z9, z10, z11, z12⟩ := cells13 hzf
        obtain ⟨f0, f1, f2, f3, f4, f5, f6, f7, f8, f9, f10, f11, f12⟩ := frozen13 hzf
        have lz := hzf.lt
        have HZ := Lib.hid (And.intro hzf hbw)
        clear hzf hbw hbf
        unfold pC
        go_wp2_with fail
        refine ret13 (fn := Tryz.f64) rfl rfl rfl (HZ.out.1.put13 (.bool b1) (.slice S n c) (.slice A m c2) (.int .i64 i1) (.int .i64 i2) (.bool false) (.int .i64 i4) (.int .i64 i3) (.bool b3) (.slice H n3 c3) (.bool b4) (.bool b5) (.int .i64 11)) (HBAD.out 11 _ HQ.out ((Kept.of_below HZ.out.2 (Bs B w)).put13 (.bool b1) (.slice S n c) (.slice A m c2) (.int .i64 i1) (.int .i64 i2) (.bool false) (.int .i64 i4) (.int .i64 i3) (.bool b3) (.slice H n3 c3) (.bool b4) (.bool b5) (.int .i64 11) (fun h => absurd h (by omega))) ?_)
        exact (HS.out.on HZ.out.2).far13_ HZ.out.1 (.bool b1) (.slice S n c) (.slice A m c2) (.int .i64 i1) (.int .i64 i2) (.bool false) (.int .i64 i4) (.int .i64 i3) (.bool b3) (.slice H n3 c3) (.bool b4) (.bool b5) (.int .i64 11)
    · have HQ := Lib.hid (show QIs q (12, r) from by
        have h : q = _ := HQE
        rw [if_neg hnb, if_pos HB2.out.symm] at h; exact h)
      clear hall ha0 hb0 hnb
      go_wp2_with fail
      refine (fail_any b1 true b3 b4 b5 i1 i2 i3 i4 12 S A H n c m c2 n3 c3 _).mono ?_
      rintro e wf ⟨rfl, hbf⟩
      have hzf := HX.out.2.1.below hbf HX.out.2.1.lt
      have hbw := HX.out.2.2.trans (hbf.mono HX.out.2.2.size)
      obtain ⟨z0, z1, z2, z3, z4, z5, z6, z7, z8, z9, z10, z11, z12⟩ := cells13 hzf
      obtain ⟨f0, f1, f2, f3, f4, f5, f6, f7, f8, f9, f10, f11, f12⟩ := frozen13 hzf
      have lz := hzf.lt
      have HZ := Lib.hid (And.intro hzf hbw)
      clear hzf hbw hbf
      unfold pC
      go_wp2_with fail
      refine ret13 (fn := Tryz.f64) rfl rfl rfl (HZ.out.1.put13 (.bool b1) (.slice S n c) (.slice A m c2) (.int .i64 i1) (.int .i64 i2) (.bool true) (.int .i64 i4) (.int .i64 i3) (.bool b3) (.slice H n3 c3) (.bool b4) (.bool b5) (.int .i64 12)) (HBAD.out 12 _ HQ.out ((Kept.of_below HZ.out.2 (Bs B w)).put13 (.bool b1) (.slice S n c) (.slice A m c2) (.int .i64 i1) (.int .i64 i2) (.bool true) (.int .i64 i4) (.int .i64 i3) (.bool b3) (.slice H n3 c3) (.bool b4) (.bool b5) (.int .i64 12) (fun h => absurd h (by omega))) ?_)
      exact (HS.out.on HZ.out.2).far13_ HZ.out.1 (.bool b1) (.slice S n c) (.slice A m c2) (.int .i64 i1) (.int .i64 i2) (.bool true) (.int .i64 i4) (.int .i64 i3) (.bool b3) (.slice H n3 c3) (.bool b4) (.bool b5) (.int .i64 12)
set_option maxRecDepth 100000 in
set_option maxHeartbeats 6400000 in
theorem rhead_max (B : Nat) (r : RdV) (S A H : Option Addr) (n c m c2 n3 c3 wb wo cc : Nat) (x a b : List UInt8) (w : World) (hS : RefS B w r S A H n c m c2 n3 c3) (hO : RdOk r) (hW : Reads w w.heap.size 1 (some ⟨wb, wo, none⟩) 4 ([x, wMax, a, b].map strV)) (hcc : 4 ≤ cc) (hlen : ∀ y ∈ [x, wMax, a, b], y.length ≤ 60000) (hB : B ≤ w.heap.size) :
    Calls Tryz.prog 64 #[refV r 0 S A H n c m c2 n3 c3, .slice (some ⟨wb, wo, none⟩) 4 cc] w (RTells B w (headE r [x, wMax, a, b])) := by
  obtain ⟨q, HE⟩ : ∃ q, QIs q (headE r [x, wMax, a, b]) := ⟨_, rfl⟩
  rw [← HE]
  have hc' : w.cell? ⟨wb, wo + 1, none⟩ = some (.string ⟨#[109, 97, 120]⟩) := hW.get (k := 1) rfl
  have hcc2 : 2 < cc := by omega
  have hcc3 : ¬ cc = 2 := by omega
  have lW := hW.lt_ (by decide)
  have HBAD := Lib.hid (fun (k : Int) (w' : World) (hq : q = (k, r)) (hk : Kept (Bs B w) w w') (hS : RefS B w' r S A H n c m c2 n3 c3) => show RTells B w q (.returned (refV r k S A H n c m c2 n3 c3)) w' from ⟨hk, S, A, H, n, c, m, c2, n3, c3, by rw [hq], by rw [hq]; exact hS⟩)
  unfold refV at HBAD ⊢
  obtain ⟨b1, hb1⟩ : ∃ b, b = r.max := ⟨_, rfl⟩
  obtain ⟨b2, hb2⟩ : ∃ b, b = r.begun := ⟨_, rfl⟩
  obtain ⟨b3, hb3⟩ : ∃ b, b = decide (¬ r.arcs = []) := ⟨_, rfl⟩
  obtain ⟨b4, hb4⟩ : ∃ b, b = r.es.isSome := ⟨_, rfl⟩
  obtain ⟨b5, hb5⟩ : ∃ b, b = r.et.isSome := ⟨_, rfl⟩
  obtain ⟨i1, hi1⟩ : ∃ b, b = r.es.getD 0 := ⟨_, rfl⟩
  obtain ⟨i2, hi2⟩ : ∃ b, b = r.et.getD 0 := ⟨_, rfl⟩
  obtain ⟨i3, hi3⟩ : ∃ b, b = r.many := ⟨_, rfl⟩
  obtain ⟨i4, hi4⟩ : ∃ b : Int, b = r.sup.length := ⟨_, rfl⟩
  rw [← hb1, ← hb2, ← hb3, ← hb4, ← hb5, ← hi1, ← hi2, ← hi3, ← hi4] at HBAD ⊢
  have HPT := Lib.hid (And.intro hb1 (And.intro hb2 (And.intro hb3 (And.intro hb4 (And.intro hb5 (And.intro hi1 (And.intro hi2 (And.intro hi3 hi4))))))))
  have hI0 := Blk.new w 88 (pC b1 b2 b3 b4 b5 i1 i2 i3 i4 0 S A H n c m c2 n3 c3)
  have hI1 := hI0.alloc (.cells #[.bool false, .slice none 0 0, .slice none 0 0, .int .i64 0, .int .i64 0, .bool false, .int .i64 0, .int .i64 0, .bool false, .slice none 0 0, .bool false, .bool false, .int .i64 0] 88)
  have hZ1 := Blk.new (w.alloc (.cells (pC b1 b2 b3 b4 b5 i1 i2 i3 i4 0 S A H n c m c2 n3 c3) 88)) 88 #[.bool false, .slice none 0 0, .slice none 0 0, .int .i64 0, .int .i64 0, .bool false, .int .i64 0, .int .i64 0, .bool false, .slice none 0 0, .bool false, .bool false, .int .i64 0]
  have hbI : Below w.heap.size w ((w.alloc (.cells (pC b1 b2 b3 b4 b5 i1 i2 i3 i4 0 S A H n c m c2 n3 c3) 88)).alloc (.cells #[.bool false, .slice none 0 0, .slice none 0 0, .int .i64 0, .int .i64 0, .bool false, .int .i64 0, .int .i64 0, .bool false, .slice none 0 0, .bool false, .bool false, .int .i64 0] 88)) := ((Below.refl _ w).alloc (Nat.le_refl _) _).alloc (by simp) _
  simp only [World.size_alloc] at hZ1
  unfold pC at HBAD hI1 hZ1 hbI ⊢
  have HI := Lib.hid (And.intro hI1 (And.intro hZ1 hbI))
  clear hb1 hb2 hb3 hb4 hb5 hi1 hi2 hi3 hi4 hI0 hI1 hZ1 hbI
  have hrd := ((hW.below HI.out.2.2).more HI.out.2.2.size).tail_ 2 2 rfl (by decide)
  have HN := Lib.hid (nums_in (some ⟨wb, wo + 2, none⟩) 2 (cc - 2) [a, b] _ hrd (by decide) (fun y hy => Nat.le_trans (hlen y (by simp at hy ⊢; rcases hy with rfl | rfl <;> simp)) (by decide)))
  have hc1 := (HI.out.2.2.cell (p := ⟨wb, wo + 1, none⟩) lW).trans hc'
  have lW1 : wb < ((w.alloc (.cells #[.bool b1, .slice S n c, .slice A m c2, .int .i64 i1, .int .i64 i2, .bool b2, .int .i64 i4, .int .i64 i3, .bool b3, .slice H n3 c3, .bool b4, .bool b5, .int .i64 0] 88)).alloc (.cells #[.bool false, .slice none 0 0, .slice none 0 0, .int .i64 0, .int .i64 0, .bool false, .int .i64 0, .int .i64 0, .bool false, .slice none 0 0, .bool false, .bool false, .int .i64 0] 88)).heap.size := Nat.lt_of_lt_of_le lW HI.out.2.2.size
  have HS := Lib.hid hS
  have HO := Lib.hid hO
  clear hS hW hlen hrd hO
  go_enter Tryz.func64, Tryz.ntmps64
  go_wp2_with fail
  generalize (w.alloc (.cells #[.bool b1, .slice S n c, .slice A m c2, .int .i64 i1, .int .i64 i2, .bool b2, .int .i64 i4, .int .i64 i3, .bool b3, .slice H n3 c3, .bool b4, .bool b5, .int .i64 0] 88)).alloc (.cells #[.bool false, .slice none 0 0, .slice none 0 0, .int .i64 0, .int .i64 0, .bool false, .int .i64 0, .int .i64 0, .bool false, .slice none 0 0, .bool false, .bool false, .int .i64 0] 88) = W0 at *
  refine HN.out.mono ?_
  rintro e w1 ⟨Q, nq, cq, rfl, hnq, hown, hb1⟩
  have hX : Blk w1 w.heap.size 88 #[.bool b1, .slice S n c, .slice A m c2, .int .i64 i1, .int .i64 i2, .bool b2, .int .i64 i4, .int .i64 i3, .bool b3, .slice H n3 c3, .bool b4, .bool b5, .int .i64 0] ∧ Blk w1 (w.heap.size + 1) 88 #[.bool false, .slice none 0 0, .slice none 0 0, .int .i64 0, .int .i64 0, .bool false, .int .i64 0, .int .i64 0, .bool false, .slice none 0 0, .bool false, .bool false, .int .i64 0] ∧ Below w.heap.size w w1 := ⟨HI.out.1.below hb1 HI.out.1.lt, HI.out.2.1.below hb1 HI.out.2.1.lt, HI.out.2.2.trans (hb1.mono HI.out.2.2.size)⟩
  obtain rfl : nq = 2 := hnq
  obtain ⟨qb, qo, u0, hQ, hqb, hu0, qc0⟩ := (Reads.of_own hown).at_ (k := 0) (by omega)
  obtain ⟨qb', qo', u1, hQ', hqb', hu1, qc1⟩ := (Reads.of_own hown).at_ (k := 1) (by omega)
  rw [hQ] at hQ'
  injection hQ' with hQ'
  injection hQ' with e1 e2 e3
  subst e1 e2
  subst hQ
  simp only [List.map_cons, List.map_nil, List.getElem?_cons_zero, List.getElem?_cons_succ, Option.some.injEq] at hu0 hu1
  subst hu0 hu1
  unfold I at qc0 qc1
  rw [Nat.add_zero] at qc0
  have HX := Lib.hid hX
  have hcw : w1.cell? ⟨wb, wo + 1, none⟩ = some (.string ⟨#[109, 97, 120]⟩) := (hb1.cell (p := ⟨wb, wo + 1, none⟩) lW1).trans hc1
  have lW2 := Nat.lt_of_lt_of_le lW1 hb1.size
  obtain ⟨c0, c1, c2', c3', c4, c5, c6, c7, c8, c9, c10, c11, c12⟩ := cells13 hX.1
  have lp := hX.1.lt
  have hqne : ¬ qb = w.heap.size := fun e => own_blk_ne hown hX.1 (by decide) (by rw [e]; rfl)
  have HOW := Lib.hid hown
  obtain ⟨er, her⟩ : ∃ er, er = errL [a, b] := ⟨_, rfl⟩
  rw [← her]
  have hcase : er = 10 ∨ er = 11 ∨ er = 0 := by
    rw [her]
    by_cases h1 : errL [a, b] = 10
    · exact .inl h1
    · by_cases h0 : errL [a, b] = 0
      · exact .inr (.inr h0)
      · exact .inr (.inl (err_11 h1 h0))
  have HER := Lib.hid her
  have hqE : q = if badW a ∨ badW b then (10, r) else if r.begun = true then (12, r) else if ¬ inW a 1 64 then (11, r) else if ¬ inW b 0 256 then (11, r)
    else (0, ⟨true, (numL b).1, decide (wMax = wMax), List.replicate (numL a).1.toNat 0, r.arcs, List.replicate (numL a).1.toNat false, none, none⟩) := by
    have h : q = headE r [x, wMax, a, b] := HE
    unfold headE at h; simp only at h; rw [if_neg (by decide)] at h; exact h
  have HQE : QIs q _ := hqE
  clear hX hown her hqE hb1 HN
  rcases hcase with hc | hc | hc
  · have hbad : badW a ∨ badW b := by
      obtain ⟨y, hy, hy0⟩ := errL_10.1 (HER.out.symm.trans hc)
      simp only [List.mem_cons, List.not_mem_nil, or_false] at hy
      rcases hy with rfl | rfl
      · exact .inl hy0
      · exact .inr hy0
    have HQ := Lib.hid (show QIs q (10, r) from by have h : q = _ := HQE; rw [if_pos hbad] at h; exact h)
    subst hc
    clear hbad
    go_wp2_with fail
    refine (fail_any b1 b2 b3 b4 b5 i1 i2 i3 i4 10 S A H n c m c2 n3 c3 _).mono ?_
    rintro e wf ⟨rfl, hbf⟩
    have hzf := HX.out.2.1.below hbf HX.out.2.1.lt
    have hbw := HX.out.2.2.trans (hbf.mono HX.out.2.2.size)
    obtain ⟨z0, z1, z2, z3, z4, z5, z6, z7, z8, z9, z10, z11, z12⟩ := cells13 hzf
    obtain ⟨f0, f1, f2, f3, f4, f5, f6, f7, f8, f9, f10, f11, f12⟩ := frozen13 hzf
    have lz := hzf.lt
    have HZ := Lib.hid (And.intro hzf hbw)
    clear hzf hbw hbf
    unfold pC
    go_wp2_with fail
    refine ret13 (fn := Tryz.f64) rfl rfl rfl (HZ.out.1.put13 (.bool b1) (.slice S n c) (.slice A m c2) (.int .i64 i1) (.int .i64 i2) (.bool b2) (.int .i64 i4) (.int .i64 i3) (.bool b3) (.slice H n3 c3) (.bool b4) (.bool b5) (.int .i64 10)) (HBAD.out 10 _ HQ.out ((Kept.of_below HZ.out.2 (Bs B w)).put13 (.bool b1) (.slice S n c) (.slice A m c2) (.int .i64 i1) (.int .i64 i2) (.bool b2) (.int .i64 i4) (.int .i64 i3) (.bool b3) (.slice H n3 c3) (.bool b4) (.bool b5) (.int .i64 10) (fun h => absurd h (by omega))) ?_)
    exact (HS.out.on HZ.out.2).far13_ HZ.out.1 (.bool b1) (.slice S n c) (.slice A m c2) (.int .i64 i1) (.int .i64 i2) (.bool b2) (.int .i64 i4) (.int .i64 i3) (.bool b3) (.slice H n3 c3) (.bool b4) (.bool b5) (.int .i64 10)
  · have hnb : ¬ (badW a ∨ badW b) := by
      intro h
      have : errL [a, b] = 10 := errL_10.2 (by rcases h with h | h; exact ⟨a, by simp, h⟩; exact ⟨b, by simp, h⟩)
      rw [← HER.out, hc] at this
      cases this
    have hno : ¬ (inW a 1 64 ∧ inW b 0 256) := by
      rintro ⟨⟨h1, -⟩, ⟨h2, -⟩⟩
      have : errL [a, b] = 0 := errL_0.2 (by simp [h1, h2])
      rw [← HER.out, hc] at this
      cases this
    subst hc
    have HB2 := Lib.hid (show b2 = r.begun from HPT.out.2.1)
    cases b2
    · have HQ := Lib.hid (show QIs q (11, r) from by
        have h : q = _ := HQE
        rw [if_neg hnb, if_neg (by rw [← HB2.out]; simp)] at h
        by_cases hA : inW a 1 64
        · rw [if_neg (by simpa using hA), if_pos (fun hB => hno ⟨hA, hB⟩)] at h; exact h
        · rw [if_pos hA] at h; exact h)
      clear hnb hno
      go_wp2_with fail
      refine (fail_any b1 false b3 b4 b5 i1 i2 i3 i4 11 S A H n c m c2 n3 c3 _).mono ?_
      rintro e wf ⟨rfl, hbf⟩
      have hzf := HX.out.2.1.below hbf HX.out.2.1.lt
      have hbw := HX.out.2.2.trans (hbf.mono HX.out.2.2.size)
      obtain ⟨z0, z1, z2, z3, z4, z5, z6, z7, z8, z9, z10, z11, z12⟩ := cells13 hzf
      obtain ⟨f0, f1, f2, f3, f4, f5, f6, f7, f8, f9, f10, f11, f12⟩ := frozen13 hzf
      have lz := hzf.lt
      have HZ := Lib.hid (And.intro hzf hbw)
      clear hzf hbw hbf
      unfold pC
      go_wp2_with fail
      refine ret13 (fn := Tryz.f64) rfl rfl rfl (HZ.out.1.put13 (.bool b1) (.slice S n c) (.slice A m c2) (.int .i64 i1) (.int .i64 i2) (.bool false) (.int .i64 i4) (.int .i64 i3) (.bool b3) (.slice H n3 c3) (.bool b4) (.bool b5) (.int .i64 11)) (HBAD.out 11 _ HQ.out ((Kept.of_below HZ.out.2 (Bs B w)).put13 (.bool b1) (.slice S n c) (.slice A m c2) (.int .i64 i1) (.int .i64 i2) (.bool false) (.int .i64 i4) (.int .i64 i3) (.bool b3) (.slice H n3 c3) (.bool b4) (.bool b5) (.int .i64 11) (fun h => absurd h (by omega))) ?_)
      exact (HS.out.on HZ.out.2).far13_ HZ.out.1 (.bool b1) (.slice S n c) (.slice A m c2) (.int .i64 i1) (.int .i64 i2) (.bool false) (.int .i64 i4) (.int .i64 i3) (.bool b3) (.slice H n3 c3) (.bool b4) (.bool b5) (.int .i64 11)
    · have HQ := Lib.hid (show QIs q (12, r) from by
        have h : q = _ := HQE
        rw [if_neg hnb, if_pos HB2.out.symm] at h; exact h)
      clear hnb hno
      go_wp2_with fail
      refine (fail_any b1 true b3 b4 b5 i1 i2 i3 i4 12 S A H n c m c2 n3 c3 _).mono ?_
      rintro e wf ⟨rfl, hbf⟩
      have hzf := HX.out.2.1.below hbf HX.out.2.1.lt
      have hbw := HX.out.2.2.trans (hbf.mono HX.out.2.2.size)
      obtain ⟨z0, z1, z2, z3, z4, z5, z6, z7, z8, z9, z10, z11, z12⟩ := cells13 hzf
      obtain ⟨f0, f1, f2, f3, f4, f5, f6, f7, f8, f9, f10, f11, f12⟩ := frozen13 hzf
      have lz := hzf.lt
      have HZ := Lib.hid (And.intro hzf hbw)
      clear hzf hbw hbf
      unfold pC
      go_wp2_with fail
      refine ret13 (fn := Tryz.f64) rfl rfl rfl (HZ.out.1.put13 (.bool b1) (.slice S n c) (.slice A m c2) (.int .i64 i1) (.int .i64 i2) (.bool true) (.int .i64 i4) (.int .i64 i3) (.bool b3) (.slice H n3 c3) (.bool b4) (.bool b5) (.int .i64 12)) (HBAD.out 12 _ HQ.out ((Kept.of_below HZ.out.2 (Bs B w)).put13 (.bool b1) (.slice S n c) (.slice A m c2) (.int .i64 i1) (.int .i64 i2) (.bool true) (.int .i64 i4) (.int .i64 i3) (.bool b3) (.slice H n3 c3) (.bool b4) (.bool b5) (.int .i64 12) (fun h => absurd h (by omega))) ?_)
      exact (HS.out.on HZ.out.2).far13_ HZ.out.1 (.bool b1) (.slice S n c) (.slice A m c2) (.int .i64 i1) (.int .i64 i2) (.bool true) (.int .i64 i4) (.int .i64 i3) (.bool b3) (.slice H n3 c3) (.bool b4) (.bool b5) (.int .i64 12)
  · have hall := errL_0.1 (HER.out.symm.trans hc)
    have ha0 : (numL a).2 = 0 := hall a (by simp)
    have hb0 : (numL b).2 = 0 := hall b (by simp)
    have hnb : ¬ (badW a ∨ badW b) := by unfold badW; omega
    subst hc
    have HB2 := Lib.hid (show b2 = r.begun from HPT.out.2.1)
    cases b2
    · by_cases hA : 1 ≤ (numL a).1 ∧ (numL a).1 ≤ 64
      · by_cases hBb : 0 ≤ (numL b).1 ∧ (numL b).1 ≤ 256
        · have dA : decide (1 ≤ (numL a).1 ∧ (numL a).1 ≤ 64) = true := by simpa using hA
          have dB : decide (0 ≤ (numL b).1 ∧ (numL b).1 ≤ 256) = true := by simpa using hBb
          have HI1 := Lib.hid (in_in (numL a).1 1 64 w1)
          have HI2 := Lib.hid (in_in (numL b).1 0 256 w1)
          rw [dA] at HI1
          rw [dB] at HI2
          have hr0 : r = rd0 := HO.out.none_ HB2.out.symm
          have HQ := Lib.hid (show QIs q _ from by
            have h : q = _ := HQE
            rw [if_neg hnb, if_neg (by rw [← HB2.out]; simp), if_neg (by rw [inW_of ha0]; simpa using hA), if_neg (by rw [inW_of hb0]; simpa using hBb)] at h; exact h)
          obtain ⟨N, hN⟩ : ∃ N : Nat, (numL a).1 = N := ⟨(numL a).1.toNat, by omega⟩
          have hN64 : N ≤ 64 := by omega
          rw [hN] at qc0 HI1 HQ
          have hmi := makeInts N hN64
          have hmb := makeBools N hN64
          have HNN := Lib.hid hN
          obtain ⟨f0, f1, f2, f3, f4, f5, f6, f7, f8, f9, f10, f11, f12⟩ := frozen13 HX.out.1
          have lz := HX.out.2.1.lt
          obtain ⟨z0, z1, z2, z3, z4, z5, z6, z7, z8, z9, z10, z11, z12⟩ := cells13 HX.out.2.1
          obtain ⟨g0, g1, g2, g3, g4, g5, g6, g7, g8, g9, g10, g11, g12⟩ := frozen13 HX.out.2.1
          have hwne : ¬ wb = w.heap.size := by omega
          have hwne2 : ¬ w.heap.size = wb := by omega
          have hpz : ¬ w.heap.size = w.heap.size + 1 := by omega
          have hzp : ¬ w.heap.size + 1 = w.heap.size := by omega
          clear hall ha0 hb0 hnb hA hBb dA dB hN
          go_wp2_with fail
          refine HI1.out.mono ?_
          rintro e _ ⟨rfl, rfl⟩
          go_wp2_with fail
          refine HI2.out.mono ?_
          rintro e _ ⟨rfl, rfl⟩
          go_wp2_with fail
          have hZ5 := ((((((HX.out.2.1.far (p := ⟨w.heap.size, 5, none⟩) hzp (.bool true)).far (p := ⟨w.heap.size, 6, none⟩) hzp (.int .i64 N)).far (p := ⟨w.heap.size, 7, none⟩) hzp (.int .i64 (numL b).1)).far (p := ⟨w.heap.size, 0, none⟩) hzp (.bool true)).far (p := ⟨w.heap.size, 1, none⟩) hzp (.slice (some ⟨w1.heap.size, 0, none⟩) N N)).far (p := ⟨w.heap.size, 9, none⟩) hzp (.slice (some ⟨w1.heap.size + 1, 0, none⟩) N N))
          have hK5 := (((((((Kept.of_below HX.out.2.2 (Bs B w)).setCell (p := ⟨w.heap.size, 5, none⟩) (fun h => absurd h (by simp)) (.bool true)).setCell (p := ⟨w.heap.size, 6, none⟩) (fun h => absurd h (by simp)) (.int .i64 N)).setCell (p := ⟨w.heap.size, 7, none⟩) (fun h => absurd h (by simp)) (.int .i64 (numL b).1)).setCell (p := ⟨w.heap.size, 0, none⟩) (fun h => absurd h (by simp)) (.bool true)).setCell (p := ⟨w.heap.size, 1, none⟩) (fun h => absurd h (by simp)) (.slice (some ⟨w1.heap.size, 0, none⟩) N N)).setCell (p := ⟨w.heap.size, 9, none⟩) (fun h => absurd h (by simp)) (.slice (some ⟨w1.heap.size + 1, 0, none⟩) N N))
          have hs5 : (((((((w1.setCell ⟨w.heap.size, 5, none⟩ (.bool true)).setCell ⟨w.heap.size, 6, none⟩ (.int .i64 N)).setCell ⟨w.heap.size, 7, none⟩ (.int .i64 (numL b).1)).setCell ⟨w.heap.size, 0, none⟩ (.bool true)).setCell ⟨w.heap.size, 1, none⟩ (.slice (some ⟨w1.heap.size, 0, none⟩) N N)).setCell ⟨w.heap.size, 9, none⟩ (.slice (some ⟨w1.heap.size + 1, 0, none⟩) N N))).heap.size = w1.heap.size := by simp [World.setCell]
          change bodyPost _ _ _ _ _ (((put13 ((((((w1.setCell ⟨w.heap.size, 5, none⟩ (.bool true)).setCell ⟨w.heap.size, 6, none⟩ (.int .i64 N)).setCell ⟨w.heap.size, 7, none⟩ (.int .i64 (numL b).1)).setCell ⟨w.heap.size, 0, none⟩ (.bool true)).setCell ⟨w.heap.size, 1, none⟩ (.slice (some ⟨w1.heap.size, 0, none⟩) N N)).setCell ⟨w.heap.size, 9, none⟩ (.slice (some ⟨w1.heap.size + 1, 0, none⟩) N N)) (w.heap.size + 1) (.bool true) (.slice (some ⟨w1.heap.size, 0, none⟩) N N) (.slice A m c2) (.int .i64 i1) (.int .i64 i2) (.bool true) (.int .i64 N) (.int .i64 (numL b).1) (.bool b3) (.slice (some ⟨w1.heap.size + 1, 0, none⟩) N N) (.bool b4) (.bool b5) (.int .i64 0)).alloc (.cells (ints (List.replicate N 0)) 2)).alloc (.cells (bools (List.replicate N false)) 4))
          generalize ((((((w1.setCell ⟨w.heap.size, 5, none⟩ (.bool true)).setCell ⟨w.heap.size, 6, none⟩ (.int .i64 N)).setCell ⟨w.heap.size, 7, none⟩ (.int .i64 (numL b).1)).setCell ⟨w.heap.size, 0, none⟩ (.bool true)).setCell ⟨w.heap.size, 1, none⟩ (.slice (some ⟨w1.heap.size, 0, none⟩) N N)).setCell ⟨w.heap.size, 9, none⟩ (.slice (some ⟨w1.heap.size + 1, 0, none⟩) N N)) = W5 at hZ5 hK5 hs5 ⊢
          have hZ6 := hZ5.put13 (.bool true) (.slice (some ⟨w1.heap.size, 0, none⟩) N N) (.slice A m c2) (.int .i64 i1) (.int .i64 i2) (.bool true) (.int .i64 N) (.int .i64 (numL b).1) (.bool b3) (.slice (some ⟨w1.heap.size + 1, 0, none⟩) N N) (.bool b4) (.bool b5) (.int .i64 0)
          have hK6 := hK5.put13 (b := w.heap.size + 1) (.bool true) (.slice (some ⟨w1.heap.size, 0, none⟩) N N) (.slice A m c2) (.int .i64 i1) (.int .i64 i2) (.bool true) (.int .i64 N) (.int .i64 (numL b).1) (.bool b3) (.slice (some ⟨w1.heap.size + 1, 0, none⟩) N N) (.bool b4) (.bool b5) (.int .i64 0) (fun h => absurd h (by omega))
          have hs6 := (size13 W5 (w.heap.size + 1) (.bool true) (.slice (some ⟨w1.heap.size, 0, none⟩) N N) (.slice A m c2) (.int .i64 i1) (.int .i64 i2) (.bool true) (.int .i64 N) (.int .i64 (numL b).1) (.bool b3) (.slice (some ⟨w1.heap.size + 1, 0, none⟩) N N) (.bool b4) (.bool b5) (.int .i64 0)).trans hs5
          generalize put13 W5 (w.heap.size + 1) (.bool true) (.slice (some ⟨w1.heap.size, 0, none⟩) N N) (.slice A m c2) (.int .i64 i1) (.int .i64 i2) (.bool true) (.int .i64 N) (.int .i64 (numL b).1) (.bool b3) (.slice (some ⟨w1.heap.size + 1, 0, none⟩) N N) (.bool b4) (.bool b5) (.int .i64 0) = W6 at hZ6 hK6 hs6 ⊢
          have s1 := (Blk.new W6 2 (ints (List.replicate N 0))).alloc (.cells (bools (List.replicate N false)) 4)
          have t1 := Blk.new (W6.alloc (.cells (ints (List.replicate N 0)) 2)) 4 (bools (List.replicate N false))
          rw [World.size_alloc, hs6] at t1
          rw [hs6] at s1
          have hZ7 := (hZ6.alloc (.cells (ints (List.replicate N 0)) 2)).alloc (.cells (bools (List.replicate N false)) 4)
          have hK7 := (hK6.alloc (.cells (ints (List.replicate N 0)) 2)).alloc (.cells (bools (List.replicate N false)) 4)
          generalize (W6.alloc (.cells (ints (List.replicate N 0)) 2)).alloc (.cells (bools (List.replicate N false)) 4) = WF at *
          refine ret13 (fn := Tryz.f64) rfl rfl rfl hZ7 ?_
          have hwB : B ≤ w1.heap.size := Nat.le_trans hB HX.out.2.2.size
          obtain ⟨p1, p2, p3, p4, p5, p6, p7, p8, p9⟩ := HPT.out
          have hS0 := HS.out
          rcases hS0 with ⟨-, -, rfl, -, -, -, rfl, rfl, -, -⟩ | ⟨hbg, -⟩
          · have hqe : q = _ := HQ.out
            subst hr0
            rw [hqe]
            refine ⟨hK7, some ⟨w1.heap.size, 0, none⟩, none, some ⟨w1.heap.size + 1, 0, none⟩, N, N, 0, 0, N, N, ?_, .inr ⟨rfl, w1.heap.size, w1.heap.size + 1, rfl, rfl, by simp, by simp, by simp, by simp, ⟨by simpa using s1, by simpa using t1, ⟨rfl, .inl ⟨rfl, rfl⟩⟩, hwB, by omega⟩⟩⟩
            rw [p3, p4, p5, p6, p7]
            simp [refV, pC, rd0]
            
          · rw [← HB2.out] at hbg; cases hbg
        · have HQ := Lib.hid (show QIs q (11, r) from by
            have h : q = _ := HQE
            rw [if_neg hnb, if_neg (by rw [← HB2.out]; simp), if_neg (by rw [inW_of ha0]; simpa using hA), if_pos (by rw [inW_of hb0]; exact hBb)] at h; exact h)
          have dA : decide (1 ≤ (numL a).1 ∧ (numL a).1 ≤ 64) = true := by simpa using hA
          have dB : decide (0 ≤ (numL b).1 ∧ (numL b).1 ≤ 256) = false := by simpa using hBb
          have HI1 := Lib.hid (in_in (numL a).1 1 64 w1)
          have HI2 := Lib.hid (in_in (numL b).1 0 256 w1)
          rw [dA] at HI1
          rw [dB] at HI2
          clear hall ha0 hb0 hnb hA hBb dA dB
          go_wp2_with fail
          refine HI1.out.mono ?_
          rintro e _ ⟨rfl, rfl⟩
          go_wp2_with fail
          refine HI2.out.mono ?_
          rintro e _ ⟨rfl, rfl⟩
          go_wp2_with fail
          refine (fail_any b1 false b3 b4 b5 i1 i2 i3 i4 11 S A H n c m c2 n3 c3 _).mono ?_
          rintro e wf ⟨rfl, hbf⟩
          have hzf := HX.out.2.1.below hbf HX.out.2.1.lt
          have hbw := HX.out.2.2.trans (hbf.mono HX.out.2.2.size)
          obtain ⟨z0, z1, z2, z3, z4, z5, z6, z7, z8, z9, z10, z11, z12⟩ := cells13 hzf
          obtain ⟨f0, f1, f2, f3, f4, f5, f6, f7, f8, f9, f10, f11, f12⟩ := frozen13 hzf
          have lz := hzf.lt
          have HZ := Lib.hid (And.intro hzf hbw)
          clear hzf hbw hbf
          unfold pC
          go_wp2_with fail
          refine ret13 (fn := Tryz.f64) rfl rfl rfl (HZ.out.1.put13 (.bool b1) (.slice S n c) (.slice A m c2) (.int .i64 i1) (.int .i64 i2) (.bool false) (.int .i64 i4) (.int .i64 i3) (.bool b3) (.slice H n3 c3) (.bool b4) (.bool b5) (.int .i64 11)) (HBAD.out 11 _ HQ.out ((Kept.of_below HZ.out.2 (Bs B w)).put13 (.bool b1) (.slice S n c) (.slice A m c2) (.int .i64 i1) (.int .i64 i2) (.bool false) (.int .i64 i4) (.int .i64 i3) (.bool b3) (.slice H n3 c3) (.bool b4) (.bool b5) (.int .i64 11) (fun h => absurd h (by omega))) ?_)
          exact (HS.out.on HZ.out.2).far13_ HZ.out.1 (.bool b1) (.slice S n c) (.slice A m c2) (.int .i64 i1) (.int .i64 i2) (.bool false) (.int .i64 i4) (.int .i64 i3) (.bool b3) (.slice H n3 c3) (.bool b4) (.bool b5) (.int .i64 11)
      · have HQ := Lib.hid (show QIs q (11, r) from by
          have h : q = _ := HQE
          rw [if_neg hnb, if_neg (by rw [← HB2.out]; simp), if_pos (by rw [inW_of ha0]; exact hA)] at h; exact h)
        have dA : decide (1 ≤ (numL a).1 ∧ (numL a).1 ≤ 64) = false := by simpa using hA
        have HI1 := Lib.hid (in_in (numL a).1 1 64 w1)
        rw [dA] at HI1
        clear hall ha0 hb0 hnb hA dA
        go_wp2_with fail
        refine HI1.out.mono ?_
        rintro e _ ⟨rfl, rfl⟩
        go_wp2_with fail
        refine (fail_any b1 false b3 b4 b5 i1 i2 i3 i4 11 S A H n c m c2 n3 c3 _).mono ?_
        rintro e wf ⟨rfl, hbf⟩
        have hzf := HX.out.2.1.below hbf HX.out.2.1.lt
        have hbw := HX.out.2.2.trans (hbf.mono HX.out.2.2.size)
        obtain ⟨z0, z1, z2, z3, z4, z5, z6, z7, z8, z9, z10, z11, z12⟩ := cells13 hzf
        obtain ⟨f0, f1, f2, f3, f4, f5, f6, f7, f8, f9, f10, f11, f12⟩ := frozen13 hzf
        have lz := hzf.lt
        have HZ := Lib.hid (And.intro hzf hbw)
        clear hzf hbw hbf
        unfold pC
        go_wp2_with fail
        refine ret13 (fn := Tryz.f64) rfl rfl rfl (HZ.out.1.put13 (.bool b1) (.slice S n c) (.slice A m c2) (.int .i64 i1) (.int .i64 i2) (.bool false) (.int .i64 i4) (.int .i64 i3) (.bool b3) (.slice H n3 c3) (.bool b4) (.bool b5) (.int .i64 11)) (HBAD.out 11 _ HQ.out ((Kept.of_below HZ.out.2 (Bs B w)).put13 (.bool b1) (.slice S n c) (.slice A m c2) (.int .i64 i1) (.int .i64 i2) (.bool false) (.int .i64 i4) (.int .i64 i3) (.bool b3) (.slice H n3 c3) (.bool b4) (.bool b5) (.int .i64 11) (fun h => absurd h (by omega))) ?_)
        exact (HS.out.on HZ.out.2).far13_ HZ.out.1 (.bool b1) (.slice S n c) (.slice A m c2) (.int .i64 i1) (.int .i64 i2) (.bool false) (.int .i64 i4) (.int .i64 i3) (.bool b3) (.slice H n3 c3) (.bool b4) (.bool b5) (.int .i64 11)
    · have HQ := Lib.hid (show QIs q (12, r) from by
        have h : q = _ := HQE
        rw [if_neg hnb, if_pos HB2.out.symm] at h; exact h)
      clear hall ha0 hb0 hnb
      go_wp2_with fail
      refine (fail_any b1 true b3 b4 b5 i1 i2 i3 i4 12 S A H n c m c2 n3 c3 _).mono ?_
      rintro e wf ⟨rfl, hbf⟩
      have hzf := HX.out.2.1.below hbf HX.out.2.1.lt
      have hbw := HX.out.2.2.trans (hbf.mono HX.out.2.2.size)
      obtain ⟨z0, z1, z2, z3, z4, z5, z6, z7, z8, z9, z10, z11, z12⟩ := cells13 hzf
      obtain ⟨f0, f1, f2, f3, f4, f5, f6, f7, f8, f9, f10, f11, f12⟩ := frozen13 hzf
      have lz := hzf.lt
      have HZ := Lib.hid (And.intro hzf hbw)
      clear hzf hbw hbf
      unfold pC
      go_wp2_with fail
      refine ret13 (fn := Tryz.f64) rfl rfl rfl (HZ.out.1.put13 (.bool b1) (.slice S n c) (.slice A m c2) (.int .i64 i1) (.int .i64 i2) (.bool true) (.int .i64 i4) (.int .i64 i3) (.bool b3) (.slice H n3 c3) (.bool b4) (.bool b5) (.int .i64 12)) (HBAD.out 12 _ HQ.out ((Kept.of_below HZ.out.2 (Bs B w)).put13 (.bool b1) (.slice S n c) (.slice A m c2) (.int .i64 i1) (.int .i64 i2) (.bool true) (.int .i64 i4) (.int .i64 i3) (.bool b3) (.slice H n3 c3) (.bool b4) (.bool b5) (.int .i64 12) (fun h => absurd h (by omega))) ?_)
      exact (HS.out.on HZ.out.2).far13_ HZ.out.1 (.bool b1) (.slice S n c) (.slice A m c2) (.int .i64 i1) (.int .i64 i2) (.bool true) (.int .i64 i4) (.int .i64 i3) (.bool b3) (.slice H n3 c3) (.bool b4) (.bool b5) (.int .i64 12)
theorem rhead_any (B : Nat) (r : RdV) (S A H : Option Addr) (n c m c2 n3 c3 wb wo cc nn : Nat) (ws : List (List UInt8)) (w : World) (hS : RefS B w r S A H n c m c2 n3 c3) (hO : RdOk r) (hW : Reads w w.heap.size 1 (some ⟨wb, wo, none⟩) nn (ws.map strV)) (hcc : nn ≤ cc) (hn : nn = ws.length) (hlen : ∀ y ∈ ws, y.length ≤ 60000) (hB : B ≤ w.heap.size) :
    Calls Tryz.prog 64 #[refV r 0 S A H n c m c2 n3 c3, .slice (some ⟨wb, wo, none⟩) nn cc] w (RTells B w (headE r ws)) := by
  by_cases hl : nn = 4
  · subst hl
    match ws, hn with
    | [x, k, a, b], _ =>
      by_cases h1 : k = wMin
      · subst h1; exact rhead_min B r S A H n c m c2 n3 c3 wb wo cc x a b w hS hO hW hcc hlen hB
      · by_cases h2 : k = wMax
        · subst h2; exact rhead_max B r S A H n c m c2 n3 c3 wb wo cc x a b w hS hO hW hcc hlen hB
        · exact rhead_kind B r S A H n c m c2 n3 c3 wb wo cc x k a b w hS ⟨h1, h2⟩ hW hcc hB
  · exact rhead_len B r S A H n c m c2 n3 c3 wb wo cc nn ws w hS hl hn hB
end Go.Proofs.YtoagphighgejnaaGreatDoor
