/- The document's answer: node (35). Conditions: none. -/
import Derived.Test.YtoagphighgejnaaGreatDoorV4
import Derived.Test.YtoagphighgejnaaGreatDoorJ10
import Derived.BigQuiet
set_option linter.unusedSimpArgs false
set_option linter.unusedVariables false
namespace Go.Proofs.YtoagphighgejnaaGreatDoor
open Go.RowKit Go.Shelf

set_option maxRecDepth 100000 in
set_option maxHeartbeats 3200000 in
theorem rnode_len (B : Nat) (r : RdV) (S A H : Option Addr) (n c m c2 n3 c3 wb wo cc nn : Nat) (ws : List (List UInt8)) (w : World) (hS : RefS B w r S A H n c m c2 n3 c3) (hl : ¬ nn = 3) (hn : nn = ws.length) (hB : B ≤ w.heap.size) :
    Calls Tryz.prog 68 #[refV r 0 S A H n c m c2 n3 c3, .slice (some ⟨wb, wo, none⟩) nn cc] w (RTells B w (nodeE r ws)) := by
  obtain ⟨q, HE⟩ : ∃ q, QIs q (nodeE r ws) := ⟨_, rfl⟩
  rw [← HE]
  have hq : q = (10, r) := by
    have h : q = nodeE r ws := HE
    rw [h]; subst hn
    unfold nodeE; split
    · exact absurd rfl hl
    · rfl
  have HQ := Lib.hid (show QIs q (10, r) from hq)
  have hl' : ¬ (nn : Int) = 3 := by omega
  have HBAD := Lib.hid (fun (k : Int) (w' : World) (hq : q = (k, r)) (hk : Kept (Bs B w) w w') (hS : RefS B w' r S A H n c m c2 n3 c3) => show RTells B w q (.returned (refV r k S A H n c m c2 n3 c3)) w' from ⟨hk, S, A, H, n, c, m, c2, n3, c3, by rw [hq], by rw [hq]; exact hS⟩)
  unfold refV at HBAD ⊢
  obtain ⟨b1, hb1⟩ : ∃ b, b = r.max := ⟨_, rfl⟩
  obtain ⟨b2, hb2⟩ : ∃ b, b = r.begun := ⟨_, rfl⟩
  obtain ⟨b3, hb3⟩ : ∃ b, b = decide (¬ r.arcs = []) := ⟨_, rfl⟩
  obtain ⟨b4, hb4⟩ : ∃ b, b = r.es.isSome := ⟨_, rfl⟩
  obtain ⟨b5, hb5⟩ : ∃ b, b = r.et.isSome := ⟨_, rfl⟩
  obtain ⟨i1, hi1⟩ : ∃ b, b = r.es.getD 0 := ⟨_, rfl⟩
  obtain ⟨i2, hi2⟩ : ∃ b, b = r.et.getD 0 := ⟨_, rfl⟩
  obtain ⟨i3, hi3⟩ : ∃ b, b = r.many := ⟨_, rfl⟩
  obtain ⟨i4, hi4⟩ : ∃ b : Int, b = r.sup.length := ⟨_, rfl⟩
  rw [← hb1, ← hb2, ← hb3, ← hb4, ← hb5, ← hi1, ← hi2, ← hi3, ← hi4] at HBAD ⊢
  have HPT := Lib.hid (And.intro hb1 (And.intro hb2 (And.intro hb3 (And.intro hb4 (And.intro hb5 (And.intro hi1 (And.intro hi2 (And.intro hi3 hi4))))))))
  have hI0 := Blk.new w 88 (pC b1 b2 b3 b4 b5 i1 i2 i3 i4 0 S A H n c m c2 n3 c3)
  have hI1 := hI0.alloc (.cells #[.bool false, .slice none 0 0, .slice none 0 0, .int .i64 0, .int .i64 0, .bool false, .int .i64 0, .int .i64 0, .bool false, .slice none 0 0, .bool false, .bool false, .int .i64 0] 88)
  have hZ1 := Blk.new (w.alloc (.cells (pC b1 b2 b3 b4 b5 i1 i2 i3 i4 0 S A H n c m c2 n3 c3) 88)) 88 #[.bool false, .slice none 0 0, .slice none 0 0, .int .i64 0, .int .i64 0, .bool false, .int .i64 0, .int .i64 0, .bool false, .slice none 0 0, .bool false, .bool false, .int .i64 0]
  have hbI : Below w.heap.size w ((w.alloc (.cells (pC b1 b2 b3 b4 b5 i1 i2 i3 i4 0 S A H n c m c2 n3 c3) 88)).alloc (.cells #[.bool false, .slice none 0 0, .slice none 0 0, .int .i64 0, .int .i64 0, .bool false, .int .i64 0, .int .i64 0, .bool false, .slice none 0 0, .bool false, .bool false, .int .i64 0] 88)) := ((Below.refl _ w).alloc (Nat.le_refl _) _).alloc (by simp) _
  simp only [World.size_alloc] at hZ1
  unfold pC at HBAD hI1 hZ1 hbI ⊢
  have HI := Lib.hid (And.intro hI1 (And.intro hZ1 hbI))
  clear hb1 hb2 hb3 hb4 hb5 hi1 hi2 hi3 hi4 hI0 hI1 hZ1 hbI
  have HS := Lib.hid hS
  clear hS hl hn hq
  go_enter Tryz.func68, Tryz.ntmps68
  go_wp2_with fail
  generalize (w.alloc (.cells #[.bool b1, .slice S n c, .slice A m c2, .int .i64 i1, .int .i64 i2, .bool b2, .int .i64 i4, .int .i64 i3, .bool b3, .slice H n3 c3, .bool b4, .bool b5, .int .i64 0] 88)).alloc (.cells #[.bool false, .slice none 0 0, .slice none 0 0, .int .i64 0, .int .i64 0, .bool false, .int .i64 0, .int .i64 0, .bool false, .slice none 0 0, .bool false, .bool false, .int .i64 0] 88) = W0 at *
  refine (fail_any b1 b2 b3 b4 b5 i1 i2 i3 i4 10 S A H n c m c2 n3 c3 _).mono ?_
  rintro e wf ⟨rfl, hbf⟩
  have hzf := HI.out.2.1.below hbf HI.out.2.1.lt
  have hbw := HI.out.2.2.trans (hbf.mono HI.out.2.2.size)
  obtain ⟨z0, z1, z2, z3, z4, z5, z6, z7, z8, z9, z10, z11, z12⟩ := cells13 hzf
  obtain ⟨f0, f1, f2, f3, f4, f5, f6, f7, f8, f9, f10, f11, f12⟩ := frozen13 hzf
  have lz := hzf.lt
  have HZ := Lib.hid (And.intro hzf hbw)
  clear hzf hbw hbf
  unfold pC
  go_wp2_with fail
  refine ret13 (fn := Tryz.f68) rfl rfl rfl (HZ.out.1.put13 (.bool b1) (.slice S n c) (.slice A m c2) (.int .i64 i1) (.int .i64 i2) (.bool b2) (.int .i64 i4) (.int .i64 i3) (.bool b3) (.slice H n3 c3) (.bool b4) (.bool b5) (.int .i64 10)) (HBAD.out 10 _ HQ.out ((Kept.of_below HZ.out.2 (Bs B w)).put13 (.bool b1) (.slice S n c) (.slice A m c2) (.int .i64 i1) (.int .i64 i2) (.bool b2) (.int .i64 i4) (.int .i64 i3) (.bool b3) (.slice H n3 c3) (.bool b4) (.bool b5) (.int .i64 10) (fun h => absurd h (by omega))) ?_)
  exact (HS.out.on HZ.out.2).far13_ HZ.out.1 (.bool b1) (.slice S n c) (.slice A m c2) (.int .i64 i1) (.int .i64 i2) (.bool b2) (.int .i64 i4) (.int .i64 i3) (.bool b3) (.slice H n3 c3) (.bool b4) (.bool b5) (.int .i64 10)
set_option maxRecDepth 100000 in
set_option maxHeartbeats 6400000 in
theorem rnode_in (B : Nat) (r : RdV) (S A H : Option Addr) (n c m c2 n3 c3 wb wo cc : Nat) (x a b : List UInt8) (w : World) (hS : RefS B w r S A H n c m c2 n3 c3) (hO : RdOk r) (hbg : r.begun = true) (hW : Reads w w.heap.size 1 (some ⟨wb, wo, none⟩) 3 ([x, a, b].map strV)) (hcc : 3 ≤ cc) (hlen : ∀ y ∈ [x, a, b], y.length ≤ 60000) (hB : B ≤ w.heap.size) :
    Calls Tryz.prog 68 #[refV r 0 S A H n c m c2 n3 c3, .slice (some ⟨wb, wo, none⟩) 3 cc] w (RTells B w (nodeE r [x, a, b])) := by
  obtain ⟨q, HE⟩ : ∃ q, QIs q (nodeE r [x, a, b]) := ⟨_, rfl⟩
  rw [← HE]
  have hcc2 : 1 < cc := by omega
  have hcc3 : ¬ cc = 1 := by omega
  have lW := hW.lt_ (by decide)
  have HBAD := Lib.hid (fun (k : Int) (w' : World) (hq : q = (k, r)) (hk : Kept (Bs B w) w w') (hS : RefS B w' r S A H n c m c2 n3 c3) => show RTells B w q (.returned (refV r k S A H n c m c2 n3 c3)) w' from ⟨hk, S, A, H, n, c, m, c2, n3, c3, by rw [hq], by rw [hq]; exact hS⟩)
  unfold refV at HBAD ⊢
  obtain ⟨b1, hb1⟩ : ∃ b, b = r.max := ⟨_, rfl⟩
  obtain ⟨b2, hb2⟩ : ∃ b, b = r.begun := ⟨_, rfl⟩
  obtain ⟨b3, hb3⟩ : ∃ b, b = decide (¬ r.arcs = []) := ⟨_, rfl⟩
  obtain ⟨b4, hb4⟩ : ∃ b, b = r.es.isSome := ⟨_, rfl⟩
  obtain ⟨b5, hb5⟩ : ∃ b, b = r.et.isSome := ⟨_, rfl⟩
  obtain ⟨i1, hi1⟩ : ∃ b, b = r.es.getD 0 := ⟨_, rfl⟩
  obtain ⟨i2, hi2⟩ : ∃ b, b = r.et.getD 0 := ⟨_, rfl⟩
  obtain ⟨i3, hi3⟩ : ∃ b, b = r.many := ⟨_, rfl⟩
  obtain ⟨i4, hi4⟩ : ∃ b : Int, b = r.sup.length := ⟨_, rfl⟩
  rw [← hb1, ← hb2, ← hb3, ← hb4, ← hb5, ← hi1, ← hi2, ← hi3, ← hi4] at HBAD ⊢
  have HPT := Lib.hid (And.intro hb1 (And.intro hb2 (And.intro hb3 (And.intro hb4 (And.intro hb5 (And.intro hi1 (And.intro hi2 (And.intro hi3 hi4))))))))
  have hI0 := Blk.new w 88 (pC b1 b2 b3 b4 b5 i1 i2 i3 i4 0 S A H n c m c2 n3 c3)
  have hI1 := hI0.alloc (.cells #[.bool false, .slice none 0 0, .slice none 0 0, .int .i64 0, .int .i64 0, .bool false, .int .i64 0, .int .i64 0, .bool false, .slice none 0 0, .bool false, .bool false, .int .i64 0] 88)
  have hZ1 := Blk.new (w.alloc (.cells (pC b1 b2 b3 b4 b5 i1 i2 i3 i4 0 S A H n c m c2 n3 c3) 88)) 88 #[.bool false, .slice none 0 0, .slice none 0 0, .int .i64 0, .int .i64 0, .bool false, .int .i64 0, .int .i64 0, .bool false, .slice none 0 0, .bool false, .bool false, .int .i64 0]
  have hbI : Below w.heap.size w ((w.alloc (.cells (pC b1 b2 b3 b4 b5 i1 i2 i3 i4 0 S A H n c m c2 n3 c3) 88)).alloc (.cells #[.bool false, .slice none 0 0, .slice none 0 0, .int .i64 0, .int .i64 0, .bool false, .int .i64 0, .int .i64 0, .bool false, .slice none 0 0, .bool false, .bool false, .int .i64 0] 88)) := ((Below.refl _ w).alloc (Nat.le_refl _) _).alloc (by simp) _
  simp only [World.size_alloc] at hZ1
  unfold pC at HBAD hI1 hZ1 hbI ⊢
  have HI := Lib.hid (And.intro hI1 (And.intro hZ1 hbI))
  clear hb1 hb2 hb3 hb4 hb5 hi1 hi2 hi3 hi4 hI0 hI1 hZ1 hbI
  have hrd := ((hW.below HI.out.2.2).more HI.out.2.2.size).tail_ 1 2 rfl (by decide)
  have HN := Lib.hid (nums_in (some ⟨wb, wo + 1, none⟩) 2 (cc - 1) [a, b] _ hrd (by decide) (fun y hy => Nat.le_trans (hlen y (by simp at hy ⊢; rcases hy with rfl | rfl <;> simp)) (by decide)))
  have HS := Lib.hid hS
  have HO := Lib.hid hO
  have HBG := Lib.hid hbg
  clear hS hW hlen hrd hO hbg
  go_enter Tryz.func68, Tryz.ntmps68
  go_wp2_with fail
  generalize (w.alloc (.cells #[.bool b1, .slice S n c, .slice A m c2, .int .i64 i1, .int .i64 i2, .bool b2, .int .i64 i4, .int .i64 i3, .bool b3, .slice H n3 c3, .bool b4, .bool b5, .int .i64 0] 88)).alloc (.cells #[.bool false, .slice none 0 0, .slice none 0 0, .int .i64 0, .int .i64 0, .bool false, .int .i64 0, .int .i64 0, .bool false, .slice none 0 0, .bool false, .bool false, .int .i64 0] 88) = W0 at *
  refine HN.out.mono ?_
  rintro e w1 ⟨Q, nq, cq, rfl, hnq, hown, hb1⟩
  have hX : Blk w1 w.heap.size 88 #[.bool b1, .slice S n c, .slice A m c2, .int .i64 i1, .int .i64 i2, .bool b2, .int .i64 i4, .int .i64 i3, .bool b3, .slice H n3 c3, .bool b4, .bool b5, .int .i64 0] ∧ Blk w1 (w.heap.size + 1) 88 #[.bool false, .slice none 0 0, .slice none 0 0, .int .i64 0, .int .i64 0, .bool false, .int .i64 0, .int .i64 0, .bool false, .slice none 0 0, .bool false, .bool false, .int .i64 0] ∧ Below w.heap.size w w1 := ⟨HI.out.1.below hb1 HI.out.1.lt, HI.out.2.1.below hb1 HI.out.2.1.lt, HI.out.2.2.trans (hb1.mono HI.out.2.2.size)⟩
  obtain rfl : nq = 2 := hnq
  obtain ⟨qb, qo, u0, hQ, hqb, hu0, qc0⟩ := (Reads.of_own hown).at_ (k := 0) (by omega)
  obtain ⟨qb', qo', u1, hQ', hqb', hu1, qc1⟩ := (Reads.of_own hown).at_ (k := 1) (by omega)
  rw [hQ] at hQ'
  injection hQ' with hQ'
  injection hQ' with e1 e2 e3
  subst e1 e2
  subst hQ
  simp only [List.map_cons, List.map_nil, List.getElem?_cons_zero, List.getElem?_cons_succ, Option.some.injEq] at hu0 hu1
  subst hu0 hu1
  unfold I at qc0 qc1
  rw [Nat.add_zero] at qc0
  have HX := Lib.hid hX
  obtain ⟨c0, c1, c2', c3', c4, c5, c6, c7, c8, c9, c10, c11, c12⟩ := cells13 hX.1
  have lp := hX.1.lt
  have hqne : ¬ qb = w.heap.size := fun e => own_blk_ne hown hX.1 (by decide) (by rw [e]; rfl)
  have hqge : W0.heap.size ≤ qb := own_from hown qb qo rfl
  have HOW := Lib.hid hown
  obtain ⟨er, her⟩ : ∃ er, er = errL [a, b] := ⟨_, rfl⟩
  rw [← her]
  have hcase : er = 10 ∨ er = 11 ∨ er = 0 := by
    rw [her]
    by_cases h1 : errL [a, b] = 10
    · exact .inl h1
    · by_cases h0 : errL [a, b] = 0
      · exact .inr (.inr h0)
      · exact .inr (.inl (err_11 h1 h0))
  have HER := Lib.hid her
  have hqE : q = if badW a ∨ badW b then (10, r) else if ¬ r.arcs = [] then (12, r) else if ¬ inW a 1 r.sup.length then (11, r) else if ¬ inW b (-2147483648) 2147483648 then (11, r)
    else if r.had[placeW a]? = some true then (13, r) else (0, { r with had := r.had.set (placeW a) true, sup := r.sup.set (placeW a) (numL b).1 }) := by
    have h : q = nodeE r [x, a, b] := HE
    unfold nodeE at h; exact h
  have HQE : QIs q _ := hqE
  have HB3 := Lib.hid (show b3 = decide (¬ r.arcs = []) from HPT.out.2.2.1)
  have HI4 := Lib.hid (show i4 = r.sup.length from HPT.out.2.2.2.2.2.2.2.2)
  clear hX hown her hqE hb1 HN
  rcases hcase with hc | hc | hc
  · have hbad : badW a ∨ badW b := by
      obtain ⟨y, hy, hy0⟩ := errL_10.1 (HER.out.symm.trans hc)
      simp only [List.mem_cons, List.not_mem_nil, or_false] at hy
      rcases hy with rfl | rfl
      · exact .inl hy0
      · exact .inr hy0
    have HQ := Lib.hid (show QIs q (10, r) from by have h : q = _ := HQE; rw [if_pos hbad] at h; exact h)
    subst hc
    clear hbad
    go_wp2_with fail
    refine (fail_any b1 b2 b3 b4 b5 i1 i2 i3 i4 10 S A H n c m c2 n3 c3 _).mono ?_
    rintro e wf ⟨rfl, hbf⟩
    have hzf := HX.out.2.1.below hbf HX.out.2.1.lt
    have hbw := HX.out.2.2.trans (hbf.mono HX.out.2.2.size)
    obtain ⟨z0, z1, z2, z3, z4, z5, z6, z7, z8, z9, z10, z11, z12⟩ := cells13 hzf
    obtain ⟨f0, f1, f2, f3, f4, f5, f6, f7, f8, f9, f10, f11, f12⟩ := frozen13 hzf
    have lz := hzf.lt
    have HZ := Lib.hid (And.intro hzf hbw)
    clear hzf hbw hbf
    unfold pC
    go_wp2_with fail
    refine ret13 (fn := Tryz.f68) rfl rfl rfl (HZ.out.1.put13 (.bool b1) (.slice S n c) (.slice A m c2) (.int .i64 i1) (.int .i64 i2) (.bool b2) (.int .i64 i4) (.int .i64 i3) (.bool b3) (.slice H n3 c3) (.bool b4) (.bool b5) (.int .i64 10)) (HBAD.out 10 _ HQ.out ((Kept.of_below HZ.out.2 (Bs B w)).put13 (.bool b1) (.slice S n c) (.slice A m c2) (.int .i64 i1) (.int .i64 i2) (.bool b2) (.int .i64 i4) (.int .i64 i3) (.bool b3) (.slice H n3 c3) (.bool b4) (.bool b5) (.int .i64 10) (fun h => absurd h (by omega))) ?_)
    exact (HS.out.on HZ.out.2).far13_ HZ.out.1 (.bool b1) (.slice S n c) (.slice A m c2) (.int .i64 i1) (.int .i64 i2) (.bool b2) (.int .i64 i4) (.int .i64 i3) (.bool b3) (.slice H n3 c3) (.bool b4) (.bool b5) (.int .i64 10)
  · have hnb : ¬ (badW a ∨ badW b) := by
      intro h
      have : errL [a, b] = 10 := errL_10.2 (by rcases h with h | h; exact ⟨a, by simp, h⟩; exact ⟨b, by simp, h⟩)
      rw [← HER.out, hc] at this
      cases this
    have hno : ¬ (inW a 1 r.sup.length ∧ inW b (-2147483648) 2147483648) := by
      rintro ⟨⟨h1, -⟩, ⟨h2, -⟩⟩
      have : errL [a, b] = 0 := errL_0.2 (by simp [h1, h2])
      rw [← HER.out, hc] at this
      cases this
    subst hc
    cases b3
    · have HQ := Lib.hid (show QIs q (11, r) from by
        have h : q = _ := HQE
        rw [if_neg hnb, if_neg (by have := HB3.out; simpa using this)] at h
        by_cases hA : inW a 1 r.sup.length
        · rw [if_neg (by simpa using hA), if_pos (fun hB => hno ⟨hA, hB⟩)] at h; exact h
        · rw [if_pos hA] at h; exact h)
      clear hnb hno
      go_wp2_with fail
      go_quiet (fail)
      have HXq := Lib.hid (And.intro (HX.out.1.drewN nq) (And.intro (HX.out.2.1.drewN nq) (below_dr HX.out.2.2 nq)))
      go_wp2_with fail
      refine (fail_any b1 b2 false b4 b5 i1 i2 i3 i4 11 S A H n c m c2 n3 c3 _).mono ?_
      rintro e wf ⟨rfl, hbf⟩
      have hzf := HXq.out.2.1.below hbf HXq.out.2.1.lt
      have hbw := HXq.out.2.2.trans (hbf.mono HXq.out.2.2.size)
      obtain ⟨z0, z1, z2, z3, z4, z5, z6, z7, z8, z9, z10, z11, z12⟩ := cells13 hzf
      obtain ⟨f0, f1, f2, f3, f4, f5, f6, f7, f8, f9, f10, f11, f12⟩ := frozen13 hzf
      have lz := hzf.lt
      have HZ := Lib.hid (And.intro hzf hbw)
      clear hzf hbw hbf
      unfold pC
      go_wp2_with fail
      refine ret13 (fn := Tryz.f68) rfl rfl rfl (HZ.out.1.put13 (.bool b1) (.slice S n c) (.slice A m c2) (.int .i64 i1) (.int .i64 i2) (.bool b2) (.int .i64 i4) (.int .i64 i3) (.bool false) (.slice H n3 c3) (.bool b4) (.bool b5) (.int .i64 11)) (HBAD.out 11 _ HQ.out ((Kept.of_below HZ.out.2 (Bs B w)).put13 (.bool b1) (.slice S n c) (.slice A m c2) (.int .i64 i1) (.int .i64 i2) (.bool b2) (.int .i64 i4) (.int .i64 i3) (.bool false) (.slice H n3 c3) (.bool b4) (.bool b5) (.int .i64 11) (fun h => absurd h (by omega))) ?_)
      exact (HS.out.on HZ.out.2).far13_ HZ.out.1 (.bool b1) (.slice S n c) (.slice A m c2) (.int .i64 i1) (.int .i64 i2) (.bool b2) (.int .i64 i4) (.int .i64 i3) (.bool false) (.slice H n3 c3) (.bool b4) (.bool b5) (.int .i64 11)
    · have HQ := Lib.hid (show QIs q (12, r) from by
        have h : q = _ := HQE
        rw [if_neg hnb, if_pos (by have := HB3.out; simpa using this)] at h; exact h)
      clear hnb hno
      go_wp2_with fail
      refine (fail_any b1 b2 true b4 b5 i1 i2 i3 i4 12 S A H n c m c2 n3 c3 _).mono ?_
      rintro e wf ⟨rfl, hbf⟩
      have hzf := HX.out.2.1.below hbf HX.out.2.1.lt
      have hbw := HX.out.2.2.trans (hbf.mono HX.out.2.2.size)
      obtain ⟨z0, z1, z2, z3, z4, z5, z6, z7, z8, z9, z10, z11, z12⟩ := cells13 hzf
      obtain ⟨f0, f1, f2, f3, f4, f5, f6, f7, f8, f9, f10, f11, f12⟩ := frozen13 hzf
      have lz := hzf.lt
      have HZ := Lib.hid (And.intro hzf hbw)
      clear hzf hbw hbf
      unfold pC
      go_wp2_with fail
      refine ret13 (fn := Tryz.f68) rfl rfl rfl (HZ.out.1.put13 (.bool b1) (.slice S n c) (.slice A m c2) (.int .i64 i1) (.int .i64 i2) (.bool b2) (.int .i64 i4) (.int .i64 i3) (.bool true) (.slice H n3 c3) (.bool b4) (.bool b5) (.int .i64 12)) (HBAD.out 12 _ HQ.out ((Kept.of_below HZ.out.2 (Bs B w)).put13 (.bool b1) (.slice S n c) (.slice A m c2) (.int .i64 i1) (.int .i64 i2) (.bool b2) (.int .i64 i4) (.int .i64 i3) (.bool true) (.slice H n3 c3) (.bool b4) (.bool b5) (.int .i64 12) (fun h => absurd h (by omega))) ?_)
      exact (HS.out.on HZ.out.2).far13_ HZ.out.1 (.bool b1) (.slice S n c) (.slice A m c2) (.int .i64 i1) (.int .i64 i2) (.bool b2) (.int .i64 i4) (.int .i64 i3) (.bool true) (.slice H n3 c3) (.bool b4) (.bool b5) (.int .i64 12)
  · have hall := errL_0.1 (HER.out.symm.trans hc)
    have ha0 : (numL a).2 = 0 := hall a (by simp)
    have hb0 : (numL b).2 = 0 := hall b (by simp)
    have hnb : ¬ (badW a ∨ badW b) := by unfold badW; omega
    subst hc
    cases b3
    · have hna : ¬ ¬ r.arcs = [] := by have := HB3.out; simpa using this
      have HIA := Lib.hid (show inW a 1 r.sup.length ↔ (1 ≤ (numL a).1 ∧ (numL a).1 ≤ i4) from by rw [HI4.out]; exact inW_of ha0)
      have HIB := Lib.hid (inW_of (lo := -2147483648) (hi := 2147483648) hb0)
      by_cases hA : 1 ≤ (numL a).1 ∧ (numL a).1 ≤ i4
      · have dA : decide (1 ≤ (numL a).1 ∧ (numL a).1 ≤ i4) = true := by simpa using hA
        by_cases hBb : -2147483648 ≤ (numL b).1 ∧ (numL b).1 ≤ 2147483648
        · have dB : decide (-2147483648 ≤ (numL b).1 ∧ (numL b).1 ≤ 2147483648) = true := by simpa using hBb
          obtain ⟨p1, p2⟩ := place_lt (HIA.out.2 hA)
          obtain ⟨K, hK⟩ : ∃ K, K = placeW a := ⟨_, rfl⟩
          rw [← hK] at p1 p2
          have hsub : IntKind.i64.wrap ((numL a).1 - 1) = (K : Int) := by rw [p2]; exact IntWalk.i64_in _ (by have := HO.out.n64; omega)
          have hq0 : q = if r.had[K]? = some true then (13, r) else (0, { r with had := r.had.set K true, sup := r.sup.set K (numL b).1 }) := by
            have h : q = _ := HQE
            rw [if_neg hnb, if_neg hna, if_neg (by rw [HIA.out]; simpa using hA), if_neg (by rw [HIB.out]; simpa using hBb), ← hK] at h; exact h
          have HQ0 : QIs q _ := hq0
          obtain ⟨sb, hb, hS, hH, hn, hc_, hn3, hc3, hmid⟩ : ∃ sb hb, S = some ⟨sb, 0, none⟩ ∧ H = some ⟨hb, 0, none⟩ ∧ n = r.sup.length ∧ c = r.sup.length ∧ n3 = r.sup.length ∧ c3 = r.sup.length ∧ RefMid B w r sb hb m c2 A := by
            rcases HS.out with ⟨h, _⟩ | ⟨_, h⟩
            · have := HBG.out; rw [h] at this; cases this
            · exact h
          have hm1 := hmid.on HX.out.2.2
          have HM0 := Lib.hid (And.intro hmid.h.lt hmid.s.lt)
          have HNB := Lib.hid (And.intro (bs_of hmid.hB hmid.h (.inr (.inl rfl))) (bs_of hmid.sB hmid.s (.inl rfl)))
          obtain ⟨hv, hhv⟩ : ∃ hv, r.had[K]? = some hv := ⟨_, List.getElem?_eq_getElem (by rw [HO.out.lens]; exact p1)⟩
          obtain ⟨sv, hsv⟩ : ∃ sv, r.sup[K]? = some sv := ⟨_, List.getElem?_eq_getElem p1⟩
          have hcell := (hm1.h.cell K).trans (bools_at hhv)
          have scell := (hm1.s.cell K).trans (ints_at hsv)
          have hKn : K < n3 := by omega
          have hKn' : K < n := by omega
          subst hS hH
          have HM1 := Lib.hid hm1
          have HSV := Lib.hid hsv
          have HV := Lib.hid (And.intro hhv (And.intro hn (And.intro hc_ (And.intro hn3 hc3))))
          have QA := Lib.hid (in_q dA w1)
          have QB := Lib.hid (in_q dB w1)
          have lh := hm1.h.lt
          have ls := hm1.s.lt
          clear hall ha0 hb0 hnb hna hA hBb dA dB p2 hK hq0 hmid hm1 hhv hsv hn hc_ hn3 hc3
          go_wp2_with fail
          go_quiet ((go_at_call 46; first | (with_reducible exact QA.out _) | (with_reducible exact QB.out _)))
          revert nq
          intro na
          go_wp2_with fail
          go_quiet (fail)
          revert nq
          intro nb
          have HXq := Lib.hid (And.intro (HX.out.1.drewN (na + nb)) (And.intro (HX.out.2.1.drewN (na + nb)) (below_dr HX.out.2.2 (na + nb))))
          have HXr := Lib.hid (And.intro ((HX.out.1.drewN na).drewN nb) (And.intro ((HX.out.2.1.drewN na).drewN nb) (below_dr (below_dr HX.out.2.2 na) nb)))
          cases hv
          · have HQ := Lib.hid (show QIs q (0, { r with had := r.had.set K true, sup := r.sup.set K (numL b).1 }) from by
              have h : q = _ := HQ0
              rw [if_neg (by rw [HV.out.1]; simp)] at h; exact h)
            have hk1 : ¬ w.heap.size = hb := by have := HM0.out.1; omega
            have hk2 : ¬ hb = w.heap.size := fun e => hk1 e.symm
            have hk3 : ¬ w.heap.size = sb := by have := HM0.out.2; omega
            have hk4 : ¬ sb = w.heap.size := fun e => hk3 e.symm
            have hk5 : ¬ qb = hb := by have := HM0.out.1; have := hqge; have := HI.out.2.2.size; omega
            have hk6 : ¬ hb = qb := fun e => hk5 e.symm
            have hk7 : ¬ qb = sb := by have := HM0.out.2; have := hqge; have := HI.out.2.2.size; omega
            have hk8 : ¬ sb = qb := fun e => hk7 e.symm
            have hk9 : ¬ sb = hb := Blk.ne_ HM1.out.s HM1.out.h (by decide)
            have hk10 : ¬ hb = sb := fun e => hk9 e.symm
            have hk11 : ¬ w.heap.size + 1 = hb := by have := HM0.out.1; omega
            have hk12 : ¬ hb = w.heap.size + 1 := fun e => hk11 e.symm
            have hk13 : ¬ w.heap.size + 1 = sb := by have := HM0.out.2; omega
            have hk14 : ¬ sb = w.heap.size + 1 := fun e => hk13 e.symm
            have HM2 := Lib.hid (show RefMid B ((w1.drewN na).drewN nb) r sb hb m c2 A from ⟨HM1.out.s, HM1.out.h, HM1.out.a, HM1.out.sB, HM1.out.hB⟩)
            have qd0 : ((w1.drewN na).drewN nb).cell? ⟨qb, qo, none⟩ = some (.int .i64 (numL a).1) := qc0
            have qd1 : ((w1.drewN na).drewN nb).cell? ⟨qb, qo + 1, none⟩ = some (.int .i64 (numL b).1) := qc1
            have lp' : w.heap.size < ((w1.drewN na).drewN nb).heap.size := lp
            clear qc0 qc1 lp c0 c1 c2' c3' c4 c5 c6 c7 c8 c9 c10 c11 c12 hcell scell lh ls QA QB HX HM1
            generalize (w1.drewN na).drewN nb = W2 at *
            obtain ⟨c0, c1, c2', c3', c4, c5, c6, c7, c8, c9, c10, c11, c12⟩ := cells13 HXr.out.1
            have hfr := HM2.out.h.frozen K
            have sfr := HM2.out.s.frozen K
            have lh := HM2.out.h.lt
            have ls := HM2.out.s.lt
            have hcell := (HM2.out.h.cell K).trans (bools_at HV.out.1)
            go_wp2_with fail
            go_still_tail 7, (by kernel_rfl)
            change wpList _ _ _ _ _ W2.drew
            go_wp2_with fail
            have HM3 := Lib.hid (show RefMid B (W2.setCell ⟨hb, K, none⟩ (.bool true)).drew { r with had := r.had.set K true } sb hb m c2 A from
              ⟨((HM2.out.s).far (p := ⟨hb, K, none⟩) hk9 _).drew, by have := ((HM2.out.h).set_ K (.bool true)).drew; rw [bools_set] at this; exact this, own_off HM2.out.a (p := ⟨hb, K, none⟩) HM2.out.h (by decide) _, HM2.out.sB, HM2.out.hB⟩)
            have HX3 := Lib.hid (show Blk (W2.setCell ⟨hb, K, none⟩ (.bool true)).drew w.heap.size 88 _ ∧ Blk (W2.setCell ⟨hb, K, none⟩ (.bool true)).drew (w.heap.size + 1) 88 _ ∧ Kept (Bs B w) w (W2.setCell ⟨hb, K, none⟩ (.bool true)).drew from And.intro (HXr.out.1.far (p := ⟨hb, K, none⟩) hk1 (.bool true)).drew (And.intro (HXr.out.2.1.far (p := ⟨hb, K, none⟩) hk11 (.bool true)).drew ((Kept.of_below HXr.out.2.2 (Bs B w)).setCell (p := ⟨hb, K, none⟩) (fun _ => HNB.out.1) (.bool true)).drew))
            have qe0 : (W2.setCell ⟨hb, K, none⟩ (.bool true)).drew.cell? ⟨qb, qo, none⟩ = some (.int .i64 (numL a).1) := by simpa [go_sem, hk5] using qd0
            have qe1 : (W2.setCell ⟨hb, K, none⟩ (.bool true)).drew.cell? ⟨qb, qo + 1, none⟩ = some (.int .i64 (numL b).1) := by simpa [go_sem, hk5] using qd1
            clear qd0 qd1 lp' c0 c1 c2' c3' c4 c5 c6 c7 c8 c9 c10 c11 c12 hfr sfr lh ls hcell HM2 HXr HXq
            generalize (W2.setCell ⟨hb, K, none⟩ (.bool true)).drew = W3 at *
            obtain ⟨c0, c1, c2', c3', c4, c5, c6, c7, c8, c9, c10, c11, c12⟩ := cells13 HX3.out.1
            have sfr := HM3.out.s.frozen K
            have scell := (HM3.out.s.cell K).trans (ints_at HSV.out)
            have ls := HM3.out.s.lt
            obtain ⟨z0, z1, z2, z3, z4, z5, z6, z7, z8, z9, z10, z11, z12⟩ := cells13 HX3.out.2.1
            obtain ⟨f0, f1, f2, f3, f4, f5, f6, f7, f8, f9, f10, f11, f12⟩ := frozen13 HX3.out.2.1
            have lz := HX3.out.2.1.lt
            go_still_tail 12, (by kernel_rfl)
            change wpList _ _ _ _ _ W3.drew
            go_wp2_with fail
            have HM4 := (show RefMid B (W3.setCell ⟨sb, K, none⟩ (.int .i64 (numL b).1)) { r with had := r.had.set K true, sup := r.sup.set K (numL b).1 } sb hb m c2 A from
              ⟨by have := (HM3.out.s.set_ K (.int .i64 (numL b).1)); rw [ints_set] at this; exact this, HM3.out.h.far (p := ⟨sb, K, none⟩) hk10 _, own_off HM3.out.a (p := ⟨sb, K, none⟩) HM3.out.s (by decide) _, HM3.out.sB, HM3.out.hB⟩)
            have HZ4 := HX3.out.2.1.far (p := ⟨sb, K, none⟩) hk13 (.int .i64 (numL b).1)
            have HK4 := HX3.out.2.2.setCell (p := ⟨sb, K, none⟩) (fun _ => HNB.out.2) (.int .i64 (numL b).1)
            change bodyPost _ _ _ _ _ (put13 (W3.setCell ⟨sb, K, none⟩ (.int .i64 (numL b).1)) (w.heap.size + 1) (.bool b1) (.slice (some ⟨sb, 0, none⟩) n c) (.slice A m c2) (.int .i64 i1) (.int .i64 i2) (.bool b2) (.int .i64 i4) (.int .i64 i3) (.bool false) (.slice (some ⟨hb, 0, none⟩) n3 c3) (.bool b4) (.bool b5) (.int .i64 0)).drew
            generalize (W3.setCell ⟨sb, K, none⟩ (.int .i64 (numL b).1)) = W4 at HM4 HZ4 HK4 ⊢
            refine ret13 (fn := Tryz.f68) rfl rfl rfl (HZ4.put13 (.bool b1) (.slice (some ⟨sb, 0, none⟩) n c) (.slice A m c2) (.int .i64 i1) (.int .i64 i2) (.bool b2) (.int .i64 i4) (.int .i64 i3) (.bool false) (.slice (some ⟨hb, 0, none⟩) n3 c3) (.bool b4) (.bool b5) (.int .i64 0)).drew ?_
            have hqq : q = _ := HQ.out
            rw [hqq]
            have hv2 := HV.out.2
            have hRS : RefS B W4 { r with had := r.had.set K true, sup := r.sup.set K (numL b).1 } (some ⟨sb, 0, none⟩) A (some ⟨hb, 0, none⟩) n c m c2 n3 c3 := .inr ⟨HBG.out, sb, hb, rfl, rfl, hv2.1.trans List.length_set.symm, hv2.2.1.trans List.length_set.symm, hv2.2.2.1.trans List.length_set.symm, hv2.2.2.2.trans List.length_set.symm, HM4⟩
            refine ⟨(HK4.put13 (.bool b1) (.slice (some ⟨sb, 0, none⟩) n c) (.slice A m c2) (.int .i64 i1) (.int .i64 i2) (.bool b2) (.int .i64 i4) (.int .i64 i3) (.bool false) (.slice (some ⟨hb, 0, none⟩) n3 c3) (.bool b4) (.bool b5) (.int .i64 0) (fun h => absurd h (by omega))).drew, some ⟨sb, 0, none⟩, A, some ⟨hb, 0, none⟩, n, c, m, c2, n3, c3, ?_, RefS.drew_ (hRS.far13_ HZ4 (.bool b1) (.slice (some ⟨sb, 0, none⟩) n c) (.slice A m c2) (.int .i64 i1) (.int .i64 i2) (.bool b2) (.int .i64 i4) (.int .i64 i3) (.bool false) (.slice (some ⟨hb, 0, none⟩) n3 c3) (.bool b4) (.bool b5) (.int .i64 0))⟩
            obtain ⟨p1, p2, p3, p4, p5, p6, p7, p8, p9⟩ := HPT.out
            rw [p1, p2, p3, p4, p5, p6, p7, p8, p9]
            simp [refV, pC]
          · have HQ := Lib.hid (show QIs q (13, r) from by
              have h : q = _ := HQ0
              rw [if_pos HV.out.1] at h; exact h)
            go_wp2_with fail
            refine (fail_any b1 b2 false b4 b5 i1 i2 i3 i4 13 (some ⟨sb, 0, none⟩) A (some ⟨hb, 0, none⟩) n c m c2 n3 c3 _).mono ?_
            rintro e wf ⟨rfl, hbf⟩
            have hzf := HXq.out.2.1.below hbf HXq.out.2.1.lt
            have hbw := HXq.out.2.2.trans (hbf.mono HXq.out.2.2.size)
            obtain ⟨z0, z1, z2, z3, z4, z5, z6, z7, z8, z9, z10, z11, z12⟩ := cells13 hzf
            obtain ⟨f0, f1, f2, f3, f4, f5, f6, f7, f8, f9, f10, f11, f12⟩ := frozen13 hzf
            have lz := hzf.lt
            have HZ := Lib.hid (And.intro hzf hbw)
            clear hzf hbw hbf
            unfold pC
            go_wp2_with fail
            refine ret13 (fn := Tryz.f68) rfl rfl rfl (HZ.out.1.put13 (.bool b1) (.slice (some ⟨sb, 0, none⟩) n c) (.slice A m c2) (.int .i64 i1) (.int .i64 i2) (.bool b2) (.int .i64 i4) (.int .i64 i3) (.bool false) (.slice (some ⟨hb, 0, none⟩) n3 c3) (.bool b4) (.bool b5) (.int .i64 13)) (HBAD.out 13 _ HQ.out ((Kept.of_below HZ.out.2 (Bs B w)).put13 (.bool b1) (.slice (some ⟨sb, 0, none⟩) n c) (.slice A m c2) (.int .i64 i1) (.int .i64 i2) (.bool b2) (.int .i64 i4) (.int .i64 i3) (.bool false) (.slice (some ⟨hb, 0, none⟩) n3 c3) (.bool b4) (.bool b5) (.int .i64 13) (fun h => absurd h (by omega))) ?_)
            exact (HS.out.on HZ.out.2).far13_ HZ.out.1 (.bool b1) (.slice (some ⟨sb, 0, none⟩) n c) (.slice A m c2) (.int .i64 i1) (.int .i64 i2) (.bool b2) (.int .i64 i4) (.int .i64 i3) (.bool false) (.slice (some ⟨hb, 0, none⟩) n3 c3) (.bool b4) (.bool b5) (.int .i64 13)
        · have dB : decide (-2147483648 ≤ (numL b).1 ∧ (numL b).1 ≤ 2147483648) = false := by simpa using hBb
          have HQ := Lib.hid (show QIs q (11, r) from by
            have h : q = _ := HQE
            rw [if_neg hnb, if_neg hna, if_neg (by rw [HIA.out]; simpa using hA), if_pos (by rw [HIB.out]; exact hBb)] at h; exact h)
          have QA := Lib.hid (in_q dA w1)
          have QB := Lib.hid (in_q dB w1)
          clear hall ha0 hb0 hnb hna hA hBb dA dB
          go_wp2_with fail
          go_quiet ((go_at_call 46; first | (with_reducible exact QA.out _) | (with_reducible exact QB.out _)))
          have HXq := Lib.hid (And.intro (HX.out.1.drewN nq) (And.intro (HX.out.2.1.drewN nq) (below_dr HX.out.2.2 nq)))
          go_wp2_with fail
          refine (fail_any b1 b2 false b4 b5 i1 i2 i3 i4 11 S A H n c m c2 n3 c3 _).mono ?_
          rintro e wf ⟨rfl, hbf⟩
          have hzf := HXq.out.2.1.below hbf HXq.out.2.1.lt
          have hbw := HXq.out.2.2.trans (hbf.mono HXq.out.2.2.size)
          obtain ⟨z0, z1, z2, z3, z4, z5, z6, z7, z8, z9, z10, z11, z12⟩ := cells13 hzf
          obtain ⟨f0, f1, f2, f3, f4, f5, f6, f7, f8, f9, f10, f11, f12⟩ := frozen13 hzf
          have lz := hzf.lt
          have HZ := Lib.hid (And.intro hzf hbw)
          clear hzf hbw hbf
          unfold pC
          go_wp2_with fail
          refine ret13 (fn := Tryz.f68) rfl rfl rfl (HZ.out.1.put13 (.bool b1) (.slice S n c) (.slice A m c2) (.int .i64 i1) (.int .i64 i2) (.bool b2) (.int .i64 i4) (.int .i64 i3) (.bool false) (.slice H n3 c3) (.bool b4) (.bool b5) (.int .i64 11)) (HBAD.out 11 _ HQ.out ((Kept.of_below HZ.out.2 (Bs B w)).put13 (.bool b1) (.slice S n c) (.slice A m c2) (.int .i64 i1) (.int .i64 i2) (.bool b2) (.int .i64 i4) (.int .i64 i3) (.bool false) (.slice H n3 c3) (.bool b4) (.bool b5) (.int .i64 11) (fun h => absurd h (by omega))) ?_)
          exact (HS.out.on HZ.out.2).far13_ HZ.out.1 (.bool b1) (.slice S n c) (.slice A m c2) (.int .i64 i1) (.int .i64 i2) (.bool b2) (.int .i64 i4) (.int .i64 i3) (.bool false) (.slice H n3 c3) (.bool b4) (.bool b5) (.int .i64 11)
      · have dA : decide (1 ≤ (numL a).1 ∧ (numL a).1 ≤ i4) = false := by simpa using hA
        have HQ := Lib.hid (show QIs q (11, r) from by
          have h : q = _ := HQE
          rw [if_neg hnb, if_neg hna, if_pos (by rw [HIA.out]; exact hA)] at h; exact h)
        have QA := Lib.hid (in_q dA w1)
        clear hall ha0 hb0 hnb hna hA dA
        go_wp2_with fail
        go_quiet ((go_at_call 46; exact QA.out _))
        have HXq := Lib.hid (And.intro (HX.out.1.drewN nq) (And.intro (HX.out.2.1.drewN nq) (below_dr HX.out.2.2 nq)))
        go_wp2_with fail
        refine (fail_any b1 b2 false b4 b5 i1 i2 i3 i4 11 S A H n c m c2 n3 c3 _).mono ?_
        rintro e wf ⟨rfl, hbf⟩
        have hzf := HXq.out.2.1.below hbf HXq.out.2.1.lt
        have hbw := HXq.out.2.2.trans (hbf.mono HXq.out.2.2.size)
        obtain ⟨z0, z1, z2, z3, z4, z5, z6, z7, z8, z9, z10, z11, z12⟩ := cells13 hzf
        obtain ⟨f0, f1, f2, f3, f4, f5, f6, f7, f8, f9, f10, f11, f12⟩ := frozen13 hzf
        have lz := hzf.lt
        have HZ := Lib.hid (And.intro hzf hbw)
        clear hzf hbw hbf
        unfold pC
        go_wp2_with fail
        refine ret13 (fn := Tryz.f68) rfl rfl rfl (HZ.out.1.put13 (.bool b1) (.slice S n c) (.slice A m c2) (.int .i64 i1) (.int .i64 i2) (.bool b2) (.int .i64 i4) (.int .i64 i3) (.bool false) (.slice H n3 c3) (.bool b4) (.bool b5) (.int .i64 11)) (HBAD.out 11 _ HQ.out ((Kept.of_below HZ.out.2 (Bs B w)).put13 (.bool b1) (.slice S n c) (.slice A m c2) (.int .i64 i1) (.int .i64 i2) (.bool b2) (.int .i64 i4) (.int .i64 i3) (.bool false) (.slice H n3 c3) (.bool b4) (.bool b5) (.int .i64 11) (fun h => absurd h (by omega))) ?_)
        exact (HS.out.on HZ.out.2).far13_ HZ.out.1 (.bool b1) (.slice S n c) (.slice A m c2) (.int .i64 i1) (.int .i64 i2) (.bool b2) (.int .i64 i4) (.int .i64 i3) (.bool false) (.slice H n3 c3) (.bool b4) (.bool b5) (.int .i64 11)
    · have HQ := Lib.hid (show QIs q (12, r) from by
        have h : q = _ := HQE
        rw [if_neg hnb, if_pos (by have := HB3.out; simpa using this)] at h; exact h)
      clear hall ha0 hb0 hnb
      go_wp2_with fail
      refine (fail_any b1 b2 true b4 b5 i1 i2 i3 i4 12 S A H n c m c2 n3 c3 _).mono ?_
      rintro e wf ⟨rfl, hbf⟩
      have hzf := HX.out.2.1.below hbf HX.out.2.1.lt
      have hbw := HX.out.2.2.trans (hbf.mono HX.out.2.2.size)
      obtain ⟨z0, z1, z2, z3, z4, z5, z6, z7, z8, z9, z10, z11, z12⟩ := cells13 hzf
      obtain ⟨f0, f1, f2, f3, f4, f5, f6, f7, f8, f9, f10, f11, f12⟩ := frozen13 hzf
      have lz := hzf.lt
      have HZ := Lib.hid (And.intro hzf hbw)
      clear hzf hbw hbf
      unfold pC
      go_wp2_with fail
      refine ret13 (fn := Tryz.f68) rfl rfl rfl (HZ.out.1.put13 (.bool b1) (.slice S n c) (.slice A m c2) (.int .i64 i1) (.int .i64 i2) (.bool b2) (.int .i64 i4) (.int .i64 i3) (.bool true) (.slice H n3 c3) (.bool b4) (.bool b5) (.int .i64 12)) (HBAD.out 12 _ HQ.out ((Kept.of_below HZ.out.2 (Bs B w)).put13 (.bool b1) (.slice S n c) (.slice A m c2) (.int .i64 i1) (.int .i64 i2) (.bool b2) (.int .i64 i4) (.int .i64 i3) (.bool true) (.slice H n3 c3) (.bool b4) (.bool b5) (.int .i64 12) (fun h => absurd h (by omega))) ?_)
      exact (HS.out.on HZ.out.2).far13_ HZ.out.1 (.bool b1) (.slice S n c) (.slice A m c2) (.int .i64 i1) (.int .i64 i2) (.bool b2) (.int .i64 i4) (.int .i64 i3) (.bool true) (.slice H n3 c3) (.bool b4) (.bool b5) (.int .i64 12)
theorem rnode_any (B : Nat) (r : RdV) (S A H : Option Addr) (n c m c2 n3 c3 wb wo cc nn : Nat) (ws : List (List UInt8)) (w : World) (hS : RefS B w r S A H n c m c2 n3 c3) (hO : RdOk r) (hbg : r.begun = true) (hW : Reads w w.heap.size 1 (some ⟨wb, wo, none⟩) nn (ws.map strV)) (hcc : nn ≤ cc) (hn : nn = ws.length) (hlen : ∀ y ∈ ws, y.length ≤ 60000) (hB : B ≤ w.heap.size) :
    Calls Tryz.prog 68 #[refV r 0 S A H n c m c2 n3 c3, .slice (some ⟨wb, wo, none⟩) nn cc] w (RTells B w (nodeE r ws)) := by
  by_cases hl : nn = 3
  · subst hl
    match ws, hn with
    | [x, a, b], _ => exact rnode_in B r S A H n c m c2 n3 c3 wb wo cc x a b w hS hO hbg hW hcc hlen hB
  · exact rnode_len B r S A H n c m c2 n3 c3 wb wo cc nn ws w hS hl hn hB
end Go.Proofs.YtoagphighgejnaaGreatDoor
