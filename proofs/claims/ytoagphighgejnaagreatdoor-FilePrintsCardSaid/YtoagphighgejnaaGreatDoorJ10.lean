/- file: node (25), the least problem's. Conditions: none. -/
import Derived.Test.YtoagphighgejnaaGreatDoorJ9
set_option linter.unusedSimpArgs false
set_option linter.unusedVariables false
namespace Go.Proofs.YtoagphighgejnaaGreatDoor
open Go.RowKit Go.Shelf

set_option maxRecDepth 100000 in
set_option maxHeartbeats 3200000 in
theorem node_min (B rb : Nat) (r : RdV) (wb : Nat) (x a b : List UInt8) (w : World) (hE : Env w) (hbg : r.begun = true) (hm : r.max = false) (hR : RdIn B w rb r) (hO : RdOk r) (hW : Blk w wb 9 ([x, a, b].map strV).toArray) (hlen : ∀ y ∈ [x, a, b], y.length ≤ 60000) (hB : B ≤ w.heap.size) (hrB : rb < B) :
    Calls Tryz.prog 57 #[.pointer (some ⟨rb, 0, none⟩), .slice (some ⟨wb, 0, none⟩) 3 3] w (Step B rb w (nodeQ r [x, a, b])) := by
  have hqq : nodeQ r [x, a, b] = nodeE r [x, a, b] := by unfold nodeQ; rw [if_neg (by simp [hbg]), if_neg (by simp [hm])]
  rw [hqq]
  obtain ⟨sb, hb, mb, m, c, clk, A, ents, hM⟩ : ∃ sb hb mb m c clk A ents, RdMid B w rb r sb hb mb m c clk A ents := by
    rcases hR with ⟨rfl, _⟩ | ⟨_, h⟩
    · cases hbg
    · exact h
  have hrd := Reads.part hW 1 2 rfl
  have HF := Lib.hid (figures_pan (figures_in (some ⟨wb, 1, none⟩) 2 2 [a, b] w hE hrd (by decide) (fun y hy => Nat.le_trans (hlen y (by simp at hy ⊢; rcases hy with rfl | rfl <;> simp)) (by decide))))
  have HM0 := Lib.hid hM
  have HO := Lib.hid hO
  obtain ⟨q, HE⟩ : ∃ q, QIs q (nodeE r [x, a, b]) := ⟨_, rfl⟩
  rw [← HE]
  obtain ⟨c0, -, -, -, -, c5, -⟩ := hM.k.nine
  rw [hm] at c0
  rw [hbg] at c5
  have lr := hM.k.lt
  have lW := hW.lt
  have HBG := Lib.hid hbg
  clear hR hO hlen hrd hE hW hM hqq hm hbg
  go_enter Tryz.func57, Tryz.ntmps57
  go_wp2_with fail
  refine (refuse_or _ _ _).mono ?_
  rintro e _ ⟨rfl, (⟨hq, rfl⟩ | ⟨hq, rfl⟩)⟩
  · exact absurd hq (by simp)
  go_wp2_with fail
  refine (refuse_or _ _ _).mono ?_
  rintro e _ ⟨rfl, (⟨hq, rfl⟩ | ⟨hq, rfl⟩)⟩
  · exact absurd hq (by simp)
  go_wp2_with fail
  refine HF.out.mono ?_
  rintro e w1 (⟨⟨y, hy, hy0⟩, rfl, hb1⟩ | ⟨hok, fb, rfl, hfb, hfs, hb1⟩)
  · have h2 : badW a ∨ badW b := by
      simp only [List.mem_cons, List.not_mem_nil, or_false] at hy
      rcases hy with rfl | rfl
      · exact .inl hy0
      · exact .inr hy0
    have he : q = nodeE r [x, a, b] := HE
    unfold nodeE at he; simp only at he
    rw [if_pos h2] at he
    exact panic_end rfl (step_bad (Kept.of_below hb1 _) (by rw [he]) (by decide))
  have h2 : ¬ (badW a ∨ badW b) := by rw [not_or]; exact ⟨hok a (by simp), hok b (by simp)⟩
  have k1 := Kept.of_below hb1 (Rs B rb)
  have hM1 := HM0.out.on hb1
  obtain ⟨-, c1, c2, -, -, -, -, -, -⟩ := hM1.k.nine
  have lr1 := hM1.k.lt
  rw [figC2] at hfb
  have d0 := hfb.cell 0
  have d1 := hfb.cell 1
  simp only [List.getElem?_toArray, List.getElem?_cons_zero, List.getElem?_cons_succ] at d0 d1
  have lf := hfb.lt
  have HM1 := Lib.hid hM1
  have HK1 := Lib.hid k1
  have HML := Lib.hid (arcs_len hM1.a)
  have HH2 := Lib.hid h2
  have HFB := Lib.hid hfb
  clear hfb hok hM1 HM0 k1 h2 HF c0 c5
  go_wp2_with fail
  refine (refuse_or _ _ _).mono ?_
  rintro e _ ⟨rfl, (⟨hq, rfl⟩ | ⟨hq, rfl⟩)⟩
  · have h3 : ¬ r.arcs = [] := by
      intro h0
      have := HML.out
      rw [h0] at this
      subst this
      simp at hq
    have he : q = nodeE r [x, a, b] := HE
    unfold nodeE at he; simp only at he
    rw [if_neg HH2.out, if_pos h3] at he
    exact panic_end rfl (step_bad HK1.out (by rw [he]) (by decide))
  have h3 : r.arcs = [] := by
    have := HML.out
    cases hra : r.arcs with
    | nil => rfl
    | cons y ys => rw [hra] at this; subst this; simp at hq
  have H3 := Lib.hid h3
  have hn64 := HO.out.n64
  clear h3 hq
  go_wp2_with fail
  refine (place_pan _ _ _ _ _ _ _ c1 lr1 hn64).mono ?_
  rintro e w2 ⟨(⟨hi, rfl⟩ | ⟨hi, rfl⟩), hb2⟩
  · have he : q = nodeE r [x, a, b] := HE
    unfold nodeE at he; simp only at he
    rw [if_neg HH2.out, if_neg (by simpa using H3.out), if_pos (not_in hi)] at he
    exact panic_end rfl (step_bad (HK1.out.trans (Kept.of_below hb2 _)) (by rw [he]) (by decide))
  have hin := in_of hi (not_or.1 HH2.out).1
  obtain ⟨p1, p2⟩ := place_lt hin
  obtain ⟨N, hN⟩ : ∃ N : Nat, N = placeW a := ⟨_, rfl⟩
  rw [← hN] at p1 p2
  rw [p2]
  have HIN := Lib.hid hin
  have hM2 := HM1.out.on hb2
  have k2 := HK1.out.trans (Kept.of_below hb2 (Rs B rb))
  have hfb2 := HFB.out.below hb2 lf
  have lf2 := hfb2.lt
  have d2 := hfb2.cell 2
  have d3 := hfb2.cell 3
  simp only [List.getElem?_toArray, List.getElem?_cons_zero, List.getElem?_cons_succ] at d2 d3
  have HM2 := Lib.hid hM2
  have HK2 := Lib.hid k2
  have HP := Lib.hid p2
  have HNN := Lib.hid hN
  clear hi hin c1 c2 d0 d1 hM2 k2 HM1 HK1 p2 hN hfb2
  go_wp2_with fail
  refine (within_pan _ _ _ _ _).mono ?_
  rintro e w3 ⟨(⟨hi, rfl⟩ | ⟨hi, rfl⟩), hb3⟩
  · have he : q = nodeE r [x, a, b] := HE
    unfold nodeE at he; simp only at he
    rw [if_neg HH2.out, if_neg (by simpa using H3.out), if_neg (by simpa using HIN.out), if_pos (not_in hi)] at he
    exact panic_end rfl (step_bad (HK2.out.trans (Kept.of_below hb3 _)) (by rw [he]) (by decide))
  have hin2 := in_of hi (not_or.1 HH2.out).2
  have HIN2 := Lib.hid hin2
  have hM3 := HM2.out.on hb3
  have k3 := HK2.out.trans (Kept.of_below hb3 (Rs B rb))
  obtain ⟨-, c1, -, -, -, -, -, c7, -⟩ := hM3.k.nine
  have lr3 := hM3.k.lt
  have hlh := HO.out.lens
  obtain ⟨hv, hhv⟩ : ∃ hv, r.had[N]? = some hv := ⟨_, List.getElem?_eq_getElem (by omega)⟩
  have hcell := (hM3.h.cell N).trans (bools_at hhv)
  have hfr := hM3.h.frozen N
  obtain ⟨sv, hsv⟩ : ∃ sv, r.sup[N]? = some sv := ⟨_, List.getElem?_eq_getElem p1⟩
  have scell := (hM3.s.cell N).trans (ints_at hsv)
  have sfr := hM3.s.frozen N
  have lh := hM3.h.lt
  have ls := hM3.s.lt
  have hne1 : ¬ rb = hb := Blk.ne_ hM3.k hM3.h (by decide)
  have hne2 : ¬ hb = rb := fun e => hne1 e.symm
  have hne3 : ¬ sb = hb := Blk.ne_ hM3.s hM3.h (by decide)
  have hne4 : ¬ hb = sb := fun e => hne3 e.symm
  have hne5 : ¬ rb = sb := Blk.ne_ hM3.k hM3.s (by decide)
  have hne6 : ¬ sb = rb := fun e => hne5 e.symm
  have HM3 := Lib.hid hM3
  have HK3 := Lib.hid k3
  have HV := Lib.hid hhv
  clear hi hin2 d2 d3 hM3 k3 HM2 HK2 hhv hsv
  go_wp2_with fail
  refine (refuse_or _ _ _).mono ?_
  rintro e _ ⟨rfl, (⟨hq, rfl⟩ | ⟨hq, rfl⟩)⟩
  · subst hq
    have he : q = nodeE r [x, a, b] := HE
    unfold nodeE at he; simp only at he
    rw [if_neg HH2.out, if_neg (by simpa using H3.out), if_neg (by simpa using HIN.out), if_neg (by simpa using HIN2.out), if_pos (by rw [← HNN.out]; exact HV.out)] at he
    exact panic_end rfl (step_bad HK3.out (by rw [he]) (by decide))
  subst hq
  have K1 := (HM3.out.k.far (p := ⟨hb, N, none⟩) hne1 (.bool true)).far (p := ⟨sb, N, none⟩) hne5 (.int .i64 (numL b).1)
  have S1 := (HM3.out.s.far (p := ⟨hb, N, none⟩) hne3 (.bool true)).set_ N (.int .i64 (numL b).1)
  have D1 := (HM3.out.h.set_ N (.bool true)).far (p := ⟨sb, N, none⟩) hne4 (.int .i64 (numL b).1)
  rw [bools_set] at D1
  rw [ints_set] at S1
  have A1 := own_off (own_off HM3.out.a (p := ⟨hb, N, none⟩) HM3.out.h (by decide) (.bool true)) (p := ⟨sb, N, none⟩) (HM3.out.s.far (p := ⟨hb, N, none⟩) hne3 (.bool true)) (by decide) (.int .i64 (numL b).1)
  have M1 := (HM3.out.m.far (p := ⟨hb, N, none⟩) (HM3.out.m.ne HM3.out.h) (.bool true)).far (p := ⟨sb, N, none⟩) (HM3.out.m.ne HM3.out.s) (.int .i64 (numL b).1)
  have q1 := (HK3.out.setCell (p := ⟨hb, N, none⟩) (fun _ => .inr HM3.out.hB) (.bool true)).setCell (p := ⟨sb, N, none⟩) (fun _ => .inr HM3.out.sB) (.int .i64 (numL b).1)
  have he : q = nodeE r [x, a, b] := HE
  unfold nodeE at he; simp only at he
  rw [if_neg HH2.out, if_neg (by simpa using H3.out), if_neg (by simpa using HIN.out), if_neg (by simpa using HIN2.out), if_neg (by rw [← HNN.out, HV.out]; simp)] at he
  have hfin : Step B rb w q (.returned (.tuple #[])) ((w3.setCell ⟨hb, N, none⟩ (.bool true)).setCell ⟨sb, N, none⟩ (.int .i64 (numL b).1)) := by
    refine step_good q1 he (.inr ⟨HBG.out, sb, hb, mb, m, c, clk, A, ents, ?_⟩)
    refine ⟨?_, ?_, ?_, A1, M1, HM3.out.e, HM3.out.sB, HM3.out.hB, HM3.out.mB⟩
    · simpa [rdCells] using K1
    · simp only; rw [← HNN.out]; exact S1
    · simp only; rw [← HNN.out]; exact D1
  have HFin := Lib.hid hfin
  clear hfin he K1 S1 D1 A1 M1 q1
  go_wp2_with fail
  go_end0
  exact HFin.out
theorem node_any (B rb n : Nat) (r : RdV) (wb : Nat) (ws : List (List UInt8)) (w : World) (hE : Env w) (hR : RdIn B w rb r) (hO : RdOk r) (hW : Blk w wb 9 (ws.map strV).toArray) (hn : n = ws.length) (hlen : ∀ y ∈ ws, y.length ≤ 60000) (hB : B ≤ w.heap.size) (hrB : rb < B) :
    Calls Tryz.prog 57 #[.pointer (some ⟨rb, 0, none⟩), .slice (some ⟨wb, 0, none⟩) n n] w (Step B rb w (nodeQ r ws)) := by
  by_cases hl : r.begun = false ∨ ¬ n = 3
  · exact node_early B rb n r wb ws w hR hn hl
  · rw [not_or, Classical.not_not] at hl
    obtain ⟨hb, rfl⟩ := hl
    have hbg : r.begun = true := by simpa using hb
    match ws, hn with
    | [x, a, b], _ =>
      by_cases hm : r.max = true
      · exact node_max B rb r wb x a b w hE hbg hm hR hO hW (hlen a (by simp)) hB hrB
      · exact node_min B rb r wb x a b w hE hbg (by simpa using hm) hR hO hW hlen hB hrB
end Go.Proofs.YtoagphighgejnaaGreatDoor
