/- file: node (25). Conditions: none. -/
import Derived.Test.YtoagphighgejnaaGreatDoorJ8
set_option linter.unusedSimpArgs false
set_option linter.unusedVariables false
namespace Go.Proofs.YtoagphighgejnaaGreatDoor
open Go.RowKit Go.Shelf

/-- what a node's line tells -/
def nodeQ (r : RdV) (ws : List (List UInt8)) : Int × RdV := if ¬ r.begun = true then (12, r) else if r.max = true then endE r ws else nodeE r ws
theorem end_len {r : RdV} {ws : List (List UInt8)} (h : ¬ ws.length = 3) : (endE r ws).1 = 10 := by
  unfold endE; split
  · exact absurd rfl h
  · rfl
theorem node_len_ {r : RdV} {ws : List (List UInt8)} (h : ¬ ws.length = 3) : (nodeE r ws).1 = 10 := by
  unfold nodeE; split
  · exact absurd rfl h
  · rfl

theorem step_ok {B rb : Nat} {w w' : World} {q : Int × RdV} {e : Ending} (h : Step B rb w q e w') (h0 : q.1 = 0) : Kept (Rs B rb) w w' ∧ e = .returned (.tuple #[]) ∧ RdIn B w' rb q.2 := by
  obtain ⟨hk, (⟨_, h1, h2⟩ | ⟨h1, _⟩)⟩ := h
  · exact ⟨hk, h1, h2⟩
  · exact absurd h0 h1
theorem step_no {B rb : Nat} {w w' : World} {q : Int × RdV} {e : Ending} (h : Step B rb w q e w') (h0 : ¬ q.1 = 0) : Kept (Rs B rb) w w' ∧ e = .panicked [{ v := faultV q.1, recovered := false }] := by
  obtain ⟨hk, (⟨h1, _⟩ | ⟨_, h1⟩)⟩ := h
  · exact absurd h1 h0
  · exact ⟨hk, h1⟩
set_option maxRecDepth 100000 in
theorem node_early (B rb n : Nat) (r : RdV) (wb : Nat) (ws : List (List UInt8)) (w : World) (hR : RdIn B w rb r) (hn : n = ws.length) (hc : r.begun = false ∨ ¬ n = 3) :
    Calls Tryz.prog 57 #[.pointer (some ⟨rb, 0, none⟩), .slice (some ⟨wb, 0, none⟩) n n] w (Step B rb w (nodeQ r ws)) := by
  obtain ⟨q, HE⟩ : ∃ q, QIs q (nodeQ r ws) := ⟨_, rfl⟩
  rw [← HE]
  obtain ⟨v1, v2, v3, v4, hbr⟩ := hR.blk
  obtain ⟨-, -, -, -, -, c5, -⟩ := hbr.nine
  have lr := hbr.lt
  have hq12 : r.begun = false → q.1 = 12 := fun h => by have : q = nodeQ r ws := HE; rw [this]; unfold nodeQ; rw [if_pos (by simp [h])]
  have hq10 : r.begun = true → ¬ n = 3 → q.1 = 10 := fun h h3 => by
    have : q = nodeQ r ws := HE
    rw [this]; unfold nodeQ; rw [if_neg (by simp [h])]
    split
    · exact end_len (by omega)
    · exact node_len_ (by omega)
  have H12 := Lib.hid hq12
  have H10 := Lib.hid hq10
  have HC := Lib.hid hc
  clear hbr hR hq12 hq10 hn hc
  go_enter Tryz.func57, Tryz.ntmps57
  go_wp2_with fail
  refine (refuse_or _ _ _).mono ?_
  rintro e _ ⟨rfl, (⟨hq, rfl⟩ | ⟨hq, rfl⟩)⟩
  · exact panic_end rfl (step_bad (Kept.refl _ _) (H12.out (by simpa using hq)) (by decide))
  have hbg : r.begun = true := by simpa using hq
  have h3 : ¬ n = 3 := HC.out.resolve_left (by simp [hbg])
  have h3' : ¬ (n : Int) = 3 := by omega
  have HH := Lib.hid (And.intro hbg h3)
  clear hq hbg h3
  go_wp2_with fail
  refine (refuse_or _ _ _).mono ?_
  rintro e _ ⟨rfl, (⟨hq, rfl⟩ | ⟨hq, rfl⟩)⟩
  · exact panic_end rfl (step_bad (Kept.refl _ _) (H10.out HH.out.1 HH.out.2) (by decide))
  · exact absurd hq (by simp [h3'])
set_option maxRecDepth 100000 in
set_option maxHeartbeats 3200000 in
theorem node_max (B rb : Nat) (r : RdV) (wb : Nat) (x a l : List UInt8) (w : World) (hE : Env w) (hbg : r.begun = true) (hm : r.max = true) (hR : RdIn B w rb r) (hO : RdOk r) (hW : Blk w wb 9 ([x, a, l].map strV).toArray) (hlen : a.length ≤ 60000) (hB : B ≤ w.heap.size) (hrB : rb < B) :
    Calls Tryz.prog 57 #[.pointer (some ⟨rb, 0, none⟩), .slice (some ⟨wb, 0, none⟩) 3 3] w (Step B rb w (nodeQ r [x, a, l])) := by
  have hqq : nodeQ r [x, a, l] = endE r [x, a, l] := by unfold nodeQ; rw [if_neg (by simp [hbg]), if_pos hm]
  rw [hqq]
  obtain ⟨v1, v2, v3, v4, hbr⟩ := hR.blk
  obtain ⟨c0, -, -, -, -, c5, -⟩ := hbr.nine
  rw [hm] at c0
  rw [hbg] at c5
  have lr := hbr.lt
  have HEND := Lib.hid (end_any B rb r x a l w hE hbg hR hO hlen hB hrB)
  have hbd : Below w.heap.size w w.drew := (Below.refl _ w).drew
  have HENDr := Lib.hid (end_any B rb r x a l w.drew (hE.below hbd hE.size) hbg (hR.on hbd) hO hlen hB hrB)
  have lW := hW.lt
  have e1 := hW.cell 1
  have e2 := hW.cell 2
  simp only [List.map_cons, List.map_nil, List.getElem?_toArray, List.getElem?_cons_zero, List.getElem?_cons_succ] at e1 e2
  unfold strV at e1 e2
  obtain ⟨q, HE⟩ : ∃ q, QIs q (endE r [x, a, l]) := ⟨_, rfl⟩
  rw [← HE] at HEND HENDr ⊢
  clear hbr hR hqq hW hlen hO hm hbg hE
  go_enter Tryz.func57, Tryz.ntmps57
  go_wp2_with fail
  refine (refuse_or _ _ _).mono ?_
  rintro e _ ⟨rfl, (⟨hq, rfl⟩ | ⟨hq, rfl⟩)⟩
  · exact absurd hq (by simp)
  go_wp2_with fail
  refine (refuse_or _ _ _).mono ?_
  rintro e _ ⟨rfl, (⟨hq, rfl⟩ | ⟨hq, rfl⟩)⟩
  · exact absurd hq (by simp)
  go_wp2_with fail
  by_cases h0 : q.1 = 0
  · have HX := Lib.hid (HENDr.out.mono (fun e w' h => step_ok h h0))
    have HK := Lib.hid ((Kept.refl (Rs B rb) w).drew)
    go_region_with (go_at_call 75; refine HX.out.mono ?_; rintro e w1 ⟨hk, rfl, hR⟩)
    all_goals
      go_wp2_with fail
      go_end0
      exact ⟨HK.out.trans hk, .inl ⟨h0, rfl, hR⟩⟩
  · have HX := Lib.hid (HENDr.out.mono (fun e w' h => step_no h h0))
    have HK := Lib.hid ((Kept.refl (Rs B rb) w).drew)
    go_region_with (go_at_call 75; (refine HX.out.mono ?_; rintro e w1 ⟨hk, rfl⟩; refine panic_out w ?_ ?_; (exact panic_end rfl ⟨HK.out.trans hk, .inr ⟨h0, rfl⟩⟩)))
    all_goals exact trivial
end Go.Proofs.YtoagphighgejnaaGreatDoor
