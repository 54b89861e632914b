/- For every input the law ReachTurned returns true and leaves its arguments as they were. Conditions: none beyond the row's own. -/
import Derived.Test.YtekajenmkpobgaaM9
import Derived.Test.YtekajenmkpobgaaRW
set_option linter.unusedSimpArgs false
set_option linter.unusedVariables false
namespace Go.Proofs.Ytekajenmkpobgaa
open Go.ChangeShapes Go.WideShapes Go.ChangeAt Go.RowKit

set_option maxRecDepth 100000 in
theorem reachTurned_lifted (os : Os) (started : os.Started) (H : Type) (enc : TypeId × Value → H) :
    ReturnsInHanded {} Try.checked os 9 .any (Rows.reachTurnedSpec.pre6 enc Try.prog Try.f9 Rows.reachTurnedRow.domain false) (Rows.reachTurnedSpec.post enc Try.prog Try.f9 Rows.reachTurnedRow.apart Rows.reachTurnedRow.fresh Rows.reachTurnedRow.handsOn Rows.reachTurnedRow.again) := by
  refine returnsInHanded_of_change (C := Try.checked) Try.own started (by kernel_rfl) Try.func9
    (ChangeSpec.witness6 (enc := enc) (C := Try.checked) false ⟨#[], #[.slice none 0 0, .slice none 0 0, .slice none 0 0], []⟩ 8 (by kernel_rfl) (by kernel_rfl) (by kernel_rfl) (by kernel_rfl)) ?_
  intro W base args ds gs before hval0 hW _ _
  have hval : ∀ (j : Nat) t v, Try.f9.params[j]? = some t → args[j]? = some v → Value.okWide Try.prog W .any base t v := hval0
  have hW' := hW
  have hlt : ∀ p ∈ before, p.block < W.heap.size := fun p hp => hW'.lt p hp
  obtain ⟨p, q, hA0, hV, rfl, hfz, hnd⟩ := hW
  have hA : DataW.TrodAll enc Try.prog W 0 (fun _ => true) true Try.f9.params.toList args.toList ds p := hA0
  rw [Try.params9] at hA hval
  have hA1 := hA
  obtain ⟨v0, v1, v2, d0, d1, d2, p0, p1, p2, rfl, rfl, rfl, h0, h1, h2⟩ := trodAll_three hA
  obtain ⟨rfl, rfl⟩ := trodVars_none hV
  obtain ⟨A0, n0, c0, x0, rfl, r0, b0, l0⟩ := open_nums Try.underlying22 Try.underlying5 Try.cells5 (hval 0 22 v0 rfl rfl) h0
  obtain ⟨A1, n1, c1, x1, rfl, r1, b1, l1⟩ := open_nums Try.underlying22 Try.underlying5 Try.cells5 (hval 1 22 v1 rfl rfl) h1
  obtain ⟨A2, n2, c2, x2, rfl, r2, b2, l2⟩ := open_nums Try.underlying22 Try.underlying5 Try.cells5 (hval 2 22 v2 rfl rfl) h2
  clear hA0 hval0
  simp only [List.append_nil] at hW' hlt
  refine (ReachTurned_any A0 A1 A2 n0 c0 n1 c1 n2 c2 W.heap.size x0 x1 x2 W r0 (fun x hx => wf_u8 (b0 x hx)) r1 (fun x hx => wf_u8 (b1 x hx)) r2 (fun x hx => wf_u8 (b2 x hx)) (Nat.le_refl _) l0 l1 l2).mono fun e W' ⟨he, hb⟩ => ?_
  subst he
  exact ⟨_, rfl, post_of_below (pa := p0 ++ p1 ++ p2) (pv := []) hW' (fun _ _ _ => trodAll_mk1 (shut_bool Try.underlying4 true)) (fun sp hsp => trodAll_stay Try.laidOut hb (by decide +kernel) hA1 hlt hsp) (fun _ _ => rfl) (by simp) hb (ok_one (by kernel_rfl) rfl (okWide_bool_mk Try.underlying4 true))⟩

theorem reachTurned_holds : Rows.ReachTurnedSaid :=
  OpenClaim.holds_of_wide 9 Try.f9 rfl rfl rfl rfl rfl rfl rfl ⟨rfl, rfl, rfl, rfl, rfl⟩ rfl rfl rfl rfl rfl (by kernel_rfl) Try.func9 (by kernel_rfl)
    (of_decide_eq_true (by kernel_rfl)) (by unfold Func.isWrapper; first | (rw [if_pos (by decide +kernel)]; kernel_rfl) | (rw [if_neg (by decide +kernel)]; exact ⟨rfl, rfl⟩))
    (fun os started H enc _ => reachTurned_lifted os started H enc)
end Go.Proofs.Ytekajenmkpobgaa
