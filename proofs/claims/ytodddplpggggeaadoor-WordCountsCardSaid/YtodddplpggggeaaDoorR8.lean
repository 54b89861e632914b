/- For every input the law WordCounts returns true and leaves its arguments as they were. Conditions: the row's own; the card ties the listed variables to the program's text. -/
import Derived.Test.YtodddplpggggeaaDoorN8
import Derived.Test.YtodddplpggggeaaDoorRW
set_option linter.unusedSimpArgs false
set_option linter.unusedVariables false
namespace Go.Proofs.YtodddplpggggeaaDoor
open Go.ChangeShapes Go.WideShapes Go.ChangeAt Go.RowKit
open Go.ChangeMaps (open_string shut_string)

set_option maxRecDepth 100000 in
theorem wordCounts_lifted (os : Os) (started : os.Started) (H : Type) (enc : TypeId × Value → H) (F : Stop.Interp) :
    ReturnsInHanded {} Tryd.checked os 8 .any ((OpenSpec.ofChange Rows.wordCountsSpec).preRow enc Tryd.prog Tryd.f8 Rows.wordCountsRow.domain false Rows.wordCountsRow.laid) (((OpenSpec.ofChange Rows.wordCountsSpec).at F).post enc Tryd.prog Tryd.f8 false true false false) := by
  have hx : DataW.whole enc Tryd.prog ((World.laidAll Tryd.prog os laid7).forCall (fun _ _ => 0) ⟨#[], #[.int .u16 0, .int .u16 0, .int .u16 0, .int .u8 0], []⟩).memory Tryd.f8.params.toList Rows.wordCountsSpec.vars false (#[.int .u16 0, .int .u16 0, .int .u16 0, .int .u8 0] : Array Value).toList 8 = some ([.lit (.int .u16 0), .lit (.int .u16 0), .lit (.int .u16 0), .lit (.int .u8 0)], [], []) := by kernel_rfl
  refine returnsInHanded_of_row (C := Tryd.checked) (s := (OpenSpec.ofChange Rows.wordCountsSpec)) own started (by kernel_rfl) Tryd.func8
    (witness7 (enc := enc) os #[.int .u16 0, .int .u16 0, .int .u16 0, .int .u8 0] (by kernel_rfl) (OpenSpec.preRow_of_cond 8 hx (by kernel_rfl) (fun k hk => by cases hk) (by kernel_rfl) (met7 os _))) ?_
  intro W base args ds gs before hval0 hW _ hcond hsz0 hL hSh _
  have hsz : (DataW.weightsEach Tryd.prog (Tryd.f8.params.toList ++ Rows.wordCountsSpec.plain.varTypes Tryd.prog) (ds ++ gs)).all (· ≤ reachBytes) = true := hsz0
  clear hsz0
  have hval : ∀ (j : Nat) t v, Tryd.f8.params[j]? = some t → args[j]? = some v → Value.okWide Tryd.prog W .any base t v := hval0
  have hW' := hW
  obtain ⟨p, q, hA0, hV, rfl, _, _⟩ := hW
  have hA : DataW.TrodAll enc Tryd.prog W 0 (fun _ => true) true Tryd.f8.params.toList args.toList ds p := hA0
  rw [Tryd.params8] at hA hval hsz
  obtain ⟨v0, v1, v2, v3, d0, d1, d2, d3, p0, p1, p2, p3, rfl, rfl, rfl, h0, h1, h2, h3⟩ := trodAll_four hA
  obtain ⟨rfl, rfl⟩ := trodVars_none hV
  obtain ⟨x0, rfl, rfl, rfl, w0⟩ := open_int Tryd.underlying27 (hval 0 27 v0 rfl rfl) h0
  have l0 : IntKind.u16.min ≤ x0 ∧ x0 ≤ IntKind.u16.max := by simpa [Lit.wf] using w0
  obtain ⟨x1, rfl, rfl, rfl, w1⟩ := open_int Tryd.underlying27 (hval 1 27 v1 rfl rfl) h1
  have l1 : IntKind.u16.min ≤ x1 ∧ x1 ≤ IntKind.u16.max := by simpa [Lit.wf] using w1
  obtain ⟨x2, rfl, rfl, rfl, w2⟩ := open_int Tryd.underlying27 (hval 2 27 v2 rfl rfl) h2
  have l2 : IntKind.u16.min ≤ x2 ∧ x2 ≤ IntKind.u16.max := by simpa [Lit.wf] using w2
  obtain ⟨x3, rfl, rfl, rfl, w3⟩ := open_int Tryd.underlying5 (hval 3 5 v3 rfl rfl) h3
  have l3 : IntKind.u8.min ≤ x3 ∧ x3 ≤ IntKind.u8.max := by simpa [Lit.wf] using w3
  clear hA0 hval0
  simp only [List.append_nil] at hW'
  have hE : Env W := env_of hL hSh
  have m0 : IntKind.u16.min = 0 := rfl
  have m1 : IntKind.u16.max = 65535 := rfl
  have m2 : IntKind.u8.min = 0 := rfl
  have m3 : IntKind.u8.max = 255 := rfl
  rw [m0, m1] at l0 l1 l2
  rw [m2, m3] at l3
  obtain ⟨k, rfl⟩ : ∃ k : Nat, x0 = k := ⟨x0.toNat, by omega⟩
  obtain ⟨k1, rfl⟩ : ∃ k : Nat, x1 = k := ⟨x1.toNat, by omega⟩
  obtain ⟨k2, rfl⟩ : ∃ k : Nat, x2 = k := ⟨x2.toNat, by omega⟩
  refine (WordCounts_in k k1 k2 x3 W hE (by omega) (by omega) (by omega) l3.1 l3.2).mono fun e W' ⟨he, hb⟩ => ?_
  subst he
  exact ⟨_, rfl, post_of_below (pa := []) (pv := []) hW' (fun _ _ _ => trodAll_mk1 (shut_bool Tryd.underlying4 true)) (fun _ _ => trodAll_mk4 (shut_int Tryd.underlying27 w0) (shut_int Tryd.underlying27 w1) (shut_int Tryd.underlying27 w2) (shut_int Tryd.underlying5 w3)) (fun _ _ => rfl) rfl hb (ok_one (by kernel_rfl) rfl (okWide_bool_mk Tryd.underlying4 true))⟩

theorem wordCounts_said : Rows.WordCountsSaid :=
  OpenClaim.holds_of_cond 8 Tryd.f8 rfl rfl rfl rfl rfl rfl rfl ⟨rfl, rfl, rfl, rfl, rfl⟩ rfl rfl rfl rfl rfl (by kernel_rfl) Tryd.func8 (by kernel_rfl)
    (of_decide_eq_true (by kernel_rfl)) (by unfold Func.isWrapper; first | (rw [if_pos (by decide +kernel)]; kernel_rfl) | (rw [if_neg (by decide +kernel)]; exact ⟨rfl, rfl⟩))
    (fun os started H enc _ F => by rw [OpenClaim.pre_eq_preRow]; exact wordCounts_lifted os started H enc F)

theorem wordCounts_plain (f : FuncId) (fn : Func) (hf : Tryd.pinned.checked.prog.funcNamed "quittance/quittancelaw02.WordCounts" = some f) (hfn : Tryd.pinned.checked.prog.funcs[f]? = some fn) :
    true = Tryd.pinned.checked.prog.looks [] ∧ ∀ (j : Nat) t, fn.params[j]? = some t → Tryd.pinned.checked.prog.wantsStandIn t = false := by
  obtain rfl : f = 8 := Option.some.inj ((show Tryd.prog.funcNamed "quittance/quittancelaw02.WordCounts" = some 8 by kernel_rfl).symm.trans hf) |>.symm
  obtain rfl : fn = Tryd.f8 := (Option.some.inj (Tryd.func8.symm.trans hfn)).symm
  refine ⟨by kernel_rfl, fun j t ht => ?_⟩
  rw [Tryd.params8] at ht
  have hm : t ∈ [27, 27, 27, 5] := by simpa using Array.mem_of_getElem? ht
  have hall : ([27, 27, 27, 5].all fun u => !Tryd.prog.wantsStandIn u) = true := by kernel_rfl
  exact (show Tryd.prog.wantsStandIn t = false by simpa using List.all_eq_true.1 hall t hm)

theorem wordCounts_card : Rows.WordCountsCardSaid :=
  Claim7.holds_tied_plain_at .later [] _ _ _ _ wordCounts_said (fun _ h => by cases h) (by kernel_rfl) (fun _ h => by cases h) wordCounts_row_tie rfl ⟨rfl, rfl⟩ (by kernel_rfl) rfl wordCounts_plain (by kernel_rfl)
end Go.Proofs.YtodddplpggggeaaDoor
