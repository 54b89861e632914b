/- For every input the law WordAsks returns true and leaves its arguments as they were (second form). Conditions: the row's own; the card ties the listed variables to the program's text. -/
import Derived.Test.YtodddplpggggeaaDoorN9
import Derived.Test.YtodddplpggggeaaDoorRT
set_option linter.unusedSimpArgs false
set_option linter.unusedVariables false
namespace Go.Proofs.YtodddplpggggeaaDoor
open Go.ChangeShapes Go.WideShapes Go.ChangeAt Go.RowKit
open Go.ChangeMaps (open_string shut_string)

set_option maxRecDepth 100000 in
theorem wordAsksUpto_lifted (os : Os) (started : os.Started) (H : Type) (enc : TypeId × Value → H) (F : Stop.Interp) :
    ReturnsInHanded {} Tryd.checked os 7 .any ((Rows.OpenSpec.upto Rows.wordAsksSpec).preRow enc Tryd.prog Tryd.f7 Rows.wordAsksUptoRow.domain false Rows.wordAsksUptoRow.laid) (((Rows.OpenSpec.upto Rows.wordAsksSpec).at F).post enc Tryd.prog Tryd.f7 false true false false) := by
  have hx : DataW.whole enc Tryd.prog ((World.laidAll Tryd.prog os laid7).forCall (fun _ _ => 0) ⟨#[], #[.string ⟨#[]⟩, .string ⟨#[]⟩, .slice none 0 0, .int .i64 0, .int .i64 0, .slice none 0 0], []⟩).memory Tryd.f7.params.toList Rows.wordAsksSpec.vars false (#[.string ⟨#[]⟩, .string ⟨#[]⟩, .slice none 0 0, .int .i64 0, .int .i64 0, .slice none 0 0] : Array Value).toList 8 = some ([.lit (.string []), .lit (.string []), .nil, .lit (.int .i64 0), .lit (.int .i64 0), .nil], [], []) := by kernel_rfl
  refine returnsInHanded_of_row (C := Tryd.checked) (s := (Rows.OpenSpec.upto Rows.wordAsksSpec)) own started (by kernel_rfl) Tryd.func7
    (witness7 (enc := enc) os #[.string ⟨#[]⟩, .string ⟨#[]⟩, .slice none 0 0, .int .i64 0, .int .i64 0, .slice none 0 0] (by kernel_rfl) (OpenSpec.preRow_of_cond 8 hx (by kernel_rfl) (fun k hk => by cases hk; kernel_rfl) (by kernel_rfl) (met7 os _))) ?_
  intro W base args ds gs before hval0 hW _ hcond hsz0 hL hSh _
  have hsz : (DataW.weightsEach Tryd.prog (Tryd.f7.params.toList ++ Rows.wordAsksSpec.plain.varTypes Tryd.prog) (ds ++ gs)).all (· ≤ reachBytes) = true := hsz0
  clear hsz0
  have hval : ∀ (j : Nat) t v, Tryd.f7.params[j]? = some t → args[j]? = some v → Value.okWide Tryd.prog W .any base t v := hval0
  have hW' := hW
  have hlt : ∀ p ∈ before, p.block < W.heap.size := fun p hp => hW'.lt p hp
  obtain ⟨p, q, hA0, hV, rfl, _, _⟩ := hW
  have hA : DataW.TrodAll enc Tryd.prog W 0 (fun _ => true) true Tryd.f7.params.toList args.toList ds p := hA0
  rw [Tryd.params7] at hA hval hsz
  have hA1 := hA
  obtain ⟨v0, v1, v2, v3, v4, v5, d0, d1, d2, d3, d4, d5, p0, p1, p2, p3, p4, p5, rfl, rfl, rfl, h0, h1, h2, h3, h4, h5⟩ := trodAll_six hA
  obtain ⟨rfl, rfl⟩ := trodVars_none hV
  have hbk : Rows.uptoBulkAll ([d0, d1, d2, d3, d4, d5] ++ []) ≤ 1048576 := of_decide_eq_true (hcond _ rfl)
  simp only [List.append_nil, Rows.uptoBulkAll] at hbk
  obtain ⟨s0, rfl, rfl, rfl, w0⟩ := open_string Tryd.underlying9 (hval 0 9 v0 rfl rfl) h0
  have l0 : s0.size ≤ 140737488355328 := by
    have h1 := sized_string hsz (j := 0) (t := 9) rfl rfl
    have h2 := reachBytes_lt
    have e1 : s0.size = s0.data.size := rfl
    have e2 : s0.data.toList.length = s0.data.size := Array.length_toList
    have e3 : (2 : Nat) ^ 47 = 140737488355328 := by decide
    omega
  obtain ⟨s1, rfl, rfl, rfl, w1⟩ := open_string Tryd.underlying9 (hval 1 9 v1 rfl rfl) h1
  have l1 : s1.size ≤ 140737488355328 := by
    have h1 := sized_string hsz (j := 1) (t := 9) rfl rfl
    have h2 := reachBytes_lt
    have e1 : s1.size = s1.data.size := rfl
    have e2 : s1.data.toList.length = s1.data.size := Array.length_toList
    have e3 : (2 : Nat) ^ 47 = 140737488355328 := by decide
    omega
  obtain ⟨A2, n2, c2, L2, rfl, r2, k2, b2⟩ := open_texts (hval 2 23 v2 rfl rfl) h2
  obtain ⟨x3, rfl, rfl, rfl, w3⟩ := open_int Tryd.underlying2 (hval 3 2 v3 rfl rfl) h3
  have l3 : -9223372036854775808 ≤ x3 ∧ x3 ≤ 9223372036854775807 := by
    have m0 : IntKind.i64.min = -9223372036854775808 := rfl
    have m1 : IntKind.i64.max = 9223372036854775807 := rfl
    have h : IntKind.i64.min ≤ x3 ∧ x3 ≤ IntKind.i64.max := by simpa [Lit.wf] using w3
    rwa [m0, m1] at h
  obtain ⟨x4, rfl, rfl, rfl, w4⟩ := open_int Tryd.underlying3 (hval 4 3 v4 rfl rfl) h4
  have l4 : -9223372036854775808 ≤ x4 ∧ x4 ≤ 9223372036854775807 := by
    have m0 : IntKind.i64.min = -9223372036854775808 := rfl
    have m1 : IntKind.i64.max = 9223372036854775807 := rfl
    have h : IntKind.i64.min ≤ x4 ∧ x4 ≤ IntKind.i64.max := by simpa [Lit.wf] using w4
    rwa [m0, m1] at h
  obtain ⟨A5, n5, c5, y5, rfl, r5, b5, k5⟩ := open_nums Tryd.underlying36 Tryd.underlying5 cells5 (hval 5 36 v5 rfl rfl) h5
  clear hA0 hval0
  simp only [List.append_nil] at hW' hlt
  have hE : Env W := env_of hL hSh
  refine (WordAsks_in s0 s1 A2 n2 c2 L2 x3 x4 A5 n5 c5 y5 W hE (by omega) (by omega) r2 k2 (by omega) l3.1 l3.2 r5 (fun x hx => wf_u8 (b5 x hx)) k5).mono fun e W' ⟨he, hb⟩ => ?_
  subst he
  exact ⟨_, rfl, post_of_below (pa := _) (pv := []) hW' (fun _ _ _ => trodAll_mk1 (shut_bool Tryd.underlying4 true)) (fun sp hsp => trodAll_stay laidOut hb (by decide +kernel) hA1 (fun p hp => hlt p (by simpa using hp)) (fun p hp => hsp p (by simpa using hp))) (fun _ _ => rfl) (by simp) hb (ok_one (by kernel_rfl) rfl (okWide_bool_mk Tryd.underlying4 true))⟩

theorem wordAsksUpto_said : Rows.WordAsksUptoSaid :=
  OpenClaim.holds_of_cond 7 Tryd.f7 rfl rfl rfl rfl rfl rfl rfl ⟨rfl, rfl, rfl, rfl, rfl⟩ rfl rfl rfl rfl rfl (by kernel_rfl) Tryd.func7 (by kernel_rfl)
    (of_decide_eq_true (by kernel_rfl)) (by unfold Func.isWrapper; first | (rw [if_pos (by decide +kernel)]; kernel_rfl) | (rw [if_neg (by decide +kernel)]; exact ⟨rfl, rfl⟩))
    (fun os started H enc _ F => by rw [OpenClaim.pre_eq_preRow]; exact wordAsksUpto_lifted os started H enc F)

theorem wordAsksUpto_plain (f : FuncId) (fn : Func) (hf : Tryd.pinned.checked.prog.funcNamed "quittance/quittancelaw02.WordAsks" = some f) (hfn : Tryd.pinned.checked.prog.funcs[f]? = some fn) :
    true = Tryd.pinned.checked.prog.looks [] ∧ ∀ (j : Nat) t, fn.params[j]? = some t → Tryd.pinned.checked.prog.wantsStandIn t = false := by
  obtain rfl : f = 7 := Option.some.inj ((show Tryd.prog.funcNamed "quittance/quittancelaw02.WordAsks" = some 7 by kernel_rfl).symm.trans hf) |>.symm
  obtain rfl : fn = Tryd.f7 := (Option.some.inj (Tryd.func7.symm.trans hfn)).symm
  refine ⟨by kernel_rfl, fun j t ht => ?_⟩
  rw [Tryd.params7] at ht
  have hm : t ∈ [9, 9, 23, 2, 3, 36] := by simpa using Array.mem_of_getElem? ht
  have hall : ([9, 9, 23, 2, 3, 36].all fun u => !Tryd.prog.wantsStandIn u) = true := by kernel_rfl
  exact (show Tryd.prog.wantsStandIn t = false by simpa using List.all_eq_true.1 hall t hm)

theorem wordAsksUpto_card : Rows.WordAsksUptoCardSaid :=
  Claim7.holds_tied_plain_at .later [] _ _ _ _ wordAsksUpto_said (fun _ h => by cases h) (by kernel_rfl) (fun _ h => by cases h) wordAsksUpto_row_tie rfl ⟨rfl, rfl⟩ (by kernel_rfl) rfl wordAsksUpto_plain (by kernel_rfl)
end Go.Proofs.YtodddplpggggeaaDoor
