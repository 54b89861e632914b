/- For every input the law FileBounds returns true and leaves its arguments as they were. Conditions: the row's own; the card ties the listed variables to the program's text. -/
import Derived.Test.YtoagphighgejnaaDoorV15
import Derived.Test.YtoagphighgejnaaDoorV16
import Derived.Test.YtoagphighgejnaaDoorRW
set_option linter.unusedSimpArgs false
set_option linter.unusedVariables false
namespace Go.Proofs.YtoagphighgejnaaDoor
open Go.ChangeShapes Go.WideShapes Go.ChangeAt Go.RowKit
open Go.ChangeMaps (open_string shut_string)

theorem FileBounds_in (n k : Int) (w : World) (hE : Env w) (hn : -9223372036854775808 ≤ n ∧ n ≤ 9223372036854775807) (hkk : 0 ≤ k ∧ k ≤ 255) :
    Calls Tryd.prog 4 #[.int .i64 n, .int .u8 k] w fun e w' => e = .returned (.bool true) ∧ Below w.heap.size w w' := by
  obtain ⟨h0, h1⟩ := tm_lt n
  obtain ⟨m, hm⟩ : ∃ m, n.tmod 2147483651 = m := ⟨_, rfl⟩
  rw [hm] at h0 h1
  have hk4 : k.tmod 4 = 0 ∨ k.tmod 4 = 1 ∨ k.tmod 4 = 2 ∨ k.tmod 4 = 3 := by rw [Int.tmod_eq_emod_of_nonneg hkk.1]; omega
  have hr : m < -2147483648 ∨ (-2147483648 ≤ m ∧ m < -1) ∨ m = -1 ∨ (0 ≤ m ∧ m ≤ 2147483648) ∨ 2147483648 < m := by omega
  rcases hk4 with hk | hk | hk | hk
  · rcases hr with hr | hr | hr | hr | hr
    · exact bnd_0_0 n k m w hE hm h0 h1 hk hkk hr
    · exact bnd_0_1 n k m w hE hm h0 h1 hk hkk hr
    · exact bnd_0_2 n k m w hE hm h0 h1 hk hkk hr
    · exact bnd_0_3 n k m w hE hm h0 h1 hk hkk hr
    · exact bnd_0_4 n k m w hE hm h0 h1 hk hkk hr
  · rcases hr with hr | hr | hr | hr | hr
    · exact bnd_1_0 n k m w hE hm h0 h1 hk hkk hr
    · exact bnd_1_1 n k m w hE hm h0 h1 hk hkk hr
    · exact bnd_1_2 n k m w hE hm h0 h1 hk hkk hr
    · exact bnd_1_3 n k m w hE hm h0 h1 hk hkk hr
    · exact bnd_1_4 n k m w hE hm h0 h1 hk hkk hr
  · rcases hr with hr | hr | hr | hr | hr
    · exact bnd_2_0 n k m w hE hm h0 h1 hk hkk hr
    · exact bnd_2_1 n k m w hE hm h0 h1 hk hkk hr
    · exact bnd_2_2 n k m w hE hm h0 h1 hk hkk hr
    · exact bnd_2_3 n k m w hE hm h0 h1 hk hkk hr
    · exact bnd_2_4 n k m w hE hm h0 h1 hk hkk hr
  · rcases hr with hr | hr | hr | hr | hr
    · exact bnd_3_0 n k m w hE hm h0 h1 hk hkk hr
    · exact bnd_3_1 n k m w hE hm h0 h1 hk hkk hr
    · exact bnd_3_2 n k m w hE hm h0 h1 hk hkk hr
    · exact bnd_3_3 n k m w hE hm h0 h1 hk hkk hr
    · exact bnd_3_4 n k m w hE hm h0 h1 hk hkk hr

set_option maxRecDepth 100000 in
theorem fileBounds_lifted (os : Os) (started : os.Started) (H : Type) (enc : TypeId × Value → H) (F : Stop.Interp) :
    ReturnsInHanded {} Tryd.checked os 4 .any ((OpenSpec.ofChange Rows.fileBoundsSpec).preRow enc Tryd.prog Tryd.f4 Rows.fileBoundsRow.domain false Rows.fileBoundsRow.laid) (((OpenSpec.ofChange Rows.fileBoundsSpec).at F).post enc Tryd.prog Tryd.f4 false true false false) := by
  have hx : DataW.whole enc Tryd.prog ((World.laidAll Tryd.prog os laid7).forCall (fun _ _ => 0) ⟨#[], #[.int .i64 0, .int .u8 0], []⟩).memory Tryd.f4.params.toList Rows.fileBoundsSpec.vars false (#[.int .i64 0, .int .u8 0] : Array Value).toList 8 = some ([.lit (.int .i64 0), .lit (.int .u8 0)], [], []) := by kernel_rfl
  refine returnsInHanded_of_row (C := Tryd.checked) (s := (OpenSpec.ofChange Rows.fileBoundsSpec)) own started (by kernel_rfl) Tryd.func4
    (witness7 (enc := enc) os #[.int .i64 0, .int .u8 0] (by kernel_rfl) (OpenSpec.preRow_of_cond 8 hx (by kernel_rfl) (fun k hk => by cases hk) (by kernel_rfl) (met7 os _))) ?_
  intro W base args ds gs before hval0 hW _ hcond hsz0 hL hSh _
  have hsz : (DataW.weightsEach Tryd.prog (Tryd.f4.params.toList ++ Rows.fileBoundsSpec.plain.varTypes Tryd.prog) (ds ++ gs)).all (· ≤ reachBytes) = true := hsz0
  clear hsz0
  have hval : ∀ (j : Nat) t v, Tryd.f4.params[j]? = some t → args[j]? = some v → Value.okWide Tryd.prog W .any base t v := hval0
  have hW' := hW
  obtain ⟨p, q, hA0, hV, rfl, _, _⟩ := hW
  have hA : DataW.TrodAll enc Tryd.prog W 0 (fun _ => true) true Tryd.f4.params.toList args.toList ds p := hA0
  rw [Tryd.params4] at hA hval hsz
  obtain ⟨v0, v1, d0, d1, p0, p1, rfl, rfl, rfl, h0, h1⟩ := trodAll_two hA
  obtain ⟨rfl, rfl⟩ := trodVars_none hV
  obtain ⟨x0, rfl, rfl, rfl, w0⟩ := open_int Tryd.underlying2 (hval 0 2 v0 rfl rfl) h0
  have l0 : -9223372036854775808 ≤ x0 ∧ x0 ≤ 9223372036854775807 := by
    have m0 : IntKind.i64.min = -9223372036854775808 := rfl
    have m1 : IntKind.i64.max = 9223372036854775807 := rfl
    have h : IntKind.i64.min ≤ x0 ∧ x0 ≤ IntKind.i64.max := by simpa [Lit.wf] using w0
    rwa [m0, m1] at h
  obtain ⟨x1, rfl, rfl, rfl, w1⟩ := open_int Tryd.underlying5 (hval 1 5 v1 rfl rfl) h1
  have l1 : 0 ≤ x1 ∧ x1 ≤ 255 := by
    have m0 : IntKind.u8.min = 0 := rfl
    have m1 : IntKind.u8.max = 255 := rfl
    have h : IntKind.u8.min ≤ x1 ∧ x1 ≤ IntKind.u8.max := by simpa [Lit.wf] using w1
    rwa [m0, m1] at h
  clear hA0 hval0
  simp only [List.append_nil] at hW'
  have hE : Env W := env_of hL hSh
  refine (FileBounds_in x0 x1 W hE l0 l1).mono fun e W' ⟨he, hb⟩ => ?_
  subst he
  exact ⟨_, rfl, post_of_below (pa := []) (pv := []) hW' (fun _ _ _ => trodAll_mk1 (shut_bool Tryd.underlying4 true)) (fun _ _ => trodAll_mk2 (shut_int Tryd.underlying2 w0) (shut_int Tryd.underlying5 w1)) (fun _ _ => rfl) (by simp) hb (ok_one (by kernel_rfl) rfl (okWide_bool_mk Tryd.underlying4 true))⟩

theorem fileBounds_said : Rows.FileBoundsSaid :=
  OpenClaim.holds_of_cond 4 Tryd.f4 rfl rfl rfl rfl rfl rfl rfl ⟨rfl, rfl, rfl, rfl, rfl⟩ rfl rfl rfl rfl rfl (by kernel_rfl) Tryd.func4 (by kernel_rfl)
    (of_decide_eq_true (by kernel_rfl)) (by unfold Func.isWrapper; first | (rw [if_pos (by decide +kernel)]; kernel_rfl) | (rw [if_neg (by decide +kernel)]; exact ⟨rfl, rfl⟩))
    (fun os started H enc _ F => by rw [OpenClaim.pre_eq_preRow]; exact fileBounds_lifted os started H enc F)

theorem fileBounds_plain (f : FuncId) (fn : Func) (hf : Tryd.pinned.checked.prog.funcNamed "quittance/quittancelaw08.FileBounds" = some f) (hfn : Tryd.pinned.checked.prog.funcs[f]? = some fn) :
    true = Tryd.pinned.checked.prog.looks [] ∧ ∀ (j : Nat) t, fn.params[j]? = some t → Tryd.pinned.checked.prog.wantsStandIn t = false := by
  obtain rfl : f = 4 := Option.some.inj ((show Tryd.prog.funcNamed "quittance/quittancelaw08.FileBounds" = some 4 by kernel_rfl).symm.trans hf) |>.symm
  obtain rfl : fn = Tryd.f4 := (Option.some.inj (Tryd.func4.symm.trans hfn)).symm
  refine ⟨by kernel_rfl, fun j t ht => ?_⟩
  rw [Tryd.params4] at ht
  have hm : t ∈ [2, 5] := by simpa using Array.mem_of_getElem? ht
  have hall : ([2, 5].all fun u => !Tryd.prog.wantsStandIn u) = true := by kernel_rfl
  exact (show Tryd.prog.wantsStandIn t = false by simpa using List.all_eq_true.1 hall t hm)

theorem fileBounds_card : Rows.FileBoundsCardSaid :=
  Claim7.holds_tied_plain_at .later [] _ _ _ _ fileBounds_said (fun _ h => by cases h) (by kernel_rfl) (fun _ h => by cases h) fileBounds_row_tie rfl ⟨rfl, rfl⟩ (by kernel_rfl) rfl fileBounds_plain (by kernel_rfl)
end Go.Proofs.YtoagphighgejnaaDoor
