/- For every input the law FileBack returns true and leaves its arguments as they were. Conditions: the row's own; the card ties the listed variables to the program's text. -/
import Derived.Test.YtoagphighgejnaaGreatDoorNB
import Derived.Test.YtoagphighgejnaaGreatDoorRD
set_option linter.unusedSimpArgs false
set_option linter.unusedVariables false
namespace Go.Proofs.YtoagphighgejnaaGreatDoor
open Go.ChangeShapes Go.WideShapes Go.ChangeAt Go.RowKit
open Go.ChangeMaps (open_string shut_string)

set_option maxRecDepth 100000 in
theorem fileBack_lifted (os : Os) (started : os.Started) (H : Type) (enc : TypeId × Value → H) (F : Stop.Interp) :
    ReturnsInHanded {} Tryz.checked os 5 .any ((OpenSpec.ofChange Rows.fileBackSpec).preRow enc Tryz.prog Tryz.f5 Rows.fileBackRow.domain false Rows.fileBackRow.laid) (((OpenSpec.ofChange Rows.fileBackSpec).at F).post enc Tryz.prog Tryz.f5 false true false false) := by
  have hx : DataW.whole enc Tryz.prog ((World.laidAll Tryz.prog os laid7).forCall (fun _ _ => 0) ⟨#[], #[.slice none 0 0, .slice none 0 0, .bool false, .string ⟨#[]⟩, .int .u16 0], []⟩).memory Tryz.f5.params.toList Rows.fileBackSpec.vars false (#[.slice none 0 0, .slice none 0 0, .bool false, .string ⟨#[]⟩, .int .u16 0] : Array Value).toList 8 = some ([.nil, .nil, .lit (.bool false), .lit (.string []), .lit (.int .u16 0)], [], []) := by kernel_rfl
  refine returnsInHanded_of_row (C := Tryz.checked) (s := (OpenSpec.ofChange Rows.fileBackSpec)) own started (by kernel_rfl) Tryz.func5
    (witness7 (enc := enc) os #[.slice none 0 0, .slice none 0 0, .bool false, .string ⟨#[]⟩, .int .u16 0] (by kernel_rfl) (OpenSpec.preRow_of_cond 8 hx (by kernel_rfl) (fun k hk => by cases hk) (by kernel_rfl) (met7 os _))) ?_
  intro W base args ds gs before hval0 hW _ hcond hsz0 hL hSh _
  have hsz : (DataW.weightsEach Tryz.prog (Tryz.f5.params.toList ++ Rows.fileBackSpec.plain.varTypes Tryz.prog) (ds ++ gs)).all (· ≤ reachBytes) = true := hsz0
  clear hsz0
  have hval : ∀ (j : Nat) t v, Tryz.f5.params[j]? = some t → args[j]? = some v → Value.okWide Tryz.prog W .any base t v := hval0
  have hW' := hW
  have hlt : ∀ p ∈ before, p.block < W.heap.size := fun p hp => hW'.lt p hp
  obtain ⟨p, q, hA0, hV, rfl, _, _⟩ := hW
  have hA : DataW.TrodAll enc Tryz.prog W 0 (fun _ => true) true Tryz.f5.params.toList args.toList ds p := hA0
  rw [Tryz.params5] at hA hval hsz
  have hA1 := hA
  obtain ⟨v0, v1, v2, v3, v4, d0, d1, d2, d3, d4, p0, p1, p2, p3, p4, rfl, rfl, rfl, h0, h1, h2, h3, h4⟩ := trodAll_five hA
  obtain ⟨rfl, rfl⟩ := trodVars_none hV
  obtain ⟨A0, n0, c0, y0, rfl, r0, b0, k0⟩ := open_nums Tryz.underlying22 Tryz.underlying5 cells5 (hval 0 22 v0 rfl rfl) h0
  obtain ⟨A1, n1, c1, y1, rfl, r1, b1, k1⟩ := open_nums Tryz.underlying22 Tryz.underlying5 cells5 (hval 1 22 v1 rfl rfl) h1
  obtain ⟨x2, rfl, rfl, rfl⟩ := open_bool Tryz.underlying4 (hval 2 4 v2 rfl rfl) h2
  obtain ⟨s3, rfl, rfl, rfl, w3⟩ := open_string Tryz.underlying9 (hval 3 9 v3 rfl rfl) h3
  have l3 : s3.size ≤ 140737488355328 := by
    have h1 := sized_string hsz (j := 3) (t := 9) rfl rfl
    have h2 := reachBytes_lt
    have e1 : s3.size = s3.data.size := rfl
    have e2 : s3.data.toList.length = s3.data.size := Array.length_toList
    have e3 : (2 : Nat) ^ 47 = 140737488355328 := by decide
    omega
  obtain ⟨x4, rfl, rfl, rfl, w4⟩ := open_int Tryz.underlying23 (hval 4 23 v4 rfl rfl) h4
  have l4 : 0 ≤ x4 ∧ x4 ≤ 65535 := by
    have m0 : IntKind.u16.min = 0 := rfl
    have m1 : IntKind.u16.max = 65535 := rfl
    have h : IntKind.u16.min ≤ x4 ∧ x4 ≤ IntKind.u16.max := by simpa [Lit.wf] using w4
    rwa [m0, m1] at h
  clear hA0 hval0
  simp only [List.append_nil] at hW' hlt
  have hE : Env W := env_of hL hSh
  refine (FileBack_in A0 A1 n0 c0 n1 c1 y0 y1 x2 s3 x4 W hE r0 (fun x hx => wf_u8 (b0 x hx)) r1 (fun x hx => wf_u8 (b1 x hx)) k0 k1 l4 l3).mono fun e W' ⟨he, hb⟩ => ?_
  subst he
  exact ⟨_, rfl, post_of_below (pa := _) (pv := []) hW' (fun _ _ _ => trodAll_mk1 (shut_bool Tryz.underlying4 true)) (fun sp hsp => trodAll_stay laidOut hb (by decide +kernel) hA1 (fun p hp => hlt p (by simpa using hp)) (fun p hp => hsp p (by simpa using hp))) (fun _ _ => rfl) (by simp) hb (ok_one (by kernel_rfl) rfl (okWide_bool_mk Tryz.underlying4 true))⟩

theorem fileBack_said : Rows.FileBackSaid :=
  OpenClaim.holds_of_cond 5 Tryz.f5 rfl rfl rfl rfl rfl rfl rfl ⟨rfl, rfl, rfl, rfl, rfl⟩ rfl rfl rfl rfl rfl (by kernel_rfl) Tryz.func5 (by kernel_rfl)
    (of_decide_eq_true (by kernel_rfl)) (by unfold Func.isWrapper; first | (rw [if_pos (by decide +kernel)]; kernel_rfl) | (rw [if_neg (by decide +kernel)]; exact ⟨rfl, rfl⟩))
    (fun os started H enc _ F => by rw [OpenClaim.pre_eq_preRow]; exact fileBack_lifted os started H enc F)

theorem fileBack_plain (f : FuncId) (fn : Func) (hf : Tryz.pinned.checked.prog.funcNamed "quittance/quittancelaw08.FileBack" = some f) (hfn : Tryz.pinned.checked.prog.funcs[f]? = some fn) :
    true = Tryz.pinned.checked.prog.looks [] ∧ ∀ (j : Nat) t, fn.params[j]? = some t → Tryz.pinned.checked.prog.wantsStandIn t = false := by
  obtain rfl : f = 5 := Option.some.inj ((show Tryz.prog.funcNamed "quittance/quittancelaw08.FileBack" = some 5 by kernel_rfl).symm.trans hf) |>.symm
  obtain rfl : fn = Tryz.f5 := (Option.some.inj (Tryz.func5.symm.trans hfn)).symm
  refine ⟨by kernel_rfl, fun j t ht => ?_⟩
  rw [Tryz.params5] at ht
  have hm : t ∈ [22, 22, 4, 9, 23] := by simpa using Array.mem_of_getElem? ht
  have hall : ([22, 22, 4, 9, 23].all fun u => !Tryz.prog.wantsStandIn u) = true := by kernel_rfl
  exact (show Tryz.prog.wantsStandIn t = false by simpa using List.all_eq_true.1 hall t hm)

theorem fileBack_card : Rows.FileBackCardSaid :=
  Claim7.holds_tied_plain_at .later [] _ _ _ _ fileBack_said (fun _ h => by cases h) (by kernel_rfl) (fun _ h => by cases h) fileBack_row_tie rfl ⟨rfl, rfl⟩ (by kernel_rfl) rfl fileBack_plain (by kernel_rfl)
end Go.Proofs.YtoagphighgejnaaGreatDoor
