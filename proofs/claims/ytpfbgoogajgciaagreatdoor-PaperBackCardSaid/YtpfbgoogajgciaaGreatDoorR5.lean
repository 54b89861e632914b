/- For every input the law PaperBack returns true and leaves its arguments as they were. Conditions: the row's own; the card ties the listed variables to the program's text. -/
import Derived.Test.YtpfbgoogajgciaaGreatDoorRC
set_option linter.unusedSimpArgs false
set_option linter.unusedVariables false
namespace Go.Proofs.YtpfbgoogajgciaaGreatDoor
open Go.ChangeShapes Go.WideShapes Go.ChangeAt Go.RowKit
open Go.ChangeMaps (open_string shut_string)

set_option maxRecDepth 100000 in
theorem paperBack_lifted (os : Os) (started : os.Started) (H : Type) (enc : TypeId × Value → H) (F : Stop.Interp) :
    ReturnsInHanded {} Tryz.checked os 5 .any ((OpenSpec.ofChange Rows.paperBackSpec).preRow enc Tryz.prog Tryz.f5 Rows.paperBackRow.domain false Rows.paperBackRow.laid) (((OpenSpec.ofChange Rows.paperBackSpec).at F).post enc Tryz.prog Tryz.f5 false true false false) := by
  have hx : DataW.whole enc Tryz.prog ((World.laidAll Tryz.prog os laid7).forCall (fun _ _ => 0) ⟨#[], #[.agg #[.int .i64 0, .slice none 0 0, .slice none 0 0, .slice none 0 0, .slice none 0 0], .slice none 0 0, .slice none 0 0, .slice none 0 0, .int .u8 0, .string ⟨#[]⟩], []⟩).memory Tryz.f5.params.toList Rows.paperBackSpec.vars false (#[.agg #[.int .i64 0, .slice none 0 0, .slice none 0 0, .slice none 0 0, .slice none 0 0], .slice none 0 0, .slice none 0 0, .slice none 0 0, .int .u8 0, .string ⟨#[]⟩] : Array Value).toList 8 = some ([.agg [.lit (.int .i64 0), .nil, .nil, .nil, .nil], .nil, .nil, .nil, .lit (.int .u8 0), .lit (.string [])], [], []) := by kernel_rfl
  refine returnsInHanded_of_row (C := Tryz.checked) (s := (OpenSpec.ofChange Rows.paperBackSpec)) own started (by kernel_rfl) Tryz.func5
    (witness7 (enc := enc) os #[.agg #[.int .i64 0, .slice none 0 0, .slice none 0 0, .slice none 0 0, .slice none 0 0], .slice none 0 0, .slice none 0 0, .slice none 0 0, .int .u8 0, .string ⟨#[]⟩] (by kernel_rfl) (OpenSpec.preRow_of_cond 8 hx (by kernel_rfl) (fun k hk => by cases hk) (by kernel_rfl) (met7 os _))) ?_
  intro W base args ds gs before hval0 hW _ hcond hsz0 hL hSh _
  have hsz : (DataW.weightsEach Tryz.prog (Tryz.f5.params.toList ++ Rows.paperBackSpec.plain.varTypes Tryz.prog) (ds ++ gs)).all (· ≤ reachBytes) = true := hsz0
  clear hsz0
  have hval : ∀ (j : Nat) t v, Tryz.f5.params[j]? = some t → args[j]? = some v → Value.okWide Tryz.prog W .any base t v := hval0
  have hW' := hW
  have hlt : ∀ p ∈ before, p.block < W.heap.size := fun p hp => hW'.lt p hp
  obtain ⟨p, q, hA0, hV, rfl, _, _⟩ := hW
  have hA : DataW.TrodAll enc Tryz.prog W 0 (fun _ => true) true Tryz.f5.params.toList args.toList ds p := hA0
  rw [Tryz.params5] at hA hval hsz
  have hA1 := hA
  obtain ⟨v0, v1, v2, v3, v4, v5, d0, d1, d2, d3, d4, d5, p0, p1, p2, p3, p4, p5, rfl, rfl, rfl, h0, h1, h2, h3, h4, h5⟩ := trodAll_six hA
  obtain ⟨rfl, rfl⟩ := trodVars_none hV
  obtain ⟨c, u1, u2, u3, u4, rfl, hC, hO, n1, n2, n3, n4⟩ := open_cert (hval 0 32 v0 rfl rfl) h0 (fun k hk => by
    have hmem := DataW.weights_mem_each (P := Tryz.prog) (ts := [32, 22, 22, 22, 5, 9] ++ Rows.paperBackSpec.plain.varTypes Tryz.prog) (ds := [d0, d1, d2, d3, d4, d5] ++ []) (j := 0) (t := 32) (d := d0) rfl rfl k hk
    have := List.all_eq_true.1 hsz k hmem
    simpa using this)
  obtain ⟨A1, m1, k1, y1, rfl, r1, b1, l1⟩ := open_nums Tryz.underlying22 Tryz.underlying5 cells5 (hval 1 22 v1 rfl rfl) h1
  obtain ⟨A2, m2, k2, y2, rfl, r2, b2, l2⟩ := open_nums Tryz.underlying22 Tryz.underlying5 cells5 (hval 2 22 v2 rfl rfl) h2
  obtain ⟨A3, m3, k3, y3, rfl, r3, b3, l3⟩ := open_nums Tryz.underlying22 Tryz.underlying5 cells5 (hval 3 22 v3 rfl rfl) h3
  obtain ⟨x4, rfl, rfl, rfl, w4⟩ := open_int Tryz.underlying5 (hval 4 5 v4 rfl rfl) h4
  obtain ⟨s5, rfl, rfl, rfl, w5⟩ := open_string Tryz.underlying9 (hval 5 9 v5 rfl rfl) h5
  have l5 : s5.size ≤ 140737488355328 := by
    have h1 := sized_string hsz (j := 5) (t := 9) rfl rfl
    have h2 := reachBytes_lt
    have e1 : s5.size = s5.data.size := rfl
    have e2 : s5.data.toList.length = s5.data.size := Array.length_toList
    have e3 : (2 : Nat) ^ 47 = 140737488355328 := by decide
    omega
  clear hA0 hval0
  simp only [List.append_nil] at hW' hlt
  have hE : Env W := env_of hL hSh
  refine (PaperBack_in c u1 u2 u3 u4 A1 A2 A3 m1 k1 m2 k2 m3 k3 y1 y2 y3 x4 s5 W hE hC hO n1 n2 n3 n4 r1 (fun x hx => wf_u8 (b1 x hx)) l1 r2 (fun x hx => wf_u8 (b2 x hx)) l2 r3 (fun x hx => wf_u8 (b3 x hx)) l3 (wf_u8 w4) l5).mono fun e W' ⟨he, hb⟩ => ?_
  subst he
  exact ⟨_, rfl, post_of_below (pa := _) (pv := []) hW' (fun _ _ _ => trodAll_mk1 (shut_bool Tryz.underlying4 true)) (fun sp hsp => trodAll_stay laidOut hb (by decide +kernel) hA1 (fun p hp => hlt p (by simpa using hp)) (fun p hp => hsp p (by simpa using hp))) (fun _ _ => rfl) (by simp) hb (ok_one (by kernel_rfl) rfl (okWide_bool_mk Tryz.underlying4 true))⟩

theorem paperBack_said : Rows.PaperBackSaid :=
  OpenClaim.holds_of_cond 5 Tryz.f5 rfl rfl rfl rfl rfl rfl rfl ⟨rfl, rfl, rfl, rfl, rfl⟩ rfl rfl rfl rfl rfl (by kernel_rfl) Tryz.func5 (by kernel_rfl)
    (of_decide_eq_true (by kernel_rfl)) (by unfold Func.isWrapper; first | (rw [if_pos (by decide +kernel)]; kernel_rfl) | (rw [if_neg (by decide +kernel)]; exact ⟨rfl, rfl⟩))
    (fun os started H enc _ F => by rw [OpenClaim.pre_eq_preRow]; exact paperBack_lifted os started H enc F)

theorem paperBack_plain (f : FuncId) (fn : Func) (hf : Tryz.pinned.checked.prog.funcNamed "quittance/quittancelaw14.PaperBack" = some f) (hfn : Tryz.pinned.checked.prog.funcs[f]? = some fn) :
    true = Tryz.pinned.checked.prog.looks [] ∧ ∀ (j : Nat) t, fn.params[j]? = some t → Tryz.pinned.checked.prog.wantsStandIn t = false := by
  obtain rfl : f = 5 := Option.some.inj ((show Tryz.prog.funcNamed "quittance/quittancelaw14.PaperBack" = some 5 by kernel_rfl).symm.trans hf) |>.symm
  obtain rfl : fn = Tryz.f5 := (Option.some.inj (Tryz.func5.symm.trans hfn)).symm
  refine ⟨by kernel_rfl, fun j t ht => ?_⟩
  rw [Tryz.params5] at ht
  have hm : t ∈ [32, 22, 22, 22, 5, 9] := by simpa using Array.mem_of_getElem? ht
  have hall : ([32, 22, 22, 22, 5, 9].all fun u => !Tryz.prog.wantsStandIn u) = true := by kernel_rfl
  exact (show Tryz.prog.wantsStandIn t = false by simpa using List.all_eq_true.1 hall t hm)

theorem paperBack_card : Rows.PaperBackCardSaid :=
  Claim7.holds_tied_plain_at .later [] _ _ _ _ paperBack_said (fun _ h => by cases h) (by kernel_rfl) (fun _ h => by cases h) paperBack_row_tie rfl ⟨rfl, rfl⟩ (by kernel_rfl) rfl paperBack_plain (by kernel_rfl)
end Go.Proofs.YtpfbgoogajgciaaGreatDoor
