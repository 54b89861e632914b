/- The document's answer: Same (18) of certificates that are the same, nums (40). Conditions: none. -/
import Derived.Test.YtpfbgoogajgciaaDoorF6
set_option linter.unusedSimpArgs false
set_option linter.unusedVariables false
namespace Go.Proofs.YtpfbgoogajgciaaDoor
open Go.RowKit Go.Shelf

set_option maxHeartbeats 3200000 in
set_option maxRecDepth 100000 in
theorem Same_eq (c : CertV) (v1 v2 v3 v4 u1 u2 u3 u4 : Value) (w : World) (hA : CertR w c v1 v2 v3 v4) (hB : CertR w c u1 u2 u3 u4) (hs : ∀ x ∈ c.side, x = 0 ∨ x = 1) (n1 : c.flow.length ≤ 1000000) (n2 : c.pot.length ≤ 1000000) (n3 : c.side.length ≤ 1000000) (n4 : c.cycle.length ≤ 1000000) :
    Calls Tryd.prog 14 #[.agg #[.int .i64 c.kind, v1, v2, v3, v4], .agg #[.int .i64 c.kind, u1, u2, u3, u4]] w fun e w' => e = .returned (.bool true) ∧ Below w.heap.size w w' := by
  obtain ⟨A1, c1, rfl, -, r1⟩ := hA.flow.open_
  obtain ⟨A2, c2, rfl, -, r2⟩ := hA.pot.open_
  obtain ⟨A3, c3, rfl, -, r3⟩ := hA.side.open_
  obtain ⟨A4, c4, rfl, -, r4⟩ := hA.cycle.open_
  obtain ⟨B1, d1, rfl, -, t1⟩ := hB.flow.open_
  obtain ⟨B2, d2, rfl, -, t2⟩ := hB.pot.open_
  obtain ⟨B3, d3, rfl, -, t3⟩ := hB.side.open_
  obtain ⟨B4, d4, rfl, -, t4⟩ := hB.cycle.open_
  have HC1 : Hid (∀ W, Below w.heap.size w W → Calls Tryd.prog 28 #[.slice A1 c.flow.length c1, .slice B1 c.flow.length d1] W fun e w' => e = .returned (.bool true) ∧ ∃ q, w' = W.drewN q) :=
    Lib.hid (fun W hb => by have := same32_in A1 B1 _ c1 _ d1 _ _ _ _ W (r1.below hb) (t1.below hb) (by omega) (fun _ _ => trivial) (fun _ _ => trivial); simpa using this)
  have HC2 : Hid (∀ W, Below w.heap.size w W → Calls Tryd.prog 28 #[.slice A2 c.pot.length c2, .slice B2 c.pot.length d2] W fun e w' => e = .returned (.bool true) ∧ ∃ q, w' = W.drewN q) :=
    Lib.hid (fun W hb => by have := same32_in A2 B2 _ c2 _ d2 _ _ _ _ W (r2.below hb) (t2.below hb) (by omega) (fun _ _ => trivial) (fun _ _ => trivial); simpa using this)
  have HC3 : Hid (∀ W, Below w.heap.size w W → Calls Tryd.prog 29 #[.slice A3 c.side.length c3, .slice B3 c.side.length d3] W fun e w' => e = .returned (.bool true) ∧ ∃ q, w' = W.drewN q) :=
    Lib.hid (fun W hb => by have := same33_in A3 B3 _ c3 _ d3 _ _ _ _ W (r3.below hb) (t3.below hb) (by omega) hs hs; simpa using this)
  have HC4 : Hid (∀ W, Below w.heap.size w W → Calls Tryd.prog 30 #[.slice A4 c.cycle.length c4, .slice B4 c.cycle.length d4] W fun e w' => e = .returned (.bool true) ∧ ∃ q, w' = W.drewN q) :=
    Lib.hid (fun W hb => by have := same34_in A4 B4 _ c4 _ d4 _ _ _ _ W (r4.below hb) (t4.below hb) (by omega) (fun _ _ => trivial) (fun _ _ => trivial); simpa using this)
  generalize c.kind = k
  have kA := (Blk.new w 31 #[.int .i64 k, .slice A1 c.flow.length c1, .slice A2 c.pot.length c2, .slice A3 c.side.length c3, .slice A4 c.cycle.length c4]).alloc (.cells #[.int .i64 k, .slice B1 c.flow.length d1, .slice B2 c.pot.length d2, .slice B3 c.side.length d3, .slice B4 c.cycle.length d4] 31)
  have kB := Blk.new (w.alloc (.cells #[.int .i64 k, .slice A1 c.flow.length c1, .slice A2 c.pot.length c2, .slice A3 c.side.length c3, .slice A4 c.cycle.length c4] 31)) 31 #[.int .i64 k, .slice B1 c.flow.length d1, .slice B2 c.pot.length d2, .slice B3 c.side.length d3, .slice B4 c.cycle.length d4]
  rw [World.size_alloc] at kB
  have hb0 : Below w.heap.size w ((w.alloc (.cells #[.int .i64 k, .slice A1 c.flow.length c1, .slice A2 c.pot.length c2, .slice A3 c.side.length c3, .slice A4 c.cycle.length c4] 31)).alloc (.cells #[.int .i64 k, .slice B1 c.flow.length d1, .slice B2 c.pot.length d2, .slice B3 c.side.length d3, .slice B4 c.cycle.length d4] 31)) := ((Below.refl _ w).alloc (Nat.le_refl _) _).alloc (by simp) _
  obtain ⟨⟨q0, q1, q2, q3, q4⟩, -⟩ := kA.five
  obtain ⟨⟨p0, p1, p2, p3, p4⟩, -⟩ := kB.five
  clear kA kB r1 r2 r3 r4 t1 t2 t3 t4 hA hB hs
  have hkk : (k == k) = true := by simp
  go_enter Tryd.func14, Tryd.ntmps14
  go_wp2_with fail
  generalize ((w.alloc (.cells #[.int .i64 k, .slice A1 c.flow.length c1, .slice A2 c.pot.length c2, .slice A3 c.side.length c3, .slice A4 c.cycle.length c4] 31)).alloc (.cells #[.int .i64 k, .slice B1 c.flow.length d1, .slice B2 c.pot.length d2, .slice B3 c.side.length d3, .slice B4 c.cycle.length d4] 31)) = W0 at q0 q1 q2 q3 q4 p0 p1 p2 p3 p4 hb0 ⊢
  refine (HC1.out W0 hb0).mono ?_
  rintro e wa ⟨rfl, qa, rfl⟩
  go_wp2_with fail
  refine (HC2.out _ (hb0.trans ((below_drewN W0 qa).mono hb0.size))).mono ?_
  rintro e wb ⟨rfl, qb, rfl⟩
  go_wp2_with fail
  refine (HC3.out _ (hb0.trans ((below_drewN W0 (qa + qb)).mono hb0.size))).mono ?_
  rintro e wc ⟨rfl, qc, rfl⟩
  go_wp2_with fail
  refine (HC4.out _ (hb0.trans ((below_drewN W0 (qa + qb + qc)).mono hb0.size))).mono ?_
  rintro e wd ⟨rfl, qd, rfl⟩
  go_wp2_with fail
  go_ret
  exact ⟨rfl, hb0.trans ((below_drewN W0 (qa + qb + qc + qd)).mono hb0.size)⟩

theorem join_snoc (name : List UInt8) (l : List (List UInt8)) (x : List UInt8) : Lib.join (name :: (l ++ [x])) [32] = Lib.join (name :: l) [32] ++ [32] ++ x := by
  rw [Lib.join_cons, Lib.join_cons]; simp [Lib.joinTail]
end Go.Proofs.YtpfbgoogajgciaaDoor
