/- FileParses (3). Conditions: none. -/
import Derived.Test.YtoagphighgejnaaDoorV13
set_option linter.unusedSimpArgs false
set_option linter.unusedVariables false
namespace Go.Proofs.YtoagphighgejnaaDoor
open Go.RowKit Go.Shelf

set_option maxHeartbeats 3200000 in
set_option maxRecDepth 100000 in
theorem FileParses_in (s : ByteArray) (A : Option Addr) (n c : Nat) (ys : List Int) (w : World) (hE : Env w) (hl : s.size ≤ 140737488355328) (hr : Reads w w.heap.size 1 A n (ys.map (fun x : Int => .int .u8 x))) (hy : ∀ x ∈ ys, 0 ≤ x ∧ x ≤ 255) (hn : n ≤ 9223372036854775807) :
    Calls Tryd.prog 3 #[.string s, .slice A n c] w fun e w' => e = .returned (.bool true) ∧ Below w.heap.size w w' := by
  have HE := Lib.hid hE
  have HK := Lib.hid (fun W (hb : Below w.heap.size w W) => known_in W (hE.on hb))
  have HPS := Lib.hid (fun T W (hb : Below w.heap.size w W) => parses_in T W (hE.on hb))
  have HSR := Lib.hid (fun W (hb : Below w.heap.size w W) => Source_in A n c ys W ((hr.below hb).more hb.size) hy hn)
  have HNR := Lib.hid (fun W (hb : Below w.heap.size w W) => Near_in A n c ys W ((hr.below hb).more hb.size) hy hn)
  clear hE hr hy
  by_cases hs : s.size ≤ 200
  · have hs' : ¬ (200 : Int) < s.size := by omega
    go_enter Tryd.func3, Tryd.ntmps3
    go_wp2_with fail
    refine (HK.out _ (Below.refl _ w)).mono ?_
    rintro e w1 ⟨rfl, hb1⟩
    go_wp2_with fail
    refine (HPS.out _ _ hb1).mono ?_
    rintro e w2 ⟨rfl, hb2⟩
    have hb2' := hb1.trans (hb2.mono hb1.size)
    go_wp2_with fail
    refine (HSR.out _ hb2').mono ?_
    rintro e w3 ⟨T1, rfl, hT1, hb3⟩
    have hb3' := hb2'.trans (hb3.mono hb2'.size)
    go_wp2_with fail
    refine (HPS.out _ _ hb3').mono ?_
    rintro e w4 ⟨rfl, hb4⟩
    have hb4' := hb3'.trans (hb4.mono hb3'.size)
    go_wp2_with fail
    refine (HPS.out _ _ hb4').mono ?_
    rintro e w5 ⟨rfl, hb5⟩
    have hb5' := hb4'.trans (hb5.mono hb4'.size)
    go_wp2_with fail
    refine (HPS.out _ _ hb5').mono ?_
    rintro e w6 ⟨rfl, hb6⟩
    have hb6' := hb5'.trans (hb6.mono hb5'.size)
    go_wp2_with fail
    refine (HNR.out _ hb6').mono ?_
    rintro e w7 ⟨T2, rfl, hT2, hb7⟩
    have hb7' := hb6'.trans (hb7.mono hb6'.size)
    go_wp2_with fail
    refine (HPS.out _ _ hb7').mono ?_
    rintro e w8 ⟨rfl, hb8⟩
    have hb8' := hb7'.trans (hb8.mono hb7'.size)
    go_wp2_with fail
    refine (HSR.out _ hb8').mono ?_
    rintro e w9 ⟨T3, rfl, hT3, hb9⟩
    have hb9' := hb8'.trans (hb9.mono hb8'.size)
    go_wp2_with fail
    refine (HPS.out _ _ hb9').mono ?_
    rintro e w10 ⟨rfl, hb10⟩
    have HB := Lib.hid (hb9'.trans (hb10.mono hb9'.size))
    clear hb1 hb2 hb3 hb4 hb5 hb6 hb7 hb8 hb9 hb10 hb2' hb3' hb4' hb5' hb6' hb7' hb8' hb9'
    go_wp2_with fail
    go_ret
    exact ⟨rfl, HB.out⟩
  · have hs' : (200 : Int) < s.size := by omega
    go_enter Tryd.func3, Tryd.ntmps3
    go_wp2_with fail
    refine (HK.out _ (Below.refl _ w)).mono ?_
    rintro e w1 ⟨rfl, hb1⟩
    go_wp2_with fail
    go_ret
    exact ⟨rfl, hb1⟩
end Go.Proofs.YtoagphighgejnaaDoor
