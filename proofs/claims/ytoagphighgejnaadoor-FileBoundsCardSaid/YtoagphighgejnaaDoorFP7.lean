/- Plain: what the lines at the bounds tell (FileBounds). Conditions: none. -/
import Derived.Test.YtoagphighgejnaaDoorFP4
import Derived.Test.YtoagphighgejnaaDoorV13
set_option linter.unusedSimpArgs false
set_option linter.unusedVariables false
namespace Go.Proofs.YtoagphighgejnaaDoor
open Go.RowKit Go.Shelf

theorem parse_ws (W : List (List (List UInt8))) (hok : ∀ ws ∈ W, WordsOk ws) (hlen : ¬ 60000 < (flatL 10 (W.map lnW)).length) : parseF (flatL 10 (W.map lnW)) = readE rd0 0 (W.map lnW) := by
  unfold parseF; rw [if_neg hlen, lines_of_flat _ (map_no10 W hok)]
theorem read_go (W : List (List (List UInt8))) (hok : ∀ ws ∈ W, WordsOk ws) {r : RdV} (h : stepsE rd0 W = some r) : readE rd0 0 (W.map lnW) = ((finE r).1, (finE r).2, 0) :=
  read_all _ _ _ _ (by rw [map_cut W hok]; exact h)
theorem read_no (W : List (List (List UInt8))) (ws : List (List UInt8)) (U : List (List (List UInt8))) (hok : ∀ x ∈ W ++ ws :: U, WordsOk x) {r : RdV} (h : stepsE rd0 W = some r) {e : Int} (h1 : (lineE r ws).1 = e) (he : ¬ e = 0) : (readE rd0 0 ((W ++ ws :: U).map lnW)).2.1 = e := by
  rw [List.map_append, List.map_cons, read_bad _ _ _ rd0 r 0 (by rw [map_cut W (fun x hx => hok x (List.mem_append_left _ hx))]; exact h) e (by rw [ln_cut (hok ws (by simp))]; exact h1) he]
def R1 : RdV := ⟨true, 1, false, [0, 0], [], [false, false], none, none⟩
def R2 (m : Int) : RdV := ⟨true, 1, false, [m, 0], [], [true, false], none, none⟩
def R3 (m k : Int) : RdV := ⟨true, 1, false, [m, k], [], [true, true], none, none⟩
abbrev wP : List (List UInt8) := [[112], wMin, [50], [49]]
theorem n0 : numL [48] = (0, 0) := by kernel_rfl
theorem n1 : numL [49] = (1, 0) := by kernel_rfl
theorem n2 : numL [50] = (2, 0) := by kernel_rfl
theorem n5 : numL [53] = (5, 0) := by kernel_rfl
theorem nm1 : numL [45, 49] = (-1, 0) := by kernel_rfl
theorem l_head : lineE rd0 wP = (0, R1) := by kernel_rfl
theorem wp_ok : WordsOk wP := ⟨by decide, by decide⟩
theorem lit_ok {ws : List (List UInt8)} (h0 : ws ≠ []) (h : ∀ x ∈ ws, ∀ c ∈ x, 45 ≤ c.toNat) : WordsOk ws := ⟨h0, h⟩
section
variable {m : Int} (h0 : -4294967296 ≤ m) (h1 : m ≤ 4294967296)
include h0 h1
theorem l_node1 : lineE R1 [[110], [49], Lib.itoa m] = if -2147483648 ≤ m ∧ m ≤ 2147483648 then (0, R2 m) else (11, R1) := by
  unfold lineE
  rw [if_neg (by simp), if_neg (by simp), if_pos (by simp), if_neg (by simp [R1]), if_neg (by simp [R1])]
  unfold nodeE; simp only
  rw [if_neg (by rw [not_or]; exact ⟨by unfold badW; rw [n1]; decide, badW_itoa h0 h1⟩), if_neg (by simp [R1]), if_neg (by unfold inW; rw [n1]; simp [R1])]
  by_cases h : -2147483648 ≤ m ∧ m ≤ 2147483648
  · rw [if_pos h, if_neg (by rw [inW_itoa h0 h1]; simpa using h), if_neg (by simp [placeW, n1, R1]), num_small _ h0 h1]
    simp [placeW, n1, R1, R2]
  · rw [if_neg h, if_pos (by rw [inW_itoa h0 h1]; exact h)]
theorem l_node2 (k : Int) : lineE (R2 k) [[110], [50], Lib.itoa m] = if -2147483648 ≤ m ∧ m ≤ 2147483648 then (0, R3 k m) else (11, R2 k) := by
  unfold lineE
  rw [if_neg (by simp), if_neg (by simp), if_pos (by simp), if_neg (by simp [R2]), if_neg (by simp [R2])]
  unfold nodeE; simp only
  rw [if_neg (by rw [not_or]; exact ⟨by unfold badW; rw [n2]; decide, badW_itoa h0 h1⟩), if_neg (by simp [R2]), if_neg (by unfold inW; rw [n2]; simp [R2])]
  by_cases h : -2147483648 ≤ m ∧ m ≤ 2147483648
  · rw [if_pos h, if_neg (by rw [inW_itoa h0 h1]; simpa using h), if_neg (by simp [placeW, n2, R2]), num_small _ h0 h1]
    simp [placeW, n2, R2, R3]
  · rw [if_neg h, if_pos (by rw [inW_itoa h0 h1]; exact h)]
theorem l_cost : lineE R1 [[97], [49], [50], [48], [53], Lib.itoa m] = if -2147483648 ≤ m ∧ m ≤ 2147483648 then (0, { R1 with arcs := [⟨0, 1, 0, 5, m⟩] }) else (11, R1) := by
  unfold lineE
  rw [if_neg (by simp), if_neg (by simp), if_neg (by simp), if_pos (by simp), if_neg (by simp [R1])]
  unfold arcE; rw [if_neg (by simp [R1])]
  unfold arcMinE; simp only
  rw [if_neg (by simp only [not_or]; exact ⟨by unfold badW; rw [n1]; decide, by unfold badW; rw [n2]; decide, by unfold badW; rw [n0]; decide, by unfold badW; rw [n5]; decide, badW_itoa h0 h1⟩), if_neg (by simp [R1])]
  by_cases h : -2147483648 ≤ m ∧ m ≤ 2147483648
  · rw [if_pos h, if_neg (by
      simp only [not_or, Classical.not_not]
      exact ⟨by unfold inW; rw [n1]; simp [R1], by unfold inW; rw [n2]; simp [R1], by unfold inW; rw [n0]; simp, by unfold bndW; rw [n5, n0]; simp, (inW_itoa h0 h1).2 h⟩)]
    simp [n1, n2, n0, n5, bndV, R1, num_small _ h0 h1]
  · rw [if_neg h, if_pos (.inr (.inr (.inr (.inr (fun x => h ((inW_itoa h0 h1).1 x))))))]
theorem l_cap : lineE R1 [[97], [49], [50], [48], Lib.itoa m, [49]] = if m = -1 ∨ (0 ≤ m ∧ m ≤ 2147483648) then (0, { R1 with arcs := [⟨0, 1, 0, bndV (Lib.itoa m), 1⟩] }) else (11, R1) := by
  have hb : bndW (Lib.itoa m) (numL [48]).1 ↔ (m = -1 ∨ (0 ≤ m ∧ m ≤ 2147483648)) := by unfold bndW; rw [num_small _ h0 h1, n0]; simp
  unfold lineE
  rw [if_neg (by simp), if_neg (by simp), if_neg (by simp), if_pos (by simp), if_neg (by simp [R1])]
  unfold arcE; rw [if_neg (by simp [R1])]
  unfold arcMinE; simp only
  rw [if_neg (by simp only [not_or]; exact ⟨by unfold badW; rw [n1]; decide, by unfold badW; rw [n2]; decide, by unfold badW; rw [n0]; decide, badW_itoa h0 h1, by unfold badW; rw [n1]; decide⟩), if_neg (by simp [R1])]
  by_cases h : m = -1 ∨ (0 ≤ m ∧ m ≤ 2147483648)
  · rw [if_pos h, if_neg (by
      simp only [not_or, Classical.not_not]
      exact ⟨by unfold inW; rw [n1]; simp [R1], by unfold inW; rw [n2]; simp [R1], by unfold inW; rw [n0]; simp, hb.2 h, by unfold inW; rw [n1]; simp⟩)]
    simp [n1, n2, n0, R1]
  · rw [if_neg h, if_pos (.inr (.inr (.inr (.inl (fun x => h (hb.1 x))))))]
theorem l_low : lineE R1 [[97], [49], [50], Lib.itoa m, [45, 49], [49]] = if 0 ≤ m ∧ m ≤ 2147483648 then (0, { R1 with arcs := [⟨0, 1, m, infC, 1⟩] }) else (11, R1) := by
  unfold lineE
  rw [if_neg (by simp), if_neg (by simp), if_neg (by simp), if_pos (by simp), if_neg (by simp [R1])]
  unfold arcE; rw [if_neg (by simp [R1])]
  unfold arcMinE; simp only
  rw [if_neg (by simp only [not_or]; exact ⟨by unfold badW; rw [n1]; decide, by unfold badW; rw [n2]; decide, badW_itoa h0 h1, by unfold badW; rw [nm1]; decide, by unfold badW; rw [n1]; decide⟩), if_neg (by simp [R1])]
  by_cases h : 0 ≤ m ∧ m ≤ 2147483648
  · rw [if_pos h, if_neg (by
      simp only [not_or, Classical.not_not]
      exact ⟨by unfold inW; rw [n1]; simp [R1], by unfold inW; rw [n2]; simp [R1], (inW_itoa h0 h1).2 h, by unfold bndW; rw [nm1]; simp, by unfold inW; rw [n1]; simp⟩)]
    simp [n1, n2, nm1, bndV, R1, num_small _ h0 h1]
  · rw [if_neg h, if_pos (.inr (.inr (.inl (fun x => h ((inW_itoa h0 h1).1 x)))))]
end
theorem l_arc3 (m k : Int) : lineE (R3 m k) [[97], [49], [50], [48], [53], [49]] = (0, { R3 m k with arcs := [⟨0, 1, 0, 5, 1⟩] }) := by
  unfold lineE
  rw [if_neg (by simp), if_neg (by simp), if_neg (by simp), if_pos (by simp), if_neg (by simp [R3])]
  unfold arcE; rw [if_neg (by simp [R3])]
  unfold arcMinE; simp only
  rw [if_neg (by simp only [not_or]; exact ⟨by unfold badW; rw [n1]; decide, by unfold badW; rw [n2]; decide, by unfold badW; rw [n0]; decide, by unfold badW; rw [n5]; decide, by unfold badW; rw [n1]; decide⟩), if_neg (by simp [R3])]
  rw [if_neg (by
      simp only [not_or, Classical.not_not]
      exact ⟨by unfold inW; rw [n1]; simp [R3], by unfold inW; rw [n2]; simp [R3], by unfold inW; rw [n0]; simp, by unfold bndW; rw [n5, n0]; simp, by unfold inW; rw [n1]; simp⟩)]
  simp [n1, n2, n0, n5, bndV, R3]
theorem itoa_ok {ws : List (List UInt8)} {m : Int} (a b : List (List UInt8)) (h : ws = a ++ Lib.itoa m :: b) (ha : ∀ x ∈ a, ∀ c ∈ x, 45 ≤ c.toNat) (hb : ∀ x ∈ b, ∀ c ∈ x, 45 ≤ c.toNat) : WordsOk ws := by
  subst h
  refine ⟨by simp, fun x hx => ?_⟩
  simp only [List.mem_append, List.mem_cons] at hx
  rcases hx with hx | rfl | hx
  · exact ha x hx
  · exact itoa_ge m
  · exact hb x hx
def W0 (m : Int) : List (List (List UInt8)) := [wP, [[110], [49], Lib.itoa m], [[110], [50], Lib.itoa (-m)], [[97], [49], [50], [48], [53], [49]]]
def W1 (m : Int) : List (List (List UInt8)) := [wP, [[97], [49], [50], [48], [53], Lib.itoa m]]
def W2 (m : Int) : List (List (List UInt8)) := [wP, [[97], [49], [50], [48], Lib.itoa m, [49]]]
def W3 (m : Int) : List (List (List UInt8)) := [wP, [[97], [49], [50], Lib.itoa m, [45, 49], [49]]]
theorem w0_ok (m : Int) : ∀ ws ∈ W0 m, WordsOk ws := by
  intro ws h
  simp only [W0, List.mem_cons, List.not_mem_nil, or_false] at h
  rcases h with rfl | rfl | rfl | rfl
  · exact wp_ok
  · exact itoa_ok [[110], [49]] [] rfl (by decide) (by decide)
  · exact itoa_ok [[110], [50]] [] rfl (by decide) (by decide)
  · exact ⟨by decide, by decide⟩
theorem w1_ok (m : Int) : ∀ ws ∈ W1 m, WordsOk ws := by
  intro ws h
  simp only [W1, List.mem_cons, List.not_mem_nil, or_false] at h
  rcases h with rfl | rfl
  · exact wp_ok
  · exact itoa_ok [[97], [49], [50], [48], [53]] [] rfl (by decide) (by decide)
theorem w2_ok (m : Int) : ∀ ws ∈ W2 m, WordsOk ws := by
  intro ws h
  simp only [W2, List.mem_cons, List.not_mem_nil, or_false] at h
  rcases h with rfl | rfl
  · exact wp_ok
  · exact itoa_ok [[97], [49], [50], [48]] [[49]] rfl (by decide) (by decide)
theorem w3_ok (m : Int) : ∀ ws ∈ W3 m, WordsOk ws := by
  intro ws h
  simp only [W3, List.mem_cons, List.not_mem_nil, or_false] at h
  rcases h with rfl | rfl
  · exact wp_ok
  · exact itoa_ok [[97], [49], [50]] [[45, 49], [49]] rfl (by decide) (by decide)
section
variable {m : Int} (h0 : -2147483651 ≤ m) (h1 : m ≤ 2147483651)
include h0 h1
theorem b0_yes (h : -2147483648 ≤ m ∧ m ≤ 2147483648) : (readE rd0 0 ((W0 m).map lnW)).2.1 = 0 := by
  rw [read_go (W0 m) (w0_ok m) (r := { R3 m (-m) with arcs := [⟨0, 1, 0, 5, 1⟩] })]
  · show (finE _).2 = 0
    unfold finE
    rw [if_neg (by simp [R3]), if_neg (by simp [R3]), if_neg (by simp [R3]; omega)]
  · unfold W0
    simp only [stepsE, l_head, l_node1 (m := m) (by omega) (by omega), l_node2 (m := -m) (by omega) (by omega) m, l_arc3, if_pos h, if_pos (show -2147483648 ≤ -m ∧ -m ≤ 2147483648 by omega), if_true]
theorem b0_no (h : ¬ (-2147483648 ≤ m ∧ m ≤ 2147483648)) : (readE rd0 0 ((W0 m).map lnW)).2.1 = 11 :=
  read_no [wP] [[110], [49], Lib.itoa m] _ (w0_ok m) (r := R1) (by simp [stepsE, l_head]) (by rw [l_node1 (by omega) (by omega), if_neg h]) (by decide)
theorem b1_yes (h : -2147483648 ≤ m ∧ m ≤ 2147483648) : (readE rd0 0 ((W1 m).map lnW)).2.1 = 0 := by
  rw [read_go (W1 m) (w1_ok m) (r := { R1 with arcs := [⟨0, 1, 0, 5, m⟩] })]
  · show (finE _).2 = 0
    unfold finE
    rw [if_neg (by simp [R1]), if_neg (by simp [R1]), if_neg (by simp [R1])]
  · unfold W1
    simp only [stepsE, l_head, l_cost (m := m) (by omega) (by omega), if_pos h, if_true]
theorem b1_no (h : ¬ (-2147483648 ≤ m ∧ m ≤ 2147483648)) : (readE rd0 0 ((W1 m).map lnW)).2.1 = 11 :=
  read_no [wP] [[97], [49], [50], [48], [53], Lib.itoa m] [] (w1_ok m) (r := R1) (by simp [stepsE, l_head]) (by rw [l_cost (by omega) (by omega), if_neg h]) (by decide)
theorem b2_yes (h : m = -1 ∨ (0 ≤ m ∧ m ≤ 2147483648)) : readE rd0 0 ((W2 m).map lnW) = (⟨false, [0, 0], [⟨0, 1, 0, bndV (Lib.itoa m), 1⟩], 0, 0⟩, 0, 0) := by
  rw [read_go (W2 m) (w2_ok m) (r := { R1 with arcs := [⟨0, 1, 0, bndV (Lib.itoa m), 1⟩] })]
  · have e : finE { R1 with arcs := [⟨0, 1, 0, bndV (Lib.itoa m), 1⟩] } = (⟨false, [0, 0], [⟨0, 1, 0, bndV (Lib.itoa m), 1⟩], 0, 0⟩, 0) := by
      unfold finE
      rw [if_neg (by simp [R1]), if_neg (by simp [R1]), if_neg (by simp [R1])]
      rfl
    rw [e]
  · unfold W2
    simp only [stepsE, l_head, l_cap (m := m) (by omega) (by omega), if_pos h, if_true]
theorem b2_no (h : ¬ (m = -1 ∨ (0 ≤ m ∧ m ≤ 2147483648))) : (readE rd0 0 ((W2 m).map lnW)).2.1 = 11 :=
  read_no [wP] [[97], [49], [50], [48], Lib.itoa m, [49]] [] (w2_ok m) (r := R1) (by simp [stepsE, l_head]) (by rw [l_cap (by omega) (by omega), if_neg h]) (by decide)
theorem b3_yes (h : 0 ≤ m ∧ m ≤ 2147483648) : (readE rd0 0 ((W3 m).map lnW)).2.1 = 0 := by
  rw [read_go (W3 m) (w3_ok m) (r := { R1 with arcs := [⟨0, 1, m, infC, 1⟩] })]
  · show (finE _).2 = 0
    unfold finE
    rw [if_neg (by simp [R1]), if_neg (by simp [R1]), if_neg (by simp [R1])]
  · unfold W3
    simp only [stepsE, l_head, l_low (m := m) (by omega) (by omega), if_pos h, if_true]
theorem b3_no (h : ¬ (0 ≤ m ∧ m ≤ 2147483648)) : (readE rd0 0 ((W3 m).map lnW)).2.1 = 11 :=
  read_no [wP] [[97], [49], [50], Lib.itoa m, [45, 49], [49]] [] (w3_ok m) (r := R1) (by simp [stepsE, l_head]) (by rw [l_low (by omega) (by omega), if_neg h]) (by decide)
end
theorem bnd_m1 {m : Int} (h : m = -1) : bndV (Lib.itoa m) = infC := by unfold bndV; rw [num_small _ (by omega) (by omega)]; simp [h]

theorem tm_lt (n : Int) : -2147483651 ≤ n.tmod 2147483651 ∧ n.tmod 2147483651 ≤ 2147483651 := by
  rcases Int.le_total 0 n with h | h
  · rw [Int.tmod_eq_emod_of_nonneg h]; omega
  · have e : n = -(-n) := by omega
    rw [e, Int.neg_tmod, Int.tmod_eq_emod_of_nonneg (by omega)]; omega
theorem flat4 (a b c d : List UInt8) : flatL 10 [a, b, c, d] = a ++ [10] ++ b ++ [10] ++ c ++ [10] ++ d ++ [10] := by simp [flatL]
theorem flat2 (a b : List UInt8) : flatL 10 [a, b] = a ++ [10] ++ b ++ [10] := by simp [flatL]
def fitJ (j m : Int) : Prop := if j = 2 then (m = -1 ∨ (0 ≤ m ∧ m ≤ 2147483648)) else if j = 3 then (0 ≤ m ∧ m ≤ 2147483648) else (-2147483648 ≤ m ∧ m ≤ 2147483648)
instance (j m : Int) : Decidable (fitJ j m) := by unfold fitJ; infer_instance
def WJ (j m : Int) : List (List (List UInt8)) := if j = 0 then W0 m else if j = 1 then W1 m else if j = 2 then W2 m else W3 m
theorem itoa_lt (m : Int) (h0 : -2147483651 ≤ m) (h1 : m ≤ 2147483651) : (Lib.itoa m).length ≤ 21 := Lib.itoa_length_le m (by omega) (by omega)
/-- what the lines of the bounds tell -/
def BndTell (j m : Int) (l : List UInt8) : Prop := ∃ p x, parseF l = (p, if fitJ j m then 0 else 11, x) ∧ (j = 2 → m = -1 → p.arcs = [⟨0, 1, 0, infC, 1⟩])
theorem txt0 (S S2 : ByteArray) (m : Int) (hS : S.data.toList = Lib.itoa m) (hS2 : S2.data.toList = Lib.itoa (-m)) : ((⟨#[112, 32, 109, 105, 110, 32, 50, 32, 49, 10]⟩ : ByteArray) ++ ((((⟨#[110, 32, 49, 32]⟩ ++ S) ++ ⟨#[10, 110, 32, 50, 32]⟩) ++ S2) ++ ⟨#[10, 97, 32, 49, 32, 50, 32, 48, 32, 53, 32, 49, 10]⟩)).data.toList = flatL 10 ((W0 m).map lnW) := by
  simp [hS, hS2, W0, lnW, Lib.join_cons, Lib.joinTail, flat4, wMin]
theorem tell0 (m : Int) (h0 : -2147483651 ≤ m) (h1 : m ≤ 2147483651) : BndTell 0 m (flatL 10 ((W0 m).map lnW)) := by
  have hi := itoa_lt m h0 h1
  have hi2 := itoa_lt (-m) (by omega) (by omega)
  have hl : ¬ 60000 < (flatL 10 ((W0 m).map lnW)).length := by
    simp [W0, lnW, Lib.join_cons, Lib.joinTail, flat4, wMin]; omega
  unfold BndTell
  rw [parse_ws (W0 m) (w0_ok m) hl]
  have hf : fitJ 0 m ↔ (-2147483648 ≤ m ∧ m ≤ 2147483648) := by simp [fitJ]
  by_cases h : fitJ 0 m
  · rw [if_pos h]
    exact ⟨_, _, Prod.ext rfl (Prod.ext (b0_yes h0 h1 (hf.1 h)) rfl), fun e => absurd e (by decide)⟩
  · rw [if_neg h]
    refine ⟨_, _, Prod.ext rfl (Prod.ext (b0_no h0 h1 (fun x => h (hf.2 x))) rfl), ?_⟩
    exact fun e => absurd e (by decide)
theorem txt1 (S S2 : ByteArray) (m : Int) (hS : S.data.toList = Lib.itoa m) (hS2 : S2.data.toList = Lib.itoa (-m)) : ((⟨#[112, 32, 109, 105, 110, 32, 50, 32, 49, 10]⟩ : ByteArray) ++ ((⟨#[97, 32, 49, 32, 50, 32, 48, 32, 53, 32]⟩ ++ S) ++ ⟨#[10]⟩)).data.toList = flatL 10 ((W1 m).map lnW) := by
  simp [hS, hS2, W1, lnW, Lib.join_cons, Lib.joinTail, flat2, wMin]
theorem tell1 (m : Int) (h0 : -2147483651 ≤ m) (h1 : m ≤ 2147483651) : BndTell 1 m (flatL 10 ((W1 m).map lnW)) := by
  have hi := itoa_lt m h0 h1
  have hi2 := itoa_lt (-m) (by omega) (by omega)
  have hl : ¬ 60000 < (flatL 10 ((W1 m).map lnW)).length := by
    simp [W1, lnW, Lib.join_cons, Lib.joinTail, flat2, wMin]; omega
  unfold BndTell
  rw [parse_ws (W1 m) (w1_ok m) hl]
  have hf : fitJ 1 m ↔ (-2147483648 ≤ m ∧ m ≤ 2147483648) := by simp [fitJ]
  by_cases h : fitJ 1 m
  · rw [if_pos h]
    exact ⟨_, _, Prod.ext rfl (Prod.ext (b1_yes h0 h1 (hf.1 h)) rfl), fun e => absurd e (by decide)⟩
  · rw [if_neg h]
    refine ⟨_, _, Prod.ext rfl (Prod.ext (b1_no h0 h1 (fun x => h (hf.2 x))) rfl), ?_⟩
    exact fun e => absurd e (by decide)
theorem txt2 (S S2 : ByteArray) (m : Int) (hS : S.data.toList = Lib.itoa m) (hS2 : S2.data.toList = Lib.itoa (-m)) : ((⟨#[112, 32, 109, 105, 110, 32, 50, 32, 49, 10]⟩ : ByteArray) ++ ((⟨#[97, 32, 49, 32, 50, 32, 48, 32]⟩ ++ S) ++ ⟨#[32, 49, 10]⟩)).data.toList = flatL 10 ((W2 m).map lnW) := by
  simp [hS, hS2, W2, lnW, Lib.join_cons, Lib.joinTail, flat2, wMin]
theorem tell2 (m : Int) (h0 : -2147483651 ≤ m) (h1 : m ≤ 2147483651) : BndTell 2 m (flatL 10 ((W2 m).map lnW)) := by
  have hi := itoa_lt m h0 h1
  have hi2 := itoa_lt (-m) (by omega) (by omega)
  have hl : ¬ 60000 < (flatL 10 ((W2 m).map lnW)).length := by
    simp [W2, lnW, Lib.join_cons, Lib.joinTail, flat2, wMin]; omega
  unfold BndTell
  rw [parse_ws (W2 m) (w2_ok m) hl]
  have hf : fitJ 2 m ↔ (m = -1 ∨ (0 ≤ m ∧ m ≤ 2147483648)) := by simp [fitJ]
  by_cases h : fitJ 2 m
  · rw [if_pos h]
    rw [b2_yes h0 h1 (hf.1 h)]
    exact ⟨_, _, rfl, fun _ hm => by rw [bnd_m1 hm]⟩
  · rw [if_neg h]
    refine ⟨_, _, Prod.ext rfl (Prod.ext (b2_no h0 h1 (fun x => h (hf.2 x))) rfl), ?_⟩
    exact fun _ hm => absurd (hf.2 (.inl hm)) h
theorem txt3 (S S2 : ByteArray) (m : Int) (hS : S.data.toList = Lib.itoa m) (hS2 : S2.data.toList = Lib.itoa (-m)) : ((⟨#[112, 32, 109, 105, 110, 32, 50, 32, 49, 10]⟩ : ByteArray) ++ ((⟨#[97, 32, 49, 32, 50, 32]⟩ ++ S) ++ ⟨#[32, 45, 49, 32, 49, 10]⟩)).data.toList = flatL 10 ((W3 m).map lnW) := by
  simp [hS, hS2, W3, lnW, Lib.join_cons, Lib.joinTail, flat2, wMin]
theorem tell3 (m : Int) (h0 : -2147483651 ≤ m) (h1 : m ≤ 2147483651) : BndTell 3 m (flatL 10 ((W3 m).map lnW)) := by
  have hi := itoa_lt m h0 h1
  have hi2 := itoa_lt (-m) (by omega) (by omega)
  have hl : ¬ 60000 < (flatL 10 ((W3 m).map lnW)).length := by
    simp [W3, lnW, Lib.join_cons, Lib.joinTail, flat2, wMin]; omega
  unfold BndTell
  rw [parse_ws (W3 m) (w3_ok m) hl]
  have hf : fitJ 3 m ↔ (0 ≤ m ∧ m ≤ 2147483648) := by simp [fitJ]
  by_cases h : fitJ 3 m
  · rw [if_pos h]
    exact ⟨_, _, Prod.ext rfl (Prod.ext (b3_yes h0 h1 (hf.1 h)) rfl), fun e => absurd e (by decide)⟩
  · rw [if_neg h]
    refine ⟨_, _, Prod.ext rfl (Prod.ext (b3_no h0 h1 (fun x => h (hf.2 x))) rfl), ?_⟩
    exact fun e => absurd e (by decide)
def STx (S : ByteArray) (m : Int) : Prop := S.data.toList = Lib.itoa m
end Go.Proofs.YtoagphighgejnaaDoor
