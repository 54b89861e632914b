/- Plain: a list has a thousand numbers at most, both ways. Conditions: none. -/
import Derived.Test.YtpfbgoogajgciaaDoorP2
import Derived.Test.YtpfbgoogajgciaaDoorF7
set_option linter.unusedSimpArgs false
set_option linter.unusedVariables false
namespace Go.Proofs.YtpfbgoogajgciaaDoor
open Go.RowKit Go.Shelf

/-- the text that is made -/
def manyL (l : List Int) : List UInt8 := bestL ++ [10] ++ Lib.join (Fld.flow.name :: l.map Lib.itoa) [32]
theorem many_nil : manyL [] = [98, 101, 115, 116, 10, 102, 108, 111, 119] := by decide +kernel
theorem many_snoc (l : List Int) (x : Int) : manyL (l ++ [x]) = manyL l ++ [32] ++ Lib.itoa x := by
  unfold manyL
  rw [List.map_append, List.map_singleton, join_snoc]
  simp [List.append_assoc]
theorem many_len (l : List Int) (hl : ∀ x ∈ l, -9223372036854775808 ≤ x ∧ x ≤ 9223372036854775807) : (manyL l).length ≤ 9 + 22 * l.length := by
  have := join_all_le Fld.flow.name l hl
  unfold manyL
  simp only [List.length_append]
  have e1 : bestL.length = 4 := rfl
  have e2 : Fld.flow.name.length = 4 := rfl
  simp only [List.length_singleton]
  omega
theorem no10 (f : Fld) : (10 : UInt8) ∉ f.name := by cases f <;> decide
theorem parse_many (l : List Int) (hl : ∀ x ∈ l, -9223372036854775808 ≤ x ∧ x ≤ 9223372036854775807) (hn : l.length ≤ 2000) :
    parseL (manyL l ++ [10, 112, 111, 116, 10]) = if 1000 < l.length then (cert0, 20, 2) else (⟨1, l, [], [], []⟩, 0, 0) := by
  have hlen := many_len l hl
  have e : manyL l ++ [10, 112, 111, 116, 10] = bestL ++ [10] ++ (Lib.join (Fld.flow.name :: l.map Lib.itoa) [32] ++ [10]) ++ (Fld.pot.name ++ [10]) := by
    unfold manyL; simp [Fld.name, List.append_assoc]
  have hL : linesL (manyL l ++ [10, 112, 111, 116, 10]) = [bestL, Lib.join (Fld.flow.name :: l.map Lib.itoa) [32], Fld.pot.name] := by
    rw [e]; exact lines3 _ _ _ (by decide) (words_no10 .flow l) (no10 .pot)
  unfold parseL
  rw [if_neg (by rw [List.length_append]; simp; omega), hL]
  have hw : wantF bestL = some (1, [.flow, .pot]) := rfl
  simp only [parseT, hw, goL]
  have hcut : cutL 32 (Lib.join (Fld.flow.name :: l.map Lib.itoa) [32]) = Fld.flow.name :: l.map Lib.itoa := words_cut .flow l
  have hmap : (l.map Lib.itoa).map Fld.flow.turn = l.map (fun x => (x, (0 : Int))) := by
    rw [List.map_map]
    apply List.map_congr_left
    intro x hx
    exact turn_num .flow (.inl rfl) x (hl x hx)
  have hf : listL Fld.flow.turn Fld.flow.name (cutL 32 (Lib.join (Fld.flow.name :: l.map Lib.itoa) [32])) = if 1000 < l.length then ([], 20) else (l, 0) := by
    rw [hcut]
    unfold listL
    rw [if_neg (by simp), List.tail_cons, hmap, if_neg (by simp), List.length_map]
    by_cases h : 1000 < l.length
    · rw [if_pos h, if_pos h]
    · rw [if_neg h, if_neg h, if_neg (by simp)]
      simp [Function.comp_def]
  rw [hf]
  by_cases h : 1000 < l.length
  · rw [if_pos h, if_pos h]; rfl
  · rw [if_neg h, if_neg h]
    have hp : listL Fld.pot.turn Fld.pot.name (cutL 32 Fld.pot.name) = ([], 0) := by kernel_rfl
    simp only [hp]
    rfl
theorem print_many (l : List Int) (hl : ∀ x ∈ l, -9223372036854775808 ≤ x ∧ x ≤ 9223372036854775807) (hn : l.length ≤ 2000) :
    (printL ⟨1, l, [], [], []⟩).2 = if 1000 < l.length then 20 else 0 := by
  have hlen := join_all_le Fld.flow.name l hl
  unfold printL
  rw [if_neg (by simp [plainC])]
  by_cases h : 1000 < l.length
  · rw [if_pos h, if_pos (by simp [h])]
  · rw [if_neg h, if_neg (by simp; omega), if_neg (by simp)]
    have ht : (textL ⟨1, l, [], [], []⟩).length ≤ 60000 := by
      unfold textL
      rw [if_pos rfl]
      have e2 : (lineL .pot []).length = 4 := by decide +kernel
      have e3 : (lineL .flow l).length = (Lib.join (Fld.flow.name :: l.map Lib.itoa) [32]).length + 1 := by unfold lineL; simp
      have e4 : Fld.flow.name.length = 4 := rfl
      simp only [List.length_append, e2, e3]
      have e1 : bestL.length = 4 := rfl
      simp only [List.length_singleton]
      omega
    rw [if_neg (by omega)]
end Go.Proofs.YtpfbgoogajgciaaDoor
