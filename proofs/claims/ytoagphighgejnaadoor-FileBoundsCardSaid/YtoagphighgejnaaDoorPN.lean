/- Plain words on numbers' words: what ParseInt answers at a word of the form. Conditions: none. -/
import Derived.Test.YtoagphighgejnaaDoorA
import Derived.Lib.ParseIntBCases
set_option linter.unusedSimpArgs false
set_option linter.unusedVariables false
namespace Go.Proofs.YtoagphighgejnaaDoor
open Go.RowKit Go.Shelf

def decFrom (a : Nat) (l : List UInt8) : Nat := l.foldl (fun a b => a * 10 + (b.toNat - 48)) a
def decL (l : List UInt8) : Nat := decFrom 0 l
/-- The number that a word of the form spells. -/
def valL : List UInt8 → Int
  | [] => 0
  | b :: l => if b = 45 then -(decL l : Int) else decL (b :: l)
/-- What Number tells: the number, and the error. -/
def numL (l : List UInt8) : Int × Int :=
  if formL l = false then (0, 10) else if -9223372036854775808 ≤ valL l ∧ valL l ≤ 9223372036854775807 then (valL l, 0) else (0, 11)

theorem decFrom_nil (a : Nat) : decFrom a [] = a := rfl
theorem decFrom_cons (a : Nat) (b : UInt8) (l : List UInt8) : decFrom a (b :: l) = decFrom (a * 10 + (b.toNat - 48)) l := by unfold decFrom; rw [List.foldl_cons]

theorem decFrom_ge (l : List UInt8) : ∀ (a : Nat), a ≤ decFrom a l := by
  induction l with
  | nil => intro a; rw [decFrom_nil]; exact Nat.le_refl _
  | cons b l ih =>
    intro a
    rw [decFrom_cons]
    exact Nat.le_trans (by omega) (ih _)

theorem parseUintM_digs (l : List UInt8) : ∀ (a : Nat), l.all isDig = true → a ≤ 18446744073709551615 →
    Lib.parseUintM 18446744073709551615 a l = if decFrom a l ≤ 18446744073709551615 then .ok (decFrom a l) else .range := by
  induction l with
  | nil => intro a _ h; rw [decFrom_nil, if_pos h, Lib.parseUintM]
  | cons b l ih =>
    intro a hd h
    simp only [List.all_cons, Bool.and_eq_true] at hd
    have hb : 48 ≤ b.toNat ∧ b.toNat ≤ 57 := of_decide_eq_true hd.1
    have hge := decFrom_ge l (a * 10 + (b.toNat - 48))
    rw [Lib.parseUintM, if_pos hb, decFrom_cons]
    by_cases h1 : 1844674407370955162 ≤ a
    · rw [if_pos h1, if_neg (by omega)]
    · rw [if_neg h1]
      by_cases h2 : 18446744073709551615 < a * 10 + (b.toNat - 48)
      · rw [if_pos h2, if_neg (by omega)]
      · rw [if_neg h2]
        exact ih _ hd.2 (by omega)

theorem parseUintB_digs (l : List UInt8) (hne : l ≠ []) (hd : l.all isDig = true) :
    Lib.parseUintB 64 l = if decL l ≤ 18446744073709551615 then .ok (decL l) else .range := by
  unfold Lib.parseUintB
  rw [if_neg hne]
  exact parseUintM_digs l 0 hd (by omega)

theorem digsL_parts {d : List UInt8} (h : digsL d = true) : d ≠ [] ∧ d.all isDig = true ∧ d.head? ≠ some 48 := by
  unfold digsL at h
  simp only [Bool.and_eq_true, decide_eq_true_eq] at h
  exact h

theorem trim_minus (l : List UInt8) : Lib.trimPrefix (45 :: l) [45] = l := by
  simp [Lib.trimPrefix, Lib.hasPrefix, List.isPrefixOf]
theorem trim_other (b : UInt8) (l : List UInt8) (h : b ≠ 45) : Lib.trimPrefix (b :: l) [45] = b :: l := by
  have : ([45] : List UInt8).isPrefixOf (b :: l) = false := by simp [List.isPrefixOf, Ne.symm h]
  simp [Lib.trimPrefix, Lib.hasPrefix, this]

/-- A word of the form: nought; or a minus sign and digits; or digits. -/
theorem formL_cases {l : List UInt8} (h : formL l = true) :
    l = [48] ∨ (∃ d, l = 45 :: d ∧ digsL d = true) ∨ (digsL l = true ∧ ∀ b r, l = b :: r → b ≠ 45) := by
  unfold formL at h
  rw [Bool.or_eq_true] at h
  rcases h with h | h
  · exact .inl (of_decide_eq_true h)
  · cases l with
    | nil => simp [Lib.trimPrefix, Lib.hasPrefix, List.isPrefixOf, digsL] at h
    | cons b r =>
      by_cases hb : b = 45
      · subst hb
        rw [trim_minus] at h
        exact .inr (.inl ⟨r, rfl, h⟩)
      · rw [trim_other b r hb] at h
        exact .inr (.inr ⟨h, fun b' r' e => by cases e; exact hb⟩)

theorem parse_form {l : List UInt8} (h : formL l = true) :
    Lib.parseIntB 64 l = if -9223372036854775808 ≤ valL l ∧ valL l ≤ 9223372036854775807 then .ok (valL l) else .range := by
  have hpos : ∀ (b : UInt8) (r : List UInt8), b ≠ 45 → (b :: r).all isDig = true → Lib.parseIntB 64 (b :: r) = if -9223372036854775808 ≤ valL (b :: r) ∧ valL (b :: r) ≤ 9223372036854775807 then .ok (valL (b :: r)) else .range := by
    intro b r hb hd
    have hbd : isDig b = true := by simp only [List.all_cons, Bool.and_eq_true] at hd; exact hd.1
    have hb' : 48 ≤ b.toNat ∧ b.toNat ≤ 57 := of_decide_eq_true hbd
    rw [Lib.parseIntB_plain 64 b r (by omega) (by omega), parseUintB_digs (b :: r) (by simp) hd]
    have hv : valL (b :: r) = (decL (b :: r) : Int) := by simp [valL, hb]
    rw [hv]
    generalize decL (b :: r) = n
    by_cases h1 : n ≤ 18446744073709551615
    · rw [if_pos h1]
      show Lib.signlessC 9223372036854775808 (.ok n) = _
      unfold Lib.signlessC
      by_cases h2 : 9223372036854775808 ≤ n
      · rw [if_neg (by omega)]; simp [h2]
      · rw [if_pos (by omega)]; simp [h2]
    · rw [if_neg h1, if_neg (by omega)]; rfl
  rcases formL_cases h with rfl | ⟨d, rfl, hd⟩ | ⟨hd, hb⟩
  · exact hpos 48 [] (by decide) (by decide)
  · obtain ⟨h1, h2, _⟩ := digsL_parts hd
    rw [Lib.parseIntB_minus, parseUintB_digs d h1 h2]
    have hv : valL (45 :: d) = -(decL d : Int) := by simp [valL]
    rw [hv]
    generalize decL d = n
    by_cases h3 : n ≤ 18446744073709551615
    · rw [if_pos h3]
      show Lib.signedC 9223372036854775808 (.ok n) = _
      unfold Lib.signedC
      by_cases h4 : 9223372036854775808 < n
      · rw [if_neg (by omega)]; simp [h4]
      · rw [if_pos (by omega)]; simp [h4]
    · rw [if_neg h3, if_neg (by omega)]; rfl
  · obtain ⟨h1, h2, _⟩ := digsL_parts hd
    cases l with
    | nil => exact absurd rfl h1
    | cons b r => exact hpos b r (hb b r rfl) h2

end Go.Proofs.YtoagphighgejnaaDoor
