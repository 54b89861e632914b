/- Plain words on cutting a text at a byte. Conditions: none. -/
import Derived.Test.YtoagphighgejnaaDoorB
import Derived.Lib.SplitLaws
import Derived.Lib.IndexBytes
import Derived.Lib.Join
set_option linter.unusedSimpArgs false
set_option linter.unusedVariables false
namespace Go.Proofs.YtoagphighgejnaaDoor
open Go.RowKit Go.Shelf

def consHead (b : UInt8) : List (List UInt8) → List (List UInt8)
  | [] => [[b]]
  | h :: t => (b :: h) :: t
/-- The pieces of a text, cut at each c. -/
def cutL (c : UInt8) : List UInt8 → List (List UInt8)
  | [] => [[]]
  | b :: l => if b = c then [] :: cutL c l else consHead b (cutL c l)

theorem cutL_ne (c : UInt8) (l : List UInt8) : cutL c l ≠ [] := by
  cases l with
  | nil => simp [cutL]
  | cons b l =>
    simp only [cutL]
    split
    · simp
    · cases cutL c l <;> simp [consHead]

theorem cutL_none (c : UInt8) (l : List UInt8) (h : c ∉ l) : cutL c l = [l] := by
  induction l with
  | nil => rfl
  | cons b l ih =>
    simp only [List.mem_cons, not_or] at h
    simp only [cutL, if_neg (Ne.symm h.1), ih h.2, consHead]

theorem cutL_at (c : UInt8) (p q : List UInt8) (h : c ∉ p) : cutL c (p ++ c :: q) = p :: cutL c q := by
  induction p with
  | nil => simp [cutL]
  | cons b p ih =>
    simp only [List.mem_cons, not_or] at h
    simp only [List.cons_append, cutL, if_neg (Ne.symm h.1), ih h.2, consHead]

theorem cutL_miss {c : UInt8} {l : List UInt8} (h : Lib.indexByte l c = -1) : cutL c l = [l] := by
  refine cutL_none c l fun hm => ?_
  obtain ⟨k, hk⟩ := List.getElem?_of_mem hm
  exact Lib.indexByte_none h k hk

theorem parts_at {l : List UInt8} {c : UInt8} {i : Nat} (h : Lib.indexByte l c = i) : l = l.take i ++ c :: l.drop (i + 1) ∧ c ∉ l.take i := by
  obtain ⟨h1, h2⟩ := Lib.indexByte_some h
  obtain ⟨hlt, hc⟩ := List.getElem?_eq_some_iff.1 h1
  constructor
  · have e := List.drop_eq_getElem_cons hlt
    rw [hc] at e
    rw [← e, List.take_append_drop]
  · intro hm
    obtain ⟨k, hk⟩ := List.getElem?_of_mem hm
    have hki : k < i := by
      have := (List.getElem?_eq_some_iff.1 hk).1
      rw [List.length_take] at this; omega
    rw [List.getElem?_take_of_lt hki] at hk
    exact h2 k hki hk

theorem cutL_hit {c : UInt8} {l : List UInt8} {i : Nat} (h : Lib.indexByte l c = i) : cutL c l = l.take i :: cutL c (l.drop (i + 1)) := by
  obtain ⟨h1, h2⟩ := parts_at h
  have e := cutL_at c (l.take i) (l.drop (i + 1)) h2
  rw [← h1] at e
  exact e

theorem split_cut (c : UInt8) : ∀ (n : Nat) (l : List UInt8), l.length ≤ n → Lib.splitK [c] 0 (Lib.count l [c]) l = cutL c l := by
  intro n
  induction n with
  | zero =>
    intro l hl
    obtain rfl : l = [] := List.length_eq_zero_iff.1 (by omega)
    rw [Lib.count_miss (by rfl)]
    rfl
  | succ n ih =>
    intro l hl
    by_cases hneg : Lib.indexByte l c < 0
    · have hm : Lib.indexByte l c = -1 := by have := Lib.indexByte_ge l c; omega
      rw [Lib.count_miss (by rw [Lib.index_one]; exact hm), cutL_miss hm]
      rfl
    · obtain ⟨i, hi⟩ := Int.eq_ofNat_of_zero_le (Int.not_lt.1 hneg)
      have hix : Lib.index l [c] = i := by rw [Lib.index_one]; exact hi
      have hlt : i < l.length := (List.getElem?_eq_some_iff.1 (Lib.indexByte_some hi).1).1
      rw [Lib.count_hit (by simp) hix, cutL_hit hi, Nat.add_comm 1, Lib.splitK, hix]
      have h1 : ¬ ((i : Int) == -1) = true := by simp
      rw [if_neg h1]
      have e1 : ((i : Int)).toNat = i := rfl
      simp only [e1, Nat.add_zero, List.length_cons, List.length_nil, Nat.zero_add]
      rw [ih _ (by rw [List.length_drop]; omega)]

theorem cutL_length (c : UInt8) (l : List UInt8) : (cutL c l).length = l.count c + 1 := by
  induction l with
  | nil => rfl
  | cons b l ih =>
    simp only [cutL]
    by_cases h : b = c
    · subst h; simp [ih]
    · rw [if_neg h]
      have hne := cutL_ne c l
      rw [List.count_cons_of_ne h]
      cases hc : cutL c l with
      | nil => exact absurd hc hne
      | cons x y => rw [hc] at ih; simpa [consHead] using ih

theorem cutL_free (c : UInt8) (l : List UInt8) : ∀ x ∈ cutL c l, c ∉ x := by
  induction l with
  | nil => simp [cutL]
  | cons b l ih =>
    simp only [cutL]
    by_cases h : b = c
    · rw [if_pos h]; intro x hx
      rcases List.mem_cons.1 hx with rfl | hx
      · simp
      · exact ih x hx
    · rw [if_neg h]
      cases hc : cutL c l with
      | nil => exact absurd hc (cutL_ne c l)
      | cons p q =>
        rw [hc] at ih
        intro x hx
        rcases List.mem_cons.1 hx with rfl | hx
        · intro hm
          rcases List.mem_cons.1 hm with h' | h'
          · exact h h'.symm
          · exact ih p (by simp) h'
        · exact ih x (by simp [hx])

theorem join_cut (c : UInt8) (l : List UInt8) : Lib.join (cutL c l) [c] = l := by
  induction l with
  | nil => rfl
  | cons b l ih =>
    simp only [cutL]
    cases hc : cutL c l with
    | nil => exact absurd hc (cutL_ne c l)
    | cons p q =>
      rw [hc] at ih
      by_cases h : b = c
      · rw [if_pos h, Lib.join_cons]
        rw [Lib.join_cons] at ih
        simp only [Lib.joinTail, List.map_cons, List.flatten_cons, List.nil_append, List.singleton_append, List.cons_append] at ih ⊢
        rw [ih, h]
      · rw [if_neg h, consHead, Lib.join_cons]
        rw [Lib.join_cons] at ih
        rw [List.cons_append, ih]

end Go.Proofs.YtoagphighgejnaaDoor
