/- many (13); plain words on joining. Conditions: none. -/
import Derived.Test.YtoagphighgejnaaGreatDoorK
import Derived.Test.YtoagphighgejnaaGreatDoorPT
set_option linter.unusedSimpArgs false
set_option linter.unusedVariables false
namespace Go.Proofs.YtoagphighgejnaaGreatDoor
open Go.RowKit Go.Shelf


theorem get_at {s : ByteArray} {p : Nat} (hp : p < s.size) : s.data.toList[p]? = some (s[p]'hp) := by
  have h1 : p < s.data.size := hp
  rw [Array.getElem?_toList, Array.getElem?_eq_getElem h1]
  rfl

theorem below_drewN (w : World) (q : Nat) : Below w.heap.size w (w.drewN q) := ⟨rfl, rfl, rfl, Nat.le_refl _, fun _ _ => rfl⟩
theorem getLast_at (l : List UInt8) (h : l ≠ []) : ∃ h : l.length - 1 < l.length, l.getLast? = some (l[l.length - 1]) := by
  have h1 : 0 < l.length := List.length_pos_iff.2 h
  refine ⟨by omega, ?_⟩
  rw [List.getLast?_eq_getElem?, List.getElem?_eq_getElem (by omega)]

/-- So many signs have the texts, and one more each. -/
def totL (L : List (List UInt8)) : Nat := (L.map (fun x => 1 + x.length)).sum
theorem totL_succ {L : List (List UInt8)} {k : Nat} {x : List UInt8} (h : L[k]? = some x) : totL (L.take (k + 1)) = totL (L.take k) + (1 + x.length) := by
  unfold totL
  rw [List.take_add_one, h, List.map_append, List.sum_append]; simp
theorem totL_take (L : List (List UInt8)) (k : Nat) : totL (L.take k) ≤ totL L := by
  have : totL L = totL (L.take k) + totL (L.drop k) := by
    unfold totL; rw [← List.sum_append, ← List.map_append, List.take_append_drop]
  omega
theorem totL_len (L : List (List UInt8)) : L.length ≤ totL L := by
  induction L with
  | nil => simp
  | cons a L ih => simp only [totL, List.map_cons, List.sum_cons, List.length_cons] at ih ⊢; omega
theorem join_le (L : List (List UInt8)) (s : List UInt8) : (Lib.join L s).length ≤ totL L + L.length * s.length := by
  cases L with
  | nil => simp [Lib.join]
  | cons x L =>
    rw [Lib.join_cons, List.length_append]
    have h2 : ∀ M : List (List UInt8), (Lib.joinTail s M).length ≤ totL M + M.length * s.length := by
      intro M
      induction M with
      | nil => simp [Lib.joinTail]
      | cons a M ih =>
        simp only [Lib.joinTail, List.map_cons, List.flatten_cons, List.length_append, totL, List.sum_cons, List.length_cons] at ih ⊢
        rw [Nat.add_mul]
        omega
    have := h2 L
    simp only [totL, List.map_cons, List.sum_cons, List.length_cons] at this ⊢
    rw [Nat.add_mul]
    omega

/-- what was joined is parted again -/
theorem cut_join (c : UInt8) (L : List (List UInt8)) (hne : L ≠ []) (hf : ∀ x ∈ L, c ∉ x) : cutL c (Lib.join L [c]) = L := by
  induction L with
  | nil => exact absurd rfl hne
  | cons x L ih =>
    cases L with
    | nil => 
      rw [Lib.join_cons]
      simp only [Lib.joinTail, List.map_nil, List.flatten_nil, List.append_nil]
      exact cutL_none c x (hf x (by simp))
    | cons y L =>
      have e : Lib.join (x :: y :: L) [c] = x ++ c :: Lib.join (y :: L) [c] := by
        rw [Lib.join_cons, Lib.join_cons]
        simp [Lib.joinTail]
      rw [e, cutL_at c x _ (hf x (by simp)), ih (by simp) (fun z hz => hf z (by simp [hz]))]

end Go.Proofs.YtoagphighgejnaaGreatDoor
