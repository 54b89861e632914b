/- The document's answer: Number (43), Count (29). Conditions: none. -/
import Derived.Test.YtpfbgoogajgciaaDoorN13
set_option linter.unusedSimpArgs false
set_option linter.unusedVariables false
namespace Go.Proofs.YtpfbgoogajgciaaDoor
open Go.RowKit Go.Shelf


theorem decL_succ {l : List UInt8} {k : Nat} {b : UInt8} (h : l[k]? = some b) : decL (l.take (k + 1)) = decL (l.take k) * 10 + (b.toNat - 48) := by
  unfold decL; rw [List.take_add_one, h]; exact decFrom_app 0 _ b
theorem decFrom_app2 (a : Nat) (l r : List UInt8) : decFrom a (l ++ r) = decFrom (decFrom a l) r := by unfold decFrom; rw [List.foldl_append]
theorem decL_take (l : List UInt8) (k : Nat) : decL (l.take k) ≤ decL l := by
  have e : decL l = decFrom (decL (l.take k)) (l.drop k) := by
    unfold decL; rw [← decFrom_app2, List.take_append_drop]
  rw [e]; exact decFrom_ge _ _
theorem num_plus {l : List UInt8} (h : formL l = true) (h0 : l.head? ≠ some 45) : numL l = if (decL l : Int) ≤ 9223372036854775807 then ((decL l : Int), 0) else (0, 11) := by
  have hv : valL l = (decL l : Int) := by
    cases l with
    | nil => rfl
    | cons b r => simp only [List.head?_cons, ne_eq, Option.some.injEq] at h0; simp [valL, h0]
  unfold numL
  rw [if_neg (by simp [h]), hv]
  by_cases hm : (decL l : Int) ≤ 9223372036854775807
  · rw [if_pos hm, if_pos (by omega)]
  · rw [if_neg hm, if_neg (by omega)]
theorem num_neg {d : List UInt8} (h : formL (45 :: d) = true) : numL (45 :: d) = if (decL d : Int) ≤ 9223372036854775808 then (-(decL d : Int), 0) else (0, 11) := by
  have hv : valL (45 :: d) = -(decL d : Int) := by simp [valL]
  unfold numL
  rw [if_neg (by simp [h]), hv]
  by_cases hm : (decL d : Int) ≤ 9223372036854775808
  · rw [if_pos hm, if_pos (by omega)]
  · rw [if_neg hm, if_neg (by omega)]
theorem form_dig_plus {l : List UInt8} (h : formL l = true) (h0 : l.head? ≠ some 45) : l.all isDig = true ∧ l ≠ [] := by
  rcases formL_cases h with rfl | ⟨d, rfl, hd⟩ | ⟨hd, hb⟩
  · exact ⟨by decide, by simp⟩
  · simp at h0
  · obtain ⟨h1, h2, _⟩ := digsL_parts hd; exact ⟨h2, h1⟩
theorem form_dig_minus {d : List UInt8} (h : formL (45 :: d) = true) : d.all isDig = true ∧ d ≠ [] := by
  rcases formL_cases h with e | ⟨d', e, hd⟩ | ⟨hd, hb⟩
  · cases e
  · cases e; obtain ⟨h1, h2, _⟩ := digsL_parts hd; exact ⟨h2, h1⟩
  · exact absurd rfl (hb 45 d rfl)

/-- nothing more is told of a number's bounds than this -/
theorem quo_plus (N g : Int) (h0 : 0 ≤ N) (h1 : 0 ≤ g) (h2 : g ≤ 9) : (9223372036854775807 - g) / 10 < N ↔ 9223372036854775807 < N * 10 + g := by
  omega
theorem quo_minus (N g : Int) (h0 : 0 ≤ N) (h1 : 0 ≤ g) (h2 : g ≤ 9) : -N < (-9223372036854775808 + g).tdiv 10 ↔ 9223372036854775808 < N * 10 + g := by
  have e : (-9223372036854775808 + g).tdiv 10 = -((9223372036854775808 - g) / 10) := by
    rw [show -9223372036854775808 + g = -(9223372036854775808 - g) by omega, Int.neg_tdiv, Int.tdiv_eq_ediv_of_nonneg (by omega)]
  rw [e]; omega

end Go.Proofs.YtpfbgoogajgciaaDoor
