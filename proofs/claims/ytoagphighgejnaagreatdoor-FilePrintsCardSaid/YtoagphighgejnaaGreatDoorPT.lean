/- Plain words on a number's word and on lines. Conditions: none. -/
import Derived.Test.YtoagphighgejnaaGreatDoorH
import Derived.Lib.ItoaLen
set_option linter.unusedSimpArgs false
set_option linter.unusedVariables false
namespace Go.Proofs.YtoagphighgejnaaGreatDoor
open Go.RowKit Go.Shelf Go.Lib

theorem decFrom_app (a : Nat) (l : List UInt8) (b : UInt8) : decFrom a (l ++ [b]) = decFrom a l * 10 + (b.toNat - 48) := by
  unfold decFrom; rw [List.foldl_append, List.foldl_cons, List.foldl_nil]
theorem dig_toNat {i : Nat} (h : i < 10) : (UInt8.ofNat (48 + i)).toNat = 48 + i := by
  rw [UInt8.toNat_ofNat']; omega
theorem dig_isDig {i : Nat} (h : i < 10) : isDig (UInt8.ofNat (48 + i)) = true := by
  unfold isDig; rw [dig_toNat h]; simp; omega
theorem decDigits_step {u : Nat} (h : 10 ≤ u) : decDigits u = decDigits (u / 10) ++ [UInt8.ofNat (48 + u % 10)] := by
  rw [decDigits, dif_neg (by omega)]
theorem decDigits_push (k d : Nat) (hk : 1 ≤ k) (hd : d < 10) : decDigits (10 * k + d) = decDigits k ++ [UInt8.ofNat (48 + d)] := by
  rw [decDigits_step (by omega)]
  rw [show (10 * k + d) / 10 = k by omega, show (10 * k + d) % 10 = d by omega]

theorem dec_facts : ∀ (n u : Nat), u ≤ n → decL (decDigits u) = u ∧ (decDigits u).all isDig = true ∧ decDigits u ≠ [] ∧ (1 ≤ u → (decDigits u).head? ≠ some 48) := by
  intro n
  induction n with
  | zero => 
    intro u hu
    obtain rfl : u = 0 := by omega
    refine ⟨by decide +kernel, by decide +kernel, by decide +kernel, by omega⟩
  | succ n ih =>
    intro u hu
    rcases Nat.lt_or_ge u 10 with h | h
    · rw [decDigits_one h]
      refine ⟨?_, ?_, by simp, fun h1 => ?_⟩
      · unfold decL; rw [decFrom_cons, decFrom_nil, dig_toNat h]; omega
      · rw [List.all_cons, dig_isDig h]; rfl
      · intro e
        have := congrArg UInt8.toNat (Option.some.inj e)
        rw [dig_toNat h] at this
        simp at this; omega
    · obtain ⟨h1, h2, h3, h4⟩ := ih (u / 10) (by omega)
      rw [decDigits_step h]
      refine ⟨?_, ?_, by simp, fun _ => ?_⟩
      · unfold decL at h1 ⊢; rw [decFrom_app, h1, dig_toNat (by omega)]; omega
      · rw [List.all_append, h2, List.all_cons, dig_isDig (show u % 10 < 10 by omega)]; rfl
      · cases hd : decDigits (u / 10) with
        | nil => exact absurd hd h3
        | cons x y => rw [hd] at h4; simpa using h4 (by omega)
theorem dec_val (u : Nat) : decL (decDigits u) = u := (dec_facts u u (Nat.le_refl _)).1
theorem dec_all (u : Nat) : (decDigits u).all isDig = true := (dec_facts u u (Nat.le_refl _)).2.1
theorem dec_ne (u : Nat) : decDigits u ≠ [] := (dec_facts u u (Nat.le_refl _)).2.2.1
theorem dec_head (u : Nat) (h : 1 ≤ u) : (decDigits u).head? ≠ some 48 := (dec_facts u u (Nat.le_refl _)).2.2.2 h
theorem dec_digs (u : Nat) (h : 1 ≤ u) : digsL (decDigits u) = true := by
  unfold digsL; simp only [Bool.and_eq_true, decide_eq_true_eq]; exact ⟨dec_ne u, dec_all u, dec_head u h⟩
theorem dec_no45 (u : Nat) : ∃ b r, decDigits u = b :: r ∧ b ≠ 45 ∧ isDig b = true := by
  cases h : decDigits u with
  | nil => exact absurd h (dec_ne u)
  | cons b r =>
    have := dec_all u
    rw [h] at this
    simp only [List.all_cons, Bool.and_eq_true] at this
    refine ⟨b, r, rfl, ?_, this.1⟩
    rintro rfl
    exact absurd this.1 (by decide)
theorem form_dec (u : Nat) : formL (decDigits u) = true := by
  rcases Nat.eq_zero_or_pos u with rfl | h
  · decide +kernel
  · obtain ⟨b, r, e, hb, -⟩ := dec_no45 u
    have := dec_digs u h
    unfold formL
    rw [e] at this ⊢
    rw [trim_other b r hb, this]; simp
theorem form_minus (u : Nat) (h : 1 ≤ u) : formL (45 :: decDigits u) = true := by
  unfold formL; rw [trim_minus, dec_digs u h]; simp
theorem val_dec (u : Nat) : valL (decDigits u) = u := by
  obtain ⟨b, r, e, hb, -⟩ := dec_no45 u
  have := dec_val u
  rw [e] at this ⊢
  simp only [valL, if_neg hb, this]
theorem val_minus (u : Nat) : valL (45 :: decDigits u) = -(u : Int) := by
  simp only [valL, if_pos, dec_val]
theorem num_dec (u : Nat) : numL (decDigits u) = if u ≤ 9223372036854775807 then ((u : Int), 0) else (0, 11) := by
  unfold numL
  rw [if_neg (by rw [form_dec]; simp), val_dec]
  by_cases h : u ≤ 9223372036854775807
  · rw [if_pos h, if_pos (by omega)]
  · rw [if_neg h, if_neg (by omega)]
theorem num_minus (u : Nat) (h1 : 1 ≤ u) : numL (45 :: decDigits u) = if u ≤ 9223372036854775808 then (-(u : Int), 0) else (0, 11) := by
  unfold numL
  rw [if_neg (by rw [form_minus u h1]; simp), val_minus]
  by_cases h : u ≤ 9223372036854775808
  · rw [if_pos h, if_pos (by omega)]
  · rw [if_neg h, if_neg (by omega)]
theorem num_itoa (n : Int) (h0 : -9223372036854775808 ≤ n) (h1 : n ≤ 9223372036854775807) : numL (itoa n) = (n, 0) := by
  by_cases hn : n < 0
  · obtain ⟨u, rfl⟩ : ∃ u : Nat, n = -(u : Int) := ⟨n.natAbs, by omega⟩
    rw [itoa_neg u (by omega), num_minus u (by omega), if_pos (by omega)]
  · obtain ⟨u, rfl⟩ : ∃ u : Nat, n = u := ⟨n.toNat, by omega⟩
    rw [itoa_nonneg, num_dec, if_pos (by omega)]

theorem dec_pos {b : UInt8} {l : List UInt8} (hb : isDig b = true) (h : b ≠ 48) : 1 ≤ decL (b :: l) := by
  have hb' : 48 ≤ b.toNat ∧ b.toNat ≤ 57 := of_decide_eq_true hb
  have : b.toNat ≠ 48 := fun e => h (UInt8.toNat_inj.1 e)
  unfold decL; rw [decFrom_cons]
  exact Nat.le_trans (by omega) (decFrom_ge l _)
theorem ofNat_dig {b : UInt8} (hb : isDig b = true) : UInt8.ofNat (48 + (b.toNat - 48)) = b := by
  have hb' : 48 ≤ b.toNat ∧ b.toNat ≤ 57 := of_decide_eq_true hb
  rw [show 48 + (b.toNat - 48) = b.toNat by omega]; simp
/-- digits that do not begin with nought are those of their number -/
theorem dec_back : ∀ (n : Nat) (d : List UInt8), d.length ≤ n → d ≠ [] → d.all isDig = true → d.head? ≠ some 48 → decDigits (decL d) = d := by
  intro n
  induction n with
  | zero => intro d h1 h2; cases d with | nil => exact absurd rfl h2 | cons _ _ => simp at h1
  | succ n ih =>
    intro d h1 h2 h3 h4
    rcases List.eq_nil_or_concat d with rfl | ⟨e, b, rfl⟩
    · exact absurd rfl h2
    · simp only [List.concat_eq_append] at *
      rw [List.all_append] at h3
      simp only [Bool.and_eq_true, List.all_cons, List.all_nil, Bool.and_true] at h3
      have hb' : 48 ≤ b.toNat ∧ b.toNat ≤ 57 := of_decide_eq_true h3.2
      cases e with
      | nil =>
        simp only [List.nil_append]
        unfold decL; rw [decFrom_cons, decFrom_nil, Nat.zero_mul, Nat.zero_add, decDigits_one (by omega), ofNat_dig h3.2]
      | cons x y =>
        have hx : x ≠ 48 := by rintro rfl; simp at h4
        have hp : 1 ≤ decL (x :: y) := dec_pos (by have := h3.1; simp at this; exact this.1) hx
        have hr := ih (x :: y) (by simp at h1 ⊢; omega) (by simp) h3.1 (by simpa using hx)
        have e2 : decL (x :: y ++ [b]) = 10 * decL (x :: y) + (b.toNat - 48) := by unfold decL; rw [decFrom_app]; omega
        rw [e2, decDigits_push _ _ hp (by omega), hr, ofNat_dig h3.2]
theorem itoa_back {l : List UInt8} (h : formL l = true) : itoa (valL l) = l := by
  rcases formL_cases h with rfl | ⟨d, rfl, hd⟩ | ⟨hd, hb⟩
  · decide +kernel
  · obtain ⟨h1, h2, h3⟩ := digsL_parts hd
    have hb := dec_back d.length d (Nat.le_refl _) h1 h2 h3
    have hp : 1 ≤ decL d := by
      cases d with
      | nil => exact absurd rfl h1
      | cons x y => exact dec_pos (by simp at h2; exact h2.1) (by simpa using h3)
    have hv : valL (45 :: d) = -(decL d : Int) := by simp [valL]
    rw [hv, itoa_neg _ hp, hb]
  · obtain ⟨h1, h2, h3⟩ := digsL_parts hd
    have hb2 := dec_back l.length l (Nat.le_refl _) h1 h2 h3
    cases l with
    | nil => exact absurd rfl h1
    | cons b r =>
      have hv : valL (b :: r) = (decL (b :: r) : Int) := by simp [valL, hb b r rfl]
      rw [hv, itoa_nonneg, hb2]
theorem num_back {l : List UInt8} (h : (numL l).2 = 0) : itoa (numL l).1 = l := by
  unfold numL at h ⊢
  by_cases hf : formL l = false
  · rw [if_pos hf] at h; simp at h
  · rw [if_neg hf] at h ⊢
    by_cases hv : -9223372036854775808 ≤ valL l ∧ valL l ≤ 9223372036854775807
    · rw [if_pos hv]; exact itoa_back (by simpa using hf)
    · rw [if_neg hv] at h; simp at h

/-- lines, each with its end behind it -/
def flatL (c : UInt8) (L : List (List UInt8)) : List UInt8 := (L.map (· ++ [c])).flatten
theorem flatL_nil (c : UInt8) : flatL c [] = [] := rfl
theorem flatL_app (c : UInt8) (L : List (List UInt8)) (x : List UInt8) : flatL c (L ++ [x]) = flatL c L ++ (x ++ [c]) := by simp [flatL]
theorem flatL_cut (c : UInt8) (l : List UInt8) : flatL c (cutL c l) = l ++ [c] := by
  induction l with
  | nil => rfl
  | cons b l ih =>
    simp only [cutL]
    cases hc : cutL c l with
    | nil => exact absurd hc (cutL_ne c l)
    | cons p q =>
      rw [hc] at ih
      by_cases h : b = c
      · rw [if_pos h, h]; simp only [flatL, List.map_cons, List.flatten_cons, List.nil_append] at ih ⊢; rw [ih]; rfl
      · rw [if_neg h]; simp only [flatL, consHead, List.map_cons, List.flatten_cons, List.cons_append] at ih ⊢; rw [ih]
theorem lines_flat (s : List UInt8) : flatL 10 (linesL s) = s ∨ (flatL 10 (linesL s) = s ++ [10] ∧ s ≠ [] ∧ s.getLast? ≠ some 10) := by
  have hf := flatL_cut 10 s
  have hfree := cutL_free 10 s
  rcases List.eq_nil_or_concat (cutL 10 s) with h | ⟨D, y, h⟩
  · exact absurd h (cutL_ne 10 s)
  · rw [List.concat_eq_append] at h
    unfold linesL
    rw [h] at hf hfree ⊢
    rw [flatL_app] at hf
    have hl : (D ++ [y]).getLast? = some y := by simp
    rw [hl]
    by_cases hy : y = []
    · left
      subst hy
      rw [if_pos rfl]
      simp only [List.dropLast_concat]
      simpa using hf
    · right
      rw [if_neg (by simpa using hy), flatL_app]
      refine ⟨hf, ?_, ?_⟩
      · rintro rfl
        simp [cutL] at h
        have := congrArg List.getLast? h
        simp at this
        exact hy this
      · have e : s = flatL 10 D ++ y := by
          rw [← List.append_assoc] at hf
          exact (List.append_cancel_right hf).symm
        rw [e]
        intro hlast
        rw [List.getLast?_append] at hlast
        cases hg : y.getLast? with
        | none => rw [List.getLast?_eq_none_iff] at hg; exact hy hg
        | some z =>
          rw [hg] at hlast
          have : z = 10 := by simpa using hlast
          subst this
          exact hfree y (by simp) (List.mem_of_getLast? hg)
theorem lines_free (s : List UInt8) : ∀ x ∈ linesL s, (10 : UInt8) ∉ x := by
  intro x hx
  refine cutL_free 10 s x ?_
  unfold linesL at hx
  split at hx
  · exact List.dropLast_subset _ hx
  · exact hx
theorem flatL_take_le (c : UInt8) (L : List (List UInt8)) (k : Nat) : (flatL c (L.take k)).length ≤ (flatL c L).length := by
  have : flatL c L = flatL c (L.take k) ++ flatL c (L.drop k) := by
    unfold flatL; rw [← List.flatten_append, ← List.map_append, List.take_append_drop]
  rw [this, List.length_append]; omega
theorem flatL_take_succ (c : UInt8) (L : List (List UInt8)) (k : Nat) (x : List UInt8) (h : L[k]? = some x) : flatL c (L.take (k + 1)) = flatL c (L.take k) ++ (x ++ [c]) := by
  rw [List.take_add_one, h]; exact flatL_app c _ x
end Go.Proofs.YtoagphighgejnaaGreatDoor
