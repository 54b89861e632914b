/- Plain: what is met by spreading is what is come to. -/
import Derived.Test.YtekajenmkpobgaaU2
set_option linter.unusedSimpArgs false
set_option linter.unusedVariables false
namespace Go.Proofs.Ytekajenmkpobgaa

def inS (met : List Bool) (v : Int) : Prop := 0 ≤ v ∧ met[v.toNat]? = some true
theorem inS_has {met : List Bool} {v : Int} (h : inS met v) : hasB met.length v = true := by
  obtain ⟨h1, h2⟩ := h
  have : v.toNat < met.length := by
    rcases Nat.lt_or_ge v.toNat met.length with h | h
    · exact h
    · rw [List.getElem?_eq_none h] at h2; cases h2
  simp [hasB]; omega
theorem newB_iff {met : List Bool} {n : Int} : newB met n = true ↔ hasB met.length n = true ∧ ¬ inS met n := by
  constructor
  · intro h
    obtain ⟨h1, h2, h3⟩ := newB_at h
    refine ⟨by simp [hasB]; omega, fun hh => ?_⟩
    rw [hh.2] at h1; cases h1
  · rintro ⟨h1, h2⟩
    have h1' := h1
    simp [hasB] at h1'
    have hl : n.toNat < met.length := by omega
    simp only [newB, h1, Bool.true_and, List.getElem?_eq_getElem hl, Option.getD_some, Bool.not_eq_true']
    cases hb : met[n.toNat] with
    | false => rfl
    | true => exact absurd ⟨h1'.1, by rw [List.getElem?_eq_getElem hl, hb]⟩ h2
theorem inS_meet (met : List Bool) (n v : Int) : inS (meetM met n) v ↔ inS met v ∨ (v = n ∧ hasB met.length n = true) := by
  unfold meetM
  by_cases h : newB met n = true
  · rw [if_pos h]
    obtain ⟨h1, h2, h3⟩ := newB_at h
    constructor
    · rintro ⟨a, b⟩
      by_cases e : v = n
      · exact .inr ⟨e, (newB_iff.1 h).1⟩
      · left
        refine ⟨a, ?_⟩
        rwa [List.getElem?_set_ne (by omega)] at b
    · rintro (⟨a, b⟩ | ⟨rfl, hb⟩)
      · refine ⟨a, ?_⟩
        by_cases e : n.toNat = v.toNat
        · rw [← e, h1] at b; cases b
        · rw [List.getElem?_set_ne e]; exact b
      · exact ⟨h2, by rw [List.getElem?_set_self (by omega)]⟩
  · rw [if_neg h]
    constructor
    · exact .inl
    · rintro (hh | ⟨rfl, hb⟩)
      · exact hh
      · rcases Classical.em (inS met v) with hi | hi
        · exact hi
        · exact absurd (newB_iff.2 ⟨hb, hi⟩) h
theorem inS_meetAll (l : List Int) (s : List Bool × List Int) (v : Int) : inS (meetAll l s).1 v ↔ inS s.1 v ∨ (v ∈ l ∧ hasB s.1.length v = true) := by
  induction l generalizing s with
  | nil => simp [meetAll]
  | cons a l ih =>
    rw [meetAll, ih]
    simp only [inS_meet, meet_len, List.mem_cons]
    constructor
    · rintro ((h | ⟨rfl, h⟩) | ⟨h1, h2⟩)
      · exact .inl h
      · exact .inr ⟨.inl rfl, h⟩
      · exact .inr ⟨.inr h1, h2⟩
    · rintro (h | ⟨rfl | h1, h2⟩)
      · exact .inl (.inl h)
      · exact .inl (.inr ⟨rfl, h2⟩)
      · exact .inr ⟨h1, h2⟩
theorem meetX_sub (met : List Bool) (xs : List Int) (n : Int) : ∀ v ∈ xs, v ∈ meetX met xs n := by
  intro v hv
  unfold meetX
  split
  · exact List.mem_append_left _ hv
  · exact hv
theorem meetAll_sub (l : List Int) (s : List Bool × List Int) : ∀ v ∈ s.2, v ∈ (meetAll l s).2 := by
  induction l generalizing s with
  | nil => exact fun _ h => h
  | cons a l ih => exact fun v hv => ih (meetM s.1 a, meetX s.1 s.2 a) v (meetX_sub s.1 s.2 a v hv)
theorem meetAll_new (l : List Int) (s : List Bool × List Int) (v : Int) (h : inS (meetAll l s).1 v) : inS s.1 v ∨ v ∈ (meetAll l s).2 := by
  induction l generalizing s with
  | nil => exact .inl h
  | cons a l ih =>
    rcases ih (meetM s.1 a, meetX s.1 s.2 a) h with h1 | h1
    · simp only [inS_meet] at h1
      rcases h1 with h1 | ⟨rfl, h2⟩
      · exact .inl h1
      · rcases Classical.em (inS s.1 v) with hi | hi
        · exact .inl hi
        · right
          refine meetAll_sub l (meetM s.1 v, meetX s.1 s.2 v) v ?_
          have : newB s.1 v = true := newB_iff.2 ⟨h2, hi⟩
          simp [meetX, this]
    · exact .inr h1

/-- what spreading keeps: the starts are met; whoever was met and is not still to do has all next to it met; whoever is met must be -/
structure RInv (N : Nat) (nb : Int → List Int) (starts : List Int) (met : List Bool) (xs : List Int) : Prop where
  len : met.length = N
  st : ∀ s ∈ starts, hasB N s = true → inS met s
  cl : ∀ v, inS met v → v ∈ xs ∨ ∀ u ∈ nb v, hasB N u = true → inS met u
  up : ∀ P : Int → Prop, (∀ s ∈ starts, hasB N s = true → P s) → (∀ v, P v → hasB N v = true → ∀ u ∈ nb v, hasB N u = true → P u) → ∀ v, inS met v → P v
  wk : ∀ v ∈ xs, inS met v

theorem not_inS_replicate (N : Nat) (v : Int) : ¬ inS (List.replicate N false) v := by
  rintro ⟨_, h⟩
  rw [List.getElem?_replicate] at h
  split at h <;> cases h
theorem meetAll_wk (l : List Int) (s : List Bool × List Int) (h : ∀ v ∈ s.2, inS s.1 v) : ∀ v ∈ (meetAll l s).2, inS (meetAll l s).1 v := by
  induction l generalizing s with
  | nil => exact h
  | cons a l ih =>
    refine ih (meetM s.1 a, meetX s.1 s.2 a) ?_
    intro v hv
    rw [inS_meet]
    simp only [meetX] at hv
    split at hv
    · rename_i hn
      rcases List.mem_append.1 hv with h1 | h1
      · exact .inl (h v h1)
      · exact .inr ⟨by simpa using h1, (newB_iff.1 hn).1⟩
    · exact .inl (h v hv)
theorem RInv.start (N : Nat) (nb : Int → List Int) (starts : List Int) : RInv N nb starts (meetAll starts (List.replicate N false, [])).1 (meetAll starts (List.replicate N false, [])).2 := by
  have hI := inS_meetAll starts (List.replicate N false, [])
  simp only [List.length_replicate] at hI
  refine ⟨by rw [meetAll_len]; simp, fun s hs hh => (hI s).2 (.inr ⟨hs, hh⟩), fun v hv => ?_, fun P h1 _ v hv => ?_, meetAll_wk _ _ (fun v hv => by cases hv)⟩
  · rcases meetAll_new _ _ v hv with h | h
    · exact absurd h (not_inS_replicate N v)
    · exact .inl h
  · rcases (hI v).1 hv with h | ⟨h, h2⟩
    · exact absurd h (not_inS_replicate N v)
    · exact h1 v h h2
theorem RInv.step {N : Nat} {nb : Int → List Int} {starts : List Int} {met : List Bool} {ys : List Int} {v : Int} (h : RInv N nb starts met (ys ++ [v])) :
    RInv N nb starts (meetAll (nb v) (met, ys)).1 (meetAll (nb v) (met, ys)).2 := by
  have hI := inS_meetAll (nb v) (met, ys)
  simp only [h.len] at hI
  refine ⟨by rw [meetAll_len]; exact h.len, fun s hs hh => (hI s).2 (.inl (h.st s hs hh)), fun u hu => ?_, fun P h1 h2 u hu => ?_, meetAll_wk _ _ (fun u hu => h.wk u (List.mem_append_left _ hu))⟩
  · rcases meetAll_new _ _ u hu with h3 | h3
    · rcases h.cl u h3 with h4 | h4
      · rcases List.mem_append.1 h4 with h5 | h5
        · exact .inl (meetAll_sub _ _ u h5)
        · have : u = v := by simpa using h5
          subst this
          exact .inr fun t ht hh => (hI t).2 (.inr ⟨ht, hh⟩)
      · exact .inr fun t ht hh => (hI t).2 (.inl (h4 t ht hh))
    · exact .inl h3
  · rcases (hI u).1 hu with h3 | ⟨h3, h4⟩
    · exact h.up P h1 h2 u h3
    · have hv := h.wk v (by simp)
      have hh := inS_has hv
      rw [h.len] at hh
      exact h2 v (h.up P h1 h2 v hv) hh u h3 h4
theorem cf_le (l : List Int) (s : List Bool × List Int) : cf (meetAll l s).1 ≤ cf s.1 := by
  induction l generalizing s with
  | nil => exact Nat.le_refl _
  | cons a l ih =>
    refine Nat.le_trans (ih _) ?_
    simp only [meetM]
    split
    · rename_i h
      have := cf_set (newB_at h).1
      omega
    · exact Nat.le_refl _
theorem cf_replicate (N : Nat) : cf (List.replicate N false) = N := by simp [cf, List.countP_replicate]
end Go.Proofs.Ytekajenmkpobgaa
