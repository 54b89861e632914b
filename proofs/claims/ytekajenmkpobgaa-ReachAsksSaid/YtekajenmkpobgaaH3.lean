/- a heap's plain law: sifting up and down. -/
import Derived.Test.YtekajenmkpobgaaH2
set_option linter.unusedSimpArgs false
set_option linter.unusedVariables false
namespace Go.Proofs.Ytekajenmkpobgaa

/-- every one is no less than the one above it -/
def HO (f : Nat → Int) (n : Nat) : Prop := ∀ k, 0 < k → k < n → f ((k - 1) / 2) ≤ f k
def swf (f : Nat → Int) (i j : Nat) : Nat → Int := fun k => if k = j then f i else if k = i then f j else f k
def HU (f : Nat → Int) (n j : Nat) : Prop := (∀ k, 0 < k → k < n → k ≠ j → f ((k - 1) / 2) ≤ f k) ∧ ∀ k, 0 < k → k < n → (k - 1) / 2 = j → 0 < j → f ((j - 1) / 2) ≤ f k
def HD (f : Nat → Int) (n i : Nat) : Prop := (∀ k, 0 < k → k < n → (k - 1) / 2 ≠ i → f ((k - 1) / 2) ≤ f k) ∧ ∀ k, 0 < k → k < n → (k - 1) / 2 = i → 0 < i → f ((i - 1) / 2) ≤ f k

theorem HU.start {f : Nat → Int} {n : Nat} (h : HO f n) : HU f (n + 1) n := ⟨fun k h0 hk hn => h k h0 (by omega), fun k h0 hk hp hn => by omega⟩
theorem HU.top {f : Nat → Int} {n : Nat} (h : HU f n 0) : HO f n := fun k h0 hk => h.1 k h0 hk (by omega)
theorem HU.done {f : Nat → Int} {n j : Nat} (h : HU f n j) (hl : ¬ f j < f ((j - 1) / 2)) : HO f n := fun k h0 hk => by
  by_cases e : k = j
  · subst e; omega
  · exact h.1 k h0 hk e
theorem HU.step {f : Nat → Int} {n j : Nat} (h : HU f n j) (hj : j < n) (h0 : 0 < j) (hl : f j < f ((j - 1) / 2)) : HU (swf f ((j - 1) / 2) j) n ((j - 1) / 2) := by
  generalize hi : (j - 1) / 2 = i at *
  have hij : i < j := by omega
  refine ⟨fun k k0 hk hki => ?_, fun k k0 hk hp i0 => ?_⟩
  · unfold swf
    by_cases e : k = j
    · subst e
      rw [hi, if_pos rfl, if_neg (by omega), if_pos rfl]
      omega
    · by_cases e2 : (k - 1) / 2 = j
      · rw [e2, if_pos rfl, if_neg e, if_neg hki, ← hi]
        exact h.2 k k0 hk e2 h0
      · by_cases e3 : (k - 1) / 2 = i
        · have := h.1 k k0 hk e
          rw [e3] at this
          rw [e3, if_neg (by omega), if_pos rfl, if_neg e, if_neg hki]
          omega
        · rw [if_neg e2, if_neg e3, if_neg e, if_neg hki]
          exact h.1 k k0 hk e
  · have hpi := h.1 i i0 (by omega) (by omega)
    unfold swf
    rw [if_neg (by omega), if_neg (by omega)]
    by_cases e : k = j
    · rw [if_pos e]; exact hpi
    · have := h.1 k k0 hk e
      rw [hp] at this
      rw [if_neg e, if_neg (by omega)]
      omega

theorem HD.start {f : Nat → Int} {n : Nat} (h : HO f n) (v : Int) : HD (fun k => if k = 0 then v else f k) n 0 := by
  refine ⟨fun k h0 hk hn => ?_, fun k h0 hk hp hn => by omega⟩
  simp only
  rw [if_neg hn, if_neg (by omega)]
  exact h k h0 hk
theorem HD.done {f : Nat → Int} {n i : Nat} (h : HD f n i) (hl : ∀ k, 0 < k → k < n → (k - 1) / 2 = i → f i ≤ f k) : HO f n := fun k h0 hk => by
  by_cases e : (k - 1) / 2 = i
  · rw [e]; exact hl k h0 hk e
  · exact h.1 k h0 hk e
theorem HD.step {f : Nat → Int} {n i j : Nat} (h : HD f n i) (hj : j < n) (hi : i < n) (h0 : 0 < j) (hp : (j - 1) / 2 = i) (hs : ∀ k, 0 < k → k < n → (k - 1) / 2 = i → f j ≤ f k) (hl : f j < f i) : HD (swf f i j) n j := by
  have hij : i < j := by omega
  refine ⟨fun k k0 hk hkp => ?_, fun k k0 hk hkp _ => ?_⟩
  · unfold swf
    rw [if_neg hkp]
    by_cases e : k = j
    · subst e
      rw [hp, if_pos rfl, if_pos rfl]; omega
    · rw [if_neg e]
      by_cases e2 : k = i
      · rw [if_neg (by omega), if_pos e2, e2]
        exact h.2 j h0 hj hp (by omega)
      · rw [if_neg e2]
        by_cases e3 : (k - 1) / 2 = i
        · rw [if_pos e3]; exact hs k k0 hk e3
        · rw [if_neg e3]; exact h.1 k k0 hk e3
  · unfold swf
    rw [hp, if_neg (by omega), if_pos rfl, if_neg (by omega), if_neg (by omega)]
    have := h.1 k k0 hk (by omega)
    rw [hkp] at this
    exact this
/-- the first is the least -/
theorem HO.least {f : Nat → Int} {n : Nat} (h : HO f n) (k : Nat) (hk : k < n) : f 0 ≤ f k := by
  induction k using Nat.strongRecOn with
  | _ k ih =>
    by_cases e : k = 0
    · rw [e]; exact Int.le_refl _
    · exact Int.le_trans (ih ((k - 1) / 2) (by omega) (by omega)) (h k (by omega) hk)

def hv (xs : List Int) (k : Nat) : Int := xs[k]?.getD 0
theorem hv_at {xs : List Int} {k : Nat} (h : k < xs.length) : xs[k]? = some (hv xs k) := by simp [hv, h]
theorem hv_swap {xs : List Int} {i j : Nat} (hi : i < xs.length) (hj : j < xs.length) : hv ((xs.set i (hv xs j)).set j (hv xs i)) = swf (hv xs) i j := by
  funext k
  unfold swf
  by_cases e : k = j
  · subst e
    rw [if_pos rfl]
    unfold hv
    rw [List.getElem?_set_self (by simpa using hj)]
    rfl
  · rw [if_neg e]
    by_cases e2 : k = i
    · subst e2
      rw [if_pos rfl]
      unfold hv
      rw [List.getElem?_set_ne (fun h => e h.symm), List.getElem?_set_self hi]
      rfl
    · rw [if_neg e2]
      unfold hv
      rw [List.getElem?_set_ne (fun h => e h.symm), List.getElem?_set_ne (fun h => e2 h.symm)]
theorem hv_perm {xs : List Int} {i j : Nat} (hi : i < xs.length) (hj : j < xs.length) : ((xs.set i (hv xs j)).set j (hv xs i)).Perm xs := by
  have := List.set_set_perm hi hj
  have e1 : hv xs i = xs[i] := by simp [hv, hi]
  have e2 : hv xs j = xs[j] := by simp [hv, hj]
  rw [e1, e2]
  exact this
end Go.Proofs.Ytekajenmkpobgaa
