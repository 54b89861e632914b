/- Plain words for problems as files: what is read stays well made. Conditions: none. -/
import Derived.Test.YtoagphighgejnaaDoorFP
set_option linter.unusedSimpArgs false
set_option linter.unusedVariables false
namespace Go.Proofs.YtoagphighgejnaaDoor
open Go.RowKit Go.Shelf

theorem inW_val {a : List UInt8} {lo hi : Int} (h : inW a lo hi) : lo ≤ (numL a).1 ∧ (numL a).1 ≤ hi := h.2
theorem set_true {l : List Bool} {k j : Nat} (h : l[j]? = some true) : (l.set k true)[j]? = some true := by
  rw [List.getElem?_set]
  split
  · rename_i e; subst e
    have := (List.getElem?_eq_some_iff.1 h).1
    simp [this]
  · exact h
theorem nodeE_ok {r : RdV} (h : RdOk r) (hb : r.begun = true) (hm : r.max = false) (ws : List (List UInt8)) (h0 : (nodeE r ws).1 = 0) : RdOk (nodeE r ws).2 := by
  unfold nodeE at h0 ⊢
  split
  · rename_i x a b
    simp only at h0 ⊢
    split at h0
    · cases h0
    split at h0
    · cases h0
    split at h0
    · cases h0
    split at h0
    · cases h0
    split at h0
    · cases h0
    rename_i h1 h2 h3 h4 h5
    rw [if_neg h1, if_neg h2, if_neg h3, if_neg h4, if_neg h5]
    have h2' : r.arcs = [] := Classical.not_not.1 h2
    have h4' := inW_val (Classical.not_not.1 h4)
    obtain ⟨e1, e2⟩ := h.min hm
    refine ⟨by simp [h.lens], fun hn => (by rw [hb] at hn; cases hn), fun _ => (by simp only [List.length_set]; exact h.pos hb), by simp only [List.length_set]; exact h.n64, h.many, ?_, by simp only [h2']; simp, by simp only [e1]; simp, by simp only [e2]; simp, by simp only [e1]; simp, fun _ => ⟨e1, e2⟩, fun hx => (by rw [hm] at hx; cases hx)⟩
    intro x hx
    rcases List.mem_or_eq_of_mem_set hx with hx | rfl
    · exact h.sup x hx
    · exact h4'
  · rename_i hn
    split at h0
    · exact absurd rfl (hn _ _ _)
    · cases h0
theorem endE_ok {r : RdV} (h : RdOk r) (hb : r.begun = true) (hm : r.max = true) (ws : List (List UInt8)) (h0 : (endE r ws).1 = 0) : RdOk (endE r ws).2 := by
  unfold endE at h0 ⊢
  split
  · rename_i x a l
    simp only at h0 ⊢
    split at h0
    · cases h0
    split at h0
    · cases h0
    split at h0
    · cases h0
    split at h0
    · cases h0
    split at h0
    · cases h0
    rename_i h1 h2 h3 h4 h5
    rw [if_neg h1, if_neg h2, if_neg h3, if_neg h4, if_neg h5]
    have h3' : r.arcs = [] := Classical.not_not.1 h3
    obtain ⟨p1, p2⟩ := place_lt (Classical.not_not.1 h4)
    have hat : (r.had.set (placeW a) true)[placeW a]? = some true := by
      rw [List.getElem?_set_self]
      rw [h.lens]; exact p1
    have hno : ¬ r.had[placeW a]? = some true := fun e => h5 (.inr e)
    have hnew : ∀ x, some ((numL a).1 - 1) = some x → 0 ≤ x ∧ x < r.sup.length ∧ (r.had.set (placeW a) true)[x.toNat]? = some true := by
      intro x hx
      injection hx with hx
      subst hx
      rw [p2]
      exact ⟨by omega, by omega, by rw [Int.toNat_natCast]; exact hat⟩
    refine ⟨by simp [h.lens], fun hn => (by rw [hb] at hn; cases hn), fun _ => h.pos hb, h.n64, h.many, h.sup, h.arcs, ?_, ?_, ?_, fun hn => (by rw [hm] at hn; cases hn), h.mx⟩
    · intro x hx
      simp only at hx ⊢
      split at hx
      · exact hnew x hx
      · obtain ⟨u1, u2, u3⟩ := h.es x hx
        exact ⟨u1, u2, set_true u3⟩
    · intro x hx
      simp only at hx ⊢
      split at hx
      · obtain ⟨u1, u2, u3⟩ := h.et x hx
        exact ⟨u1, u2, set_true u3⟩
      · exact hnew x hx
    · intro x y hx hy
      simp only at hx hy
      have key : ∀ z, r.had[z.toNat]? = some true → (numL a).1 - 1 ≠ z := by
        rintro z hz rfl
        rw [p2, Int.toNat_natCast] at hz
        exact hno hz
      split at hx
      · rename_i hl
        rw [if_pos hl] at hy
        injection hx with hx
        subst hx
        exact key y (h.et y hy).2.2
      · rename_i hl
        rw [if_neg hl] at hy
        injection hy with hy
        subst hy
        exact fun e => key x (h.es x hx).2.2 e.symm
  · rename_i hn
    split at h0
    · exact absurd rfl (hn _ _ _)
    · cases h0
theorem add_arc_ok {r : RdV} (h : RdOk r) (hb : r.begun = true) (hne : ¬ (r.arcs.length : Int) = r.many) (a : ArcV) (ha : ArcOk r.sup.length a) (hx : r.max = true → a.lo = 0 ∧ a.cost = 0) : RdOk { r with arcs := r.arcs ++ [a] } := by
  obtain ⟨m1, m2⟩ := h.many
  refine ⟨h.lens, fun hn => (by rw [hb] at hn; cases hn), h.pos, h.n64, ⟨by simp; omega, m2⟩, h.sup, ?_, h.es, h.et, h.ne, h.min, fun hm => ⟨(h.mx hm).1, ?_⟩⟩
  · intro x hx
    rcases List.mem_append.1 hx with hx | hx
    · exact h.arcs x hx
    · rw [List.mem_singleton.1 hx]; exact ha
  · intro x hx'
    rcases List.mem_append.1 hx' with hx' | hx'
    · exact (h.mx hm).2 x hx'
    · rw [List.mem_singleton.1 hx']; exact hx hm
theorem arcMaxE_ok {r : RdV} (h : RdOk r) (hb : r.begun = true) (hm : r.max = true) (ws : List (List UInt8)) (h0 : (arcMaxE r ws).1 = 0) : RdOk (arcMaxE r ws).2 := by
  unfold arcMaxE at h0 ⊢
  split
  · rename_i x a b c
    simp only at h0 ⊢
    split at h0
    · cases h0
    split at h0
    · cases h0
    split at h0
    · cases h0
    rename_i h1 h2 h3
    rw [if_neg h1, if_neg h2, if_neg h3]
    have ha : inW a 1 r.sup.length := Classical.not_not.1 fun e => h3 (.inl e)
    have hb' : inW b 1 r.sup.length := Classical.not_not.1 fun e => h3 (.inr (.inl e))
    have hc : bndW c 0 := Classical.not_not.1 fun e => h3 (.inr (.inr e))
    have := inW_val ha
    have := inW_val hb'
    exact add_arc_ok h hb h2 _ ⟨⟨by simp; omega, by simp; omega⟩, ⟨by simp; omega, by simp; omega⟩, ⟨by simp, by simp⟩, bndV_ok hc, ⟨by simp, by simp⟩⟩ (fun _ => ⟨rfl, rfl⟩)
  · rename_i hn
    split at h0
    · exact absurd rfl (hn _ _ _ _)
    · cases h0
theorem arcMinE_ok {r : RdV} (h : RdOk r) (hb : r.begun = true) (hm : r.max = false) (ws : List (List UInt8)) (h0 : (arcMinE r ws).1 = 0) : RdOk (arcMinE r ws).2 := by
  unfold arcMinE at h0 ⊢
  split
  · rename_i x a b l c d
    simp only at h0 ⊢
    split at h0
    · cases h0
    split at h0
    · cases h0
    split at h0
    · cases h0
    rename_i h1 h2 h3
    rw [if_neg h1, if_neg h2, if_neg h3]
    have ha := inW_val (Classical.not_not.1 fun e => h3 (.inl e) : inW a 1 r.sup.length)
    have hb' := inW_val (Classical.not_not.1 fun e => h3 (.inr (.inl e)) : inW b 1 r.sup.length)
    have hl := inW_val (Classical.not_not.1 fun e => h3 (.inr (.inr (.inl e))) : inW l 0 2147483648)
    have hc : bndW c (numL l).1 := Classical.not_not.1 fun e => h3 (.inr (.inr (.inr (.inl e))))
    have hd := inW_val (Classical.not_not.1 fun e => h3 (.inr (.inr (.inr (.inr e)))) : inW d (-2147483648) 2147483648)
    exact add_arc_ok h hb h2 _ ⟨⟨by simp; omega, by simp; omega⟩, ⟨by simp; omega, by simp; omega⟩, hl, bndV_ok hc, hd⟩ (fun hx => (by rw [hm] at hx; cases hx))
  · rename_i hn
    split at h0
    · exact absurd rfl (hn _ _ _ _ _ _)
    · cases h0
theorem arcE_ok {r : RdV} (h : RdOk r) (hb : r.begun = true) (ws : List (List UInt8)) (h0 : (arcE r ws).1 = 0) : RdOk (arcE r ws).2 := by
  unfold arcE at h0 ⊢
  by_cases hm : r.max = true
  · rw [if_pos hm] at h0 ⊢; exact arcMaxE_ok h hb hm ws h0
  · rw [if_neg hm] at h0 ⊢; exact arcMinE_ok h hb (by simpa using hm) ws h0
theorem lineE_ok {r : RdV} (h : RdOk r) (ws : List (List UInt8)) (h0 : (lineE r ws).1 = 0) : RdOk (lineE r ws).2 := by
  unfold lineE at h0 ⊢
  split
  · exact h
  rename_i c1
  rw [if_neg c1] at h0
  split
  · rename_i c2
    rw [if_pos c2] at h0
    exact headE_ok h ws h0
  rename_i c2
  rw [if_neg c2] at h0
  split
  · rename_i c3
    rw [if_pos c3] at h0
    by_cases hb : r.begun = true
    · rw [if_neg (by simp [hb])] at h0 ⊢
      by_cases hm : r.max = true
      · rw [if_pos hm] at h0 ⊢; exact endE_ok h hb hm ws h0
      · rw [if_neg hm] at h0 ⊢; exact nodeE_ok h hb (by simpa using hm) ws h0
    · rw [if_pos hb] at h0; cases h0
  rename_i c3
  rw [if_neg c3] at h0
  split
  · rename_i c4
    rw [if_pos c4] at h0
    by_cases hb : r.begun = true
    · rw [if_neg (by simp [hb])] at h0 ⊢; exact arcE_ok h hb ws h0
    · rw [if_pos hb] at h0; cases h0
  · rename_i c4
    rw [if_neg c4] at h0; cases h0
/-- the numbers' sum stays small -/
theorem sum_small : ∀ (l : List Int) (M : Int), 0 ≤ M → (∀ x ∈ l, -M ≤ x ∧ x ≤ M) → -(M * l.length) ≤ l.sum ∧ l.sum ≤ M * l.length
  | [], M, _, _ => by simp
  | x :: l, M, hM, h => by
    obtain ⟨i1, i2⟩ := sum_small l M hM (fun y hy => h y (List.mem_cons_of_mem _ hy))
    obtain ⟨j1, j2⟩ := h x (List.mem_cons_self ..)
    rw [List.sum_cons, List.length_cons]
    have : M * ((l.length + 1 : Nat) : Int) = M * l.length + M := by rw [Int.natCast_add, Int.mul_add]; simp
    rw [this]
    omega
end Go.Proofs.YtoagphighgejnaaDoor
