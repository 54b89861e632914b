/- Plain words for problems as files: what is read stays well made. Conditions: none. -/
import Derived.Test.YtoagphighgejnaaGreatDoorAV
set_option linter.unusedSimpArgs false
set_option linter.unusedVariables false
namespace Go.Proofs.YtoagphighgejnaaGreatDoor
open Go.RowKit Go.Shelf

/-- a problem -/
structure ProbV where
  max : Bool
  sup : List Int
  arcs : List ArcV
  s : Int
  t : Int
  deriving DecidableEq
def prob0 : ProbV := ⟨false, [], [], 0, 0⟩
/-- what was read so far -/
structure RdV where
  begun : Bool
  many : Int
  max : Bool
  sup : List Int
  arcs : List ArcV
  had : List Bool
  es : Option Int
  et : Option Int
def rd0 : RdV := ⟨false, 0, false, [], [], [], none, none⟩
def wMin : List UInt8 := [109, 105, 110]
def wMax : List UInt8 := [109, 97, 120]
abbrev infC : Int := 4611686018427387904
/-- a word that has not the form of a number -/
def badW (w : List UInt8) : Prop := (numL w).2 = 10
instance (w : List UInt8) : Decidable (badW w) := inferInstanceAs (Decidable ((numL w).2 = 10))
/-- a word that is a number from so much to so much -/
def inW (w : List UInt8) (lo hi : Int) : Prop := (numL w).2 = 0 ∧ lo ≤ (numL w).1 ∧ (numL w).1 ≤ hi
instance (w : List UInt8) (lo hi : Int) : Decidable (inW w lo hi) := inferInstanceAs (Decidable (_ ∧ _ ∧ _))
def bndW (w : List UInt8) (lo : Int) : Prop := (numL w).2 = 0 ∧ ((numL w).1 = -1 ∨ (lo ≤ (numL w).1 ∧ (numL w).1 ≤ 2147483648))
instance (w : List UInt8) (lo : Int) : Decidable (bndW w lo) := inferInstanceAs (Decidable (_ ∧ (_ ∨ _ ∧ _)))
def bndV (w : List UInt8) : Int := if (numL w).1 = -1 then infC else (numL w).1
def placeW (w : List UInt8) : Nat := ((numL w).1 - 1).toNat
def headE (r : RdV) : List (List UInt8) → Int × RdV
  | [_, k, a, b] =>
    if ¬ k = wMin ∧ ¬ k = wMax then (10, r) else if badW a ∨ badW b then (10, r) else if r.begun = true then (12, r)
    else if ¬ inW a 1 64 then (11, r) else if ¬ inW b 0 256 then (11, r)
    else (0, ⟨true, (numL b).1, decide (k = wMax), List.replicate (numL a).1.toNat 0, r.arcs, List.replicate (numL a).1.toNat false, none, none⟩)
  | _ => (10, r)
def nodeE (r : RdV) : List (List UInt8) → Int × RdV
  | [_, a, b] =>
    if badW a ∨ badW b then (10, r) else if ¬ r.arcs = [] then (12, r)
    else if ¬ inW a 1 r.sup.length then (11, r) else if ¬ inW b (-2147483648) 2147483648 then (11, r)
    else if r.had[placeW a]? = some true then (13, r)
    else (0, { r with had := r.had.set (placeW a) true, sup := r.sup.set (placeW a) (numL b).1 })
  | _ => (10, r)
/-- which end a letter tells -/
def endOf (r : RdV) (l : List UInt8) : Option Int := if l = [115] then r.es else r.et
def endE (r : RdV) : List (List UInt8) → Int × RdV
  | [_, a, l] =>
    if ¬ l = [115] ∧ ¬ l = [116] then (10, r) else if badW a then (10, r) else if ¬ r.arcs = [] then (12, r)
    else if ¬ inW a 1 r.sup.length then (11, r)
    else if (endOf r l).isSome = true ∨ r.had[placeW a]? = some true then (13, r)
    else (0, { r with had := r.had.set (placeW a) true, es := if l = [115] then some ((numL a).1 - 1) else r.es, et := if l = [115] then r.et else some ((numL a).1 - 1) })
  | _ => (10, r)
def arcMaxE (r : RdV) : List (List UInt8) → Int × RdV
  | [_, a, b, c] =>
    if badW a ∨ badW b ∨ badW c then (10, r) else if (r.arcs.length : Int) = r.many then (12, r)
    else if ¬ inW a 1 r.sup.length ∨ ¬ inW b 1 r.sup.length ∨ ¬ bndW c 0 then (11, r)
    else (0, { r with arcs := r.arcs ++ [⟨(numL a).1 - 1, (numL b).1 - 1, 0, bndV c, 0⟩] })
  | _ => (10, r)
def arcMinE (r : RdV) : List (List UInt8) → Int × RdV
  | [_, a, b, l, c, d] =>
    if badW a ∨ badW b ∨ badW l ∨ badW c ∨ badW d then (10, r) else if (r.arcs.length : Int) = r.many then (12, r)
    else if ¬ inW a 1 r.sup.length ∨ ¬ inW b 1 r.sup.length ∨ ¬ inW l 0 2147483648 ∨ ¬ bndW c (numL l).1 ∨ ¬ inW d (-2147483648) 2147483648 then (11, r)
    else (0, { r with arcs := r.arcs ++ [⟨(numL a).1 - 1, (numL b).1 - 1, (numL l).1, bndV c, (numL d).1⟩] })
  | _ => (10, r)
def arcE (r : RdV) (ws : List (List UInt8)) : Int × RdV := if r.max = true then arcMaxE r ws else arcMinE r ws
def lineE (r : RdV) (ws : List (List UInt8)) : Int × RdV :=
  if ws.head? = some [99] then (0, r) else if ws.head? = some [112] then headE r ws
  else if ws.head? = some [110] then (if ¬ r.begun = true then (12, r) else if r.max = true then endE r ws else nodeE r ws)
  else if ws.head? = some [97] then (if ¬ r.begun = true then (12, r) else arcE r ws)
  else (10, r)
def sumL (l : List Int) : Int := l.foldl (· + ·) 0
def finE (r : RdV) : ProbV × Int :=
  if ¬ r.begun = true ∨ (r.arcs.length : Int) < r.many then (prob0, 12)
  else if r.max = true ∧ ¬ (r.es.isSome = true ∧ r.et.isSome = true) then (prob0, 12)
  else if ¬ r.sup.sum = 0 then (prob0, 25)
  else (⟨r.max, r.sup, r.arcs, r.es.getD 0, r.et.getD 0⟩, 0)
def readE : RdV → Nat → List (List UInt8) → ProbV × Int × Int
  | r, _, [] => ((finE r).1, (finE r).2, 0)
  | r, k, t :: ts => if ¬ (lineE r (cutL 32 t)).1 = 0 then (prob0, (lineE r (cutL 32 t)).1, (k : Int) + 1) else readE (lineE r (cutL 32 t)).2 (k + 1) ts
/-- what a file tells: the problem, the error, the line -/
def parseF (s : List UInt8) : ProbV × Int × Int := if 60000 < s.length then (prob0, 3, 0) else readE rd0 0 (linesL s)

/-- what may be an arc among so many nodes -/
structure ArcOk (n : Nat) (a : ArcV) : Prop where
  f : 0 ≤ a.f ∧ a.f < n
  t : 0 ≤ a.t ∧ a.t < n
  lo : 0 ≤ a.lo ∧ a.lo ≤ 2147483648
  cap : a.cap = infC ∨ (a.lo ≤ a.cap ∧ a.cap ≤ 2147483648)
  cost : -2147483648 ≤ a.cost ∧ a.cost ≤ 2147483648
/-- what is true of all that was read -/
structure RdOk (r : RdV) : Prop where
  lens : r.had.length = r.sup.length
  none_ : r.begun = false → r = rd0
  pos : r.begun = true → 0 < r.sup.length
  n64 : r.sup.length ≤ 64
  many : (r.arcs.length : Int) ≤ r.many ∧ r.many ≤ 256
  sup : ∀ x ∈ r.sup, -2147483648 ≤ x ∧ x ≤ 2147483648
  arcs : ∀ a ∈ r.arcs, ArcOk r.sup.length a
  es : ∀ x, r.es = some x → 0 ≤ x ∧ x < r.sup.length ∧ r.had[x.toNat]? = some true
  et : ∀ x, r.et = some x → 0 ≤ x ∧ x < r.sup.length ∧ r.had[x.toNat]? = some true
  ne : ∀ x y, r.es = some x → r.et = some y → x ≠ y
  min : r.max = false → r.es = none ∧ r.et = none
  mx : r.max = true → (∀ x ∈ r.sup, x = 0) ∧ ∀ a ∈ r.arcs, a.lo = 0 ∧ a.cost = 0

theorem rd0_ok : RdOk rd0 where
  lens := rfl
  none_ := fun _ => rfl
  pos := fun h => by cases h
  n64 := by decide
  many := by decide
  sup := by simp [rd0]
  arcs := by simp [rd0]
  es := by simp [rd0]
  et := by simp [rd0]
  ne := by simp [rd0]
  min := fun _ => ⟨rfl, rfl⟩
  mx := fun h => by cases h

theorem place_lt {a : List UInt8} {n : Nat} (h : inW a 1 n) : placeW a < n ∧ (numL a).1 - 1 = placeW a := by
  obtain ⟨_, h1, h2⟩ := h
  unfold placeW
  omega
theorem arc_ok_more {n : Nat} {a : ArcV} (h : ArcOk n a) : ArcOk n a := h
theorem bndV_ok {c : List UInt8} {lo : Int} (h : bndW c lo) : bndV c = infC ∨ (lo ≤ bndV c ∧ bndV c ≤ 2147483648) := by
  unfold bndV
  obtain ⟨_, h⟩ := h
  split
  · exact .inl rfl
  · rename_i hn; exact .inr (h.resolve_left hn)
theorem headE_ok {r : RdV} (h : RdOk r) (ws : List (List UInt8)) (h0 : (headE r ws).1 = 0) : RdOk (headE r ws).2 := by
  unfold headE at h0 ⊢
  split
  · rename_i k a b
    simp only at h0 ⊢
    split at h0
    · cases h0
    split at h0
    · cases h0
    split at h0
    · cases h0
    split at h0
    · cases h0
    split at h0
    · cases h0
    rename_i h1 h2 h3 h4 h5
    rw [if_neg h1, if_neg h2, if_neg h3, if_neg h4, if_neg h5]
    have h3' : r.begun = false := by simpa using h3
    have hr := h.none_ h3'
    subst hr
    have h4' : inW a 1 64 := Classical.not_not.1 h4
    have h5' : inW b 0 256 := Classical.not_not.1 h5
    obtain ⟨_, a1, a2⟩ := h4'
    obtain ⟨_, b1, b2⟩ := h5'
    refine ⟨by simp, by simp, fun _ => by simp; omega, by simp; omega, ⟨by simp [rd0]; exact b1, b2⟩, ?_, by simp [rd0], by simp, by simp, by simp, fun _ => ⟨rfl, rfl⟩, fun _ => ⟨?_, by simp [rd0]⟩⟩
    · intro x hx
      obtain ⟨_, rfl⟩ := List.mem_replicate.1 hx
      decide
    · intro x hx
      exact (List.mem_replicate.1 hx).2
  · rename_i hn
    split at h0
    · exact absurd rfl (hn _ _ _ _)
    · cases h0

theorem inW_val {a : List UInt8} {lo hi : Int} (h : inW a lo hi) : lo ≤ (numL a).1 ∧ (numL a).1 ≤ hi := h.2
theorem set_true {l : List Bool} {k j : Nat} (h : l[j]? = some true) : (l.set k true)[j]? = some true := by
  rw [List.getElem?_set]
  split
  · rename_i e; subst e
    have := (List.getElem?_eq_some_iff.1 h).1
    simp [this]
  · exact h
theorem nodeE_ok {r : RdV} (h : RdOk r) (hb : r.begun = true) (hm : r.max = false) (ws : List (List UInt8)) (h0 : (nodeE r ws).1 = 0) : RdOk (nodeE r ws).2 := by
  unfold nodeE at h0 ⊢
  split
  · rename_i x a b
    simp only at h0 ⊢
    split at h0
    · cases h0
    split at h0
    · cases h0
    split at h0
    · cases h0
    split at h0
    · cases h0
    split at h0
    · cases h0
    rename_i h1 h2 h3 h4 h5
    rw [if_neg h1, if_neg h2, if_neg h3, if_neg h4, if_neg h5]
    have h2' : r.arcs = [] := Classical.not_not.1 h2
    have h4' := inW_val (Classical.not_not.1 h4)
    obtain ⟨e1, e2⟩ := h.min hm
    refine ⟨by simp [h.lens], fun hn => (by rw [hb] at hn; cases hn), fun _ => (by simp only [List.length_set]; exact h.pos hb), by simp only [List.length_set]; exact h.n64, h.many, ?_, by simp only [h2']; simp, by simp only [e1]; simp, by simp only [e2]; simp, by simp only [e1]; simp, fun _ => ⟨e1, e2⟩, fun hx => (by rw [hm] at hx; cases hx)⟩
    intro x hx
    rcases List.mem_or_eq_of_mem_set hx with hx | rfl
    · exact h.sup x hx
    · exact h4'
  · rename_i hn
    split at h0
    · exact absurd rfl (hn _ _ _)
    · cases h0
theorem endE_ok {r : RdV} (h : RdOk r) (hb : r.begun = true) (hm : r.max = true) (ws : List (List UInt8)) (h0 : (endE r ws).1 = 0) : RdOk (endE r ws).2 := by
  unfold endE at h0 ⊢
  split
  · rename_i x a l
    simp only at h0 ⊢
    split at h0
    · cases h0
    split at h0
    · cases h0
    split at h0
    · cases h0
    split at h0
    · cases h0
    split at h0
    · cases h0
    rename_i h1 h2 h3 h4 h5
    rw [if_neg h1, if_neg h2, if_neg h3, if_neg h4, if_neg h5]
    have h3' : r.arcs = [] := Classical.not_not.1 h3
    obtain ⟨p1, p2⟩ := place_lt (Classical.not_not.1 h4)
    have hat : (r.had.set (placeW a) true)[placeW a]? = some true := by
      rw [List.getElem?_set_self]
      rw [h.lens]; exact p1
    have hno : ¬ r.had[placeW a]? = some true := fun e => h5 (.inr e)
    have hnew : ∀ x, some ((numL a).1 - 1) = some x → 0 ≤ x ∧ x < r.sup.length ∧ (r.had.set (placeW a) true)[x.toNat]? = some true := by
      intro x hx
      injection hx with hx
      subst hx
      rw [p2]
      exact ⟨by omega, by omega, by rw [Int.toNat_natCast]; exact hat⟩
    refine ⟨by simp [h.lens], fun hn => (by rw [hb] at hn; cases hn), fun _ => h.pos hb, h.n64, h.many, h.sup, h.arcs, ?_, ?_, ?_, fun hn => (by rw [hm] at hn; cases hn), h.mx⟩
    · intro x hx
      simp only at hx ⊢
      split at hx
      · exact hnew x hx
      · obtain ⟨u1, u2, u3⟩ := h.es x hx
        exact ⟨u1, u2, set_true u3⟩
    · intro x hx
      simp only at hx ⊢
      split at hx
      · obtain ⟨u1, u2, u3⟩ := h.et x hx
        exact ⟨u1, u2, set_true u3⟩
      · exact hnew x hx
    · intro x y hx hy
      simp only at hx hy
      have key : ∀ z, r.had[z.toNat]? = some true → (numL a).1 - 1 ≠ z := by
        rintro z hz rfl
        rw [p2, Int.toNat_natCast] at hz
        exact hno hz
      split at hx
      · rename_i hl
        rw [if_pos hl] at hy
        injection hx with hx
        subst hx
        exact key y (h.et y hy).2.2
      · rename_i hl
        rw [if_neg hl] at hy
        injection hy with hy
        subst hy
        exact fun e => key x (h.es x hx).2.2 e.symm
  · rename_i hn
    split at h0
    · exact absurd rfl (hn _ _ _)
    · cases h0
theorem add_arc_ok {r : RdV} (h : RdOk r) (hb : r.begun = true) (hne : ¬ (r.arcs.length : Int) = r.many) (a : ArcV) (ha : ArcOk r.sup.length a) (hx : r.max = true → a.lo = 0 ∧ a.cost = 0) : RdOk { r with arcs := r.arcs ++ [a] } := by
  obtain ⟨m1, m2⟩ := h.many
  refine ⟨h.lens, fun hn => (by rw [hb] at hn; cases hn), h.pos, h.n64, ⟨by simp; omega, m2⟩, h.sup, ?_, h.es, h.et, h.ne, h.min, fun hm => ⟨(h.mx hm).1, ?_⟩⟩
  · intro x hx
    rcases List.mem_append.1 hx with hx | hx
    · exact h.arcs x hx
    · rw [List.mem_singleton.1 hx]; exact ha
  · intro x hx'
    rcases List.mem_append.1 hx' with hx' | hx'
    · exact (h.mx hm).2 x hx'
    · rw [List.mem_singleton.1 hx']; exact hx hm
theorem arcMaxE_ok {r : RdV} (h : RdOk r) (hb : r.begun = true) (hm : r.max = true) (ws : List (List UInt8)) (h0 : (arcMaxE r ws).1 = 0) : RdOk (arcMaxE r ws).2 := by
  unfold arcMaxE at h0 ⊢
  split
  · rename_i x a b c
    simp only at h0 ⊢
    split at h0
    · cases h0
    split at h0
    · cases h0
    split at h0
    · cases h0
    rename_i h1 h2 h3
    rw [if_neg h1, if_neg h2, if_neg h3]
    have ha : inW a 1 r.sup.length := Classical.not_not.1 fun e => h3 (.inl e)
    have hb' : inW b 1 r.sup.length := Classical.not_not.1 fun e => h3 (.inr (.inl e))
    have hc : bndW c 0 := Classical.not_not.1 fun e => h3 (.inr (.inr e))
    have := inW_val ha
    have := inW_val hb'
    exact add_arc_ok h hb h2 _ ⟨⟨by simp; omega, by simp; omega⟩, ⟨by simp; omega, by simp; omega⟩, ⟨by simp, by simp⟩, bndV_ok hc, ⟨by simp, by simp⟩⟩ (fun _ => ⟨rfl, rfl⟩)
  · rename_i hn
    split at h0
    · exact absurd rfl (hn _ _ _ _)
    · cases h0
theorem arcMinE_ok {r : RdV} (h : RdOk r) (hb : r.begun = true) (hm : r.max = false) (ws : List (List UInt8)) (h0 : (arcMinE r ws).1 = 0) : RdOk (arcMinE r ws).2 := by
  unfold arcMinE at h0 ⊢
  split
  · rename_i x a b l c d
    simp only at h0 ⊢
    split at h0
    · cases h0
    split at h0
    · cases h0
    split at h0
    · cases h0
    rename_i h1 h2 h3
    rw [if_neg h1, if_neg h2, if_neg h3]
    have ha := inW_val (Classical.not_not.1 fun e => h3 (.inl e) : inW a 1 r.sup.length)
    have hb' := inW_val (Classical.not_not.1 fun e => h3 (.inr (.inl e)) : inW b 1 r.sup.length)
    have hl := inW_val (Classical.not_not.1 fun e => h3 (.inr (.inr (.inl e))) : inW l 0 2147483648)
    have hc : bndW c (numL l).1 := Classical.not_not.1 fun e => h3 (.inr (.inr (.inr (.inl e))))
    have hd := inW_val (Classical.not_not.1 fun e => h3 (.inr (.inr (.inr (.inr e)))) : inW d (-2147483648) 2147483648)
    exact add_arc_ok h hb h2 _ ⟨⟨by simp; omega, by simp; omega⟩, ⟨by simp; omega, by simp; omega⟩, hl, bndV_ok hc, hd⟩ (fun hx => (by rw [hm] at hx; cases hx))
  · rename_i hn
    split at h0
    · exact absurd rfl (hn _ _ _ _ _ _)
    · cases h0
theorem arcE_ok {r : RdV} (h : RdOk r) (hb : r.begun = true) (ws : List (List UInt8)) (h0 : (arcE r ws).1 = 0) : RdOk (arcE r ws).2 := by
  unfold arcE at h0 ⊢
  by_cases hm : r.max = true
  · rw [if_pos hm] at h0 ⊢; exact arcMaxE_ok h hb hm ws h0
  · rw [if_neg hm] at h0 ⊢; exact arcMinE_ok h hb (by simpa using hm) ws h0
theorem lineE_ok {r : RdV} (h : RdOk r) (ws : List (List UInt8)) (h0 : (lineE r ws).1 = 0) : RdOk (lineE r ws).2 := by
  unfold lineE at h0 ⊢
  split
  · exact h
  rename_i c1
  rw [if_neg c1] at h0
  split
  · rename_i c2
    rw [if_pos c2] at h0
    exact headE_ok h ws h0
  rename_i c2
  rw [if_neg c2] at h0
  split
  · rename_i c3
    rw [if_pos c3] at h0
    by_cases hb : r.begun = true
    · rw [if_neg (by simp [hb])] at h0 ⊢
      by_cases hm : r.max = true
      · rw [if_pos hm] at h0 ⊢; exact endE_ok h hb hm ws h0
      · rw [if_neg hm] at h0 ⊢; exact nodeE_ok h hb (by simpa using hm) ws h0
    · rw [if_pos hb] at h0; cases h0
  rename_i c3
  rw [if_neg c3] at h0
  split
  · rename_i c4
    rw [if_pos c4] at h0
    by_cases hb : r.begun = true
    · rw [if_neg (by simp [hb])] at h0 ⊢; exact arcE_ok h hb ws h0
    · rw [if_pos hb] at h0; cases h0
  · rename_i c4
    rw [if_neg c4] at h0; cases h0
/-- the numbers' sum stays small -/
theorem sum_small : ∀ (l : List Int) (M : Int), 0 ≤ M → (∀ x ∈ l, -M ≤ x ∧ x ≤ M) → -(M * l.length) ≤ l.sum ∧ l.sum ≤ M * l.length
  | [], M, _, _ => by simp
  | x :: l, M, hM, h => by
    obtain ⟨i1, i2⟩ := sum_small l M hM (fun y hy => h y (List.mem_cons_of_mem _ hy))
    obtain ⟨j1, j2⟩ := h x (List.mem_cons_self ..)
    rw [List.sum_cons, List.length_cons]
    have : M * ((l.length + 1 : Nat) : Int) = M * l.length + M := by rw [Int.natCast_add, Int.mul_add]; simp
    rw [this]
    omega
end Go.Proofs.YtoagphighgejnaaGreatDoor
