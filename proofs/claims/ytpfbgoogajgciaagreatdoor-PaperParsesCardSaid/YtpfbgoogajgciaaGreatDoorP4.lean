/- Plain: what is told prints as it was. Conditions: none. -/
import Derived.Test.YtpfbgoogajgciaaGreatDoorP2
set_option linter.unusedSimpArgs false
set_option linter.unusedVariables false
namespace Go.Proofs.YtpfbgoogajgciaaGreatDoor
open Go.RowKit Go.Shelf

/-- what a field's number may be -/
def Fld.may : Fld → Int → Prop
  | .flow, x => -9223372036854775808 ≤ x ∧ x ≤ 9223372036854775807
  | .pot, x => -9223372036854775808 ≤ x ∧ x ≤ 9223372036854775807
  | .side, x => x = 0 ∨ x = 1
  | .cycle, x => 0 ≤ x ∧ x ≤ 9223372036854775807

theorem turn_told (f : Fld) (t : List UInt8) (h : (f.turn t).2 = 0) : Lib.itoa (f.turn t).1 = t ∧ f.may (f.turn t).1 := by
  cases f with
  | flow => exact ⟨num_back h, numL_range t⟩
  | pot => exact ⟨num_back h, numL_range t⟩
  | side =>
    have e0 : Lib.itoa 0 = [48] := by rw [show (0 : Int) = ((0 : Nat) : Int) from rfl, Lib.itoa_nonneg, Lib.decDigits_one (by omega)]; rfl
    have e1 : Lib.itoa 1 = [49] := by rw [show (1 : Int) = ((1 : Nat) : Int) from rfl, Lib.itoa_nonneg, Lib.decDigits_one (by omega)]; rfl
    simp only [Fld.turn, bitL] at h ⊢
    by_cases h1 : t = [49]
    · rw [if_pos h1]; subst h1; exact ⟨e1, Or.inr rfl⟩
    · rw [if_neg h1] at h ⊢
      by_cases h2 : t = [48]
      · rw [if_pos h2]; subst h2; exact ⟨e0, Or.inl rfl⟩
      · rw [if_neg h2] at h; simp at h
  | cycle =>
    simp only [Fld.turn, arcL] at h ⊢
    by_cases h1 : (numL t).2 ≠ 0
    · rw [if_pos h1] at h; exact absurd h h1
    · rw [if_neg h1] at h ⊢
      by_cases h2 : (numL t).1 < 0
      · rw [if_pos h2] at h; simp at h
      · rw [if_neg h2]
        exact ⟨num_back (Decidable.not_not.1 h1), by show 0 ≤ (numL t).1; omega, (numL_range t).2⟩

theorem list_told (f : Fld) (t : List UInt8) (h : (listL f.turn f.name (cutL 32 t)).2 = 0) :
    Lib.join (f.name :: (listL f.turn f.name (cutL 32 t)).1.map Lib.itoa) [32] = t ∧ (listL f.turn f.name (cutL 32 t)).1.length ≤ 1000 ∧ ∀ x ∈ (listL f.turn f.name (cutL 32 t)).1, f.may x := by
  have hj := join_cut 32 t
  generalize cutL 32 t = ws at h hj ⊢
  unfold listL at h ⊢
  by_cases h1 : ws.head? ≠ some f.name
  · rw [if_pos h1] at h; simp at h
  rw [if_neg h1] at h ⊢
  by_cases h2 : (ws.tail.map f.turn).any (fun p => decide (p.2 ≠ 0 ∧ p.2 ≠ 11)) = true
  · rw [if_pos h2] at h; simp at h
  rw [if_neg h2] at h ⊢
  by_cases h3 : 1000 < ws.tail.length
  · rw [if_pos h3] at h; simp at h
  rw [if_neg h3] at h ⊢
  by_cases h4 : (ws.tail.map f.turn).any (fun p => decide (p.2 ≠ 0)) = true
  · rw [if_pos h4] at h; simp at h
  rw [if_neg h4]
  have hz : ∀ x ∈ ws.tail, (f.turn x).2 = 0 := by
    intro x hx
    simp only [List.any_eq_true, List.mem_map, decide_eq_true_eq, not_exists, not_and] at h4
    exact Decidable.not_not.1 (h4 _ ⟨x, hx, rfl⟩)
  cases ws with
  | nil => simp at h1
  | cons a ws =>
    simp only [List.tail_cons] at hz h3 ⊢
    have ha : a = f.name := by simpa using h1
    subst ha
    refine ⟨?_, by simpa using h3, ?_⟩
    · have e : ((ws.map f.turn).map (·.1)).map Lib.itoa = ws := by
        rw [List.map_map, List.map_map]
        conv => rhs; rw [← List.map_id ws]
        exact List.map_congr_left (fun x hx => (turn_told f x (hz x hx)).1)
      rw [e]; exact hj
    · intro x hx
      obtain ⟨p, hp, rfl⟩ := List.mem_map.1 hx
      obtain ⟨y, hy, rfl⟩ := List.mem_map.1 hp
      exact (turn_told f y (hz y hy)).2

theorem wantF_some {t : List UInt8} {k : Int} {fs : List Fld} (h : wantF t = some (k, fs)) : (t = bestL ∧ k = 1 ∧ fs = [.flow, .pot]) ∨ (t = cutN ∧ k = 2 ∧ fs = [.side]) ∨ (t = rayL ∧ k = 3 ∧ fs = [.flow, .cycle]) := by
  unfold wantF at h
  by_cases h1 : t = bestL
  · rw [if_pos h1] at h; simp at h; exact Or.inl ⟨h1, h.1.symm, h.2.symm⟩
  rw [if_neg h1] at h
  by_cases h2 : t = cutN
  · rw [if_pos h2] at h; simp at h; exact Or.inr (Or.inl ⟨h2, h.1.symm, h.2.symm⟩)
  rw [if_neg h2] at h
  by_cases h3 : t = rayL
  · rw [if_pos h3] at h; simp at h; exact Or.inr (Or.inr ⟨h3, h.1.symm, h.2.symm⟩)
  rw [if_neg h3] at h; simp at h

theorem go2 {f g : Fld} {c : CertV} {k : Nat} {ts : List (List UInt8)} (h : (goL [f, g] c k ts).2.1 = 0) : ∃ a b, ts = [a, b] ∧ (listL f.turn f.name (cutL 32 a)).2 = 0 ∧ (listL g.turn g.name (cutL 32 b)).2 = 0 ∧ goL [f, g] c k ts = ((c.put f (listL f.turn f.name (cutL 32 a)).1).put g (listL g.turn g.name (cutL 32 b)).1, 0, 0) := by
  match ts with
  | [] => simp [goL] at h
  | [a] =>
    simp only [goL] at h
    split at h
    · rename_i h1; exact absurd h h1
    · simp at h
  | a :: b :: ts =>
    simp only [goL] at h ⊢
    by_cases h1 : (listL f.turn f.name (cutL 32 a)).2 ≠ 0
    · rw [if_pos h1] at h; exact absurd h h1
    rw [if_neg h1] at h ⊢
    by_cases h2 : (listL g.turn g.name (cutL 32 b)).2 ≠ 0
    · rw [if_pos h2] at h; exact absurd h h2
    rw [if_neg h2] at h ⊢
    cases ts with
    | nil => exact ⟨a, b, rfl, Decidable.not_not.1 h1, Decidable.not_not.1 h2, by simp [goL]⟩
    | cons x ts => simp [goL] at h
theorem go1 {f : Fld} {c : CertV} {k : Nat} {ts : List (List UInt8)} (h : (goL [f] c k ts).2.1 = 0) : ∃ a, ts = [a] ∧ (listL f.turn f.name (cutL 32 a)).2 = 0 ∧ goL [f] c k ts = (c.put f (listL f.turn f.name (cutL 32 a)).1, 0, 0) := by
  match ts with
  | [] => simp [goL] at h
  | a :: ts =>
    simp only [goL] at h ⊢
    by_cases h1 : (listL f.turn f.name (cutL 32 a)).2 ≠ 0
    · rw [if_pos h1] at h; exact absurd h h1
    rw [if_neg h1] at h ⊢
    cases ts with
    | nil => exact ⟨a, rfl, Decidable.not_not.1 h1, by simp [goL]⟩
    | cons x ts => simp [goL] at h
/-- what is told is well made, and prints as it was, but for the end of its last line -/
theorem told_back (s : List UInt8) (hs : s.length < 60000) (h : (parseL s).2.1 = 0) :
    CertOk (parseL s).1 ∧ (parseL s).1.flow.length ≤ 1000 ∧ (parseL s).1.pot.length ≤ 1000 ∧ (parseL s).1.side.length ≤ 1000 ∧ (parseL s).1.cycle.length ≤ 1000 ∧ printL (parseL s).1 = (flatL 10 (linesL s), 0) := by
  have hfl : (flatL 10 (linesL s)).length ≤ 60000 := by
    rcases lines_flat s with e | ⟨e, -, -⟩
    · rw [e]; omega
    · rw [e, List.length_append]; simp; omega
  unfold parseL at h ⊢
  rw [if_neg (by omega)] at h ⊢
  generalize linesL s = L at h hfl ⊢
  cases L with
  | nil => simp [parseT] at h
  | cons t ts =>
    simp only [parseT] at h ⊢
    cases hw : wantF t with
    | none => rw [hw] at h; simp at h
    | some p =>
      obtain ⟨k, fs⟩ := p
      rw [hw] at h
      simp only at h ⊢
      rcases wantF_some hw with ⟨rfl, rfl, rfl⟩ | ⟨rfl, rfl, rfl⟩ | ⟨rfl, rfl, rfl⟩
      · obtain ⟨a, b, rfl, ha, hb, hg⟩ := go2 h
        obtain ⟨a1, a2, a3⟩ := list_told .flow a ha
        obtain ⟨b1, b2, b3⟩ := list_told .pot b hb
        rw [hg]
        generalize (listL Fld.flow.turn Fld.flow.name (cutL 32 a)).1 = l at a1 a2 a3 ⊢
        generalize (listL Fld.pot.turn Fld.pot.name (cutL 32 b)).1 = m at b1 b2 b3 ⊢
        refine ⟨⟨a3, b3, by simp [CertV.put], by simp [CertV.put]⟩, a2, b2, by simp [CertV.put], by simp [CertV.put], ?_⟩
        have e : textL ((CertV.put ⟨1, [], [], [], []⟩ .flow l).put .pot m) = flatL 10 [bestL, a, b] := by
          simp [textL, lineL, CertV.put, a1, b1, flatL]
        unfold printL
        rw [e, if_neg (by simp [plainC, CertV.put]), if_neg (by simp [CertV.put]; omega), if_neg (by simp [CertV.put]), if_neg (by omega)]
      · obtain ⟨a, rfl, ha, hg⟩ := go1 h
        obtain ⟨a1, a2, a3⟩ := list_told .side a ha
        rw [hg]
        generalize (listL Fld.side.turn Fld.side.name (cutL 32 a)).1 = l at a1 a2 a3 ⊢
        refine ⟨⟨by simp [CertV.put], by simp [CertV.put], a3, by simp [CertV.put]⟩, by simp [CertV.put], by simp [CertV.put], a2, by simp [CertV.put], ?_⟩
        have e : textL (CertV.put ⟨2, [], [], [], []⟩ .side l) = flatL 10 [cutN, a] := by
          simp [textL, lineL, CertV.put, a1, flatL]
        unfold printL
        rw [e, if_neg (by simp [plainC, CertV.put]), if_neg (by simp [CertV.put]; omega), if_neg (by simp [CertV.put]), if_neg (by omega)]
      · obtain ⟨a, b, rfl, ha, hb, hg⟩ := go2 h
        obtain ⟨a1, a2, a3⟩ := list_told .flow a ha
        obtain ⟨b1, b2, b3⟩ := list_told .cycle b hb
        rw [hg]
        generalize (listL Fld.flow.turn Fld.flow.name (cutL 32 a)).1 = l at a1 a2 a3 ⊢
        generalize (listL Fld.cycle.turn Fld.cycle.name (cutL 32 b)).1 = m at b1 b2 b3 ⊢
        refine ⟨⟨a3, by simp [CertV.put], by simp [CertV.put], fun x hx => ⟨by have := (b3 x hx).1; omega, (b3 x hx).2⟩⟩, a2, by simp [CertV.put], by simp [CertV.put], b2, ?_⟩
        have e : textL ((CertV.put ⟨3, [], [], [], []⟩ .flow l).put .cycle m) = flatL 10 [rayL, a, b] := by
          simp [textL, lineL, CertV.put, a1, b1, flatL]
        unfold printL
        rw [e, if_neg (by simp [plainC, CertV.put]), if_neg (by simp [CertV.put]; omega), if_neg (by simp only [CertV.put, List.any_eq_true, decide_eq_true_eq, not_exists, not_and]; intro x hx; have := (b3 x hx).1; omega), if_neg (by omega)]
end Go.Proofs.YtpfbgoogajgciaaGreatDoor
