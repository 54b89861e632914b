/- Plain: what is printed is told again. Conditions: none. -/
import Derived.Test.YtpfbgoogajgciaaDoorP1
import Derived.Test.YtpfbgoogajgciaaDoorN13
import Derived.Test.YtpfbgoogajgciaaDoorQ8
set_option linter.unusedSimpArgs false
set_option linter.unusedVariables false
namespace Go.Proofs.YtpfbgoogajgciaaDoor
open Go.RowKit Go.Shelf

theorem digs_ge (n : Nat) : ∀ u, u ≤ n → ∀ c ∈ Lib.decDigits u, 45 ≤ c.toNat := by
  induction n with
  | zero => intro u hu c hc; obtain rfl : u = 0 := by omega
            rw [Lib.decDigits_one (by omega)] at hc
            simp at hc; subst hc; decide
  | succ n ih =>
    intro u hu c hc
    by_cases h : u < 10
    · rw [Lib.decDigits_one h] at hc
      simp only [List.mem_singleton] at hc; subst hc; rw [dig_toNat h]; omega
    · rw [decDigits_step (by omega)] at hc
      rcases List.mem_append.1 hc with hc | hc
      · exact ih _ (by omega) c hc
      · simp only [List.mem_singleton] at hc; subst hc; rw [dig_toNat (by omega)]; omega
theorem itoa_ge (n : Int) : ∀ c ∈ Lib.itoa n, 45 ≤ c.toNat := by
  by_cases hn : n < 0
  · obtain ⟨u, rfl⟩ : ∃ u : Nat, n = -(u : Int) := ⟨n.natAbs, by omega⟩
    rw [Lib.itoa_neg u (by omega)]
    intro c hc
    rcases List.mem_cons.1 hc with rfl | hc
    · decide
    · exact digs_ge u u (Nat.le_refl _) c hc
  · obtain ⟨u, rfl⟩ : ∃ u : Nat, n = u := ⟨n.toNat, by omega⟩
    rw [Lib.itoa_nonneg]
    exact digs_ge u u (Nat.le_refl _)
theorem name_ge (f : Fld) : ∀ c ∈ f.name, 45 ≤ c.toNat := by cases f <;> decide
theorem words_ge (f : Fld) (l : List Int) : ∀ x ∈ f.name :: l.map Lib.itoa, ∀ c ∈ x, 45 ≤ c.toNat := by
  intro x hx
  rcases List.mem_cons.1 hx with rfl | hx
  · exact name_ge f
  · obtain ⟨n, -, rfl⟩ := List.mem_map.1 hx
    exact itoa_ge n
theorem words_cut (f : Fld) (l : List Int) : cutL 32 (Lib.join (f.name :: l.map Lib.itoa) [32]) = f.name :: l.map Lib.itoa :=
  cut_join 32 _ (by simp) (fun x hx h => by have := words_ge f l x hx 32 h; simp at this)
theorem join_no10 (L : List (List UInt8)) (h : ∀ x ∈ L, (10 : UInt8) ∉ x) : (10 : UInt8) ∉ Lib.join L [32] := by
  cases L with
  | nil => simp [Lib.join]
  | cons x L =>
    rw [Lib.join_cons]
    simp only [Lib.joinTail, List.mem_append, List.mem_flatten, List.mem_map, not_or]
    refine ⟨h x (by simp), ?_⟩
    rintro ⟨y, ⟨z, hz, rfl⟩, hy⟩
    rcases List.mem_append.1 hy with hy | hy
    · simp at hy
    · exact h z (by simp [hz]) hy
theorem words_no10 (f : Fld) (l : List Int) : (10 : UInt8) ∉ Lib.join (f.name :: l.map Lib.itoa) [32] :=
  join_no10 _ (fun x hx h => by have := words_ge f l x hx 10 h; simp at this)

/-- a turn tells what was printed -/
theorem turn_back (f : Fld) (l : List Int) (ht : ∀ x ∈ l, f.turn (Lib.itoa x) = (x, 0)) (hl : l.length ≤ 1000) :
    listL f.turn f.name (cutL 32 (Lib.join (f.name :: l.map Lib.itoa) [32])) = (l, 0) := by
  rw [words_cut]
  have e : ((f.name :: l.map Lib.itoa).tail.map f.turn) = l.map (fun x => (x, 0)) := by
    simp only [List.tail_cons, List.map_map]
    exact List.map_congr_left (fun x hx => ht x hx)
  unfold listL
  rw [e, if_neg (by simp), if_neg (by simp), if_neg (by simp; omega), if_neg (by simp)]
  simp [Function.comp_def]
theorem lines3 (a b c : List UInt8) (ha : (10 : UInt8) ∉ a) (hb : (10 : UInt8) ∉ b) (hc : (10 : UInt8) ∉ c) : linesL (a ++ [10] ++ (b ++ [10]) ++ (c ++ [10])) = [a, b, c] := by
  have e : a ++ [10] ++ (b ++ [10]) ++ (c ++ [10]) = a ++ 10 :: (b ++ 10 :: (c ++ 10 :: [])) := by simp
  unfold linesL
  rw [e, cutL_at 10 a _ ha, cutL_at 10 b _ hb, cutL_at 10 c _ hc]
  simp [cutL]
theorem lines2 (a b : List UInt8) (ha : (10 : UInt8) ∉ a) (hb : (10 : UInt8) ∉ b) : linesL (a ++ [10] ++ (b ++ [10])) = [a, b] := by
  have e : a ++ [10] ++ (b ++ [10]) = a ++ 10 :: (b ++ 10 :: []) := by simp
  unfold linesL
  rw [e, cutL_at 10 a _ ha, cutL_at 10 b _ hb]
  simp [cutL]
theorem turn_num (f : Fld) (hf : f = .flow ∨ f = .pot) (x : Int) (h : -9223372036854775808 ≤ x ∧ x ≤ 9223372036854775807) : f.turn (Lib.itoa x) = (x, 0) := by
  rcases hf with rfl | rfl <;> exact num_itoa x h.1 h.2
theorem turn_side (x : Int) (h : x = 0 ∨ x = 1) : Fld.side.turn (Lib.itoa x) = (x, 0) := by
  have e0 : Lib.itoa 0 = [48] := by rw [show (0 : Int) = ((0 : Nat) : Int) from rfl, Lib.itoa_nonneg, Lib.decDigits_one (by omega)]; rfl
  have e1 : Lib.itoa 1 = [49] := by rw [show (1 : Int) = ((1 : Nat) : Int) from rfl, Lib.itoa_nonneg, Lib.decDigits_one (by omega)]; rfl
  rcases h with rfl | rfl
  · rw [e0]; rfl
  · rw [e1]; rfl
theorem turn_arc (x : Int) (h0 : 0 ≤ x) (h : x ≤ 9223372036854775807) : Fld.cycle.turn (Lib.itoa x) = (x, 0) := by
  show arcL _ = _
  unfold arcL
  rw [num_itoa x (by omega) h]
  simp; omega

/-- there and back: what is printed is told again -/
theorem tell_back (c : CertV) (hO : CertOk c) (h : (printL c).2 = 0) : parseL (printL c).1 = (c, 0, 0) := by
  obtain ⟨k, fl, po, si, cy⟩ := c
  unfold printL at h ⊢
  by_cases hp : plainC ⟨k, fl, po, si, cy⟩ = false
  · rw [if_pos hp] at h; simp at h
  rw [if_neg hp] at h ⊢
  by_cases hm : 1000 < fl.length ∨ 1000 < po.length ∨ 1000 < si.length ∨ 1000 < cy.length
  · rw [if_pos hm] at h; simp at h
  rw [if_neg hm] at h ⊢
  by_cases hc : cy.any (fun a => decide (a < 0)) = true
  · rw [if_pos hc] at h; simp at h
  rw [if_neg hc] at h ⊢
  by_cases ht : 60000 < (textL ⟨k, fl, po, si, cy⟩).length
  · rw [if_pos ht] at h; simp at h
  rw [if_neg ht]
  have hcy : ∀ x ∈ cy, 0 ≤ x := by
    intro x hx
    simp only [List.any_eq_true, decide_eq_true_eq, not_exists, not_and] at hc
    have := hc x hx; omega
  have t1 := turn_back .flow fl (fun x hx => turn_num .flow (Or.inl rfl) x (hO.flow x hx)) (by omega)
  have t2 := turn_back .pot po (fun x hx => turn_num .pot (Or.inr rfl) x (hO.pot x hx)) (by omega)
  have t3 := turn_back .side si (fun x hx => turn_side x (hO.side x hx)) (by omega)
  have t4 := turn_back .cycle cy (fun x hx => turn_arc x (hcy x hx) (hO.cycle x hx).2) (by omega)
  show parseL (textL _) = _
  unfold parseL
  rw [if_neg ht]
  unfold plainC at hp
  unfold textL lineL
  simp only at hp ⊢
  by_cases h1 : k = 1
  · subst h1
    simp only [if_true, Bool.not_eq_false, Bool.and_eq_true, List.isEmpty_iff] at hp
    obtain ⟨rfl, rfl⟩ := hp
    rw [if_pos rfl, lines3 _ _ _ (by decide) (words_no10 _ _) (words_no10 _ _)]
    simp only [parseT, show wantF bestL = some (1, [.flow, .pot]) from rfl, goL, t1, t2, CertV.put]
    simp
  by_cases h2 : k = 2
  · subst h2
    simp only [if_neg h1, if_true, Bool.not_eq_false, Bool.and_eq_true, List.isEmpty_iff] at hp
    obtain ⟨rfl, rfl, rfl⟩ := hp
    rw [if_neg h1, if_pos rfl, lines2 _ _ (by decide) (words_no10 _ _)]
    simp only [parseT, show wantF cutN = some (2, [.side]) from rfl, goL, t3, CertV.put]
    simp
  by_cases h3 : k = 3
  · subst h3
    simp only [if_neg h1, if_neg h2, if_true, Bool.not_eq_false, Bool.and_eq_true, List.isEmpty_iff] at hp
    obtain ⟨rfl, rfl⟩ := hp
    rw [if_neg h1, if_neg h2, lines3 _ _ _ (by decide) (words_no10 _ _) (words_no10 _ _)]
    simp only [parseT, show wantF rayL = some (3, [.flow, .cycle]) from rfl, goL, t1, t4, CertV.put]
    simp
  · simp [h1, h2, h3] at hp
end Go.Proofs.YtpfbgoogajgciaaDoor
