/- Plain: there and back; what is told fits. Conditions: none. -/
import Derived.Test.YtoagphighgejnaaDoorFP3
set_option linter.unusedSimpArgs false
set_option linter.unusedVariables false
namespace Go.Proofs.YtoagphighgejnaaDoor
open Go.RowKit Go.Shelf

/-- the lines ahead of the arcs', in whatever order of the nodes' -/
structure Ahead (p : ProbV) (L : List (List (List UInt8))) (r : RdV) : Prop where
  steps : stepsE (rHead p) L = some r
  begun : r.begun = true
  max : r.max = p.max
  sup : r.sup = p.sup
  many : r.many = p.arcs.length
  arcs : r.arcs = []
  es : r.es.getD 0 = p.s ∧ (p.max = true → r.es.isSome = true)
  et : r.et.getD 0 = p.t ∧ (p.max = true → r.et.isSome = true)
theorem ahead_min (p : ProbV) (h : FitsF p) (hm : p.max = false) (l : List Nat) (hl : ∀ n, n ∈ l ↔ n < p.sup.length ∧ p.sup.getD n 0 ≠ 0) (hd : l.Nodup) :
    Ahead p (l.map (nodeWs p.sup)) (rNodes p (l.reverse ++ [])) := by
  have hs := steps_nodes p h hm l [] (fun n hn => ((hl n).1 hn).1) hd (by simp)
  rw [rNodes_nil] at hs
  obtain ⟨e1, e2⟩ := h.mn hm
  exact ⟨hs, rfl, rfl, rNodes_all p _ (fun n h1 h2 => by simpa using (hl n).2 ⟨h1, h2⟩), rfl, rfl, ⟨by rw [e1]; rfl, fun hx => by rw [hm] at hx; cases hx⟩, ⟨by rw [e2]; rfl, fun hx => by rw [hm] at hx; cases hx⟩⟩
theorem sup_zero (p : ProbV) (h : FitsF p) (hm : p.max = true) : p.sup = List.replicate p.sup.length 0 := List.eq_replicate_iff.2 ⟨rfl, (h.mx hm).1⟩
theorem had_no {n : Nat} {k : Nat} : ¬ (List.replicate n false)[k]? = some true := by
  intro h
  have := List.mem_of_getElem? h
  simp at this
theorem ahead_max (p : ProbV) (h : FitsF p) (hm : p.max = true) : ∃ r, Ahead p [endWs p.s 115, endWs p.t 116] r := by
  obtain ⟨-, -, s0, s1, t0, t1, hst⟩ := h.mx hm
  have e1 := step_endS p h hm (rHead p) rfl hm rfl (by simp [rHead]) rfl had_no
  have hh : ¬ ((List.replicate p.sup.length false).set p.s.toNat true)[p.t.toNat]? = some true := by
    rw [List.getElem?_set, if_neg (by omega)]; exact had_no
  have e2 := step_endT p h hm { rHead p with had := (rHead p).had.set p.s.toNat true, es := some p.s } rfl hm rfl (by simp [rHead]) rfl hh
  exact ⟨_, steps_snoc (steps_one e1) e2, rfl, rfl, (sup_zero p h hm).symm, rfl, rfl, ⟨rfl, fun _ => rfl⟩, ⟨rfl, fun _ => rfl⟩⟩
theorem ahead_max2 (p : ProbV) (h : FitsF p) (hm : p.max = true) : ∃ r, Ahead p [endWs p.t 116, endWs p.s 115] r := by
  obtain ⟨-, -, s0, s1, t0, t1, hst⟩ := h.mx hm
  have e1 := step_endT p h hm (rHead p) rfl hm rfl (by simp [rHead]) rfl had_no
  have hh : ¬ ((List.replicate p.sup.length false).set p.t.toNat true)[p.s.toNat]? = some true := by
    rw [List.getElem?_set, if_neg (by omega)]; exact had_no
  have e2 := step_endS p h hm { rHead p with had := (rHead p).had.set p.t.toNat true, et := some p.t } rfl hm rfl (by simp [rHead]) rfl hh
  exact ⟨_, steps_snoc (steps_one e1) e2, rfl, rfl, (sup_zero p h hm).symm, rfl, rfl, ⟨rfl, fun _ => rfl⟩, ⟨rfl, fun _ => rfl⟩⟩
theorem nodes_none (p : ProbV) (h : FitsF p) (hm : p.max = true) : nodesWs p.sup p.sup.length = [] := by
  unfold nodesWs
  have : someN p.sup p.sup.length = [] := by
    rw [List.eq_nil_iff_forall_not_mem]
    intro n hn
    obtain ⟨h1, h2⟩ := mem_someN.1 hn
    exact h2 ((h.mx hm).1 _ (getD_mem h1))
  rw [this]; rfl
/-- the lines between the head's and the arcs' -/
def midWs (p : ProbV) : List (List (List UInt8)) := nodesWs p.sup p.sup.length ++ endsWs p
theorem ahead_mid (p : ProbV) (h : FitsF p) : ∃ r, Ahead p (midWs p) r := by
  unfold midWs endsWs
  by_cases hm : p.max = true
  · rw [nodes_none p h hm, if_pos hm]; exact ahead_max p h hm
  · rw [if_neg hm, List.append_nil]
    exact ⟨_, ahead_min p h (by simpa using hm) _ (fun n => mem_someN) (someN_nodup _ _)⟩
/-- what is told behind lines of some arcs -/
theorem Ahead.arcs_ (p : ProbV) (h : FitsF p) {L : List (List (List UInt8))} {r : RdV} (ha : Ahead p L r) (l : List ArcV) (hl : l.length ≤ p.arcs.length) (hx : ∀ a ∈ l, a ∈ p.arcs) :
    stepsE rd0 (headWs p :: (L ++ l.map (arcWs p.max))) = some { r with arcs := l } := by
  rw [stepsE, step_head p h, if_pos rfl]
  refine steps_on ha.steps ?_
  rw [steps_arcs p h l r ha.begun ha.max (by rw [ha.sup]) (by rw [ha.arcs, ha.many]; simp; omega) hx, ha.arcs]
  simp
theorem fin_all (p : ProbV) (h : FitsF p) {L : List (List (List UInt8))} {r : RdV} (ha : Ahead p L r) : finE { r with arcs := p.arcs } = (p, 0) := by
  unfold finE
  simp only
  rw [if_neg (by rw [ha.begun, ha.many]; simp)]
  rw [if_neg (by rw [ha.max]; rintro ⟨h1, h2⟩; exact h2 ⟨ha.es.2 h1, ha.et.2 h1⟩)]
  rw [if_neg (by rw [ha.sup, h.sum]; simp), ha.max, ha.sup, ha.es.1, ha.et.1]
theorem fin_less (p : ProbV) {L : List (List (List UInt8))} {r : RdV} (ha : Ahead p L r) (l : List ArcV) (hl : l.length < p.arcs.length) : finE { r with arcs := l } = (prob0, 12) := by
  unfold finE
  simp only
  rw [if_pos (.inr (by rw [ha.many]; omega))]
/-- lines in whatever order of the nodes' tell the problem -/
theorem read_prob (p : ProbV) (h : FitsF p) {L : List (List (List UInt8))} {r : RdV} (ha : Ahead p L r) (ts : List (List UInt8)) (hts : ts.map (cutL 32) = headWs p :: (L ++ p.arcs.map (arcWs p.max))) (k : Nat) :
    readE rd0 k ts = (p, 0, 0) := by
  have hs := ha.arcs_ p h p.arcs (Nat.le_refl _) (fun _ hx => hx)
  rw [← hts] at hs
  rw [read_all ts rd0 _ k hs, fin_all p h ha]
theorem allWs_eq (p : ProbV) : allWs p = headWs p :: (midWs p ++ p.arcs.map (arcWs p.max)) := rfl
theorem lines_back (p : ProbV) (h : FitsF p) (k : Nat) : readE rd0 k (linesP p) = (p, 0, 0) := by
  obtain ⟨r, ha⟩ := ahead_mid p h
  exact read_prob p h ha _ (by unfold linesP; rw [map_cut _ (all_ok p), allWs_eq]) k
/-- there and back -/
theorem text_back (p : ProbV) (h : FitsF p) (hlen : ¬ 60000 < (textP p).length) : parseF (textP p) = (p, 0, 0) := by
  unfold parseF
  rw [if_neg hlen, lines_text, lines_back p h]

/-- a line that tells nothing -/
def Remark (t : List UInt8) : Prop := (cutL 32 t).head? = some [99]
theorem steps_remark {r : RdV} {t : List UInt8} (ht : Remark t) : lineE r (cutL 32 t) = (0, r) := by
  unfold Remark at ht; unfold lineE; rw [if_pos ht]
theorem read_remark (t : List UInt8) (ht : Remark t) (a b : List (List UInt8)) (r r' : RdV) (k j : Nat) (h : stepsE r ((a ++ b).map (cutL 32)) = some r') : readE r k (a ++ t :: b) = readE r j (a ++ b) := by
  rw [read_all (a ++ b) r r' j h]
  refine read_all _ r r' k ?_
  rw [List.map_append, steps_app] at h
  rw [List.map_append, List.map_cons, steps_app]
  cases ha : stepsE r (a.map (cutL 32)) with
  | none => rw [ha] at h; cases h
  | some q =>
    rw [ha] at h
    simp only [Option.bind_some] at h ⊢
    rw [stepsE, steps_remark ht, if_pos rfl]
    exact h
theorem lines_steps (p : ProbV) (h : FitsF p) : ∃ r, stepsE rd0 ((linesP p).map (cutL 32)) = some r := by
  obtain ⟨r, ha⟩ := ahead_mid p h
  refine ⟨{ r with arcs := p.arcs }, ?_⟩
  unfold linesP; rw [map_cut _ (all_ok p), allWs_eq]; exact ha.arcs_ p h p.arcs (Nat.le_refl _) (fun _ hx => hx)
theorem remark_back (p : ProbV) (h : FitsF p) (t : List UInt8) (ht : Remark t) (a b : List (List UInt8)) (hab : a ++ b = linesP p) (k : Nat) : readE rd0 k (a ++ t :: b) = (p, 0, 0) := by
  obtain ⟨r, hr⟩ := lines_steps p h
  rw [read_remark t ht a b rd0 r k 0 (by rw [hab]; exact hr), hab]
  exact lines_back p h 0

/-- what is told fits -/
theorem fin_fits {r : RdV} (h : RdOk r) (h0 : (finE r).2 = 0) : FitsF (finE r).1 := by
  unfold finE at h0 ⊢
  split at h0
  · cases h0
  split at h0
  · cases h0
  split at h0
  · cases h0
  rename_i c1 c2 c3
  rw [if_neg c1, if_neg c2, if_neg c3]
  rw [not_or, Classical.not_not] at c1
  have c3' : r.sup.sum = 0 := Classical.not_not.1 c3
  refine ⟨h.pos c1.1, h.n64, by have := h.many; simp only; omega, h.sup, h.arcs, c3', ?_, ?_⟩
  · intro hm
    have hm' : r.max = true := hm
    have c2' : r.es.isSome = true ∧ r.et.isSome = true := Classical.not_not.1 fun e => c2 ⟨hm', e⟩
    obtain ⟨x, hx⟩ := Option.isSome_iff_exists.1 c2'.1
    obtain ⟨y, hy⟩ := Option.isSome_iff_exists.1 c2'.2
    obtain ⟨u1, u2, -⟩ := h.es x hx
    obtain ⟨v1, v2, -⟩ := h.et y hy
    refine ⟨(h.mx hm').1, (h.mx hm').2, ?_⟩
    simp only [hx, hy, Option.getD_some]
    exact ⟨u1, u2, v1, v2, h.ne x y hx hy⟩
  · intro hm
    obtain ⟨e1, e2⟩ := h.min hm
    simp [e1, e2]
theorem read_fits : ∀ (ts : List (List UInt8)) (r : RdV) (k : Nat), RdOk r →
    ((readE r k ts).2.1 = 0 ∧ (readE r k ts).2.2 = 0 ∧ FitsF (readE r k ts).1) ∨ (¬ (readE r k ts).2.1 = 0 ∧ (readE r k ts).1 = prob0 ∧ 0 ≤ (readE r k ts).2.2 ∧ (readE r k ts).2.2 ≤ k + ts.length)
  | [], r, k, h => by
    simp only [readE]
    by_cases h0 : (finE r).2 = 0
    · exact .inl ⟨h0, trivial, fin_fits h h0⟩
    · refine .inr ⟨h0, ?_, by simp, by simp⟩
      unfold finE at h0 ⊢
      split
      · rfl
      rename_i c1
      rw [if_neg c1] at h0
      split
      · rfl
      rename_i c2
      rw [if_neg c2] at h0
      split
      · rfl
      rename_i c3
      rw [if_neg c3] at h0
      exact absurd rfl h0
  | t :: ts, r, k, h => by
    rw [readE]
    by_cases h0 : (lineE r (cutL 32 t)).1 = 0
    · rw [if_neg (by simp [h0])]
      have := read_fits ts _ (k + 1) (lineE_ok h _ h0)
      simp only [List.length_cons] at this ⊢
      rcases this with this | ⟨a, b, c, d⟩
      · exact .inl this
      · exact .inr ⟨a, b, c, by omega⟩
    · rw [if_pos h0]
      refine .inr ⟨h0, rfl, by simp only; omega, ?_⟩
      simp only [List.length_cons]; omega
theorem parse_fits (s : List UInt8) : ((parseF s).2.1 = 0 ∧ (parseF s).2.2 = 0 ∧ FitsF (parseF s).1) ∨ (¬ (parseF s).2.1 = 0 ∧ (parseF s).1 = prob0 ∧ 0 ≤ (parseF s).2.2 ∧ (parseF s).2.2 ≤ (linesL s).length) := by
  unfold parseF
  split
  · exact .inr ⟨by simp, rfl, by simp, by simp⟩
  · have := read_fits (linesL s) rd0 0 rd0_ok
    rcases this with this | ⟨a, b, c, d⟩
    · exact .inl this
    · exact .inr ⟨a, b, c, by omega⟩
end Go.Proofs.YtoagphighgejnaaDoor
