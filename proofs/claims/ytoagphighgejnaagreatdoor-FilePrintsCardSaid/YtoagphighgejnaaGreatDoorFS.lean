/- Plain: what may be printed, as the code asks it, and what is printed step by step. Conditions: none. -/
import Derived.Test.YtoagphighgejnaaGreatDoorFP6
set_option linter.unusedSimpArgs false
set_option linter.unusedVariables false
namespace Go.Proofs.YtoagphighgejnaaGreatDoor
open Go.RowKit Go.Shelf

structure ArcR (n : Nat) (a : ArcV) : Prop where
  f : 0 ≤ a.f ∧ a.f < n
  t : 0 ≤ a.t ∧ a.t < n
  lo : 0 ≤ a.lo ∧ a.lo ≤ 4398046511104
  cap : a.cap = infC ∨ (a.lo ≤ a.cap ∧ a.cap ≤ 4398046511104)
  cost : -4398046511104 ≤ a.cost ∧ a.cost ≤ 4398046511104
structure InstR (sup : List Int) (arcs : List ArcV) : Prop where
  n64 : sup.length ≤ 64
  m256 : arcs.length ≤ 256
  arcB : ∀ a ∈ arcs, ArcR sup.length a
  supB : ∀ x ∈ sup, -4398046511104 ≤ x ∧ x ≤ 4398046511104
  sum : sup.sum = 0
structure SupF (mx : Bool) (x : Int) : Prop where
  b : -2147483648 ≤ x ∧ x ≤ 2147483648
  z : mx = true → x = 0
structure ArcF (mx : Bool) (a : ArcV) : Prop where
  lo : a.lo ≤ 2147483648
  cap : a.cap = infC ∨ a.cap ≤ 2147483648
  cost : -2147483648 ≤ a.cost ∧ a.cost ≤ 2147483648
  z : mx = true → a.lo = 0 ∧ a.cost = 0
structure EndsF (p : ProbV) : Prop where
  mx : p.max = true → 0 ≤ p.s ∧ p.s < p.sup.length ∧ 0 ≤ p.t ∧ p.t < p.sup.length ∧ p.s ≠ p.t
  mn : p.max = false → p.s = 0 ∧ p.t = 0
theorem fits_iff (p : ProbV) : FitsF p ↔ InstR p.sup p.arcs ∧ 0 < p.sup.length ∧ (∀ x ∈ p.sup, SupF p.max x) ∧ (∀ a ∈ p.arcs, ArcF p.max a) ∧ EndsF p := by
  constructor
  · intro h
    refine ⟨⟨h.n64, h.m256, fun a ha => ?_, fun x hx => ?_, h.sum⟩, h.pos, fun x hx => ⟨h.sup x hx, fun hm => (h.mx hm).1 x hx⟩, fun a ha => ?_, ⟨fun hm => (h.mx hm).2.2, h.mn⟩⟩
    · have k := h.arcs a ha
      have := k.lo; have := k.cost
      refine ⟨k.f, k.t, by omega, ?_, by omega⟩
      rcases k.cap with c | c
      · exact .inl c
      · exact .inr ⟨c.1, by omega⟩
    · have := h.sup x hx; omega
    · have k := h.arcs a ha
      refine ⟨k.lo.2, ?_, k.cost, fun hm => (h.mx hm).2.1 a ha⟩
      rcases k.cap with c | c
      · exact .inl c
      · exact .inr c.2
  · rintro ⟨hi, hp, hs, ha, he⟩
    refine ⟨hp, hi.n64, hi.m256, fun x hx => (hs x hx).b, fun a h => ?_, hi.sum, fun hm => ⟨fun x hx => (hs x hx).z hm, fun a h => (ha a h).z hm, he.mx hm⟩, he.mn⟩
    have k := hi.arcB a h
    have j := ha a h
    refine ⟨k.f, k.t, ⟨k.lo.1, j.lo⟩, ?_, j.cost⟩
    rcases k.cap with c | c
    · exact .inl c
    · rcases j.cap with d | d
      · exact .inl d
      · exact .inr ⟨c.1, d⟩

/-- lines of words as a text -/
def txt (W : List (List (List UInt8))) : List UInt8 := flatL 10 (W.map lnW)
theorem flat_app (A B : List (List UInt8)) : flatL 10 (A ++ B) = flatL 10 A ++ flatL 10 B := by
  induction A with
  | nil => rfl
  | cons x A ih => simp [flatL] at ih ⊢
theorem txt_app (A B : List (List (List UInt8))) : txt (A ++ B) = txt A ++ txt B := by
  unfold txt; rw [List.map_append, flat_app]
theorem txt_one (ws : List (List UInt8)) : txt [ws] = lnW ws ++ [10] := by simp [txt, flatL]
theorem txt_nil : txt [] = [] := rfl
theorem txt_snoc (A : List (List (List UInt8))) (ws : List (List UInt8)) : txt (A ++ [ws]) = txt A ++ (lnW ws ++ [10]) := by rw [txt_app, txt_one]
theorem textP_eq (p : ProbV) : textP p = txt (allWs p) := rfl
theorem nodesWs_succ (sup : List Int) (k : Nat) : nodesWs sup (k + 1) = nodesWs sup k ++ (if sup.getD k 0 ≠ 0 then [nodeWs sup k] else []) := by
  unfold nodesWs
  rw [someN_succ, List.map_append]
  split <;> rfl
theorem nodesWs_mono (sup : List Int) {k n : Nat} (h : k ≤ n) : ∀ ws ∈ nodesWs sup k, ws ∈ nodesWs sup n := by
  intro ws hw
  obtain ⟨m, hm, rfl⟩ := List.mem_map.1 hw
  have := mem_someN.1 hm
  exact List.mem_map.2 ⟨m, mem_someN.2 ⟨by omega, this.2⟩, rfl⟩
theorem txt_small (p : ProbV) (h : FitsF p) (L : List (List (List UInt8))) (hL : ∀ ws ∈ L, ws ∈ allWs p) (hn : L.length ≤ 400) : (txt L).length ≤ 60000 := by
  have := flat_len 132 (L.map lnW) (fun x hx => by
    obtain ⟨ws, hw, rfl⟩ := List.mem_map.1 hx
    exact line_len p h _ (List.mem_map.2 ⟨ws, hL ws hw, rfl⟩))
  rw [List.length_map] at this
  unfold txt
  omega
theorem ln_small (p : ProbV) (h : FitsF p) (ws : List (List UInt8)) (hw : ws ∈ allWs p) : (lnW ws).length ≤ 132 := line_len p h _ (List.mem_map.2 ⟨ws, hw, rfl⟩)
theorem head_mem (p : ProbV) : headWs p ∈ allWs p := by simp [allWs]
theorem node_mem (p : ProbV) {k : Nat} (hk : k < p.sup.length) (h0 : p.sup.getD k 0 ≠ 0) : nodeWs p.sup k ∈ allWs p := by
  have : nodeWs p.sup k ∈ nodesWs p.sup p.sup.length := List.mem_map.2 ⟨k, mem_someN.2 ⟨hk, h0⟩, rfl⟩
  simp [allWs, this]
theorem ends_mem (p : ProbV) {ws : List (List UInt8)} (h : ws ∈ endsWs p) : ws ∈ allWs p := by simp [allWs, h]
theorem arc_mem (p : ProbV) {a : ArcV} (h : a ∈ p.arcs) : arcWs p.max a ∈ allWs p := by
  have : arcWs p.max a ∈ p.arcs.map (arcWs p.max) := List.mem_map.2 ⟨a, h, rfl⟩
  simp only [allWs, List.mem_cons, List.mem_append]
  exact .inr (.inr this)
/-- what was printed behind so many nodes; behind them and the ends; behind so many arcs -/
def nodesT (p : ProbV) (k : Nat) : List (List (List UInt8)) := headWs p :: nodesWs p.sup k
def arcsT (p : ProbV) (k : Nat) : List (List (List UInt8)) := headWs p :: (nodesWs p.sup p.sup.length ++ endsWs p ++ (p.arcs.take k).map (arcWs p.max))
/-- the document's order: ends first -/
def nodesR (p : ProbV) (k : Nat) : List (List (List UInt8)) := headWs p :: (endsWs p ++ nodesWs p.sup k)
theorem nodesT_mem (p : ProbV) {k : Nat} (hk : k ≤ p.sup.length) : ∀ ws ∈ nodesT p k, ws ∈ allWs p := by
  intro ws hw
  rcases List.mem_cons.1 hw with rfl | hw
  · exact head_mem p
  · have := nodesWs_mono p.sup hk ws hw
    simp [allWs, this]
theorem nodesR_mem (p : ProbV) {k : Nat} (hk : k ≤ p.sup.length) : ∀ ws ∈ nodesR p k, ws ∈ allWs p := by
  intro ws hw
  rcases List.mem_cons.1 hw with rfl | hw
  · exact head_mem p
  · rcases List.mem_append.1 hw with hw | hw
    · exact ends_mem p hw
    · have := nodesWs_mono p.sup hk ws hw
      simp [allWs, this]
theorem arcsT_mem (p : ProbV) (k : Nat) : ∀ ws ∈ arcsT p k, ws ∈ allWs p := by
  intro ws hw
  rcases List.mem_cons.1 hw with rfl | hw
  · exact head_mem p
  · rcases List.mem_append.1 hw with hw | hw
    · simp only [allWs, List.mem_cons, List.mem_append] at hw ⊢
      exact .inr (.inl hw)
    · obtain ⟨a, ha, rfl⟩ := List.mem_map.1 hw
      exact arc_mem p (List.mem_of_mem_take ha)
theorem ends_len (p : ProbV) : (endsWs p).length ≤ 2 := by unfold endsWs; split <;> simp
theorem nodes_len (sup : List Int) (k : Nat) : (nodesWs sup k).length ≤ k := by unfold nodesWs; rw [List.length_map]; exact someN_len sup k
theorem nodesT_small (p : ProbV) (h : FitsF p) {k : Nat} (hk : k ≤ p.sup.length) : (txt (nodesT p k)).length ≤ 60000 :=
  txt_small p h _ (nodesT_mem p hk) (by have := nodes_len p.sup k; have := h.n64; simp only [nodesT, List.length_cons]; omega)
theorem nodesR_small (p : ProbV) (h : FitsF p) {k : Nat} (hk : k ≤ p.sup.length) : (txt (nodesR p k)).length ≤ 60000 :=
  txt_small p h _ (nodesR_mem p hk) (by have := nodes_len p.sup k; have := ends_len p; have := h.n64; simp only [nodesR, List.length_cons, List.length_append]; omega)
theorem arcsT_small (p : ProbV) (h : FitsF p) (k : Nat) : (txt (arcsT p k)).length ≤ 60000 :=
  txt_small p h _ (arcsT_mem p k) (by have := nodes_len p.sup p.sup.length; have := ends_len p; have := h.n64; have := h.m256; simp only [arcsT, List.length_cons, List.length_append, List.length_map, List.length_take]; omega)
theorem nodesT_zero (p : ProbV) : txt (nodesT p 0) = lnW (headWs p) ++ [10] := by rw [← txt_one]; rfl
theorem nodesT_succ (p : ProbV) (k : Nat) (h0 : p.sup.getD k 0 ≠ 0) : txt (nodesT p (k + 1)) = txt (nodesT p k) ++ (lnW (nodeWs p.sup k) ++ [10]) := by
  rw [← txt_snoc]; unfold nodesT; rw [nodesWs_succ, if_pos h0]; rfl
theorem nodesT_skip (p : ProbV) (k : Nat) (h0 : p.sup.getD k 0 = 0) : txt (nodesT p (k + 1)) = txt (nodesT p k) := by
  unfold nodesT; rw [nodesWs_succ, if_neg (fun h => h h0), List.append_nil]
theorem nodesR_zero_min (p : ProbV) (hm : p.max = false) : txt (nodesR p 0) = lnW (headWs p) ++ [10] := by
  rw [← txt_one]; unfold nodesR endsWs; rw [hm]; rfl
theorem nodesR_zero_max (p : ProbV) (hm : p.max = true) : txt (nodesR p 0) = (lnW (headWs p) ++ [10]) ++ (lnW (endWs p.s 115) ++ [10]) ++ (lnW (endWs p.t 116) ++ [10]) := by
  rw [← txt_one, ← txt_snoc, ← txt_snoc]; unfold nodesR endsWs; rw [if_pos hm]; rfl
theorem nodesR_succ (p : ProbV) (k : Nat) (h0 : p.sup.getD k 0 ≠ 0) : txt (nodesR p (k + 1)) = txt (nodesR p k) ++ (lnW (nodeWs p.sup k) ++ [10]) := by
  rw [← txt_snoc]; unfold nodesR; rw [nodesWs_succ, if_pos h0]; simp
theorem nodesR_skip (p : ProbV) (k : Nat) (h0 : p.sup.getD k 0 = 0) : txt (nodesR p (k + 1)) = txt (nodesR p k) := by
  unfold nodesR; rw [nodesWs_succ, if_neg (fun h => h h0), List.append_nil]
theorem arcsT_zero_min (p : ProbV) (hm : p.max = false) : txt (arcsT p 0) = txt (nodesT p p.sup.length) := by
  unfold arcsT nodesT endsWs; rw [hm]; simp
theorem arcsT_zero_max (p : ProbV) (hm : p.max = true) : txt (arcsT p 0) = txt (nodesT p p.sup.length) ++ (lnW (endWs p.s 115) ++ [10]) ++ (lnW (endWs p.t 116) ++ [10]) := by
  rw [← txt_snoc, ← txt_snoc]; unfold arcsT nodesT endsWs; rw [if_pos hm]; simp
theorem arcsT_zero_ref (p : ProbV) (h : FitsF p) : txt (nodesR p p.sup.length) = txt (arcsT p 0) := by
  unfold nodesR arcsT
  cases hm : p.max with
  | true => rw [nodes_none p h hm]; simp
  | false => unfold endsWs; rw [hm]; simp
theorem arcsT_succ (p : ProbV) (k : Nat) (a : ArcV) (ha : p.arcs[k]? = some a) : txt (arcsT p (k + 1)) = txt (arcsT p k) ++ (lnW (arcWs p.max a) ++ [10]) := by
  rw [← txt_snoc]; unfold arcsT; rw [take_snoc _ _ _ ha]; simp
theorem arcsT_all (p : ProbV) : txt (arcsT p p.arcs.length) = textP p := by
  rw [textP_eq]; unfold arcsT allWs; rw [List.take_length]
end Go.Proofs.YtoagphighgejnaaGreatDoor
