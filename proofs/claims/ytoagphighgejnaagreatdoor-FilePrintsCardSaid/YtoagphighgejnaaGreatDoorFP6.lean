/- Plain: a problem's lines cut, with one more, turned, late. Conditions: none. -/
import Derived.Test.YtoagphighgejnaaGreatDoorFP4
import Derived.Lib.ItoaLen
set_option linter.unusedSimpArgs false
set_option linter.unusedVariables false
namespace Go.Proofs.YtoagphighgejnaaGreatDoor
open Go.RowKit Go.Shelf

theorem tail_len (sep : List UInt8) (M : Nat) : ∀ (L : List (List UInt8)), (∀ x ∈ L, x.length ≤ M) → ((L.map (sep ++ ·)).flatten).length ≤ L.length * (sep.length + M)
  | [], _ => by simp
  | x :: L, h => by
    have := tail_len sep M L fun y hy => h y (by simp [hy])
    have hx := h x (by simp)
    simp only [List.map_cons, List.flatten_cons, List.length_append, List.length_cons, Nat.add_mul, Nat.one_mul] at this ⊢
    omega
theorem join_len (c : UInt8) (M : Nat) (L : List (List UInt8)) (h : ∀ x ∈ L, x.length ≤ M) : (Lib.join L [c]).length ≤ L.length * (1 + M) := by
  cases L with
  | nil => simp [Lib.join]
  | cons x L =>
    rw [Lib.join_cons]
    have := tail_len [c] M L fun y hy => h y (by simp [hy])
    have hx := h x (by simp)
    simp only [Lib.joinTail, List.length_append, List.length_cons, Nat.add_mul, Nat.one_mul, List.length_nil, Nat.zero_add] at this ⊢
    omega
theorem flat_len (M : Nat) : ∀ (L : List (List UInt8)), (∀ x ∈ L, x.length ≤ M) → (flatL 10 L).length ≤ L.length * (M + 1)
  | [], _ => by simp [flatL]
  | x :: L, h => by
    have := flat_len M L fun y hy => h y (by simp [hy])
    have hx := h x (by simp)
    simp only [flatL, List.map_cons, List.flatten_cons, List.length_append, List.length_cons, List.length_nil, Nat.add_mul, Nat.one_mul] at this ⊢
    omega
theorem itoa_small (n : Int) (h0 : -4294967296 ≤ n) (h1 : n ≤ 4294967296) : (Lib.itoa n).length ≤ 21 := Lib.itoa_length_le n (by omega) (by omega)
theorem capW_small (c lo : Int) (hl : 0 ≤ lo) (h : c = infC ∨ (lo ≤ c ∧ c ≤ 2147483648)) : (capW c).length ≤ 21 := by
  unfold capW; split
  · simp
  · rename_i e
    rcases h with h | h
    · exact absurd h e
    · exact itoa_small c (by omega) (by omega)
theorem someN_len (sup : List Int) (k : Nat) : (someN sup k).length ≤ k := by
  unfold someN; exact Nat.le_trans (List.length_filter_le _ _) (by simp)
/-- each line has six words at most, each word 21 bytes at most -/
theorem all_small (p : ProbV) (h : FitsF p) : ∀ ws ∈ allWs p, ws.length ≤ 6 ∧ ∀ x ∈ ws, x.length ≤ 21 := by
  have h2 := h.n64
  have h3 := h.m256
  have hp := h.pos
  intro ws hw
  unfold allWs at hw
  rcases List.mem_cons.1 hw with rfl | hw
  · unfold headWs kindW
    refine ⟨by simp, ?_⟩
    intro x hx
    simp only [List.mem_cons, List.not_mem_nil, or_false] at hx
    rcases hx with rfl | rfl | rfl | rfl
    · simp
    · split <;> decide
    · exact itoa_small _ (by omega) (by omega)
    · exact itoa_small _ (by omega) (by omega)
  rcases List.mem_append.1 hw with hw | hw
  · rcases List.mem_append.1 hw with hw | hw
    · obtain ⟨n, hn, rfl⟩ := List.mem_map.1 hw
      obtain ⟨hn1, -⟩ := mem_someN.1 hn
      obtain ⟨x1, x2⟩ := h.sup _ (getD_mem hn1)
      unfold nodeWs
      refine ⟨by simp, ?_⟩
      intro x hx
      simp only [List.mem_cons, List.not_mem_nil, or_false] at hx
      rcases hx with rfl | rfl | rfl
      · simp
      · exact itoa_small _ (by omega) (by omega)
      · exact itoa_small _ (by omega) (by omega)
    · unfold endsWs at hw
      split at hw
      · rename_i hm
        obtain ⟨-, -, s0, s1, t0, t1, -⟩ := h.mx hm
        simp only [List.mem_cons, List.not_mem_nil, or_false] at hw
        rcases hw with rfl | rfl
        · unfold endWs
          refine ⟨by simp, ?_⟩
          intro x hx
          simp only [List.mem_cons, List.not_mem_nil, or_false] at hx
          rcases hx with rfl | rfl | rfl
          · simp
          · exact itoa_small _ (by omega) (by omega)
          · simp
        · unfold endWs
          refine ⟨by simp, ?_⟩
          intro x hx
          simp only [List.mem_cons, List.not_mem_nil, or_false] at hx
          rcases hx with rfl | rfl | rfl
          · simp
          · exact itoa_small _ (by omega) (by omega)
          · simp
      · cases hw
  · obtain ⟨a, ha, rfl⟩ := List.mem_map.1 hw
    have ha1 := h.arcs a ha
    obtain ⟨f0, f1⟩ := ha1.f
    obtain ⟨t0, t1⟩ := ha1.t
    obtain ⟨l0, l1⟩ := ha1.lo
    obtain ⟨c0, c1⟩ := ha1.cost
    have k := capW_small a.cap a.lo l0 ha1.cap
    unfold arcWs
    split
    · refine ⟨by simp, ?_⟩
      intro x hx
      simp only [List.mem_cons, List.not_mem_nil, or_false] at hx
      rcases hx with rfl | rfl | rfl | rfl
      · simp
      · exact itoa_small _ (by omega) (by omega)
      · exact itoa_small _ (by omega) (by omega)
      · exact k
    · refine ⟨by simp, ?_⟩
      intro x hx
      simp only [List.mem_cons, List.not_mem_nil, or_false] at hx
      rcases hx with rfl | rfl | rfl | rfl | rfl | rfl
      · simp
      · exact itoa_small _ (by omega) (by omega)
      · exact itoa_small _ (by omega) (by omega)
      · exact itoa_small _ (by omega) (by omega)
      · exact k
      · exact itoa_small _ (by omega) (by omega)
theorem all_many (p : ProbV) (h : FitsF p) : (allWs p).length ≤ 323 := by
  have h2 := h.n64
  have h3 := h.m256
  have h4 := someN_len p.sup p.sup.length
  have h5 : (endsWs p).length ≤ 2 := by unfold endsWs; split <;> simp
  unfold allWs nodesWs
  simp only [List.length_cons, List.length_append, List.length_map]
  omega
theorem line_len (p : ProbV) (h : FitsF p) : ∀ x ∈ linesP p, x.length ≤ 132 := by
  intro x hx
  obtain ⟨ws, hw, rfl⟩ := List.mem_map.1 hx
  obtain ⟨h1, h2⟩ := all_small p h ws hw
  have := join_len 32 21 ws h2
  unfold lnW
  omega
theorem text_len (p : ProbV) (h : FitsF p) : (textP p).length ≤ 42959 := by
  have h1 := flat_len 132 (linesP p) (line_len p h)
  have h2 := all_many p h
  unfold textP
  have h3 : (linesP p).length = (allWs p).length := by simp [linesP]
  omega
theorem text_tell (p : ProbV) (h : FitsF p) : parseF (textP p) = (p, 0, 0) := text_back p h (by have := text_len p h; omega)

theorem ln_ne {c : UInt8} {ws : List (List UInt8)} : lnW ([c] :: ws) ≠ [] := by
  unfold lnW; rw [Lib.join_cons]; simp
theorem all_ne (p : ProbV) : ∀ ws ∈ allWs p, lnW ws ≠ [] := by
  intro ws hw
  unfold allWs at hw
  rcases List.mem_cons.1 hw with rfl | hw
  · exact ln_ne
  rcases List.mem_append.1 hw with hw | hw
  · rcases List.mem_append.1 hw with hw | hw
    · obtain ⟨n, -, rfl⟩ := List.mem_map.1 hw; exact ln_ne
    · unfold endsWs at hw
      split at hw
      · simp only [List.mem_cons, List.not_mem_nil, or_false] at hw
        rcases hw with rfl | rfl
        · exact ln_ne
        · exact ln_ne
      · cases hw
  · obtain ⟨a, -, rfl⟩ := List.mem_map.1 hw
    unfold arcWs; split
    · exact ln_ne
    · exact ln_ne
theorem line_ne (p : ProbV) : ∀ x ∈ linesP p, x ≠ [] := by
  intro x hx
  obtain ⟨ws, hw, rfl⟩ := List.mem_map.1 hx
  exact all_ne p ws hw
theorem line_no10 (p : ProbV) : ∀ x ∈ linesP p, (10 : UInt8) ∉ x := map_no10 _ (all_ok p)
theorem join_some (p : ProbV) (L : List (List UInt8)) (hL : ∀ x ∈ L, x ∈ linesP p) (hn : L ≠ []) : linesL (Lib.join L [10]) = L := by
  refine lines_join L (fun x hx => line_no10 p x (hL x hx)) hn ?_
  intro h
  exact line_ne p [] (hL _ (List.mem_of_getLast? h)) rfl
theorem words_of {p : ProbV} {W : List (List (List UInt8))} (h : ∀ ws ∈ W, ws ∈ allWs p) : (W.map lnW).map (cutL 32) = W := map_cut W fun ws hw => all_ok p ws (h ws hw)
theorem arcs_snoc {p : ProbV} (h : p.arcs ≠ []) : ∃ l a, p.arcs = l ++ [a] := ⟨p.arcs.dropLast, p.arcs.getLast h, (List.dropLast_concat_getLast h).symm⟩
/-- without its last line -/
theorem read_cut (p : ProbV) (h : FitsF p) (ha : p.arcs ≠ []) : readE rd0 0 (linesP p).dropLast = (prob0, 12, 0) := by
  obtain ⟨l, a, e⟩ := arcs_snoc ha
  obtain ⟨r, hA⟩ := ahead_mid p h
  have hd : (linesP p).dropLast = (headWs p :: (midWs p ++ l.map (arcWs p.max))).map lnW := by
    unfold linesP
    rw [allWs_eq, e, List.map_append, List.map_singleton, ← List.append_assoc, ← List.cons_append, List.map_append, List.map_singleton, List.dropLast_concat]
  have hw : ((headWs p :: (midWs p ++ l.map (arcWs p.max))).map lnW).map (cutL 32) = headWs p :: (midWs p ++ l.map (arcWs p.max)) := by
    refine words_of (p := p) fun ws hw => ?_
    rw [allWs_eq, e, List.map_append]
    simp only [List.mem_cons, List.mem_append] at hw ⊢
    rcases hw with h | h | h
    · exact .inl h
    · exact .inr (.inl h)
    · exact .inr (.inr (.inl h))
  have hs := hA.arcs_ p h l (by rw [e]; simp) (fun x hx => by rw [e]; simp [hx])
  rw [hd, read_all _ rd0 _ 0 (by rw [hw]; exact hs), fin_less p hA l (by rw [e]; simp)]
theorem line_full (p : ProbV) (h : FitsF p) (r : RdV) (hb : r.begun = true) (hx : r.max = p.max) (hf : (r.arcs.length : Int) = r.many) (a : ArcV) (ha : a ∈ p.arcs) : (lineE r (arcWs p.max a)).1 = 12 := by
  have h2 := h.n64
  have ha1 := h.arcs a ha
  obtain ⟨f0, f1⟩ := ha1.f
  obtain ⟨t0, t1⟩ := ha1.t
  obtain ⟨l0, l1⟩ := ha1.lo
  obtain ⟨c0, c1⟩ := ha1.cost
  obtain ⟨k1, k2, k3⟩ := cap_back a.cap a.lo l0 ha1.cap
  have hhd : (arcWs p.max a).head? = some [97] := by unfold arcWs; split <;> rfl
  unfold lineE
  rw [hhd, if_neg (by simp), if_neg (by simp), if_neg (by simp), if_pos rfl, if_neg (by simp [hb])]
  unfold arcE arcWs
  by_cases hm : p.max = true
  · rw [hx, if_pos hm, if_pos hm]
    unfold arcMaxE
    simp only
    rw [if_neg (by simp only [not_or]; exact ⟨badW_itoa (by omega) (by omega), badW_itoa (by omega) (by omega), k3⟩), if_pos hf]
  · rw [hx, if_neg hm, if_neg hm]
    unfold arcMinE
    simp only
    rw [if_neg (by simp only [not_or]; exact ⟨badW_itoa (by omega) (by omega), badW_itoa (by omega) (by omega), badW_itoa (by omega) (by omega), k3, badW_itoa (by omega) (by omega)⟩), if_pos hf]
/-- with its last line once more -/
theorem read_more (p : ProbV) (h : FitsF p) (ha : p.arcs ≠ []) (t : List UInt8) (ht : (linesP p).getLast? = some t) : readE rd0 0 (linesP p ++ [t]) = (prob0, 12, ((linesP p).length : Int) + 1) := by
  obtain ⟨l, a, e⟩ := arcs_snoc ha
  obtain ⟨r, hA⟩ := ahead_mid p h
  have hs := hA.arcs_ p h p.arcs (Nat.le_refl _) (fun _ hx => hx)
  have hw : (linesP p).map (cutL 32) = headWs p :: (midWs p ++ p.arcs.map (arcWs p.max)) := by unfold linesP; rw [map_cut _ (all_ok p), allWs_eq]
  have et : t = lnW (arcWs p.max a) := by
    have : (linesP p).getLast? = some (lnW (arcWs p.max a)) := by
      unfold linesP
      rw [allWs_eq, e, List.map_append, List.map_singleton, ← List.append_assoc, ← List.cons_append, List.map_append, List.map_singleton, List.getLast?_concat]
    rw [this] at ht; exact (Option.some.inj ht).symm
  have hl := line_full p h { r with arcs := p.arcs } hA.begun hA.max (by rw [hA.many]) a (by rw [e]; simp)
  rw [read_bad _ t [] rd0 _ 0 (by rw [hw]; exact hs) 12 (by rw [et, ln_cut (arc_ok _ _)]; exact hl) (by decide)]
  simp
/-- the nodes' lines turned round -/
def turnL {α : Type} (L : List α) (k : Nat) : List α := L.drop k ++ L.take k
theorem turn_mem {α : Type} (L : List α) (k : Nat) (x : α) : x ∈ turnL L k ↔ x ∈ L := by
  unfold turnL
  rw [List.mem_append, or_comm, ← List.mem_append, List.take_append_drop]
theorem turn_nodup {α : Type} {L : List α} (h : L.Nodup) (k : Nat) : (turnL L k).Nodup := by
  unfold turnL
  have : (L.take k ++ L.drop k).Nodup := by rw [List.take_append_drop]; exact h
  rw [List.nodup_append] at this ⊢
  obtain ⟨h1, h2, h3⟩ := this
  exact ⟨h2, h1, fun a ha b hb e => h3 b hb a ha e.symm⟩
theorem turn_map {α β : Type} (f : α → β) (L : List α) (k : Nat) : turnL (L.map f) k = (turnL L k).map f := by
  unfold turnL; rw [List.map_append, List.map_drop, List.map_take]
theorem ahead_turn (p : ProbV) (h : FitsF p) (k : Nat) (hk : k < (midWs p).length) : ∃ r, Ahead p (turnL (midWs p) k) r := by
  by_cases hm : p.max = true
  · have e : midWs p = [endWs p.s 115, endWs p.t 116] := by
      unfold midWs endsWs; rw [nodes_none p h hm, if_pos hm]; rfl
    rw [e] at hk ⊢
    rcases (show k = 0 ∨ k = 1 by simp at hk; omega) with rfl | rfl
    · exact ahead_max p h hm
    · exact ahead_max2 p h hm
  · have e : midWs p = (someN p.sup p.sup.length).map (nodeWs p.sup) := by
      unfold midWs endsWs; rw [if_neg hm, List.append_nil]; rfl
    rw [e, turn_map]
    exact ⟨_, ahead_min p h (by simpa using hm) _ (fun n => by rw [turn_mem]; exact mem_someN) (turn_nodup (someN_nodup _ _) k)⟩
/-- lines of a problem: the head's, those between, the arcs' -/
theorem linesP_eq (p : ProbV) : linesP p = lnW (headWs p) :: ((midWs p).map lnW ++ (p.arcs.map (arcWs p.max)).map lnW) := by
  unfold linesP; rw [allWs_eq, List.map_cons, List.map_append]
theorem read_turn (p : ProbV) (h : FitsF p) (k : Nat) (hk : k < (midWs p).length ∨ k = 0) : readE rd0 0 (lnW (headWs p) :: (turnL ((midWs p).map lnW) k ++ (p.arcs.map (arcWs p.max)).map lnW)) = (p, 0, 0) := by
  have hA : ∃ r, Ahead p (turnL (midWs p) k) r := by
    rcases hk with hk | rfl
    · exact ahead_turn p h k hk
    · have : turnL (midWs p) 0 = midWs p := by simp [turnL]
      rw [this]; exact ahead_mid p h
  obtain ⟨r, hA⟩ := hA
  refine read_prob p h hA _ ?_ 0
  have e : (lnW (headWs p) :: (turnL ((midWs p).map lnW) k ++ (p.arcs.map (arcWs p.max)).map lnW)) = (headWs p :: (turnL (midWs p) k ++ p.arcs.map (arcWs p.max))).map lnW := by
    rw [turn_map, List.map_cons, List.map_append]
  rw [e]
  refine words_of (p := p) fun ws hw => ?_
  rw [allWs_eq]
  simp only [List.mem_cons, List.mem_append, turn_mem] at hw ⊢
  exact hw
/-- a node's line behind an arc's -/
theorem read_late (p : ProbV) (h : FitsF p) (ha : p.arcs ≠ []) (x : List (List UInt8)) (m : List (List (List UInt8))) (hm : midWs p = x :: m) :
    readE rd0 0 (lnW (headWs p) :: (m.map lnW ++ (p.arcs.map (arcWs p.max)).map lnW) ++ [lnW x]) = (prob0, 12, ((linesP p).length : Int)) := by
  -- the state behind what is left of the nodes' lines
  obtain ⟨r, hs, hb, hx, hmany, harcs, hsl, hbad⟩ : ∃ r, stepsE (rHead p) m = some r ∧ r.begun = true ∧ r.max = p.max ∧ r.many = p.arcs.length ∧ r.arcs = [] ∧ r.sup.length = p.sup.length ∧ (lineE { r with arcs := p.arcs } x).1 = 12 := by
    by_cases hmx : p.max = true
    · have e : midWs p = [endWs p.s 115, endWs p.t 116] := by
        unfold midWs endsWs; rw [nodes_none p h hmx, if_pos hmx]; rfl
      rw [e] at hm
      injection hm with h1 h2
      subst h1 h2
      obtain ⟨-, -, s0, s1, t0, t1, hst⟩ := h.mx hmx
      have h2 := h.n64
      have e1 := step_endT p h hmx (rHead p) rfl hmx rfl (by simp [rHead]) rfl had_no
      refine ⟨_, steps_one e1, rfl, rfl, rfl, rfl, by simp [rHead], ?_⟩
      unfold lineE
      rw [if_neg (by simp [endWs]), if_neg (by simp [endWs]), if_pos (by simp [endWs]), if_neg (by simp [rHead]), if_pos (show (rHead p).max = true from hmx)]
      unfold endE endWs
      simp only
      rw [if_neg (by simp), if_neg (badW_itoa (by omega) (by omega)), if_pos (by simpa using ha)]
    · have hmf : p.max = false := by simpa using hmx
      have e : midWs p = (someN p.sup p.sup.length).map (nodeWs p.sup) := by
        unfold midWs endsWs; rw [if_neg hmx, List.append_nil]; rfl
      rw [e] at hm
      cases hns : someN p.sup p.sup.length with
      | nil => rw [hns] at hm; cases hm
      | cons n l =>
        rw [hns, List.map_cons] at hm
        injection hm with h1 h2
        subst h1 h2
        have hd := someN_nodup p.sup p.sup.length
        rw [hns] at hd
        have hmem : ∀ k ∈ n :: l, k < p.sup.length := fun k hk => by rw [← hns] at hk; exact (mem_someN.1 hk).1
        have hs := steps_nodes p h hmf l [] (fun k hk => hmem k (by simp [hk])) (List.nodup_cons.1 hd).2 (by simp)
        rw [rNodes_nil] at hs
        refine ⟨_, hs, rfl, rfl, rfl, rfl, by simp [rNodes], ?_⟩
        have h2 := h.n64
        have hn := hmem n (by simp)
        obtain ⟨x1, x2⟩ := h.sup _ (getD_mem hn)
        unfold lineE
        rw [if_neg (by simp [nodeWs]), if_neg (by simp [nodeWs]), if_pos (by simp [nodeWs]), if_neg (by simp [rNodes]), if_neg (by simp [rNodes, hmf])]
        unfold nodeE nodeWs
        simp only
        rw [if_neg (by rw [not_or]; exact ⟨badW_itoa (by omega) (by omega), badW_itoa (by omega) (by omega)⟩), if_pos (by simpa using ha)]
  have hmem : ∀ ws ∈ headWs p :: (m ++ p.arcs.map (arcWs p.max)), ws ∈ allWs p := by
    intro ws hw
    rw [allWs_eq, hm]
    simp only [List.mem_cons, List.mem_append] at hw ⊢
    rcases hw with h | h | h
    · exact .inl h
    · exact .inr (.inl (.inr h))
    · exact .inr (.inr h)
  have hxm : x ∈ allWs p := by rw [allWs_eq, hm]; simp
  have hst : stepsE rd0 (headWs p :: (m ++ p.arcs.map (arcWs p.max))) = some { r with arcs := p.arcs } := by
    rw [stepsE, step_head p h, if_pos rfl]
    refine steps_on hs ?_
    rw [steps_arcs p h p.arcs r hb hx hsl (by rw [harcs, hmany]; simp) (fun _ hx => hx), harcs]
    simp
  have e : (lnW (headWs p) :: (m.map lnW ++ (p.arcs.map (arcWs p.max)).map lnW)) = (headWs p :: (m ++ p.arcs.map (arcWs p.max))).map lnW := by rw [List.map_cons, List.map_append]
  have hlen : (linesP p).length = ((headWs p :: (m ++ p.arcs.map (arcWs p.max))).map lnW).length + 1 := by
    rw [linesP_eq, hm]; simp
  rw [e, read_bad _ (lnW x) [] rd0 _ 0 (by rw [words_of (p := p) hmem]; exact hst) 12 (by rw [ln_cut (all_ok p x hxm)]; exact hbad) (by decide), hlen]
  simp
end Go.Proofs.YtoagphighgejnaaGreatDoor
