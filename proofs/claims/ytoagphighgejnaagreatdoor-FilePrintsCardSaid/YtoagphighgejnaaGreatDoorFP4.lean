/- Plain: there and back; what is told fits. Conditions: none. -/
import Derived.Test.YtoagphighgejnaaGreatDoorFP2
import Derived.Test.YtoagphighgejnaaGreatDoorPT
import Derived.Test.YtoagphighgejnaaGreatDoorN13
set_option linter.unusedSimpArgs false
set_option linter.unusedVariables false
namespace Go.Proofs.YtoagphighgejnaaGreatDoor
open Go.RowKit Go.Shelf

theorem digs_ge (n : Nat) : ∀ u, u ≤ n → ∀ c ∈ Lib.decDigits u, 45 ≤ c.toNat := by
  induction n with
  | zero => intro u hu c hc; obtain rfl : u = 0 := by omega
            rw [Lib.decDigits_one (by omega)] at hc
            simp at hc; subst hc; decide
  | succ n ih =>
    intro u hu c hc
    by_cases h : u < 10
    · rw [Lib.decDigits_one h] at hc
      simp only [List.mem_singleton] at hc; subst hc; rw [dig_toNat h]; omega
    · rw [decDigits_step (by omega)] at hc
      rcases List.mem_append.1 hc with hc | hc
      · exact ih _ (by omega) c hc
      · simp only [List.mem_singleton] at hc; subst hc; rw [dig_toNat (by omega)]; omega
theorem itoa_ge (n : Int) : ∀ c ∈ Lib.itoa n, 45 ≤ c.toNat := by
  by_cases hn : n < 0
  · obtain ⟨u, rfl⟩ : ∃ u : Nat, n = -(u : Int) := ⟨n.natAbs, by omega⟩
    rw [Lib.itoa_neg u (by omega)]
    intro c hc
    rcases List.mem_cons.1 hc with rfl | hc
    · decide
    · exact digs_ge u u (Nat.le_refl _) c hc
  · obtain ⟨u, rfl⟩ : ∃ u : Nat, n = u := ⟨n.toNat, by omega⟩
    rw [Lib.itoa_nonneg]
    exact digs_ge u u (Nat.le_refl _)
theorem join_no10 (L : List (List UInt8)) (h : ∀ x ∈ L, (10 : UInt8) ∉ x) : (10 : UInt8) ∉ Lib.join L [32] := by
  cases L with
  | nil => simp [Lib.join]
  | cons x L =>
    rw [Lib.join_cons]
    simp only [Lib.joinTail, List.mem_append, List.mem_flatten, List.mem_map, not_or]
    refine ⟨h x (by simp), ?_⟩
    rintro ⟨y, ⟨z, hz, rfl⟩, hy⟩
    rcases List.mem_append.1 hy with hy | hy
    · simp at hy
    · exact h z (by simp [hz]) hy

/-- words of a line: at least one, all their bytes from 45 on -/
def WordsOk (ws : List (List UInt8)) : Prop := ws ≠ [] ∧ ∀ x ∈ ws, ∀ c ∈ x, 45 ≤ c.toNat
def lnW (ws : List (List UInt8)) : List UInt8 := Lib.join ws [32]
theorem ln_cut {ws : List (List UInt8)} (h : WordsOk ws) : cutL 32 (lnW ws) = ws :=
  cut_join 32 _ h.1 (fun x hx hc => by have := h.2 x hx 32 hc; simp at this)
theorem ln_no10 {ws : List (List UInt8)} (h : WordsOk ws) : (10 : UInt8) ∉ lnW ws :=
  join_no10 _ (fun x hx hc => by have := h.2 x hx 10 hc; simp at this)

/-- the lines of a text are what it was made of -/
theorem cut_flat (L : List (List UInt8)) (h : ∀ x ∈ L, (10 : UInt8) ∉ x) (t : List UInt8) : cutL 10 (flatL 10 L ++ t) = L ++ cutL 10 t := by
  induction L with
  | nil => simp [flatL]
  | cons x L ih =>
    have e : flatL 10 (x :: L) ++ t = x ++ 10 :: (flatL 10 L ++ t) := by simp [flatL]
    rw [e, cutL_at 10 x _ (h x (by simp)), ih (fun y hy => h y (by simp [hy]))]
    rfl
theorem lines_of_flat (L : List (List UInt8)) (h : ∀ x ∈ L, (10 : UInt8) ∉ x) : linesL (flatL 10 L) = L := by
  have := cut_flat L h []
  rw [List.append_nil] at this
  unfold linesL
  rw [this]
  simp [cutL]
theorem lines_flat_end (L : List (List UInt8)) (h : ∀ x ∈ L, (10 : UInt8) ∉ x) (t : List UInt8) (ht : (10 : UInt8) ∉ t) (hn : t ≠ []) : linesL (flatL 10 L ++ t) = L ++ [t] := by
  unfold linesL
  rw [cut_flat L h t, cutL_none 10 t ht]
  simp [hn]
theorem lines_join (L : List (List UInt8)) (h : ∀ x ∈ L, (10 : UInt8) ∉ x) (hn : L ≠ []) (hl : L.getLast? ≠ some []) : linesL (Lib.join L [10]) = L := by
  unfold linesL
  rw [cut_join 10 L hn h, if_neg hl]

/-- steps that all go well -/
def stepsE : RdV → List (List (List UInt8)) → Option RdV
  | r, [] => some r
  | r, ws :: l => if (lineE r ws).1 = 0 then stepsE (lineE r ws).2 l else none
theorem steps_app : ∀ (r : RdV) (a b : List (List (List UInt8))), stepsE r (a ++ b) = (stepsE r a).bind fun q => stepsE q b
  | r, [], b => rfl
  | r, ws :: a, b => by
    rw [List.cons_append, stepsE, stepsE]
    split
    · exact steps_app _ a b
    · rfl
theorem steps_one {r r' : RdV} {ws : List (List UInt8)} (h : lineE r ws = (0, r')) : stepsE r [ws] = some r' := by simp [stepsE, h]
theorem steps_snoc {r q r' : RdV} {l : List (List (List UInt8))} {ws : List (List UInt8)} (h : stepsE r l = some q) (h1 : lineE q ws = (0, r')) : stepsE r (l ++ [ws]) = some r' := by
  rw [steps_app, h]; exact steps_one h1
theorem steps_on {r q r' : RdV} {a b : List (List (List UInt8))} (h : stepsE r a = some q) (h1 : stepsE q b = some r') : stepsE r (a ++ b) = some r' := by
  rw [steps_app, h]; exact h1
theorem read_steps : ∀ (ts us : List (List UInt8)) (r r' : RdV) (k : Nat), stepsE r (ts.map (cutL 32)) = some r' → readE r k (ts ++ us) = readE r' (k + ts.length) us
  | [], us, r, r', k, h => by cases h; rfl
  | t :: ts, us, r, r', k, h => by
    rw [List.map_cons, stepsE] at h
    by_cases h0 : (lineE r (cutL 32 t)).1 = 0
    · rw [if_pos h0] at h
      rw [List.cons_append, readE, if_neg (by simp [h0]), read_steps ts us _ r' (k + 1) h]
      congr 1
      simp only [List.length_cons]; omega
    · rw [if_neg h0] at h; cases h
theorem read_all (ts : List (List UInt8)) (r r' : RdV) (k : Nat) (h : stepsE r (ts.map (cutL 32)) = some r') : readE r k ts = ((finE r').1, (finE r').2, 0) := by
  have := read_steps ts [] r r' k h
  rw [List.append_nil] at this
  rw [this]; rfl
theorem read_bad (ts : List (List UInt8)) (t : List UInt8) (us : List (List UInt8)) (r r' : RdV) (k : Nat) (h : stepsE r (ts.map (cutL 32)) = some r') (e : Int) (h1 : (lineE r' (cutL 32 t)).1 = e) (he : ¬ e = 0) :
    readE r k (ts ++ t :: us) = (prob0, e, ((k + ts.length : Nat) : Int) + 1) := by
  rw [read_steps ts (t :: us) r r' k h, readE, h1, if_pos he]

def kindW (m : Bool) : List UInt8 := if m = true then wMax else wMin
def headWs (p : ProbV) : List (List UInt8) := [[112], kindW p.max, Lib.itoa p.sup.length, Lib.itoa p.arcs.length]
def nodeWs (sup : List Int) (n : Nat) : List (List UInt8) := [[110], Lib.itoa ((n : Int) + 1), Lib.itoa (sup.getD n 0)]
/-- the nodes that have a line -/
def someN (sup : List Int) (k : Nat) : List Nat := (List.range k).filter fun n => decide (sup.getD n 0 ≠ 0)
def nodesWs (sup : List Int) (k : Nat) : List (List (List UInt8)) := (someN sup k).map (nodeWs sup)
def endWs (x : Int) (l : UInt8) : List (List UInt8) := [[110], Lib.itoa (x + 1), [l]]
def endsWs (p : ProbV) : List (List (List UInt8)) := if p.max = true then [endWs p.s 115, endWs p.t 116] else []
def capW (c : Int) : List UInt8 := if c = infC then [45, 49] else Lib.itoa c
def arcWs (m : Bool) (a : ArcV) : List (List UInt8) :=
  if m = true then [[97], Lib.itoa (a.f + 1), Lib.itoa (a.t + 1), capW a.cap] else [[97], Lib.itoa (a.f + 1), Lib.itoa (a.t + 1), Lib.itoa a.lo, capW a.cap, Lib.itoa a.cost]
def allWs (p : ProbV) : List (List (List UInt8)) := headWs p :: (nodesWs p.sup p.sup.length ++ endsWs p ++ p.arcs.map (arcWs p.max))
/-- a problem's lines, and its text -/
def linesP (p : ProbV) : List (List UInt8) := (allWs p).map lnW
def textP (p : ProbV) : List UInt8 := flatL 10 (linesP p)

/-- what a file may tell -/
structure FitsF (p : ProbV) : Prop where
  pos : 0 < p.sup.length
  n64 : p.sup.length ≤ 64
  m256 : p.arcs.length ≤ 256
  sup : ∀ x ∈ p.sup, -2147483648 ≤ x ∧ x ≤ 2147483648
  arcs : ∀ a ∈ p.arcs, ArcOk p.sup.length a
  sum : p.sup.sum = 0
  mx : p.max = true → (∀ x ∈ p.sup, x = 0) ∧ (∀ a ∈ p.arcs, a.lo = 0 ∧ a.cost = 0) ∧ 0 ≤ p.s ∧ p.s < p.sup.length ∧ 0 ≤ p.t ∧ p.t < p.sup.length ∧ p.s ≠ p.t
  mn : p.max = false → p.s = 0 ∧ p.t = 0

theorem capW_ge (c : Int) : ∀ x ∈ capW c, 45 ≤ x.toNat := by
  unfold capW; split
  · decide
  · exact itoa_ge c
theorem head_ok (p : ProbV) : WordsOk (headWs p) := by
  refine ⟨by simp [headWs], ?_⟩
  unfold headWs kindW
  intro x hx
  simp only [List.mem_cons, List.not_mem_nil, or_false] at hx
  rcases hx with rfl | rfl | rfl | rfl
  · decide
  · split <;> decide
  · exact itoa_ge _
  · exact itoa_ge _
theorem node_ok (sup : List Int) (n : Nat) : WordsOk (nodeWs sup n) := by
  refine ⟨by simp [nodeWs], ?_⟩
  unfold nodeWs
  intro x hx
  simp only [List.mem_cons, List.not_mem_nil, or_false] at hx
  rcases hx with rfl | rfl | rfl
  · decide
  · exact itoa_ge _
  · exact itoa_ge _
theorem end_ok (x : Int) (l : UInt8) (hl : 45 ≤ l.toNat) : WordsOk (endWs x l) := by
  refine ⟨by simp [endWs], ?_⟩
  unfold endWs
  intro y hy
  simp only [List.mem_cons, List.not_mem_nil, or_false] at hy
  rcases hy with rfl | rfl | rfl
  · decide
  · exact itoa_ge _
  · simpa using hl
theorem arc_ok (m : Bool) (a : ArcV) : WordsOk (arcWs m a) := by
  unfold arcWs
  split
  · refine ⟨by simp, ?_⟩
    intro y hy
    simp only [List.mem_cons, List.not_mem_nil, or_false] at hy
    rcases hy with rfl | rfl | rfl | rfl
    · decide
    · exact itoa_ge _
    · exact itoa_ge _
    · exact capW_ge _
  · refine ⟨by simp, ?_⟩
    intro y hy
    simp only [List.mem_cons, List.not_mem_nil, or_false] at hy
    rcases hy with rfl | rfl | rfl | rfl | rfl | rfl
    · decide
    · exact itoa_ge _
    · exact itoa_ge _
    · exact itoa_ge _
    · exact capW_ge _
    · exact itoa_ge _
theorem all_ok (p : ProbV) : ∀ ws ∈ allWs p, WordsOk ws := by
  intro ws hw
  unfold allWs at hw
  rcases List.mem_cons.1 hw with rfl | hw
  · exact head_ok p
  rcases List.mem_append.1 hw with hw | hw
  · rcases List.mem_append.1 hw with hw | hw
    · obtain ⟨n, -, rfl⟩ := List.mem_map.1 hw; exact node_ok _ n
    · unfold endsWs at hw
      split at hw
      · simp only [List.mem_cons, List.not_mem_nil, or_false] at hw
        rcases hw with rfl | rfl
        · exact end_ok _ _ (by decide)
        · exact end_ok _ _ (by decide)
      · cases hw
  · obtain ⟨a, -, rfl⟩ := List.mem_map.1 hw; exact arc_ok _ a
theorem map_cut (L : List (List (List UInt8))) (h : ∀ ws ∈ L, WordsOk ws) : (L.map lnW).map (cutL 32) = L := by
  rw [List.map_map]
  conv => rhs; rw [← List.map_id L]
  exact List.map_congr_left fun ws hw => ln_cut (h ws hw)
theorem map_no10 (L : List (List (List UInt8))) (h : ∀ ws ∈ L, WordsOk ws) : ∀ x ∈ L.map lnW, (10 : UInt8) ∉ x := by
  intro x hx
  obtain ⟨ws, hw, rfl⟩ := List.mem_map.1 hx
  exact ln_no10 (h ws hw)
theorem lines_text (p : ProbV) : linesL (textP p) = linesP p := lines_of_flat _ (map_no10 _ (all_ok p))

theorem num_small (n : Int) (h0 : -4294967296 ≤ n) (h1 : n ≤ 4294967296) : numL (Lib.itoa n) = (n, 0) := num_itoa n (by omega) (by omega)
theorem inW_itoa {n lo hi : Int} (h0 : -4294967296 ≤ n) (h1 : n ≤ 4294967296) : inW (Lib.itoa n) lo hi ↔ lo ≤ n ∧ n ≤ hi := by
  unfold inW; rw [num_small n h0 h1]; simp
theorem badW_itoa {n : Int} (h0 : -4294967296 ≤ n) (h1 : n ≤ 4294967296) : ¬ badW (Lib.itoa n) := by
  unfold badW; rw [num_small n h0 h1]; simp
theorem placeW_itoa {n : Nat} (h : n < 4294967296) : placeW (Lib.itoa ((n : Int) + 1)) = n := by
  unfold placeW; rw [num_small _ (by omega) (by omega)]; omega

/-- what was read behind the head's line -/
def rHead (p : ProbV) : RdV := ⟨true, p.arcs.length, p.max, List.replicate p.sup.length 0, [], List.replicate p.sup.length false, none, none⟩
theorem step_head (p : ProbV) (h : FitsF p) : lineE rd0 (headWs p) = (0, rHead p) := by
  have h1 := h.pos
  have h2 := h.n64
  have h3 := h.m256
  unfold lineE
  rw [if_neg (by simp [headWs]), if_pos (by simp [headWs])]
  unfold headE headWs
  simp only
  have hk : ¬ (¬ kindW p.max = wMin ∧ ¬ kindW p.max = wMax) := by unfold kindW; cases p.max <;> simp
  rw [if_neg hk, if_neg (by rw [not_or]; exact ⟨badW_itoa (by omega) (by omega), badW_itoa (by omega) (by omega)⟩), if_neg (by simp [rd0])]
  rw [if_neg (by rw [inW_itoa (by omega) (by omega)]; omega), if_neg (by rw [inW_itoa (by omega) (by omega)]; omega)]
  rw [num_small _ (by omega) (by omega), num_small _ (by omega) (by omega)]
  have hx : decide (kindW p.max = wMax) = p.max := by unfold kindW; cases p.max <;> decide
  simp only [hx, Int.toNat_natCast, rHead, rd0]

/-- what was read behind lines of some nodes -/
def rNodes (p : ProbV) (ns : List Nat) : RdV :=
  ⟨true, p.arcs.length, p.max, (List.range p.sup.length).map (fun i => if i ∈ ns then p.sup.getD i 0 else 0), [], (List.range p.sup.length).map (fun i => decide (i ∈ ns)), none, none⟩
theorem rNodes_nil (p : ProbV) : rNodes p [] = rHead p := by
  unfold rNodes rHead
  congr 1
  · apply List.ext_getElem
    · simp
    · intro i h1 h2; simp
  · apply List.ext_getElem
    · simp
    · intro i h1 h2; simp
theorem getD_mem {l : List Int} {n : Nat} (h : n < l.length) : l.getD n 0 ∈ l := by
  rw [List.getD_eq_getElem?_getD, List.getElem?_eq_getElem h]; exact List.getElem_mem h
theorem step_node (p : ProbV) (h : FitsF p) (hm : p.max = false) (ns : List Nat) (n : Nat) (hn : n < p.sup.length) (hno : n ∉ ns) : lineE (rNodes p ns) (nodeWs p.sup n) = (0, rNodes p (n :: ns)) := by
  have h2 := h.n64
  obtain ⟨x1, x2⟩ := h.sup _ (getD_mem hn)
  unfold lineE
  rw [if_neg (by simp [nodeWs]), if_neg (by simp [nodeWs]), if_pos (by simp [nodeWs]), if_neg (by simp [rNodes]), if_neg (by simp [rNodes, hm])]
  unfold nodeE nodeWs
  simp only
  rw [if_neg (by rw [not_or]; exact ⟨badW_itoa (by omega) (by omega), badW_itoa (by omega) (by omega)⟩), if_neg (by simp [rNodes])]
  have hl : (rNodes p ns).sup.length = p.sup.length := by simp [rNodes]
  rw [hl, if_neg (by rw [inW_itoa (by omega) (by omega)]; omega), if_neg (by rw [inW_itoa (by omega) (by omega)]; omega)]
  rw [placeW_itoa (by omega), num_small _ (by omega) (by omega)]
  have hh : ¬ (rNodes p ns).had[n]? = some true := by simp [rNodes, hn, hno]
  rw [if_neg hh]
  unfold rNodes
  simp only [Prod.mk.injEq, RdV.mk.injEq, true_and, and_true]
  refine ⟨?_, ?_⟩
  · apply List.ext_getElem
    · simp
    · intro i h1 h2
      simp only [List.getElem_set, List.getElem_map, List.getElem_range, List.mem_cons]
      by_cases e : n = i
      · subst e; simp
      · rw [if_neg e]; simp [Ne.symm e]
  · apply List.ext_getElem
    · simp
    · intro i h1 h2
      simp only [List.getElem_set, List.getElem_map, List.getElem_range, List.mem_cons]
      by_cases e : n = i
      · subst e; simp
      · rw [if_neg e]; simp [Ne.symm e]
theorem steps_nodes (p : ProbV) (h : FitsF p) (hm : p.max = false) : ∀ (l ns : List Nat), (∀ n ∈ l, n < p.sup.length) → l.Nodup → (∀ n ∈ l, n ∉ ns) → stepsE (rNodes p ns) (l.map (nodeWs p.sup)) = some (rNodes p (l.reverse ++ ns))
  | [], ns, _, _, _ => rfl
  | n :: l, ns, h1, h2, h3 => by
    rw [List.map_cons, stepsE, step_node p h hm ns n (h1 n (by simp)) (h3 n (by simp)), if_pos rfl]
    rw [steps_nodes p h hm l (n :: ns) (fun k hk => h1 k (by simp [hk])) (List.nodup_cons.1 h2).2 ?_]
    · simp
    · intro k hk hc
      rcases List.mem_cons.1 hc with rfl | hc
      · exact (List.nodup_cons.1 h2).1 hk
      · exact h3 k (by simp [hk]) hc
/-- what was read behind lines of all that have one -/
theorem rNodes_all (p : ProbV) (ns : List Nat) (hns : ∀ n, n < p.sup.length → p.sup.getD n 0 ≠ 0 → n ∈ ns) : (rNodes p ns).sup = p.sup := by
  unfold rNodes
  apply List.ext_getElem
  · simp
  · intro i h1 h2
    simp only [List.getElem_map, List.getElem_range]
    have e : p.sup.getD i 0 = p.sup[i] := by rw [List.getD_eq_getElem?_getD, List.getElem?_eq_getElem h2]; rfl
    by_cases hi : i ∈ ns
    · rw [if_pos hi, e]
    · rw [if_neg hi, ← e]
      exact (Classical.not_not.1 fun hc => hi (hns i h2 hc)).symm
theorem mem_someN {sup : List Int} {k n : Nat} : n ∈ someN sup k ↔ n < k ∧ sup.getD n 0 ≠ 0 := by simp [someN]
theorem someN_nodup (sup : List Int) (k : Nat) : (someN sup k).Nodup := List.nodup_range.filter _
theorem someN_succ (sup : List Int) (k : Nat) : someN sup (k + 1) = someN sup k ++ (if sup.getD k 0 ≠ 0 then [k] else []) := by
  unfold someN
  rw [List.range_succ, List.filter_append]
  congr 1
  by_cases h : sup.getD k 0 = 0
  · rw [if_neg (by simpa using h), List.filter_cons_of_neg (by simpa using h), List.filter_nil]
  · rw [if_pos h, List.filter_cons_of_pos (by simpa using h), List.filter_nil]

/-- one end more -/
theorem step_endS (p : ProbV) (h : FitsF p) (hm : p.max = true) (r : RdV) (hb : r.begun = true) (hx : r.max = true) (ha : r.arcs = []) (hl : r.sup.length = p.sup.length) (he : r.es = none) (hh : ¬ r.had[p.s.toNat]? = some true) :
    lineE r (endWs p.s 115) = (0, { r with had := r.had.set p.s.toNat true, es := some p.s }) := by
  have h2 := h.n64
  obtain ⟨-, -, s0, s1, t0, t1, -⟩ := h.mx hm
  obtain ⟨s, hs⟩ : ∃ s : Nat, p.s = s := ⟨p.s.toNat, by omega⟩
  rw [hs] at hh ⊢
  unfold lineE
  rw [if_neg (by simp [endWs]), if_neg (by simp [endWs]), if_pos (by simp [endWs]), if_neg (by simp [hb]), if_pos hx]
  unfold endE endWs
  simp only
  rw [if_neg (by simp), if_neg (badW_itoa (by omega) (by omega)), if_neg (by simp [ha]), hl, if_neg (by rw [inW_itoa (by omega) (by omega)]; omega)]
  rw [placeW_itoa (by omega), num_small _ (by omega) (by omega)]
  rw [if_neg (by simp only [endOf, he]; simpa using hh)]
  simp only [Int.toNat_natCast, if_pos, Int.add_sub_cancel]
theorem step_endT (p : ProbV) (h : FitsF p) (hm : p.max = true) (r : RdV) (hb : r.begun = true) (hx : r.max = true) (ha : r.arcs = []) (hl : r.sup.length = p.sup.length) (he : r.et = none) (hh : ¬ r.had[p.t.toNat]? = some true) :
    lineE r (endWs p.t 116) = (0, { r with had := r.had.set p.t.toNat true, et := some p.t }) := by
  have h2 := h.n64
  obtain ⟨-, -, s0, s1, t0, t1, -⟩ := h.mx hm
  obtain ⟨s, hs⟩ : ∃ s : Nat, p.t = s := ⟨p.t.toNat, by omega⟩
  rw [hs] at hh ⊢
  unfold lineE
  rw [if_neg (by simp [endWs]), if_neg (by simp [endWs]), if_pos (by simp [endWs]), if_neg (by simp [hb]), if_pos hx]
  unfold endE endWs
  simp only
  rw [if_neg (by simp), if_neg (badW_itoa (by omega) (by omega)), if_neg (by simp [ha]), hl, if_neg (by rw [inW_itoa (by omega) (by omega)]; omega)]
  rw [placeW_itoa (by omega), num_small _ (by omega) (by omega)]
  rw [if_neg (by simp only [endOf, he]; simpa using hh)]
  have h115 : ¬ ([116] : List UInt8) = [115] := by decide
  simp only [Int.toNat_natCast, if_neg h115, Int.add_sub_cancel]

theorem cap_back (c lo : Int) (hl : 0 ≤ lo) (h : c = infC ∨ (lo ≤ c ∧ c ≤ 2147483648)) : bndW (capW c) lo ∧ bndV (capW c) = c ∧ ¬ badW (capW c) := by
  unfold bndW bndV badW capW
  by_cases e : c = infC
  · rw [if_pos e]
    have hd : numL [45, 49] = (-1, 0) := by decide +kernel
    rw [hd]; subst e; simp
  · rw [if_neg e, num_small c (by rcases h with h | h; exact absurd h e; omega) (by rcases h with h | h; exact absurd h e; omega)]
    rcases h with h | h
    · exact absurd h e
    · refine ⟨⟨rfl, .inr h⟩, ?_, by simp⟩
      simp only
      rw [if_neg (by omega)]
theorem step_arc (p : ProbV) (h : FitsF p) (r : RdV) (hb : r.begun = true) (hx : r.max = p.max) (hl : r.sup.length = p.sup.length) (hne : ¬ (r.arcs.length : Int) = r.many) (a : ArcV) (ha : a ∈ p.arcs) :
    lineE r (arcWs p.max a) = (0, { r with arcs := r.arcs ++ [a] }) := by
  have h2 := h.n64
  have ha1 := h.arcs a ha
  obtain ⟨f0, f1⟩ := ha1.f
  obtain ⟨t0, t1⟩ := ha1.t
  obtain ⟨l0, l1⟩ := ha1.lo
  obtain ⟨c0, c1⟩ := ha1.cost
  obtain ⟨k1, k2, k3⟩ := cap_back a.cap a.lo l0 ha1.cap
  have hhd : (arcWs p.max a).head? = some [97] := by unfold arcWs; split <;> rfl
  unfold lineE
  rw [hhd, if_neg (by simp), if_neg (by simp), if_neg (by simp), if_pos rfl, if_neg (by simp [hb])]
  unfold arcE arcWs
  by_cases hm : p.max = true
  · obtain ⟨e1, e2⟩ := (h.mx hm).2.1 a ha
    rw [hx, if_pos hm, if_pos hm]
    unfold arcMaxE
    simp only
    rw [if_neg (by simp only [not_or]; exact ⟨badW_itoa (by omega) (by omega), badW_itoa (by omega) (by omega), k3⟩), if_neg hne, hl]
    rw [e1] at k1
    rw [if_neg (by simp only [not_or, Classical.not_not]; exact ⟨(inW_itoa (by omega) (by omega)).2 (by omega), (inW_itoa (by omega) (by omega)).2 (by omega), k1⟩)]
    rw [num_small _ (by omega) (by omega), num_small _ (by omega) (by omega), k2]
    simp only [Int.add_sub_cancel]
    rw [← hx]
    have ea : (⟨a.f, a.t, 0, a.cap, 0⟩ : ArcV) = a := by cases a; simp only at e1 e2; subst e1; subst e2; rfl
    rw [ea]
  · rw [hx, if_neg hm, if_neg hm]
    unfold arcMinE
    simp only
    rw [if_neg (by simp only [not_or]; exact ⟨badW_itoa (by omega) (by omega), badW_itoa (by omega) (by omega), badW_itoa (by omega) (by omega), k3, badW_itoa (by omega) (by omega)⟩), if_neg hne, hl]
    rw [num_small a.lo (by omega) (by omega)]
    rw [if_neg (by simp only [not_or, Classical.not_not]; exact ⟨(inW_itoa (by omega) (by omega)).2 (by omega), (inW_itoa (by omega) (by omega)).2 (by omega), (inW_itoa (by omega) (by omega)).2 (by omega), k1, (inW_itoa (by omega) (by omega)).2 (by omega)⟩)]
    rw [num_small _ (by omega) (by omega), num_small _ (by omega) (by omega), num_small a.cost (by omega) (by omega), k2]
    simp only [Int.add_sub_cancel]
    rw [← hx]
theorem steps_arcs (p : ProbV) (h : FitsF p) : ∀ (l : List ArcV) (r : RdV), r.begun = true → r.max = p.max → r.sup.length = p.sup.length → (r.arcs.length : Int) + l.length ≤ r.many → (∀ a ∈ l, a ∈ p.arcs) →
    stepsE r (l.map (arcWs p.max)) = some { r with arcs := r.arcs ++ l }
  | [], r, _, _, _, _, _ => by simp [stepsE]
  | a :: l, r, hb, hx, hl, hm, ha => by
    simp only [List.length_cons, Int.natCast_add, Int.natCast_one] at hm
    rw [List.map_cons, stepsE, step_arc p h r hb hx hl (by omega) a (ha a (by simp)), if_pos rfl]
    rw [steps_arcs p h l { r with arcs := r.arcs ++ [a] } hb hx hl (by simp; omega) (fun b hb => ha b (by simp [hb]))]
    simp

/-- the lines ahead of the arcs', in whatever order of the nodes' -/
structure Ahead (p : ProbV) (L : List (List (List UInt8))) (r : RdV) : Prop where
  steps : stepsE (rHead p) L = some r
  begun : r.begun = true
  max : r.max = p.max
  sup : r.sup = p.sup
  many : r.many = p.arcs.length
  arcs : r.arcs = []
  es : r.es.getD 0 = p.s ∧ (p.max = true → r.es.isSome = true)
  et : r.et.getD 0 = p.t ∧ (p.max = true → r.et.isSome = true)
theorem ahead_min (p : ProbV) (h : FitsF p) (hm : p.max = false) (l : List Nat) (hl : ∀ n, n ∈ l ↔ n < p.sup.length ∧ p.sup.getD n 0 ≠ 0) (hd : l.Nodup) :
    Ahead p (l.map (nodeWs p.sup)) (rNodes p (l.reverse ++ [])) := by
  have hs := steps_nodes p h hm l [] (fun n hn => ((hl n).1 hn).1) hd (by simp)
  rw [rNodes_nil] at hs
  obtain ⟨e1, e2⟩ := h.mn hm
  exact ⟨hs, rfl, rfl, rNodes_all p _ (fun n h1 h2 => by simpa using (hl n).2 ⟨h1, h2⟩), rfl, rfl, ⟨by rw [e1]; rfl, fun hx => by rw [hm] at hx; cases hx⟩, ⟨by rw [e2]; rfl, fun hx => by rw [hm] at hx; cases hx⟩⟩
theorem sup_zero (p : ProbV) (h : FitsF p) (hm : p.max = true) : p.sup = List.replicate p.sup.length 0 := List.eq_replicate_iff.2 ⟨rfl, (h.mx hm).1⟩
theorem had_no {n : Nat} {k : Nat} : ¬ (List.replicate n false)[k]? = some true := by
  intro h
  have := List.mem_of_getElem? h
  simp at this
theorem ahead_max (p : ProbV) (h : FitsF p) (hm : p.max = true) : ∃ r, Ahead p [endWs p.s 115, endWs p.t 116] r := by
  obtain ⟨-, -, s0, s1, t0, t1, hst⟩ := h.mx hm
  have e1 := step_endS p h hm (rHead p) rfl hm rfl (by simp [rHead]) rfl had_no
  have hh : ¬ ((List.replicate p.sup.length false).set p.s.toNat true)[p.t.toNat]? = some true := by
    rw [List.getElem?_set, if_neg (by omega)]; exact had_no
  have e2 := step_endT p h hm { rHead p with had := (rHead p).had.set p.s.toNat true, es := some p.s } rfl hm rfl (by simp [rHead]) rfl hh
  exact ⟨_, steps_snoc (steps_one e1) e2, rfl, rfl, (sup_zero p h hm).symm, rfl, rfl, ⟨rfl, fun _ => rfl⟩, ⟨rfl, fun _ => rfl⟩⟩
theorem ahead_max2 (p : ProbV) (h : FitsF p) (hm : p.max = true) : ∃ r, Ahead p [endWs p.t 116, endWs p.s 115] r := by
  obtain ⟨-, -, s0, s1, t0, t1, hst⟩ := h.mx hm
  have e1 := step_endT p h hm (rHead p) rfl hm rfl (by simp [rHead]) rfl had_no
  have hh : ¬ ((List.replicate p.sup.length false).set p.t.toNat true)[p.s.toNat]? = some true := by
    rw [List.getElem?_set, if_neg (by omega)]; exact had_no
  have e2 := step_endS p h hm { rHead p with had := (rHead p).had.set p.t.toNat true, et := some p.t } rfl hm rfl (by simp [rHead]) rfl hh
  exact ⟨_, steps_snoc (steps_one e1) e2, rfl, rfl, (sup_zero p h hm).symm, rfl, rfl, ⟨rfl, fun _ => rfl⟩, ⟨rfl, fun _ => rfl⟩⟩
theorem nodes_none (p : ProbV) (h : FitsF p) (hm : p.max = true) : nodesWs p.sup p.sup.length = [] := by
  unfold nodesWs
  have : someN p.sup p.sup.length = [] := by
    rw [List.eq_nil_iff_forall_not_mem]
    intro n hn
    obtain ⟨h1, h2⟩ := mem_someN.1 hn
    exact h2 ((h.mx hm).1 _ (getD_mem h1))
  rw [this]; rfl
/-- the lines between the head's and the arcs' -/
def midWs (p : ProbV) : List (List (List UInt8)) := nodesWs p.sup p.sup.length ++ endsWs p
theorem ahead_mid (p : ProbV) (h : FitsF p) : ∃ r, Ahead p (midWs p) r := by
  unfold midWs endsWs
  by_cases hm : p.max = true
  · rw [nodes_none p h hm, if_pos hm]; exact ahead_max p h hm
  · rw [if_neg hm, List.append_nil]
    exact ⟨_, ahead_min p h (by simpa using hm) _ (fun n => mem_someN) (someN_nodup _ _)⟩
/-- what is told behind lines of some arcs -/
theorem Ahead.arcs_ (p : ProbV) (h : FitsF p) {L : List (List (List UInt8))} {r : RdV} (ha : Ahead p L r) (l : List ArcV) (hl : l.length ≤ p.arcs.length) (hx : ∀ a ∈ l, a ∈ p.arcs) :
    stepsE rd0 (headWs p :: (L ++ l.map (arcWs p.max))) = some { r with arcs := l } := by
  rw [stepsE, step_head p h, if_pos rfl]
  refine steps_on ha.steps ?_
  rw [steps_arcs p h l r ha.begun ha.max (by rw [ha.sup]) (by rw [ha.arcs, ha.many]; simp; omega) hx, ha.arcs]
  simp
theorem fin_all (p : ProbV) (h : FitsF p) {L : List (List (List UInt8))} {r : RdV} (ha : Ahead p L r) : finE { r with arcs := p.arcs } = (p, 0) := by
  unfold finE
  simp only
  rw [if_neg (by rw [ha.begun, ha.many]; simp)]
  rw [if_neg (by rw [ha.max]; rintro ⟨h1, h2⟩; exact h2 ⟨ha.es.2 h1, ha.et.2 h1⟩)]
  rw [if_neg (by rw [ha.sup, h.sum]; simp), ha.max, ha.sup, ha.es.1, ha.et.1]
theorem fin_less (p : ProbV) {L : List (List (List UInt8))} {r : RdV} (ha : Ahead p L r) (l : List ArcV) (hl : l.length < p.arcs.length) : finE { r with arcs := l } = (prob0, 12) := by
  unfold finE
  simp only
  rw [if_pos (.inr (by rw [ha.many]; omega))]
/-- lines in whatever order of the nodes' tell the problem -/
theorem read_prob (p : ProbV) (h : FitsF p) {L : List (List (List UInt8))} {r : RdV} (ha : Ahead p L r) (ts : List (List UInt8)) (hts : ts.map (cutL 32) = headWs p :: (L ++ p.arcs.map (arcWs p.max))) (k : Nat) :
    readE rd0 k ts = (p, 0, 0) := by
  have hs := ha.arcs_ p h p.arcs (Nat.le_refl _) (fun _ hx => hx)
  rw [← hts] at hs
  rw [read_all ts rd0 _ k hs, fin_all p h ha]
theorem allWs_eq (p : ProbV) : allWs p = headWs p :: (midWs p ++ p.arcs.map (arcWs p.max)) := rfl
theorem lines_back (p : ProbV) (h : FitsF p) (k : Nat) : readE rd0 k (linesP p) = (p, 0, 0) := by
  obtain ⟨r, ha⟩ := ahead_mid p h
  exact read_prob p h ha _ (by unfold linesP; rw [map_cut _ (all_ok p), allWs_eq]) k
/-- there and back -/
theorem text_back (p : ProbV) (h : FitsF p) (hlen : ¬ 60000 < (textP p).length) : parseF (textP p) = (p, 0, 0) := by
  unfold parseF
  rw [if_neg hlen, lines_text, lines_back p h]

/-- a line that tells nothing -/
def Remark (t : List UInt8) : Prop := (cutL 32 t).head? = some [99]
theorem steps_remark {r : RdV} {t : List UInt8} (ht : Remark t) : lineE r (cutL 32 t) = (0, r) := by
  unfold Remark at ht; unfold lineE; rw [if_pos ht]
theorem read_remark (t : List UInt8) (ht : Remark t) (a b : List (List UInt8)) (r r' : RdV) (k j : Nat) (h : stepsE r ((a ++ b).map (cutL 32)) = some r') : readE r k (a ++ t :: b) = readE r j (a ++ b) := by
  rw [read_all (a ++ b) r r' j h]
  refine read_all _ r r' k ?_
  rw [List.map_append, steps_app] at h
  rw [List.map_append, List.map_cons, steps_app]
  cases ha : stepsE r (a.map (cutL 32)) with
  | none => rw [ha] at h; cases h
  | some q =>
    rw [ha] at h
    simp only [Option.bind_some] at h ⊢
    rw [stepsE, steps_remark ht, if_pos rfl]
    exact h
theorem lines_steps (p : ProbV) (h : FitsF p) : ∃ r, stepsE rd0 ((linesP p).map (cutL 32)) = some r := by
  obtain ⟨r, ha⟩ := ahead_mid p h
  refine ⟨{ r with arcs := p.arcs }, ?_⟩
  unfold linesP; rw [map_cut _ (all_ok p), allWs_eq]; exact ha.arcs_ p h p.arcs (Nat.le_refl _) (fun _ hx => hx)
theorem remark_back (p : ProbV) (h : FitsF p) (t : List UInt8) (ht : Remark t) (a b : List (List UInt8)) (hab : a ++ b = linesP p) (k : Nat) : readE rd0 k (a ++ t :: b) = (p, 0, 0) := by
  obtain ⟨r, hr⟩ := lines_steps p h
  rw [read_remark t ht a b rd0 r k 0 (by rw [hab]; exact hr), hab]
  exact lines_back p h 0

/-- what is told fits -/
theorem fin_fits {r : RdV} (h : RdOk r) (h0 : (finE r).2 = 0) : FitsF (finE r).1 := by
  unfold finE at h0 ⊢
  split at h0
  · cases h0
  split at h0
  · cases h0
  split at h0
  · cases h0
  rename_i c1 c2 c3
  rw [if_neg c1, if_neg c2, if_neg c3]
  rw [not_or, Classical.not_not] at c1
  have c3' : r.sup.sum = 0 := Classical.not_not.1 c3
  refine ⟨h.pos c1.1, h.n64, by have := h.many; simp only; omega, h.sup, h.arcs, c3', ?_, ?_⟩
  · intro hm
    have hm' : r.max = true := hm
    have c2' : r.es.isSome = true ∧ r.et.isSome = true := Classical.not_not.1 fun e => c2 ⟨hm', e⟩
    obtain ⟨x, hx⟩ := Option.isSome_iff_exists.1 c2'.1
    obtain ⟨y, hy⟩ := Option.isSome_iff_exists.1 c2'.2
    obtain ⟨u1, u2, -⟩ := h.es x hx
    obtain ⟨v1, v2, -⟩ := h.et y hy
    refine ⟨(h.mx hm').1, (h.mx hm').2, ?_⟩
    simp only [hx, hy, Option.getD_some]
    exact ⟨u1, u2, v1, v2, h.ne x y hx hy⟩
  · intro hm
    obtain ⟨e1, e2⟩ := h.min hm
    simp [e1, e2]
theorem read_fits : ∀ (ts : List (List UInt8)) (r : RdV) (k : Nat), RdOk r →
    ((readE r k ts).2.1 = 0 ∧ (readE r k ts).2.2 = 0 ∧ FitsF (readE r k ts).1) ∨ (¬ (readE r k ts).2.1 = 0 ∧ (readE r k ts).1 = prob0 ∧ 0 ≤ (readE r k ts).2.2 ∧ (readE r k ts).2.2 ≤ k + ts.length)
  | [], r, k, h => by
    simp only [readE]
    by_cases h0 : (finE r).2 = 0
    · exact .inl ⟨h0, trivial, fin_fits h h0⟩
    · refine .inr ⟨h0, ?_, by simp, by simp⟩
      unfold finE at h0 ⊢
      split
      · rfl
      rename_i c1
      rw [if_neg c1] at h0
      split
      · rfl
      rename_i c2
      rw [if_neg c2] at h0
      split
      · rfl
      rename_i c3
      rw [if_neg c3] at h0
      exact absurd rfl h0
  | t :: ts, r, k, h => by
    rw [readE]
    by_cases h0 : (lineE r (cutL 32 t)).1 = 0
    · rw [if_neg (by simp [h0])]
      have := read_fits ts _ (k + 1) (lineE_ok h _ h0)
      simp only [List.length_cons] at this ⊢
      rcases this with this | ⟨a, b, c, d⟩
      · exact .inl this
      · exact .inr ⟨a, b, c, by omega⟩
    · rw [if_pos h0]
      refine .inr ⟨h0, rfl, by simp only; omega, ?_⟩
      simp only [List.length_cons]; omega
theorem parse_fits (s : List UInt8) : ((parseF s).2.1 = 0 ∧ (parseF s).2.2 = 0 ∧ FitsF (parseF s).1) ∨ (¬ (parseF s).2.1 = 0 ∧ (parseF s).1 = prob0 ∧ 0 ≤ (parseF s).2.2 ∧ (parseF s).2.2 ≤ (linesL s).length) := by
  unfold parseF
  split
  · exact .inr ⟨by simp, rfl, by simp, by simp⟩
  · have := read_fits (linesL s) rd0 0 rd0_ok
    rcases this with this | ⟨a, b, c, d⟩
    · exact .inl this
    · exact .inr ⟨a, b, c, by omega⟩
end Go.Proofs.YtoagphighgejnaaGreatDoor
