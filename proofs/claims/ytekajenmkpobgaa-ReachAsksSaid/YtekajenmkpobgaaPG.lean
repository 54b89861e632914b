/- Plain: groups of nodes that come to one another. -/
import Derived.Test.YtekajenmkpobgaaY2
set_option linter.unusedSimpArgs false
set_option linter.unusedVariables false
namespace Go.Proofs.Ytekajenmkpobgaa

/-- one group's search: what it keeps -/
structure GInv (N : Nat) (arcs : List ArcV) (of0 : List Int) (first : Int) (s : SSt) : Prop where
  len : s.1.length = N
  at_ : ∀ v, hasB N v = true → s.1[v.toNat]? = if v ∈ s.2.1 then some first else of0[v.toNat]?
  sub : ∀ v ∈ s.2.1, hasB N v = true ∧ isNeg of0 v = true
  nd : s.2.1.Nodup
  wk : ∀ v ∈ s.2.2, v ∈ s.2.1
  cl : ∀ v ∈ s.2.1, v ∈ s.2.2 ∨ ∀ u ∈ nb1 N arcs v, isNeg of0 u = true → u ∈ s.2.1
  up : ∀ P : Int → Prop, P first → (∀ v, P v → ∀ u ∈ nb1 N arcs v, isNeg of0 u = true → P u) → ∀ v ∈ s.2.1, P v
  fst : isNeg of0 first = true → first ∈ s.2.1
  emp : isNeg of0 first = false → s.2.1 = []

theorem GInv.neg {N : Nat} {arcs : List ArcV} {of0 : List Int} {first : Int} {s : SSt} (h : GInv N arcs of0 first s) (hf : 0 ≤ first) {n : Int} (hn : hasB N n = true) : isNeg s.1 n = true ↔ isNeg of0 n = true ∧ n ∉ s.2.1 := by
  have ha := h.at_ n hn
  unfold isNeg
  rw [ha]
  by_cases hm : n ∈ s.2.1
  · rw [if_pos hm]; simp [hm]; omega
  · rw [if_neg hm]; simp [hm]

/-- the set alone: what a step adds -/
theorem sStep_mem (first : Int) (s : SSt) (n v : Int) : v ∈ (sStep first s n).2.1 ↔ v ∈ s.2.1 ∨ (v = n ∧ isNeg s.1 n = true) := by
  unfold sStep
  by_cases h : isNeg s.1 n = true
  · rw [if_pos h]; simp [h]
  · rw [if_neg h]; simp [h]
theorem sStep_xs (first : Int) (s : SSt) (n v : Int) : v ∈ (sStep first s n).2.2 ↔ v ∈ s.2.2 ∨ (v = n ∧ isNeg s.1 n = true) := by
  unfold sStep
  by_cases h : isNeg s.1 n = true
  · rw [if_pos h]; simp [h]
  · rw [if_neg h]; simp [h]

/-- what holds but for one node that is being worked -/
structure GMid (N : Nat) (arcs : List ArcV) (of0 : List Int) (first : Int) (todo : Int → Prop) (s : SSt) : Prop where
  len : s.1.length = N
  at_ : ∀ v, hasB N v = true → s.1[v.toNat]? = if v ∈ s.2.1 then some first else of0[v.toNat]?
  sub : ∀ v ∈ s.2.1, hasB N v = true ∧ isNeg of0 v = true
  nd : s.2.1.Nodup
  wk : ∀ v ∈ s.2.2, v ∈ s.2.1
  cl : ∀ v ∈ s.2.1, todo v ∨ v ∈ s.2.2 ∨ ∀ u ∈ nb1 N arcs v, isNeg of0 u = true → u ∈ s.2.1
theorem GMid.neg {N : Nat} {arcs : List ArcV} {of0 : List Int} {first : Int} {todo : Int → Prop} {s : SSt} (h : GMid N arcs of0 first todo s) (hf : 0 ≤ first) {n : Int} (hn : hasB N n = true) : isNeg s.1 n = true ↔ isNeg of0 n = true ∧ n ∉ s.2.1 := by
  have ha := h.at_ n hn
  unfold isNeg
  rw [ha]
  by_cases hm : n ∈ s.2.1
  · rw [if_pos hm]; simp [hm]; omega
  · rw [if_neg hm]; simp [hm]
theorem GMid.step {N : Nat} {arcs : List ArcV} {of0 : List Int} {first : Int} {todo : Int → Prop} {s : SSt} (h : GMid N arcs of0 first todo s) (hf : 0 ≤ first) {n : Int} (hn : hasB N n = true) : GMid N arcs of0 first todo (sStep first s n) := by
  by_cases hi : isNeg s.1 n = true
  · obtain ⟨h1, h2⟩ := (h.neg hf hn).1 hi
    have hb := hn
    simp [hasB] at hb
    have e : sStep first s n = (s.1.set n.toNat first, s.2.1 ++ [n], s.2.2 ++ [n]) := by unfold sStep; rw [if_pos hi]
    rw [e]
    refine ⟨by simpa using h.len, fun v hv => ?_, fun v hv => ?_, ?_, fun v hv => ?_, fun v hv => ?_⟩
    · have hvb := hv
      simp [hasB] at hvb
      by_cases ev : v = n
      · subst ev
        rw [List.getElem?_set_self (by have := h.len; omega), if_pos (by simp)]
      · rw [List.getElem?_set_ne (by omega), h.at_ v hv]
        by_cases hm : v ∈ s.2.1
        · rw [if_pos hm, if_pos (by simp [hm])]
        · rw [if_neg hm, if_neg (by simp [hm, ev])]
    · rcases List.mem_append.1 hv with h3 | h3
      · exact h.sub v h3
      · have : v = n := by simpa using h3
        subst this
        exact ⟨hn, h1⟩
    · rw [List.nodup_append]
      refine ⟨h.nd, by simp, ?_⟩
      intro a ha b hb'
      have : b = n := by simpa using hb'
      subst this
      rintro rfl
      exact h2 ha
    · rcases List.mem_append.1 hv with h3 | h3
      · exact List.mem_append_left _ (h.wk v h3)
      · exact List.mem_append_right _ h3
    · rcases List.mem_append.1 hv with h3 | h3
      · rcases h.cl v h3 with h4 | h4 | h4
        · exact .inl h4
        · exact .inr (.inl (List.mem_append_left _ h4))
        · exact .inr (.inr fun u hu hn => List.mem_append_left _ (h4 u hu hn))
      · exact .inr (.inl (List.mem_append_right _ h3))
  · have e : sStep first s n = s := by unfold sStep; rw [if_neg hi]
    rw [e]; exact h
theorem GMid.all {N : Nat} {arcs : List ArcV} {of0 : List Int} {first : Int} {todo : Int → Prop} (hf : 0 ≤ first) (l : List Int) : ∀ {s : SSt}, GMid N arcs of0 first todo s → (∀ n ∈ l, hasB N n = true) →
    GMid N arcs of0 first todo (sAll first l s) ∧ (∀ v, v ∈ (sAll first l s).2.1 ↔ v ∈ s.2.1 ∨ (v ∈ l ∧ isNeg of0 v = true)) := by
  induction l with
  | nil => intro s h _; exact ⟨h, fun v => by simp [sAll]⟩
  | cons n l ih =>
    intro s h hl
    have hn := hl n (by simp)
    obtain ⟨h1, h2⟩ := ih (h.step hf hn) (fun m hm => hl m (by simp [hm]))
    refine ⟨h1, fun v => ?_⟩
    rw [sAll, h2 v, sStep_mem, h.neg hf hn]
    simp only [List.mem_cons]
    constructor
    · rintro ((h3 | ⟨rfl, h4, _⟩) | ⟨h3, h4⟩)
      · exact .inl h3
      · exact .inr ⟨.inl rfl, h4⟩
      · exact .inr ⟨.inr h3, h4⟩
    · rintro (h3 | ⟨rfl | h3, h4⟩)
      · exact .inl (.inl h3)
      · by_cases hm : v ∈ s.2.1
        · exact .inl (.inl hm)
        · exact .inl (.inr ⟨rfl, h4, hm⟩)
      · exact .inr ⟨h3, h4⟩

theorem GInv.start {N : Nat} {arcs : List ArcV} {of0 : List Int} {first : Int} (hl : of0.length = N) (hf : hasB N first = true) : GInv N arcs of0 first (sStep first (of0, [], []) first) := by
  have h0 : 0 ≤ first := by simp [hasB] at hf; omega
  have hm : GMid N arcs of0 first (fun _ => False) (of0, [], []) := ⟨hl, fun v _ => (by simp), fun v hv => (by cases hv), by simp, fun v hv => (by cases hv), fun v hv => (by cases hv)⟩
  have h1 := hm.step h0 hf
  refine ⟨h1.len, h1.at_, h1.sub, h1.nd, h1.wk, fun v hv => ?_, fun P hp _ v hv => ?_, fun hi => by rw [sStep_mem]; exact .inr ⟨rfl, hi⟩, fun hi => by simp [sStep, hi]⟩
  · rcases h1.cl v hv with h | h
    · exact h.elim
    · exact h
  · rw [sStep_mem] at hv
    rcases hv with h | ⟨rfl, _⟩
    · cases h
    · exact hp
theorem GInv.step {N : Nat} {arcs : List ArcV} {of0 : List Int} {first : Int} (hf : 0 ≤ first) {ofl grp ys : List Int} {v : Int} (h : GInv N arcs of0 first (ofl, grp, ys ++ [v])) : GInv N arcs of0 first (sAll first (nb1 N arcs v) (ofl, grp, ys)) := by
  have hv : v ∈ grp := h.wk v (by simp)
  have hm : GMid N arcs of0 first (fun x => x = v) (ofl, grp, ys) := ⟨h.len, h.at_, h.sub, h.nd, fun x hx => h.wk x (List.mem_append_left _ hx), fun x hx => by
    rcases h.cl x hx with h1 | h1
    · rcases List.mem_append.1 h1 with h2 | h2
      · exact .inr (.inl h2)
      · exact .inl (by simpa using h2)
    · exact .inr (.inr h1)⟩
  obtain ⟨h1, h2⟩ := hm.all hf (nb1 N arcs v) (fun n hn => (nb1_has hn).1)
  refine ⟨h1.len, h1.at_, h1.sub, h1.nd, h1.wk, fun x hx => ?_, fun P hp hs x hx => ?_, fun hi => (h2 first).2 (.inl (h.fst hi)), fun hi => ?_⟩
  rotate_right
  · have := h.emp hi
    simp only at this
    rw [this] at hv; cases hv
  · rcases h1.cl x hx with rfl | h3 | h3
    · exact .inr fun u hu hn => (h2 u).2 (.inr ⟨hu, hn⟩)
    · exact .inl h3
    · exact .inr h3
  · rcases (h2 x).1 hx with h3 | ⟨h3, h4⟩
    · exact h.up P hp hs x h3
    · exact hs v (h.up P hp hs v hv) x h3 h4

/-- they come to one another -/
def Mut (N : Nat) (arcs : List ArcV) (u v : Int) : Prop := Rch (nb0 N arcs) u v ∧ Rch (nb0 N arcs) v u
theorem Mut.refl (N : Nat) (arcs : List ArcV) (u : Int) : Mut N arcs u u := ⟨Rch.refl _ _, Rch.refl _ _⟩
theorem Mut.symm {N : Nat} {arcs : List ArcV} {u v : Int} (h : Mut N arcs u v) : Mut N arcs v u := ⟨h.2, h.1⟩
theorem Mut.trans {N : Nat} {arcs : List ArcV} {u v x : Int} (h : Mut N arcs u v) (k : Mut N arcs v x) : Mut N arcs u x := ⟨h.1.trans k.1, k.2.trans h.2⟩
/-- one way is the other's other -/
theorem nb1_iff {N : Nat} {arcs : List ArcV} {u v : Int} : u ∈ nb1 N arcs v ↔ v ∈ nb0 N arcs u := by
  constructor
  · intro h
    unfold nb1 nbW pieceOf at h
    obtain ⟨a, ha, rfl⟩ := List.mem_map.1 h
    obtain ⟨k, hk, rfl⟩ := List.mem_map.1 ha
    obtain ⟨x, hx, hf, hu⟩ := ins_mem hk
    rw [other_in hx hf hu]
    unfold nb0 nbW pieceOf
    have ho : k ∈ outs N arcs x.f := by
      unfold outs
      rw [List.mem_filter]
      refine ⟨?_, by rw [hx]; simp [hf]⟩
      rw [List.mem_range]
      rcases Nat.lt_or_ge k arcs.length with h1 | h1
      · exact h1
      · rw [List.getElem?_eq_none h1] at hx; cases hx
    exact List.mem_map.2 ⟨k, List.mem_map.2 ⟨k, ho, rfl⟩, by rw [other_out hx hf rfl, hu]⟩
  · intro h
    unfold nb0 nbW pieceOf at h
    obtain ⟨a, ha, rfl⟩ := List.mem_map.1 h
    obtain ⟨k, hk, rfl⟩ := List.mem_map.1 ha
    obtain ⟨x, hx, hf, hu⟩ := outs_mem hk
    rw [other_out hx hf hu]
    unfold nb1 nbW pieceOf
    have ho : k ∈ ins N arcs x.t := by
      unfold ins
      rw [List.mem_filter]
      refine ⟨?_, by rw [hx]; simp [hf]⟩
      rw [List.mem_range]
      rcases Nat.lt_or_ge k arcs.length with h1 | h1
      · exact h1
      · rw [List.getElem?_eq_none h1] at hx; cases hx
    exact List.mem_map.2 ⟨k, List.mem_map.2 ⟨k, ho, rfl⟩, by rw [other_in hx hf rfl, hu]⟩

/-- the least of those that it comes to and that come to it -/
def IsLow (N : Nat) (arcs : List ArcV) (v m : Int) : Prop := Mut N arcs m v ∧ hasB N m = true ∧ ∀ u, Mut N arcs u v → hasB N u = true → m ≤ u

/-- the numbers when some have been taken -/
structure SOk (N : Nat) (arcs : List ArcV) (pre : List Int) (ofl : List Int) : Prop where
  yes : ∀ v, hasB N v = true → (∃ p ∈ pre, Mut N arcs p v) → ∃ m, ofl[v.toNat]? = some m ∧ IsLow N arcs v m
  no : ∀ v, hasB N v = true → (¬ ∃ p ∈ pre, Mut N arcs p v) → ofl[v.toNat]? = some (-1)
/-- whatever is taken: numbers are none, or nodes -/
def SVal (N : Nat) (ofl : List Int) : Prop := ofl.length = N ∧ ∀ v, hasB N v = true → ∃ m, ofl[v.toNat]? = some m ∧ (m = -1 ∨ hasB N m = true)

/-- a node later in the list -/
theorem Fin0.last {N : Nat} {arcs : List ArcV} {told : List Int} (h : Fin0 N arcs told) {u v : Int} (hu : hasB N u = true) (hr : Rch (nb0 N arcs) u v) :
    Rch (nb0 N arcs) v u ∨ ∃ (i : Nat) (u' : Int), Mut N arcs u u' ∧ told[i]? = some u' ∧ v ∈ told.take i := by
  -- the last one of those that u comes to and that come to it
  have key : ∀ (d i : Nat) (x : Int), told.length - i = d → told[i]? = some x → Mut N arcs u x → Rch (nb0 N arcs) v u ∨ ∃ (i : Nat) (u' : Int), Mut N arcs u u' ∧ told[i]? = some u' ∧ v ∈ told.take i := by
    intro d
    induction d using Nat.strongRecOn with
    | _ d ih =>
      intro i x hd hx hm
      have hil : i < told.length := by
        rcases Nat.lt_or_ge i told.length with h1 | h1
        · exact h1
        · rw [List.getElem?_eq_none h1] at hx; cases hx
      rcases h.fin i x hx with ⟨s, h1, h2, h3⟩ | h1
      · have hsb : hasB N s = true := by
          rcases h1.head with rfl | _
          · have : x ∈ told := List.mem_of_getElem? hx
            exact (h.mem x).1 this
          · refine h1 (fun y => hasB N y = true) ((h.mem x).1 (List.mem_of_getElem? hx)) (fun a b _ hb => (nb0_has hb).1)
        obtain ⟨j, hj, e⟩ := List.getElem_of_mem ((h.mem s).2 hsb)
        have hji : i < j := by
          rcases Nat.lt_or_ge i j with h4 | h4
          · exact h4
          · exact absurd (List.mem_of_getElem? (l := told.take (i + 1)) (i := j) (by rw [List.getElem?_take, if_pos (by omega), List.getElem?_eq_getElem hj, e])) h3
        exact ih (told.length - j) (by omega) j s rfl (by rw [List.getElem?_eq_getElem hj, e]) (hm.trans ⟨h1, h2⟩)
      · rcases h1 v (hm.2.trans hr) with h2 | h2
        · exact .inr ⟨i, x, hm, hx, h2⟩
        · exact .inl (h2.trans hm.2)
  obtain ⟨j, hj, e⟩ := List.getElem_of_mem ((h.mem u).2 hu)
  exact key _ j u rfl (by rw [List.getElem?_eq_getElem hj, e]) (Mut.refl _ _ _)

theorem has_of_mut {N : Nat} {arcs : List ArcV} {u v : Int} (h : Mut N arcs u v) (hu : hasB N u = true) : hasB N v = true := h.1 (fun y => hasB N y = true) hu (fun _ _ _ hb => (nb0_has hb).1)

/-- the group that is found is just those that come to one another with the first -/
theorem group_is {N : Nat} {arcs : List ArcV} {told : List Int} (hF : Fin0 N arcs told) {pre : List Int} {first : Int} {rest : List Int} (ht : told.reverse = pre ++ first :: rest) {of0 : List Int} (hS : SOk N arcs pre of0) {ofl grp : List Int}
    (hG : GInv N arcs of0 first (ofl, grp, [])) (hfirst : first ∈ grp) : ∀ v, v ∈ grp ↔ Mut N arcs first v := by
  have hfm : first ∈ told := by rw [← List.mem_reverse, ht]; simp
  have hfh := (hF.mem first).1 hfm
  have hnp : ∀ v, hasB N v = true → (isNeg of0 v = true ↔ ¬ ∃ p ∈ pre, Mut N arcs p v) := by
    intro v hv
    constructor
    · intro hn hc
      obtain ⟨m, hm, _, hmh, _⟩ := hS.yes v hv hc
      simp [isNeg, hm] at hn
      simp [hasB] at hmh
      omega
    · intro hc
      simp [isNeg, hS.no v hv hc]
  have hfn : ¬ ∃ p ∈ pre, Mut N arcs p first := (hnp first hfh).1 (hG.sub first hfirst).2
  intro v
  constructor
  · intro hv
    have hvh := (hG.sub v hv).1
    -- v comes to the first
    have hr : Rch (nb0 N arcs) v first := hG.up (fun y => Rch (nb0 N arcs) y first) (Rch.refl _ _) (fun x hx u hu _ => (Rch.one (nb1_iff.1 hu)).trans hx) v hv
    rcases hF.last hvh hr with h1 | ⟨i, u', hm, hi, hb⟩
    · exact ⟨h1, hr⟩
    · exfalso
      -- u' stands behind the first in told, so it has been taken, and v with it
      have hnd := hF.nd
      have htold : told = rest.reverse ++ [first] ++ pre.reverse := by
        have := congrArg List.reverse ht
        simpa using this
      have hpos : told[rest.length]? = some first := by rw [htold]; simp
      have hil : i < told.length := by
        rcases Nat.lt_or_ge i told.length with h1 | h1
        · exact h1
        · rw [List.getElem?_eq_none h1] at hi; cases hi
      obtain ⟨j, hj, e⟩ := List.getElem_of_mem hb
      have hjl : j < i := by simp at hj; omega
      have hj1 : told[j]? = some first := by
        have : (told.take i)[j]? = some first := by rw [List.getElem?_eq_getElem hj, e]
        rwa [List.getElem?_take, if_pos hjl] at this
      have hjr : j = rest.length := by
        have h1 := List.getElem?_eq_some_iff.1 hj1
        have h2 := List.getElem?_eq_some_iff.1 hpos
        obtain ⟨a1, a2⟩ := h1
        obtain ⟨b1, b2⟩ := h2
        exact (List.getElem_inj hnd).1 (a2.trans b2.symm)
      have hu' : u' ∈ pre := by
        rw [htold, List.getElem?_append_right (by simp; omega)] at hi
        have := List.mem_of_getElem? hi
        simpa using this
      exact ((hnp v hvh).1 (hG.sub v hv).2) ⟨u', hu', hm.symm⟩
  · intro hm
    -- a way from v to the first goes through its own group alone
    have hvh := has_of_mut hm hfh
    have hclosed : ∀ x ∈ grp, ∀ u ∈ nb1 N arcs x, isNeg of0 u = true → u ∈ grp := by
      intro x hx u hu hn
      rcases hG.cl x hx with h1 | h1
      · cases h1
      · exact h1 u hu hn
    refine Classical.byContradiction fun hc => ?_
    have hall := hm.2 (fun z => Rch (nb0 N arcs) first z ∧ (Rch (nb0 N arcs) z first → z ∉ grp)) ⟨hm.1, fun _ => hc⟩ (by
      rintro x y ⟨hx, hx2⟩ hy
      refine ⟨hx.step hy, fun hyf hyg => ?_⟩
      have hxf : Rch (nb0 N arcs) x first := (Rch.one hy).trans hyf
      have hxh := (nb0_has hy).2
      have hxn : isNeg of0 x = true := (hnp x hxh).2 (fun ⟨p, hp, hpm⟩ => hfn ⟨p, hp, hpm.trans ⟨hxf, hx⟩⟩)
      exact hx2 hxf (hclosed y hyg x (nb1_iff.2 hy) hxn))
    exact hall.2 (Rch.refl _ _) hfirst

/-- all of a list get one number -/
def setAll (m : Int) (l : List Int) (ofl : List Int) : List Int := l.foldl (fun o n => o.set n.toNat m) ofl
theorem setAll_snoc (m : Int) (l : List Int) (n : Int) (ofl : List Int) : setAll m (l ++ [n]) ofl = (setAll m l ofl).set n.toNat m := by simp [setAll]
theorem setAll_len (m : Int) (l : List Int) (ofl : List Int) : (setAll m l ofl).length = ofl.length := by
  induction l generalizing ofl with
  | nil => rfl
  | cons a l ih => rw [setAll, List.foldl_cons, ← setAll, ih]; simp
theorem setAll_at {N : Nat} (m : Int) (l : List Int) (ofl : List Int) (hl : ofl.length = N) (hb : ∀ v ∈ l, hasB N v = true) (v : Int) (hv : hasB N v = true) : (setAll m l ofl)[v.toNat]? = if v ∈ l then some m else ofl[v.toNat]? := by
  have hvb := hv
  simp [hasB] at hvb
  induction l generalizing ofl with
  | nil => simp [setAll]
  | cons a l ih =>
    rw [setAll, List.foldl_cons, ← setAll, ih (ofl.set a.toNat m) (by simpa using hl) (fun x hx => hb x (by simp [hx]))]
    by_cases h1 : v ∈ l
    · rw [if_pos h1, if_pos (by simp [h1])]
    · rw [if_neg h1]
      have hab := hb a (by simp)
      simp [hasB] at hab
      by_cases h2 : v = a
      · subst h2
        rw [List.getElem?_set_self (by omega), if_pos (by simp)]
      · rw [List.getElem?_set_ne (by omega), if_neg (by simp [h1, h2])]
def minAll (first : Int) (l : List Int) : Int := l.foldl min first
theorem minAll_snoc (first : Int) (l : List Int) (n : Int) : minAll first (l ++ [n]) = min (minAll first l) n := by simp [minAll]
theorem minAll_le (first : Int) (l : List Int) : minAll first l ≤ first ∧ ∀ v ∈ l, minAll first l ≤ v := by
  induction l generalizing first with
  | nil => exact ⟨Int.le_refl _, fun v hv => by cases hv⟩
  | cons a l ih =>
    obtain ⟨h1, h2⟩ := ih (min first a)
    have e : minAll first (a :: l) = minAll (min first a) l := rfl
    rw [e]
    refine ⟨by omega, fun v hv => ?_⟩
    rcases List.mem_cons.1 hv with rfl | h3
    · omega
    · exact h2 v h3
theorem minAll_mem (first : Int) (l : List Int) : minAll first l = first ∨ minAll first l ∈ l := by
  induction l generalizing first with
  | nil => exact .inl rfl
  | cons a l ih =>
    have e : minAll first (a :: l) = minAll (min first a) l := rfl
    rw [e]
    rcases ih (min first a) with h | h
    · rw [h]
      rcases Int.le_total first a with h1 | h1
      · left; omega
      · right; rw [show min first a = a by omega]; simp
    · exact .inr (by simp [h])
theorem SVal.step {N : Nat} {arcs : List ArcV} {of0 : List Int} {first : Int} {ofl grp : List Int} (hV : SVal N of0) (hf : hasB N first = true) (hG : GInv N arcs of0 first (ofl, grp, [])) : SVal N (setAll (minAll first grp) grp ofl) ∧ hasB N (minAll first grp) = true := by
  have hm : hasB N (minAll first grp) = true := by
    rcases minAll_mem first grp with h | h
    · rw [h]; exact hf
    · exact (hG.sub _ h).1
  refine ⟨⟨by rw [setAll_len]; exact hG.len, fun v hv => ?_⟩, hm⟩
  rw [setAll_at _ _ _ hG.len (fun x hx => (hG.sub x hx).1) v hv]
  by_cases h : v ∈ grp
  · rw [if_pos h]; exact ⟨_, rfl, .inr hm⟩
  · rw [if_neg h, hG.at_ v hv, if_neg h]; exact hV.2 v hv
theorem SOk.step {N : Nat} {arcs : List ArcV} {told : List Int} (hF : Fin0 N arcs told) {pre : List Int} {first : Int} {rest : List Int} (ht : told.reverse = pre ++ first :: rest) {of0 : List Int} (hS : SOk N arcs pre of0) {ofl grp : List Int}
    (hG : GInv N arcs of0 first (ofl, grp, [])) : SOk N arcs (pre ++ [first]) (setAll (minAll first grp) grp ofl) := by
  have hfh : hasB N first = true := (hF.mem first).1 (by rw [← List.mem_reverse, ht]; simp)
  have hat : ∀ v, hasB N v = true → (setAll (minAll first grp) grp ofl)[v.toNat]? = if v ∈ grp then some (minAll first grp) else of0[v.toNat]? := by
    intro v hv
    rw [setAll_at _ _ _ hG.len (fun x hx => (hG.sub x hx).1) v hv]
    by_cases h : v ∈ grp
    · rw [if_pos h, if_pos h]
    · rw [if_neg h, if_neg h, hG.at_ v hv, if_neg h]
  cases hi : isNeg of0 first with
  | true =>
    have hfg := hG.fst hi
    have hgr := group_is hF ht hS hG hfg
    have hlow : ∀ v, v ∈ grp → IsLow N arcs v (minAll first grp) := by
      intro v hv
      have hv' := (hgr v).1 hv
      obtain ⟨h1, h2⟩ := minAll_le first grp
      have hmm : minAll first grp ∈ grp := by
        rcases minAll_mem first grp with h | h
        · rw [h]; exact hfg
        · exact h
      refine ⟨((hgr _).1 hmm).symm.trans hv', (hG.sub _ hmm).1, fun u hu _ => h2 u ((hgr u).2 (hv'.trans hu.symm))⟩
    refine ⟨fun v hv hp => ?_, fun v hv hp => ?_⟩
    · rw [hat v hv]
      by_cases h : v ∈ grp
      · rw [if_pos h]; exact ⟨_, rfl, hlow v h⟩
      · rw [if_neg h]
        obtain ⟨p, hp1, hp2⟩ := hp
        rcases List.mem_append.1 hp1 with h1 | h1
        · exact hS.yes v hv ⟨p, h1, hp2⟩
        · have : p = first := by simpa using h1
          subst this
          exact absurd ((hgr v).2 hp2) h
    · rw [hat v hv, if_neg (fun h => hp ⟨first, by simp, (hgr v).1 h⟩)]
      exact hS.no v hv (fun ⟨p, h1, h2⟩ => hp ⟨p, by simp [h1], h2⟩)
  | false =>
    have he := hG.emp hi
    simp only at he
    subst he
    have hpf : ∃ p ∈ pre, Mut N arcs p first := by
      refine Classical.byContradiction fun hc => ?_
      have := hS.no first hfh hc
      simp [isNeg, this] at hi
    obtain ⟨p, hp1, hp2⟩ := hpf
    refine ⟨fun v hv hq => ?_, fun v hv hq => ?_⟩
    · rw [hat v hv, if_neg (by simp)]
      obtain ⟨q, hq1, hq2⟩ := hq
      rcases List.mem_append.1 hq1 with h1 | h1
      · exact hS.yes v hv ⟨q, h1, hq2⟩
      · have : q = first := by simpa using h1
        subst this
        exact hS.yes v hv ⟨p, hp1, hp2.trans hq2⟩
    · rw [hat v hv, if_neg (by simp)]
      exact hS.no v hv (fun ⟨q, h1, h2⟩ => hq ⟨q, by simp [h1], h2⟩)
theorem SOk.start (N : Nat) (arcs : List ArcV) : SOk N arcs [] (List.replicate N (-1)) := by
  refine ⟨fun v _ hp => ?_, fun v hv _ => ?_⟩
  · obtain ⟨p, hp, _⟩ := hp; cases hp
  · simp [hasB] at hv
    rw [List.getElem?_replicate, if_pos (by omega)]
theorem SVal.start (N : Nat) : SVal N (List.replicate N (-1)) := by
  refine ⟨by simp, fun v hv => ?_⟩
  simp [hasB] at hv
  rw [List.getElem?_replicate, if_pos (by omega)]
  exact ⟨-1, rfl, .inl rfl⟩
end Go.Proofs.Ytekajenmkpobgaa
