/- Plain: a search in depth; the order in which nodes are left. -/
import Derived.Test.YtekajenmkpobgaaPR
import Derived.Test.YtekajenmkpobgaaV
set_option linter.unusedSimpArgs false
set_option linter.unusedVariables false
namespace Go.Proofs.Ytekajenmkpobgaa

/-- v is come to from u along nb -/
def Rch (nb : Int → List Int) (u v : Int) : Prop := ∀ P : Int → Prop, P u → (∀ x y, P x → y ∈ nb x → P y) → P v
theorem Rch.refl (nb : Int → List Int) (u : Int) : Rch nb u u := fun _ h _ => h
theorem Rch.trans {nb : Int → List Int} {u v x : Int} (h : Rch nb u v) (k : Rch nb v x) : Rch nb u x := fun P h1 h2 => k P (h P h1 h2) h2
theorem Rch.step {nb : Int → List Int} {u v x : Int} (h : Rch nb u v) (k : x ∈ nb v) : Rch nb u x := fun P h1 h2 => h2 v x (h P h1 h2) k
theorem Rch.one {nb : Int → List Int} {u v : Int} (k : v ∈ nb u) : Rch nb u v := (Rch.refl nb u).step k
/-- from the head -/
theorem Rch.head {nb : Int → List Int} {u v : Int} (h : Rch nb u v) : u = v ∨ ∃ x, x ∈ nb u ∧ Rch nb x v := by
  refine h (fun y => u = y ∨ ∃ x, x ∈ nb u ∧ Rch nb x y) (.inl rfl) ?_
  rintro y z (rfl | ⟨x, h1, h2⟩) hz
  · exact .inr ⟨z, hz, Rch.refl nb z⟩
  · exact .inr ⟨x, h1, h2.step hz⟩

/-- the nodes of a way -/
def nodesOf (stk : List (Int × List Int)) : List Int := stk.map (·.1)
def nb0 (N : Nat) (arcs : List ArcV) : Int → List Int := nbW N arcs 0
theorem nb0_of {N : Nat} {arcs : List ArcV} {u a : Int} (h : a ∈ intsOf (outs N arcs u)) : otherOf N arcs a u ∈ nb0 N arcs u := by
  unfold nb0 nbW pieceOf
  exact List.mem_map.2 ⟨a, h, rfl⟩
theorem outs_mem {N : Nat} {arcs : List ArcV} {u : Int} {a : Nat} (h : a ∈ outs N arcs u) : ∃ x, arcs[a]? = some x ∧ fitB N x = true ∧ x.f = u := by
  unfold outs at h
  rw [List.mem_filter] at h
  obtain ⟨_, h2⟩ := h
  cases hx : arcs[a]? with
  | none => rw [hx] at h2; cases h2
  | some x =>
    rw [hx] at h2
    simp only [Bool.and_eq_true, beq_iff_eq] at h2
    exact ⟨x, rfl, h2.1, h2.2⟩
theorem arcAt_of {N : Nat} {arcs : List ArcV} {a : Nat} {x : ArcV} (h : arcs[a]? = some x) (hf : fitB N x = true) : arcAt N arcs (a : Int) = some x := by
  simp [arcAt, h, hf]
theorem other_out {N : Nat} {arcs : List ArcV} {u : Int} {a : Nat} {x : ArcV} (h : arcs[a]? = some x) (hf : fitB N x = true) (hu : x.f = u) : otherOf N arcs a u = x.t := by
  unfold otherOf
  rw [arcAt_of h hf]
  simp [hu]
theorem nb0_has {N : Nat} {arcs : List ArcV} {u v : Int} (h : v ∈ nb0 N arcs u) : hasB N v = true ∧ hasB N u = true := by
  unfold nb0 nbW pieceOf at h
  obtain ⟨a, ha, rfl⟩ := List.mem_map.1 h
  obtain ⟨k, hk, rfl⟩ := List.mem_map.1 ha
  obtain ⟨x, hx, hf, hu⟩ := outs_mem hk
  rw [other_out hx hf hu]
  obtain ⟨b1, b2, b3, b4⟩ := fit_bounds hf
  subst hu
  simp [hasB]
  omega

/-- what a search in depth keeps -/
structure DInv (N : Nat) (arcs : List ArcV) (met : List Bool) (stk : List (Int × List Int)) (told : List Int) : Prop where
  len : met.length = N
  metd : ∀ v, inS met v ↔ v ∈ told ∨ v ∈ nodesOf stk
  nd : (told ++ nodesOf stk).Nodup
  path : ∀ (i : Nat) f f', stk[i]? = some f → stk[i + 1]? = some f' → f'.1 ∈ nb0 N arcs f.1
  sub : ∀ f ∈ stk, ∀ a ∈ f.2, a ∈ intsOf (outs N arcs f.1)
  proc : ∀ f ∈ stk, ∀ a ∈ intsOf (outs N arcs f.1), a ∈ f.2 ∨ inS met (otherOf N arcs a f.1)
  black : ∀ u ∈ told, ∀ v ∈ nb0 N arcs u, inS met v
  fin : ∀ (i : Nat) u, told[i]? = some u → (∃ s, Rch (nb0 N arcs) u s ∧ Rch (nb0 N arcs) s u ∧ s ∉ told.take (i + 1)) ∨ ∀ v, Rch (nb0 N arcs) u v → v ∈ told.take i ∨ Rch (nb0 N arcs) v u

theorem nodesOf_snoc (stk : List (Int × List Int)) (f : Int × List Int) : nodesOf (stk ++ [f]) = nodesOf stk ++ [f.1] := by simp [nodesOf]
theorem inS_set {met : List Bool} {n : Nat} (hn : n < met.length) (v : Int) : inS (met.set n true) v ↔ inS met v ∨ v = n := by
  constructor
  · rintro ⟨h1, h2⟩
    by_cases e : v = n
    · exact .inr e
    · left
      refine ⟨h1, ?_⟩
      rwa [List.getElem?_set_ne (by omega)] at h2
  · rintro (⟨h1, h2⟩ | rfl)
    · refine ⟨h1, ?_⟩
      by_cases e : n = v.toNat
      · rw [← e, List.getElem?_set_self hn]
      · rw [List.getElem?_set_ne e]; exact h2
    · exact ⟨by omega, by rw [Int.toNat_natCast, List.getElem?_set_self hn]⟩

/-- each node of a way comes to the last one -/
theorem DInv.reach_top {N : Nat} {arcs : List ArcV} {met : List Bool} {stk : List (Int × List Int)} {told : List Int} {f : Int × List Int} (h : DInv N arcs met (stk ++ [f]) told) : ∀ v ∈ nodesOf (stk ++ [f]), Rch (nb0 N arcs) v f.1 := by
  have key : ∀ (d i : Nat), i + d = stk.length → ∀ g, (stk ++ [f])[i]? = some g → Rch (nb0 N arcs) g.1 f.1 := by
    intro d
    induction d with
    | zero =>
      intro i hi g hg
      have : i = stk.length := by omega
      subst this
      simp at hg
      subst hg
      exact Rch.refl _ _
    | succ d ih =>
      intro i hi g hg
      obtain ⟨g', hg'⟩ : ∃ g', (stk ++ [f])[i + 1]? = some g' := ⟨_, List.getElem?_eq_getElem (by simp; omega)⟩
      have e := h.path i g g' hg hg'
      exact (Rch.one e).trans (ih (i + 1) (by omega) g' hg')
  intro v hv
  unfold nodesOf at hv
  obtain ⟨g, hg, rfl⟩ := List.mem_map.1 hv
  obtain ⟨i, hi, rfl⟩ := List.getElem_of_mem hg
  simp at hi
  exact key (stk.length - i) i (by omega) _ (List.getElem?_eq_getElem (by simp; omega))

/-- a node is left -/
theorem DInv.pop {N : Nat} {arcs : List ArcV} {met : List Bool} {stk : List (Int × List Int)} {told : List Int} {u : Int} (h : DInv N arcs met (stk ++ [(u, [])]) told) : DInv N arcs met stk (told ++ [u]) := by
  have hnbs : ∀ v ∈ nb0 N arcs u, inS met v := by
    intro v hv
    unfold nb0 nbW pieceOf at hv
    obtain ⟨a, ha, rfl⟩ := List.mem_map.1 hv
    rcases h.proc (u, []) (by simp) a ha with h1 | h1
    · cases h1
    · exact h1
  have hmet : ∀ v, inS met v ↔ v ∈ told ++ [u] ∨ v ∈ nodesOf stk := by
    intro v
    rw [h.metd v, nodesOf_snoc]
    simp only [List.mem_append, List.mem_cons, List.not_mem_nil, or_false]
    constructor
    · rintro (h1 | h1 | h1)
      · exact .inl (.inl h1)
      · exact .inr h1
      · exact .inl (.inr h1)
    · rintro ((h1 | h1) | h1)
      · exact .inl h1
      · exact .inr (.inr h1)
      · exact .inr (.inl h1)
  refine ⟨h.len, hmet, ?_, fun i f f' hf hf' => ?_, fun f hf => h.sub f (List.mem_append_left _ hf), fun f hf => h.proc f (List.mem_append_left _ hf), ?_, ?_⟩
  · have := h.nd
    rw [nodesOf_snoc] at this
    have hp : ((told ++ [u]) ++ nodesOf stk).Perm (told ++ (nodesOf stk ++ [u])) := by
      rw [List.append_assoc]
      exact List.Perm.append_left told List.perm_append_comm
    exact hp.nodup_iff.2 this
  · have h1 : i + 1 < stk.length := by
      rcases Nat.lt_or_ge (i + 1) stk.length with h | h
      · exact h
      · rw [List.getElem?_eq_none h] at hf'; cases hf'
    exact h.path i f f' (by rw [List.getElem?_append_left (by omega)]; exact hf) (by rw [List.getElem?_append_left h1]; exact hf')
  · intro x hx
    rcases List.mem_append.1 hx with h1 | h1
    · exact h.black x h1
    · have : x = u := by simpa using h1
      subst this
      exact hnbs
  · intro i x hx
    rcases Nat.lt_or_ge i told.length with hi | hi
    · rw [List.getElem?_append_left hi] at hx
      rw [List.take_append_of_le_length (by omega), List.take_append_of_le_length (by omega)]
      exact h.fin i x hx
    · have hii : i = told.length := by
        rcases Nat.lt_or_ge i (told.length + 1) with h | h
        · omega
        · rw [List.getElem?_eq_none (by simp; omega)] at hx; cases hx
      subst hii
      rw [List.getElem?_append_right (Nat.le_refl _)] at hx
      simp at hx
      subst hx
      rw [List.take_left, List.take_of_length_le (by simp)]
      rcases Classical.em (∃ s, s ∈ nodesOf stk ∧ Rch (nb0 N arcs) u s) with ⟨s, hs, hr⟩ | hno
      · refine .inl ⟨s, hr, h.reach_top s (by rw [nodesOf_snoc]; exact List.mem_append_left _ hs), ?_⟩
        intro hc
        have hnd := h.nd
        rw [nodesOf_snoc, List.nodup_append] at hnd
        obtain ⟨_, hnd2, hnd3⟩ := hnd
        rw [List.nodup_append] at hnd2
        rcases List.mem_append.1 hc with h1 | h1
        · exact hnd3 s h1 s (List.mem_append_left _ hs) rfl
        · have : s = u := by simpa using h1
          exact hnd2.2.2 s hs u (by simp) this
      · right
        intro v hv
        have key : Rch (nb0 N arcs) u v ∧ (v ∈ told ∨ v = u) := by
          refine hv (fun y => Rch (nb0 N arcs) u y ∧ (y ∈ told ∨ y = u)) ⟨Rch.refl _ _, .inr rfl⟩ ?_
          rintro x y ⟨hx, hx2⟩ hy
          have hy2 := hx.step hy
          refine ⟨hy2, ?_⟩
          have hm : inS met y := by
            rcases hx2 with h1 | rfl
            · exact h.black x h1 y hy
            · exact hnbs y hy
          rcases (hmet y).1 hm with h1 | h1
          · simpa using h1
          · exact absurd ⟨y, h1, hy2⟩ hno
        rcases key.2 with h1 | rfl
        · exact .inl h1
        · exact .inr (Rch.refl _ _)

theorem not_mem_told {N : Nat} {arcs : List ArcV} {met : List Bool} {stk : List (Int × List Int)} {told : List Int} (h : DInv N arcs met stk told) {v : Int} (hv : ¬ inS met v) : v ∉ told ∧ v ∉ nodesOf stk :=
  ⟨fun hc => hv ((h.metd v).2 (.inl hc)), fun hc => hv ((h.metd v).2 (.inr hc))⟩
theorem newNat {met : List Bool} {n : Nat} (hn : met[n]? = some false) : n < met.length ∧ ¬ inS met (n : Int) := by
  refine ⟨?_, fun hc => ?_⟩
  · rcases Nat.lt_or_ge n met.length with h | h
    · exact h
    · rw [List.getElem?_eq_none h] at hn; cases hn
  · have := hc.2
    rw [Int.toNat_natCast, hn] at this
    cases this

/-- a node is met, at the end of a way -/
theorem DInv.push {N : Nat} {arcs : List ArcV} {met : List Bool} {stk : List (Int × List Int)} {told : List Int} (h : DInv N arcs met stk told) {n : Nat} (hn : met[n]? = some false)
    (hp : ∀ s f, stk = s ++ [f] → (n : Int) ∈ nb0 N arcs f.1) : DInv N arcs (met.set n true) (stk ++ [((n : Int), intsOf (outs N arcs n))]) told := by
  obtain ⟨hl, hni⟩ := newNat hn
  obtain ⟨ht, hs⟩ := not_mem_told h hni
  have hS := inS_set hl
  refine ⟨by simpa using h.len, fun v => ?_, ?_, fun i f f' hf hf' => ?_, fun f hf => ?_, fun f hf => ?_, fun u hu v hv => (hS v).2 (.inl (h.black u hu v hv)), h.fin⟩
  · rw [hS v, h.metd v, nodesOf_snoc]
    simp only [List.mem_append, List.mem_cons, List.not_mem_nil, or_false]
    constructor
    · rintro ((h1 | h1) | h1)
      · exact .inl h1
      · exact .inr (.inl h1)
      · exact .inr (.inr h1)
    · rintro (h1 | h1 | h1)
      · exact .inl (.inl h1)
      · exact .inl (.inr h1)
      · exact .inr h1
  · rw [nodesOf_snoc, ← List.append_assoc, List.nodup_append]
    refine ⟨h.nd, by simp, ?_⟩
    intro a ha b hb
    have : b = (n : Int) := by simpa using hb
    subst this
    rintro rfl
    rcases List.mem_append.1 ha with h1 | h1
    · exact ht h1
    · exact hs h1
  · have h1 : i + 1 < stk.length + 1 := by
      rcases Nat.lt_or_ge (i + 1) (stk.length + 1) with h | h
      · exact h
      · rw [List.getElem?_eq_none (by simp; omega)] at hf'; cases hf'
    rcases Nat.lt_or_ge (i + 1) stk.length with h2 | h2
    · exact h.path i f f' (by rw [← hf, List.getElem?_append_left (by omega)]) (by rw [← hf', List.getElem?_append_left h2])
    · have h3 : i + 1 = stk.length := by omega
      rw [h3, List.getElem?_append_right (Nat.le_refl _)] at hf'
      simp at hf'
      subst hf'
      rcases List.eq_nil_or_concat stk with rfl | ⟨s, g, rfl⟩
      · simp at h3
      · rw [List.concat_eq_append] at *
        have h4 : i = s.length := by simp at h3; omega
        rw [h4, List.getElem?_append_left (by simp), List.getElem?_append_right (Nat.le_refl _)] at hf
        simp at hf
        subst hf
        exact hp s g rfl
  · rcases List.mem_append.1 hf with h1 | h1
    · exact h.sub f h1
    · have : f = ((n : Int), intsOf (outs N arcs n)) := by simpa using h1
      subst this
      exact fun a ha => ha
  · rcases List.mem_append.1 hf with h1 | h1
    · intro a ha
      rcases h.proc f h1 a ha with h2 | h2
      · exact .inl h2
      · exact .inr ((hS _).2 (.inl h2))
    · have : f = ((n : Int), intsOf (outs N arcs n)) := by simpa using h1
      subst this
      exact fun a ha => .inl ha

/-- an arc is gone whose end has been met -/
theorem DInv.skip {N : Nat} {arcs : List ArcV} {met : List Bool} {stk : List (Int × List Int)} {told : List Int} {u a : Int} {r : List Int} (h : DInv N arcs met (stk ++ [(u, a :: r)]) told) (hm : inS met (otherOf N arcs a u)) : DInv N arcs met (stk ++ [(u, r)]) told := by
  have hno : nodesOf (stk ++ [(u, r)]) = nodesOf (stk ++ [(u, a :: r)]) := by rw [nodesOf_snoc, nodesOf_snoc]
  refine ⟨h.len, fun v => by rw [hno]; exact h.metd v, by rw [hno]; exact h.nd, fun i f f' hf hf' => ?_, fun f hf => ?_, fun f hf => ?_, h.black, h.fin⟩
  · have key : ∀ (j : Nat) g, (stk ++ [(u, r)])[j]? = some g → ∃ g', (stk ++ [(u, a :: r)])[j]? = some g' ∧ g'.1 = g.1 := by
      intro j g hg
      rcases Nat.lt_or_ge j stk.length with hj | hj
      · rw [List.getElem?_append_left hj] at hg
        exact ⟨g, by rw [List.getElem?_append_left hj]; exact hg, rfl⟩
      · have h1 : j = stk.length := by
          rcases Nat.lt_or_ge j (stk.length + 1) with h | h
          · omega
          · rw [List.getElem?_eq_none (by simp; omega)] at hg; cases hg
        subst h1
        rw [List.getElem?_append_right (Nat.le_refl _)] at hg
        simp at hg
        subst hg
        exact ⟨(u, a :: r), by simp, rfl⟩
    obtain ⟨g, hg, e1⟩ := key i f hf
    obtain ⟨g', hg', e2⟩ := key (i + 1) f' hf'
    rw [← e1, ← e2]
    exact h.path i g g' hg hg'
  · rcases List.mem_append.1 hf with h1 | h1
    · exact h.sub f (List.mem_append_left _ h1)
    · have : f = (u, r) := by simpa using h1
      subst this
      exact fun b hb => h.sub (u, a :: r) (by simp) b (List.mem_cons_of_mem _ hb)
  · rcases List.mem_append.1 hf with h1 | h1
    · exact h.proc f (List.mem_append_left _ h1)
    · have : f = (u, r) := by simpa using h1
      subst this
      intro b hb
      rcases h.proc (u, a :: r) (by simp) b hb with h2 | h2
      · rcases List.mem_cons.1 h2 with rfl | h3
        · exact .inr hm
        · exact .inl h3
      · exact .inr h2
/-- an arc is gone whose end has not been met -/
theorem DInv.arc {N : Nat} {arcs : List ArcV} {met : List Bool} {stk : List (Int × List Int)} {told : List Int} {u a : Int} {r : List Int} (h : DInv N arcs met (stk ++ [(u, a :: r)]) told) {n : Nat} (hn : met[n]? = some false) (he : otherOf N arcs a u = n) :
    DInv N arcs (met.set n true) ((stk ++ [(u, r)]) ++ [((n : Int), intsOf (outs N arcs n))]) told := by
  have ha := h.sub (u, a :: r) (by simp) a (by simp)
  have hnb := nb0_of ha
  rw [he] at hnb
  -- first the node, behind the whole step, then the arc
  have h1 := h.push hn (fun s f e => by
    have := List.append_inj' e rfl
    have : f = (u, a :: r) := by simpa using this.2.symm
    rw [this]; exact hnb)
  have hm : inS (met.set n true) (otherOf N arcs a u) := by rw [he]; exact (inS_set (newNat hn).1 _).2 (.inr rfl)
  have hno : ∀ t, nodesOf ((stk ++ [(u, r)]) ++ [t]) = nodesOf ((stk ++ [(u, a :: r)]) ++ [t]) := fun t => by simp [nodesOf]
  refine ⟨h1.len, fun v => by rw [hno]; exact h1.metd v, by rw [hno]; exact h1.nd, fun i f f' hf hf' => ?_, fun f hf => ?_, fun f hf => ?_, h1.black, h1.fin⟩
  · have key : ∀ (j : Nat) g, ((stk ++ [(u, r)]) ++ [((n : Int), intsOf (outs N arcs n))])[j]? = some g → ∃ g', ((stk ++ [(u, a :: r)]) ++ [((n : Int), intsOf (outs N arcs n))])[j]? = some g' ∧ g'.1 = g.1 := by
      intro j g hg
      rcases Nat.lt_trichotomy j stk.length with hj | hj | hj
      · rw [List.append_assoc, List.getElem?_append_left hj] at hg
        exact ⟨g, by rw [List.append_assoc, List.getElem?_append_left hj]; exact hg, rfl⟩
      · subst hj
        rw [List.append_assoc, List.getElem?_append_right (Nat.le_refl _)] at hg
        simp at hg
        subst hg
        exact ⟨(u, a :: r), by simp, rfl⟩
      · rw [List.getElem?_append_right (by simp; omega)] at hg
        refine ⟨g, ?_, rfl⟩
        rw [List.getElem?_append_right (by simp; omega)]
        simpa using hg
    obtain ⟨g, hg, e1⟩ := key i f hf
    obtain ⟨g', hg', e2⟩ := key (i + 1) f' hf'
    rw [← e1, ← e2]
    exact h1.path i g g' hg hg'
  · rcases List.mem_append.1 hf with h2 | h2
    · rcases List.mem_append.1 h2 with h3 | h3
      · exact h1.sub f (List.mem_append_left _ (List.mem_append_left _ h3))
      · have : f = (u, r) := by simpa using h3
        subst this
        exact fun b hb => h.sub (u, a :: r) (by simp) b (List.mem_cons_of_mem _ hb)
    · exact h1.sub f (List.mem_append_right _ h2)
  · rcases List.mem_append.1 hf with h2 | h2
    · rcases List.mem_append.1 h2 with h3 | h3
      · exact h1.proc f (List.mem_append_left _ (List.mem_append_left _ h3))
      · have : f = (u, r) := by simpa using h3
        subst this
        intro b hb
        rcases h1.proc (u, a :: r) (by simp) b hb with h4 | h4
        · rcases List.mem_cons.1 h4 with rfl | h5
          · exact .inr hm
          · exact .inl h5
        · exact .inr h4
    · exact h1.proc f (List.mem_append_right _ h2)
theorem DInv.start (N : Nat) (arcs : List ArcV) : DInv N arcs (List.replicate N false) [] [] := by
  refine ⟨by simp, fun v => ⟨fun h => absurd h (not_inS_replicate N v), fun h => by simp [nodesOf] at h⟩, by simp [nodesOf], fun i f f' hf => (by simp at hf), fun f hf => (by cases hf), fun f hf => (by cases hf), fun u hu => (by cases hu), fun i u hu => (by simp at hu)⟩
/-- how much is still to do -/
def dmeas (M : Nat) (met : List Bool) (stk : List (Int × List Int)) : Nat := cf met * (M + 2) + (stk.map fun f => 1 + f.2.length).sum
end Go.Proofs.Ytekajenmkpobgaa
