/- Plain: what From, To, Strong, Back and Order tell, in words of arcs. -/
import Derived.Test.YtekajenmkpobgaaO2
set_option linter.unusedSimpArgs false
set_option linter.unusedVariables false
namespace Go.Proofs.Ytekajenmkpobgaa

theorem nb0_iff {N : Nat} {arcs : List ArcV} {u v : Int} : v ∈ nb0 N arcs u ↔ ∃ x ∈ arcs, fitB N x = true ∧ x.f = u ∧ x.t = v := by
  constructor
  · intro h
    unfold nb0 nbW pieceOf at h
    obtain ⟨a, ha, rfl⟩ := List.mem_map.1 h
    obtain ⟨k, hk, rfl⟩ := List.mem_map.1 ha
    obtain ⟨x, hx, hf, hu⟩ := outs_mem hk
    rw [other_out hx hf hu]
    exact ⟨x, List.mem_of_getElem? hx, hf, hu, rfl⟩
  · rintro ⟨x, hx, hf, hu, rfl⟩
    obtain ⟨k, hk, e⟩ := List.getElem_of_mem hx
    have hk' : arcs[k]? = some x := by rw [List.getElem?_eq_getElem hk, e]
    unfold nb0 nbW pieceOf
    exact List.mem_map.2 ⟨k, List.mem_map.2 ⟨k, outs_mem' hk' hf hu, rfl⟩, other_out hk' hf hu⟩

theorem Rch.rev {a b : Int → List Int} (h : ∀ u v, v ∈ a u → u ∈ b v) {u v : Int} (hr : Rch a u v) : Rch b v u :=
  hr (fun x => Rch b x u) (Rch.refl _ _) (fun x y hx hy => (Rch.one (h x y hy)).trans hx)
theorem Rch.sub {a b : Int → List Int} (h : ∀ u v, v ∈ a u → v ∈ b u) {u v : Int} (hr : Rch a u v) : Rch b u v :=
  hr (fun x => Rch b u x) (Rch.refl _ _) (fun x y hx hy => hx.step (h x y hy))
theorem Rch.has {N : Nat} {arcs : List ArcV} {u v : Int} (h : Rch (nb0 N arcs) u v) (hu : hasB N u = true) : hasB N v = true :=
  h (fun x => hasB N x = true) hu (fun x y _ hy => (nb0_has hy).1)

theorem From_iff {N : Nat} {arcs : List ArcV} {starts : List Int} {met : List Bool} (h : RInv N (nbW N arcs 0) starts met []) (v : Int) : inS met v ↔ ∃ s ∈ starts, hasB N s = true ∧ Rch (nb0 N arcs) s v := by
  constructor
  · refine h.up (fun v => ∃ s ∈ starts, hasB N s = true ∧ Rch (nb0 N arcs) s v) (fun s hs hh => ⟨s, hs, hh, Rch.refl _ _⟩) ?_ v
    rintro v ⟨s, hs, hh, hr⟩ _ u hu _
    exact ⟨s, hs, hh, hr.step hu⟩
  · rintro ⟨s, hs, hh, hr⟩
    refine hr (fun x => inS met x) (h.st s hs hh) (fun x y hx hy => ?_)
    rcases h.cl x hx with h1 | h1
    · cases h1
    · exact h1 y hy (nb0_has hy).1
theorem To_iff {N : Nat} {arcs : List ArcV} {starts : List Int} {met : List Bool} (h : RInv N (nbW N arcs 1) starts met []) (v : Int) : inS met v ↔ ∃ s ∈ starts, hasB N s = true ∧ Rch (nb0 N arcs) v s := by
  constructor
  · refine h.up (fun v => ∃ s ∈ starts, hasB N s = true ∧ Rch (nb0 N arcs) v s) (fun s hs hh => ⟨s, hs, hh, Rch.refl _ _⟩) ?_ v
    rintro v ⟨s, hs, hh, hr⟩ _ u hu _
    exact ⟨s, hs, hh, (Rch.one (nb1_iff.1 hu)).trans hr⟩
  · rintro ⟨s, hs, hh, hr⟩
    have hr2 : Rch (nb1 N arcs) s v := hr.rev (fun u v hv => nb1_iff.2 hv)
    refine hr2 (fun x => inS met x) (h.st s hs hh) (fun x y hx hy => ?_)
    rcases h.cl x hx with h1 | h1
    · cases h1
    · exact h1 y hy (nb0_has (nb1_iff.1 hy)).2

theorem met_ext {N : Nat} {a b : List Bool} (ha : a.length = N) (hb : b.length = N) (h : ∀ v, hasB N v = true → (inS a v ↔ inS b v)) : a = b := by
  apply List.ext_getElem?
  intro k
  rcases Nat.lt_or_ge k N with hk | hk
  · have h1 := h (k : Int) (by simp [hasB]; omega)
    rw [List.getElem?_eq_getElem (by omega), List.getElem?_eq_getElem (by omega)]
    simp only [inS, Int.toNat_natCast, List.getElem?_eq_getElem (show k < a.length by omega), List.getElem?_eq_getElem (show k < b.length by omega)] at h1
    cases ha' : a[k] <;> cases hb' : b[k] <;> simp_all
  · rw [List.getElem?_eq_none (by omega), List.getElem?_eq_none (by omega)]
theorem inS_nat {met : List Bool} {k : Nat} : inS met (k : Int) ↔ met[k]? = some true := by simp [inS]

/-- numbers of groups -/
theorem low_iff {N : Nat} {arcs : List ArcV} {ofl : List Int} (h : LowAll N arcs ofl) {u v : Int} (hu : hasB N u = true) (hv : hasB N v = true) : ofl[u.toNat]? = ofl[v.toNat]? ↔ Mut N arcs u v := by
  obtain ⟨m, e1, l1⟩ := h.2 u hu
  obtain ⟨m', e2, l2⟩ := h.2 v hv
  rw [e1, e2]
  constructor
  · intro e
    injection e with e
    subst e
    exact l1.1.symm.trans l2.1
  · intro hm
    have h1 := l1.2.2 m' (l2.1.trans hm.symm) l2.2.1
    have h2 := l2.2.2 m (l1.1.trans hm) l1.2.1
    congr 1
    omega
theorem back_iff {N : Nat} {arcs : List ArcV} {ofl : List Int} (h : LowAll N arcs ofl) {x : ArcV} : backOf N ofl x = true ↔ fitB N x = true ∧ Mut N arcs x.f x.t := by
  unfold backOf
  rw [Bool.and_eq_true]
  constructor
  · rintro ⟨h1, h2⟩
    exact ⟨h1, (low_iff h (fit_has h1).1 (fit_has h1).2).1 (by simpa using h2)⟩
  · rintro ⟨h1, h2⟩
    exact ⟨h1, by simpa using (low_iff h (fit_has h1).1 (fit_has h1).2).2 h2⟩
/-- one way of an arc is there -/
theorem arc_rch {N : Nat} {arcs : List ArcV} {x : ArcV} (hx : x ∈ arcs) (hf : fitB N x = true) : Rch (nb0 N arcs) x.f x.t := Rch.one (nb0_iff.2 ⟨x, hx, hf, rfl, rfl⟩)

/-- an order that has all nodes: arcs go on in it -/
theorem Greedy.arc {N : Nat} {arcs : List ArcV} {told : List Int} (h : Greedy N arcs told) {x : ArcV} (hx : x ∈ arcs) (hf : fitB N x = true) {j : Nat} (hj : told[j]? = some x.t) : ∃ i, i < j ∧ told[i]? = some x.f := by
  have := (h j _ hj).2.2.1 x hx hf rfl
  obtain ⟨i, hi, e⟩ := List.getElem_of_mem this
  simp only [List.length_take] at hi
  refine ⟨i, by omega, ?_⟩
  rw [List.getElem_take] at e
  rw [List.getElem?_eq_getElem (by omega), e]
theorem Greedy.path {N : Nat} {arcs : List ArcV} {told : List Int} (h : Greedy N arcs told) {u v : Int} (hr : Rch (nb0 N arcs) u v) {j : Nat} (hj : told[j]? = some v) : ∃ i, i ≤ j ∧ told[i]? = some u := by
  refine hr (fun x => ∀ j, told[j]? = some x → ∃ i, i ≤ j ∧ told[i]? = some u) (fun j hj => ⟨j, Nat.le_refl _, hj⟩) ?_ j hj
  intro x y hx hy j hj
  obtain ⟨z, hz, hf, rfl, rfl⟩ := nb0_iff.1 hy
  obtain ⟨i, hi, e⟩ := h.arc hz hf hj
  obtain ⟨i', hi', e'⟩ := hx i e
  exact ⟨i', by omega, e'⟩
theorem Greedy.inj {N : Nat} {arcs : List ArcV} {told : List Int} (h : Greedy N arcs told) {i j : Nat} {v : Int} (hi : told[i]? = some v) (hj : told[j]? = some v) : i = j := by
  rcases Nat.lt_trichotomy i j with h1 | h1 | h1
  · exfalso
    refine (h j v hj).2.1 ?_
    rw [List.mem_iff_getElem?]
    exact ⟨i, by rw [List.getElem?_take, if_pos h1]; exact hi⟩
  · exact h1
  · exfalso
    refine (h i v hi).2.1 ?_
    rw [List.mem_iff_getElem?]
    exact ⟨j, by rw [List.getElem?_take, if_pos h1]; exact hj⟩
/-- all nodes told: none lies on a way back -/
theorem Greedy.no_back {N : Nat} {arcs : List ArcV} {told : List Int} (h : Greedy N arcs told) {x : ArcV} (hx : x ∈ arcs) (hf : fitB N x = true) {j : Nat} (hj : told[j]? = some x.t) : ¬ Mut N arcs x.f x.t := by
  intro hm
  obtain ⟨i, hi, e⟩ := h.arc hx hf hj
  obtain ⟨k, hk, e2⟩ := h.path hm.2 e
  have := h.inj hj e2
  omega
theorem all_in {N : Nat} {l : List Int} (hn : l.Nodup) (hh : ∀ v ∈ l, hasB N v = true) (hl : N ≤ l.length) : ∀ v, hasB N v = true → v ∈ l := by
  intro v hv
  apply Classical.byContradiction
  intro hc
  have := perm_len (N := N) (l := v :: l) (List.nodup_cons.2 ⟨hc, hn⟩) (by
    intro u hu
    rcases List.mem_cons.1 hu with rfl | h
    · exact hv
    · exact hh u h)
  simp at this
  omega
theorem Greedy.all {N : Nat} {arcs : List ArcV} {told : List Int} (h : Greedy N arcs told) (hl : told.length = N) : ∀ v, hasB N v = true → ∃ j : Nat, told[j]? = some v := by
  intro v hv
  exact List.mem_iff_getElem?.1 (all_in h.nodup h.has (by omega) v hv)

/-- some are not told: there is a way back -/
theorem Stuck.back {N : Nat} {arcs : List ArcV} {told : List Int} (h : Stuck N arcs told) (hn : told.Nodup) (hh : ∀ v ∈ told, hasB N v = true) (hl : told.length < N) : ∃ x ∈ arcs, fitB N x = true ∧ Mut N arcs x.f x.t := by
  have hstep : ∀ v, hasB N v = true ∧ v ∉ told → ∃ u, (hasB N u = true ∧ u ∉ told) ∧ v ∈ nb0 N arcs u := by
    rintro v ⟨h1, h2⟩
    have h3 := h v h1 h2
    unfold Free at h3
    apply Classical.byContradiction
    intro hc
    apply h3
    intro x hx hf ht
    apply Classical.byContradiction
    intro hm
    exact hc ⟨x.f, ⟨(fit_has hf).1, hm⟩, nb0_iff.2 ⟨x, hx, hf, rfl, ht⟩⟩
  have h0 : ∃ v, hasB N v = true ∧ v ∉ told := by
    apply Classical.byContradiction
    intro hc
    have hall : ∀ k : Nat, k < N → (k : Int) ∈ told := fun k hk => by
      apply Classical.byContradiction
      intro hm
      exact hc ⟨k, by simp [hasB]; omega, hm⟩
    have h1 : (intsOf (List.range N)).length ≤ told.length := by
      refine List.Nodup.length_le_of_subset ?_ ?_
      · unfold intsOf
        rw [List.nodup_iff_pairwise_ne, List.pairwise_map]
        exact (List.nodup_iff_pairwise_ne.1 List.nodup_range).imp (fun h e => h (by omega))
      · intro v hv
        obtain ⟨k, hk, rfl⟩ := List.mem_map.1 hv
        exact hall k (List.mem_range.1 hk)
    simp [intsOf] at h1
    omega
  obtain ⟨v0, hv0⟩ := h0
  have hex : ∀ v : {v : Int // hasB N v = true ∧ v ∉ told}, ∃ u : {v : Int // hasB N v = true ∧ v ∉ told}, v.1 ∈ nb0 N arcs u.1 := fun v => by
    obtain ⟨u, hu, hv⟩ := hstep v.1 v.2
    exact ⟨⟨u, hu⟩, hv⟩
  obtain ⟨p, hp⟩ := Classical.axiomOfChoice hex
  obtain ⟨s, hs⟩ : ∃ s : Nat → {v : Int // hasB N v = true ∧ v ∉ told}, ∀ k, (s k).1 ∈ nb0 N arcs (s (k + 1)).1 := ⟨fun k => Nat.rec ⟨v0, hv0⟩ (fun _ v => p v) k, fun k => hp _⟩
  have hpath : ∀ i d, Rch (nb0 N arcs) (s (i + d)).1 (s i).1 := fun i d => by
    induction d with
    | zero => exact Rch.refl _ _
    | succ d ih => exact (Rch.one (hs (i + d))).trans ih
  have hdup : ∃ i j, i < j ∧ (s i).1 = (s j).1 := by
    apply Classical.byContradiction
    intro hc
    have hnd : ((List.range (N + 1)).map fun k => (s k).1).Nodup := by
      rw [List.nodup_iff_pairwise_ne, List.pairwise_map]
      refine (List.pairwise_lt_range (n := N + 1)).imp ?_
      intro i j hij e
      exact hc ⟨i, j, hij, e⟩
    have := perm_len (N := N) hnd (by
      intro v hv
      obtain ⟨k, _, rfl⟩ := List.mem_map.1 hv
      exact (s k).2.1)
    simp at this
    omega
  obtain ⟨i, j, hij, e⟩ := hdup
  obtain ⟨x, hx, hf, h1, h2⟩ := nb0_iff.1 (hs i)
  refine ⟨x, hx, hf, arc_rch hx hf, ?_⟩
  rw [h1, h2, e]
  have := hpath (i + 1) (j - (i + 1))
  rwa [show i + 1 + (j - (i + 1)) = j by omega] at this
end Go.Proofs.Ytekajenmkpobgaa
