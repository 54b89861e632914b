/- Plain: taking the least free node first. -/
import Derived.Test.YtekajenmkpobgaaH5
set_option linter.unusedSimpArgs false
set_option linter.unusedVariables false
namespace Go.Proofs.Ytekajenmkpobgaa

/-- is every arc into v out of one of T? -/
def Free (N : Nat) (arcs : List ArcV) (T : List Int) (v : Int) : Prop := ∀ x ∈ arcs, fitB N x = true → x.t = v → x.f ∈ T
def LeastFree (N : Nat) (arcs : List ArcV) (T : List Int) (x : Int) : Prop := hasB N x = true ∧ x ∉ T ∧ Free N arcs T x ∧ ∀ y, hasB N y = true → y ∉ T → Free N arcs T y → x ≤ y
def Greedy (N : Nat) (arcs : List ArcV) (told : List Int) : Prop := ∀ k x, told[k]? = some x → LeastFree N arcs (told.take k) x
def Stuck (N : Nat) (arcs : List ArcV) (told : List Int) : Prop := ∀ y, hasB N y = true → y ∉ told → ¬ Free N arcs told y

theorem Greedy.nil (N : Nat) (arcs : List ArcV) : Greedy N arcs [] := fun k x h => by simp at h
theorem Greedy.snoc {N : Nat} {arcs : List ArcV} {told : List Int} {x : Int} (h : Greedy N arcs told) (hx : LeastFree N arcs told x) : Greedy N arcs (told ++ [x]) := by
  intro k y hk
  rcases Nat.lt_trichotomy k told.length with h1 | h1 | h1
  · rw [List.getElem?_append_left h1] at hk
    rw [List.take_append_of_le_length (by omega)]
    exact h k y hk
  · subst h1
    rw [List.getElem?_append_right (Nat.le_refl _)] at hk
    simp at hk
    subst hk
    rw [List.take_left']
    · exact hx
    · rfl
  · rw [List.getElem?_eq_none (by simp; omega)] at hk; cases hk
theorem Greedy.has {N : Nat} {arcs : List ArcV} {told : List Int} (h : Greedy N arcs told) : ∀ v ∈ told, hasB N v = true := fun v hv => by
  obtain ⟨k, hk, e⟩ := List.getElem_of_mem hv
  exact (h k v (by rw [List.getElem?_eq_getElem hk, e])).1
theorem nodup_of_take {l : List Int} (h : ∀ (k : Nat) (x : Int), l[k]? = some x → x ∉ l.take k) : l.Nodup := by
  rw [List.nodup_iff_pairwise_ne, List.pairwise_iff_getElem]
  intro i j hi hj hij e
  refine h j l[j] (List.getElem?_eq_getElem hj) ?_
  rw [← e, List.mem_iff_getElem]
  exact ⟨i, by simp; omega, by simp⟩
theorem Greedy.nodup {N : Nat} {arcs : List ArcV} {told : List Int} (h : Greedy N arcs told) : told.Nodup := nodup_of_take fun k x hk => (h k x hk).2.1
theorem Greedy.len {N : Nat} {arcs : List ArcV} {told : List Int} (h : Greedy N arcs told) : told.length ≤ N := perm_len h.nodup h.has

theorem ins_iff {N : Nat} {arcs : List ArcV} {v : Int} {a : Nat} : a ∈ ins N arcs v ↔ ∃ x, arcs[a]? = some x ∧ fitB N x = true ∧ x.t = v := by
  unfold ins
  rw [List.mem_filter, List.mem_range]
  constructor
  · rintro ⟨h1, h2⟩
    rw [List.getElem?_eq_getElem h1] at h2 ⊢
    simp only [Bool.and_eq_true, beq_iff_eq] at h2
    exact ⟨_, rfl, h2.1, h2.2⟩
  · rintro ⟨x, h1, h2, h3⟩
    exact ⟨lt_of_at h1, by rw [h1]; simp [h2, h3]⟩
theorem outs_mem' {N : Nat} {arcs : List ArcV} {v : Int} {a : Nat} {x : ArcV} (h1 : arcs[a]? = some x) (h2 : fitB N x = true) (h3 : x.f = v) : a ∈ outs N arcs v := by
  unfold outs
  rw [List.mem_filter, List.mem_range]
  exact ⟨lt_of_at h1, by rw [h1]; simp [h2, h3]⟩
theorem outs_nodup (N : Nat) (arcs : List ArcV) (v : Int) : (outs N arcs v).Nodup := (List.filter_sublist (p := _)).nodup List.nodup_range
theorem ins_nodup (N : Nat) (arcs : List ArcV) (v : Int) : (ins N arcs v).Nodup := (List.filter_sublist (p := _)).nodup List.nodup_range

/-- how many arcs into v are not done -/
def lf (N : Nat) (arcs : List ArcV) (ps : List Nat) (v : Int) : Nat := ((ins N arcs v).filter fun a => decide (a ∉ ps)).length
def leftL (N : Nat) (arcs : List ArcV) (ps : List Nat) : List Int := (List.range N).map fun v : Nat => ((lf N arcs ps (v : Int) : Nat) : Int)
theorem leftL_len (N : Nat) (arcs : List ArcV) (ps : List Nat) : (leftL N arcs ps).length = N := by simp [leftL]
theorem leftL_at {N : Nat} {arcs : List ArcV} {ps : List Nat} {v : Nat} (h : v < N) : (leftL N arcs ps)[v]? = some ((lf N arcs ps (v : Int) : Nat) : Int) := by simp [leftL, h]
theorem lf_zero {N : Nat} {arcs : List ArcV} {ps : List Nat} {v : Int} : lf N arcs ps v = 0 ↔ ∀ a ∈ ins N arcs v, a ∈ ps := by
  unfold lf
  rw [List.length_eq_zero_iff, List.filter_eq_nil_iff]
  constructor
  · intro h a ha
    have := h a ha
    simpa using this
  · intro h a ha
    simpa using h a ha
theorem filter_one {l : List Nat} (hn : l.Nodup) {ps : List Nat} {a : Nat} (ha : a ∈ l) (hp : a ∉ ps) : (l.filter fun b => decide (b ∉ ps ++ [a])).length + 1 = (l.filter fun b => decide (b ∉ ps)).length := by
  induction l with
  | nil => cases ha
  | cons b l ih =>
    rw [List.nodup_cons] at hn
    rw [List.filter_cons, List.filter_cons]
    by_cases e : b = a
    · subst e
      have h1 : decide (b ∉ ps ++ [b]) = false := by simp
      have h2 : decide (b ∉ ps) = true := by simpa using hp
      rw [h1, h2]
      simp only [Bool.false_eq_true, if_false, if_true, List.length_cons]
      congr 1
      congr 1
      apply List.filter_congr
      intro c hc
      have : c ≠ b := fun e => hn.1 (e ▸ hc)
      simp [this]
    · have ha' : a ∈ l := by
        rcases List.mem_cons.1 ha with h | h
        · exact absurd h.symm e
        · exact h
      have := ih hn.2 ha'
      by_cases hb : b ∈ ps
      · have h1 : decide (b ∉ ps ++ [a]) = false := by simp [hb]
        have h2 : decide (b ∉ ps) = false := by simp [hb]
        rw [h1, h2]
        simpa using this
      · have h1 : decide (b ∉ ps ++ [a]) = true := by simp [hb, e]
        have h2 : decide (b ∉ ps) = true := by simp [hb]
        rw [h1, h2]
        simp only [if_true, List.length_cons]
        omega
theorem lf_self {N : Nat} {arcs : List ArcV} {ps : List Nat} {a : Nat} {x : ArcV} (h : arcs[a]? = some x) (hf : fitB N x = true) (hp : a ∉ ps) : lf N arcs (ps ++ [a]) x.t + 1 = lf N arcs ps x.t :=
  filter_one (ins_nodup N arcs x.t) (ins_iff.2 ⟨x, h, hf, rfl⟩) hp
theorem lf_other {N : Nat} {arcs : List ArcV} {ps : List Nat} {a : Nat} {x : ArcV} {v : Int} (h : arcs[a]? = some x) (hv : v ≠ x.t) : lf N arcs (ps ++ [a]) v = lf N arcs ps v := by
  unfold lf
  congr 1
  apply List.filter_congr
  intro c hc
  obtain ⟨y, h1, _, h3⟩ := ins_iff.1 hc
  have : c ≠ a := by
    rintro rfl
    rw [h] at h1
    cases h1
    exact hv h3.symm
  simp [this]
theorem fit_has {N : Nat} {x : ArcV} (h : fitB N x = true) : hasB N x.f = true ∧ hasB N x.t = true := by
  simp only [fitB, Bool.and_eq_true, decide_eq_true_eq] at h
  simp [hasB]; omega
theorem leftL_step {N : Nat} {arcs : List ArcV} {ps : List Nat} {a m : Nat} {x : ArcV} (h : arcs[a]? = some x) (hf : fitB N x = true) (hp : a ∉ ps) (hm : x.t = m) :
    leftL N arcs (ps ++ [a]) = (leftL N arcs ps).set m (((lf N arcs ps (m : Int) : Nat) : Int) - 1) := by
  apply List.ext_getElem?
  intro k
  rcases Nat.lt_or_ge k N with hk | hk
  · rw [leftL_at hk]
    by_cases e : k = m
    · subst e
      rw [List.getElem?_set_self (by simpa [leftL] using hk)]
      have := lf_self h hf hp
      rw [hm] at this
      congr 1
      omega
    · rw [List.getElem?_set_ne (fun e2 => e e2.symm), leftL_at hk, lf_other h (by rw [hm]; omega)]
  · rw [List.getElem?_eq_none (by simpa [leftL] using hk), List.getElem?_eq_none (by simpa [leftL] using hk)]

structure KMid (N : Nat) (arcs : List ArcV) (told : List Int) (ps : List Nat) (hp : List Int) : Prop where
  gr : Greedy N arcs told
  z : ∀ v ∈ told, lf N arcs ps v = 0
  nd : hp.Nodup
  m : ∀ v, v ∈ hp ↔ hasB N v = true ∧ v ∉ told ∧ lf N arcs ps v = 0
structure KInv (N : Nat) (arcs : List ArcV) (told : List Int) (ps : List Nat) (hp : List Int) : Prop extends KMid N arcs told ps hp where
  pd : ∀ a x, arcs[a]? = some x → fitB N x = true → (a ∈ ps ↔ x.f ∈ told)

theorem KMid.len {N : Nat} {arcs : List ArcV} {told : List Int} {ps : List Nat} {hp : List Int} (h : KMid N arcs told ps hp) : hp.length ≤ N := perm_len h.nd fun v hv => ((h.m v).1 hv).1
theorem KInv.free {N : Nat} {arcs : List ArcV} {told : List Int} {ps : List Nat} {hp : List Int} (h : KInv N arcs told ps hp) (v : Int) : lf N arcs ps v = 0 ↔ Free N arcs told v := by
  rw [lf_zero]
  constructor
  · intro h1 x hx hf ht
    obtain ⟨a, ha, e⟩ := List.getElem_of_mem hx
    have h2 : arcs[a]? = some x := by rw [List.getElem?_eq_getElem ha, e]
    exact (h.pd a x h2 hf).1 (h1 a (ins_iff.2 ⟨x, h2, hf, ht⟩))
  · intro h1 a ha
    obtain ⟨x, h2, hf, ht⟩ := ins_iff.1 ha
    exact (h.pd a x h2 hf).2 (h1 x (List.mem_of_getElem? h2) hf ht)
theorem KInv.stuck {N : Nat} {arcs : List ArcV} {told : List Int} {ps : List Nat} (h : KInv N arcs told ps []) : Stuck N arcs told := fun y hy hn hf => by
  have := (h.m y).2 ⟨hy, hn, (h.free y).2 hf⟩
  cases this
theorem KInv.pop {N : Nat} {arcs : List ArcV} {told : List Int} {ps : List Nat} {hp hp' : List Int} {x : Int} (h : KInv N arcs told ps hp) (hP : (x :: hp').Perm hp) (hl : ∀ y ∈ hp, x ≤ y) :
    KMid N arcs (told ++ [x]) ps hp' ∧ hasB N x = true ∧ x ∉ told := by
  have hx := (h.m x).1 (hP.mem_iff.1 List.mem_cons_self)
  have hnd := hP.nodup_iff.2 h.nd
  rw [List.nodup_cons] at hnd
  refine ⟨⟨h.gr.snoc ⟨hx.1, hx.2.1, (h.free x).1 hx.2.2, fun y h1 h2 h3 => hl y ((h.m y).2 ⟨h1, h2, (h.free y).2 h3⟩)⟩, ?_, hnd.2, fun v => ?_⟩, hx.1, hx.2.1⟩
  · intro v hv
    rcases List.mem_append.1 hv with h1 | h1
    · exact h.z v h1
    · have : v = x := by simpa using h1
      subst this
      exact hx.2.2
  · constructor
    · intro hv
      obtain ⟨h1, h2, h3⟩ := (h.m v).1 (hP.mem_iff.1 (List.mem_cons_of_mem _ hv))
      refine ⟨h1, ?_, h3⟩
      rw [List.mem_append]
      rintro (h4 | h4)
      · exact h2 h4
      · have : v = x := by simpa using h4
        exact hnd.1 (this ▸ hv)
    · rintro ⟨h1, h2, h3⟩
      rw [List.mem_append, not_or] at h2
      have := hP.mem_iff.2 ((h.m v).2 ⟨h1, h2.1, h3⟩)
      rcases List.mem_cons.1 this with h4 | h4
      · exact absurd (by simpa using h4) h2.2
      · exact h4
theorem KMid.fresh {N : Nat} {arcs : List ArcV} {told : List Int} {ps : List Nat} {hp : List Int} {a : Nat} {x : ArcV} (h : KMid N arcs told ps hp) (ha : arcs[a]? = some x) (hf : fitB N x = true) (hp' : a ∉ ps) : 0 < lf N arcs ps x.t ∧ x.t ∉ told ∧ x.t ∉ hp := by
  have h1 := lf_self ha hf hp'
  refine ⟨by omega, fun hm => ?_, fun hm => ?_⟩
  · have := h.z _ hm; omega
  · have := ((h.m _).1 hm).2.2; omega
theorem KMid.arc {N : Nat} {arcs : List ArcV} {told : List Int} {ps : List Nat} {hp : List Int} {a : Nat} {x : ArcV} (h : KMid N arcs told ps hp) (ha : arcs[a]? = some x) (hf : fitB N x = true) (hp' : a ∉ ps) (hne : lf N arcs ps x.t ≠ 1) :
    KMid N arcs told (ps ++ [a]) hp := by
  obtain ⟨h1, h2, h3⟩ := h.fresh ha hf hp'
  have h4 := lf_self ha hf hp'
  refine ⟨h.gr, fun v hv => ?_, h.nd, fun v => ?_⟩
  · rw [lf_other ha (fun e => h2 (e ▸ hv))]; exact h.z v hv
  · by_cases e : v = x.t
    · subst e
      exact ⟨fun hh => absurd hh h3, fun hh => by omega⟩
    · rw [lf_other ha e]; exact h.m v
theorem KMid.arc0 {N : Nat} {arcs : List ArcV} {told : List Int} {ps : List Nat} {hp hq : List Int} {a : Nat} {x : ArcV} (h : KMid N arcs told ps hp) (ha : arcs[a]? = some x) (hf : fitB N x = true) (hp' : a ∉ ps) (he : lf N arcs ps x.t = 1) (hP : hq.Perm (x.t :: hp)) :
    KMid N arcs told (ps ++ [a]) hq := by
  obtain ⟨h1, h2, h3⟩ := h.fresh ha hf hp'
  have h4 := lf_self ha hf hp'
  refine ⟨h.gr, fun v hv => ?_, hP.nodup_iff.2 (List.nodup_cons.2 ⟨h3, h.nd⟩), fun v => ?_⟩
  · rw [lf_other ha (fun e => h2 (e ▸ hv))]; exact h.z v hv
  · rw [hP.mem_iff, List.mem_cons]
    by_cases e : v = x.t
    · subst e
      exact ⟨fun _ => ⟨(fit_has hf).2, h2, by omega⟩, fun _ => .inl rfl⟩
    · rw [lf_other ha e]
      constructor
      · rintro (h5 | h5)
        · exact absurd h5 e
        · exact (h.m v).1 h5
      · exact fun h5 => .inr ((h.m v).2 h5)
theorem KInv.all {N : Nat} {arcs : List ArcV} {told : List Int} {ps : List Nat} {hp hq : List Int} {x : Int} (h : KInv N arcs told ps hp) (hm : KMid N arcs (told ++ [x]) (ps ++ outs N arcs x) hq) : KInv N arcs (told ++ [x]) (ps ++ outs N arcs x) hq := by
  refine ⟨hm, fun a y ha hf => ?_⟩
  rw [List.mem_append, List.mem_append, h.pd a y ha hf]
  constructor
  · rintro (h1 | h1)
    · exact .inl h1
    · obtain ⟨z, h2, _, h4⟩ := outs_mem h1
      rw [ha] at h2; cases h2
      exact .inr (by simp [h4])
  · rintro (h1 | h1)
    · exact .inl h1
    · exact .inr (outs_mem' ha hf (by simpa using h1))
theorem KInv.not_done {N : Nat} {arcs : List ArcV} {told : List Int} {ps : List Nat} {hp : List Int} {x : Int} (h : KInv N arcs told ps hp) (hx : x ∉ told) {k a : Nat} (hk : (outs N arcs x)[k]? = some a) : a ∉ ps ++ (outs N arcs x).take k := by
  rw [List.mem_append, not_or]
  constructor
  · obtain ⟨y, h1, h2, h3⟩ := outs_mem (List.mem_of_getElem? hk)
    intro h4
    exact hx (h3 ▸ (h.pd a y h1 h2).1 h4)
  · intro hm
    obtain ⟨i, hi, e⟩ := List.getElem_of_mem hm
    have hkl := lt_of_at hk
    rw [List.getElem?_eq_getElem hkl] at hk
    simp only [List.length_take] at hi
    have hne := (List.pairwise_iff_getElem.1 (List.nodup_iff_pairwise_ne.1 (outs_nodup N arcs x))) i k (by omega) hkl (by omega)
    simp only [List.getElem_take] at e
    injection hk with hk
    exact hne (e.trans hk.symm)

/-- at the start: nodes without an arc into them -/
structure KSt (N : Nat) (arcs : List ArcV) (k : Nat) (hp : List Int) : Prop where
  nd : hp.Nodup
  m : ∀ v : Int, v ∈ hp ↔ 0 ≤ v ∧ v < k ∧ (ins N arcs v).length = 0
theorem KSt.start (N : Nat) (arcs : List ArcV) : KSt N arcs 0 [] := ⟨List.nodup_nil, fun v => ⟨fun h => (by cases h), fun h => by omega⟩⟩
theorem KSt.skip {N : Nat} {arcs : List ArcV} {k : Nat} {hp : List Int} (h : KSt N arcs k hp) (hk : (ins N arcs (k : Int)).length ≠ 0) : KSt N arcs (k + 1) hp := ⟨h.nd, fun v => by
  rw [h.m]
  constructor
  · rintro ⟨h1, h2, h3⟩; exact ⟨h1, by omega, h3⟩
  · rintro ⟨h1, h2, h3⟩
    refine ⟨h1, ?_, h3⟩
    have : v ≠ k := fun e => hk (e ▸ h3)
    omega⟩
theorem KSt.put {N : Nat} {arcs : List ArcV} {k : Nat} {hp hq : List Int} (h : KSt N arcs k hp) (hk : (ins N arcs (k : Int)).length = 0) (hP : hq.Perm ((k : Int) :: hp)) : KSt N arcs (k + 1) hq := by
  refine ⟨hP.nodup_iff.2 (List.nodup_cons.2 ⟨fun hm => by have := (h.m _).1 hm; omega, h.nd⟩), fun v => ?_⟩
  rw [hP.mem_iff, List.mem_cons, h.m]
  constructor
  · rintro (rfl | ⟨h1, h2, h3⟩)
    · exact ⟨by omega, by omega, hk⟩
    · exact ⟨h1, by omega, h3⟩
  · rintro ⟨h1, h2, h3⟩
    by_cases e : v = k
    · exact .inl e
    · exact .inr ⟨h1, by omega, h3⟩
theorem KSt.len {N : Nat} {arcs : List ArcV} {k : Nat} {hp : List Int} (h : KSt N arcs k hp) : hp.length ≤ k := perm_len h.nd fun v hv => by
  have := (h.m v).1 hv
  simp [hasB]; omega
theorem lf_nil (N : Nat) (arcs : List ArcV) (v : Int) : lf N arcs [] v = (ins N arcs v).length := by
  unfold lf
  congr 1
  rw [List.filter_eq_self]
  intro a _
  simp
theorem KSt.done {N : Nat} {arcs : List ArcV} {hp : List Int} (h : KSt N arcs N hp) : KInv N arcs [] [] hp := by
  refine ⟨⟨Greedy.nil N arcs, fun v hv => (by cases hv), h.nd, fun v => ?_⟩, fun a x _ _ => ?_⟩
  · rw [h.m, lf_nil]
    simp [hasB, and_assoc]
  · simp
end Go.Proofs.Ytekajenmkpobgaa
