/- Plain: what the document's Reach, Strong, Order reckon. -/
import Derived.Test.YtekajenmkpobgaaM9
set_option linter.unusedSimpArgs false
set_option linter.unusedVariables false
namespace Go.Proofs.Ytekajenmkpobgaa

def nbB (n : Nat) (arcs : List ArcV) (b : Bool) : Int → List Int := if b then nb1 n arcs else nb0 n arcs
def srcB (b : Bool) (x : ArcV) : Int := if b then x.t else x.f
def dstB (b : Bool) (x : ArcV) : Int := if b then x.f else x.t
theorem nbB_iff {n : Nat} {arcs : List ArcV} {b : Bool} {u v : Int} : v ∈ nbB n arcs b u ↔ ∃ x ∈ arcs, fitB n x = true ∧ srcB b x = u ∧ dstB b x = v := by
  cases b
  · exact nb0_iff
  · show v ∈ nb1 n arcs u ↔ _
    rw [nb1_iff, nb0_iff]
    constructor
    · rintro ⟨x, h1, h2, h3, h4⟩; exact ⟨x, h1, h2, h4, h3⟩
    · rintro ⟨x, h1, h2, h3, h4⟩; exact ⟨x, h1, h2, h4, h3⟩
theorem fit_src {n : Nat} {b : Bool} {x : ArcV} (h : fitB n x = true) : hasB n (srcB b x) = true ∧ hasB n (dstB b x) = true := by
  have := fit_has h
  cases b
  · exact this
  · exact ⟨this.2, this.1⟩
/-- one arc of a pass -/
def stepB (n : Nat) (b : Bool) (met : List Bool) (x : ArcV) : List Bool := if (fitB n x && (met[(srcB b x).toNat]?.getD false)) = true then met.set (dstB b x).toNat true else met
section
variable {n : Nat} {arcs : List ArcV} {b : Bool} {starts : List Int} {met met0 : List Bool}
theorem stepC {x : ArcV} : (fitB n x && (met[(srcB b x).toNat]?.getD false)) = true ↔ fitB n x = true ∧ inS met (srcB b x) := by
  rw [Bool.and_eq_true]
  refine and_congr_right fun hf => ?_
  have h1 := (fit_src (b := b) hf).1
  simp [hasB] at h1
  unfold inS
  constructor
  · intro h2
    refine ⟨h1.1, ?_⟩
    cases h3 : met[(srcB b x).toNat]? with
    | none => simp [h3] at h2
    | some c => simp [h3] at h2; rw [h2]
  · rintro ⟨_, h2⟩
    rw [h2]; rfl
theorem has_lt {n : Nat} {v : Int} (h : hasB n v = true) : 0 ≤ v ∧ v.toNat < n := by simp [hasB] at h; omega
theorem inS_setI {met : List Bool} {n : Nat} (hl : met.length = n) {d : Int} (hd : hasB n d = true) (v : Int) : inS (met.set d.toNat true) v ↔ inS met v ∨ v = d := by
  have h1 := has_lt hd
  rw [inS_set (by omega), show ((d.toNat : Nat) : Int) = d by omega]
theorem set_true_same {met : List Bool} {d : Int} (h : inS met d) : met.set d.toNat true = met := by
  have h1 := lt_of_at' h.2
  apply List.ext_getElem?
  intro i
  by_cases e : d.toNat = i
  · subst e; rw [List.getElem?_set_self h1, h.2]
  · rw [List.getElem?_set_ne e]
/-- what a pass keeps -/
structure RR (n : Nat) (arcs : List ArcV) (b : Bool) (starts : List Int) (met : List Bool) : Prop where
  len : met.length = n
  st : ∀ s ∈ starts, hasB n s = true → inS met s
  so : ∀ v, inS met v → ∃ s ∈ starts, hasB n s = true ∧ Rch (nbB n arcs b) s v
def ClosedA (n : Nat) (b : Bool) (met : List Bool) (x : ArcV) : Prop := fitB n x = true → inS met (srcB b x) → inS met (dstB b x)
def Closed (n : Nat) (arcs : List ArcV) (b : Bool) (met : List Bool) : Prop := ∀ x ∈ arcs, ClosedA n b met x
theorem RR.step (h : RR n arcs b starts met) {x : ArcV} (hx : x ∈ arcs) : RR n arcs b starts (stepB n b met x) := by
  unfold stepB
  split
  · rename_i hc0
    have hc := stepC.1 hc0
    have hd := (fit_src (b := b) hc.1).2
    refine ⟨by simpa using h.len, fun s h1 h2 => (inS_setI h.len hd s).2 (.inl (h.st s h1 h2)), fun v hv => ?_⟩
    rcases (inS_setI h.len hd v).1 hv with h1 | h1
    · exact h.so v h1
    · obtain ⟨s, g1, g2, g3⟩ := h.so _ hc.2
      exact ⟨s, g1, g2, g3.step (nbB_iff.2 ⟨x, hx, hc.1, rfl, h1.symm⟩)⟩
  · exact h
theorem cf_mark {d : Int} (hl : met.length = n) (hd : hasB n d = true) (hn : ¬ inS met d) : cf (met.set d.toNat true) < cf met := by
  have h1 := has_lt hd
  have h2 : met[d.toNat]? = some false := by
    rw [List.getElem?_eq_getElem (by omega)]
    cases h3 : met[d.toNat]'(by omega) with
    | false => rfl
    | true => exact absurd ⟨h1.1, by rw [List.getElem?_eq_getElem (by omega), h3]⟩ hn
  have := cf_set h2
  omega
/-- inside a pass -/
structure RIn (n : Nat) (arcs : List ArcV) (b : Bool) (starts : List Int) (met0 : List Bool) (a : Nat) (met : List Bool) : Prop where
  r : RR n arcs b starts met
  c : met = met0 ∨ cf met < cf met0
  k : met = met0 → ∀ i x, i < a → arcs[i]? = some x → ClosedA n b met0 x
  cl : Closed n arcs b met0 → met = met0
theorem RIn.start (h : RR n arcs b starts met0) : RIn n arcs b starts met0 0 met0 := ⟨h, .inl rfl, fun _ i x hi => by omega, fun _ => rfl⟩
theorem RIn.next {a : Nat} {x : ArcV} (h : RIn n arcs b starts met0 a met) (hx : arcs[a]? = some x) : RIn n arcs b starts met0 (a + 1) (stepB n b met x) := by
  have hxm := List.mem_of_getElem? hx
  refine ⟨h.r.step hxm, ?_, ?_, ?_⟩
  · unfold stepB
    split
    · rename_i hc0
      have hc := stepC.1 hc0
      have hd := (fit_src (b := b) hc.1).2
      by_cases hin : inS met (dstB b x)
      · rw [set_true_same hin]; exact h.c
      · have := cf_mark h.r.len hd hin
        rcases h.c with e | e
        · right; rw [← e]; exact this
        · right; omega
    · exact h.c
  · intro he i y hi hy
    have hsame : met = met0 := by
      rcases h.c with e | e
      · exact e
      · exfalso
        have h1 : cf (stepB n b met x) ≤ cf met := by
          unfold stepB
          split
          · rename_i hc0
            have hc := stepC.1 hc0
            by_cases hin : inS met (dstB b x)
            · rw [set_true_same hin]; exact Nat.le_refl _
            · have := cf_mark h.r.len (fit_src (b := b) hc.1).2 hin
              omega
          · exact Nat.le_refl _
        rw [he] at h1
        omega
    rcases Nat.lt_or_ge i a with h1 | h1
    · exact h.k hsame i y h1 hy
    · have : i = a := by omega
      subst this
      rw [hx] at hy
      cases hy
      intro hf hs
      rw [← hsame] at hs
      have h2 : stepB n b met x = met.set (dstB b x).toNat true := if_pos (stepC.2 ⟨hf, hs⟩)
      rw [← he, h2]
      exact (inS_setI h.r.len (fit_src (b := b) hf).2 _).2 (.inr rfl)
  · intro hc
    have e := h.cl hc
    rw [e]
    unfold stepB
    split
    · rename_i hh0
      have hh := stepC.1 hh0
      exact set_true_same (hc x hxm hh.1 hh.2)
    · rfl
/-- between passes -/
structure ROut (n : Nat) (arcs : List ArcV) (b : Bool) (starts : List Int) (r : Nat) (met : List Bool) : Prop where
  rr : RR n arcs b starts met
  c : Closed n arcs b met ∨ cf met + r + 1 ≤ n
theorem cf_le_len (met : List Bool) : cf met ≤ met.length := List.countP_le_length
theorem ROut.start (h : RR n arcs b starts met) : ROut n arcs b starts 0 met := by
  refine ⟨h, ?_⟩
  by_cases hv : ∃ v, inS met v
  · right
    obtain ⟨v, hv⟩ := hv
    have h1 : cf met ≠ met.length := by
      intro e
      unfold cf at e
      rw [List.countP_eq_length] at e
      have := e true (List.mem_of_getElem? hv.2)
      simp at this
    have := cf_le_len met
    have := h.len
    omega
  · left
    intro x _ _ hs
    exact absurd ⟨_, hs⟩ hv
theorem ROut.next {r : Nat} (h : ROut n arcs b starts r met0) (hi : RIn n arcs b starts met0 arcs.length met) : ROut n arcs b starts (r + 1) met := by
  refine ⟨hi.r, ?_⟩
  rcases h.c with h1 | h1
  · left
    rw [hi.cl h1]; exact h1
  · rcases hi.c with h2 | h2
    · left
      intro x hx
      obtain ⟨i, hlt, e⟩ := List.getElem_of_mem hx
      rw [h2]
      exact hi.k h2 i x hlt (by rw [List.getElem?_eq_getElem hlt, e])
    · right; omega
theorem ROut.done (h : ROut n arcs b starts n met) (v : Int) : inS met v ↔ ∃ s ∈ starts, hasB n s = true ∧ Rch (nbB n arcs b) s v := by
  have hc : Closed n arcs b met := by
    rcases h.c with h1 | h1
    · exact h1
    · omega
  constructor
  · exact h.rr.so v
  · rintro ⟨s, h1, h2, h3⟩
    refine h3 (fun x => inS met x) (h.rr.st s h1 h2) (fun x y hx hy => ?_)
    obtain ⟨z, g1, g2, rfl, rfl⟩ := nbB_iff.1 hy
    exact hc z g1 g2 hx
/-- the beginning -/
def markB (n : Nat) (met : List Bool) (s : Int) : List Bool := if hasB n s then met.set s.toNat true else met
theorem RR.mark {k : Nat} {s : Int} (h : RR n arcs b (starts.take k) met) (hs : starts[k]? = some s) : RR n arcs b (starts.take (k + 1)) (markB n met s) := by
  rw [take_snoc starts k s hs]
  unfold markB
  by_cases hh : hasB n s = true
  · rw [if_pos hh]
    refine ⟨by simpa using h.len, fun t h1 h2 => ?_, fun v hv => ?_⟩
    · rcases List.mem_append.1 h1 with h3 | h3
      · exact (inS_setI h.len hh t).2 (.inl (h.st t h3 h2))
      · exact (inS_setI h.len hh t).2 (.inr (by simpa using h3))
    · rcases (inS_setI h.len hh v).1 hv with h1 | h1
      · obtain ⟨t, g1, g2, g3⟩ := h.so v h1
        exact ⟨t, List.mem_append_left _ g1, g2, g3⟩
      · exact ⟨s, by simp, hh, by rw [h1]; exact Rch.refl _ _⟩
  · rw [if_neg hh]
    refine ⟨h.len, fun t h1 h2 => ?_, fun v hv => ?_⟩
    · rcases List.mem_append.1 h1 with h3 | h3
      · exact h.st t h3 h2
      · have : t = s := by simpa using h3
        exact absurd (this ▸ h2) hh
    · obtain ⟨t, g1, g2, g3⟩ := h.so v hv
      exact ⟨t, List.mem_append_left _ g1, g2, g3⟩
theorem RR.none (n : Nat) (arcs : List ArcV) (b : Bool) : RR n arcs b [] (List.replicate n false) :=
  ⟨by simp, fun s h => (by cases h), fun v hv => absurd hv (not_inS_replicate n v)⟩
end
theorem Rch_b {n : Nat} {arcs : List ArcV} (u v : Int) : Rch (nbB n arcs true) u v ↔ Rch (nb0 n arcs) v u :=
  ⟨Rch.rev (fun a b h => nb1_iff.1 h), Rch.rev (fun a b h => nb1_iff.2 h)⟩

/-- there is one such order -/
theorem LeastFree.one {N : Nat} {arcs : List ArcV} {T : List Int} {x y : Int} (h1 : LeastFree N arcs T x) (h2 : LeastFree N arcs T y) : x = y := by
  have a := h1.2.2.2 y h2.1 h2.2.1 h2.2.2.1
  have b := h2.2.2.2 x h1.1 h1.2.1 h1.2.2.1
  omega
theorem Greedy.take_eq {N : Nat} {arcs : List ArcV} {l l' : List Int} (h : Greedy N arcs l) (h' : Greedy N arcs l') : ∀ k, k ≤ l.length → k ≤ l'.length → l.take k = l'.take k := by
  intro k
  induction k with
  | zero => intros; simp
  | succ k ih =>
    intro h1 h2
    have e := ih (by omega) (by omega)
    have g1 : l[k]? = some l[k] := List.getElem?_eq_getElem (by omega)
    have g2 : l'[k]? = some l'[k] := List.getElem?_eq_getElem (by omega)
    have a := h k _ g1
    have b := h' k _ g2
    rw [← e] at b
    rw [take_snoc l k _ g1, take_snoc l' k _ g2, e, a.one b]
theorem Greedy.le_of_stuck {N : Nat} {arcs : List ArcV} {l l' : List Int} (h : Greedy N arcs l) (hs : Stuck N arcs l) (h' : Greedy N arcs l') : l'.length ≤ l.length := by
  rcases Nat.lt_or_ge l.length l'.length with h1 | h1
  · exfalso
    have e := h.take_eq h' l.length (Nat.le_refl _) (by omega)
    rw [List.take_length] at e
    have b := h' l.length _ (List.getElem?_eq_getElem h1)
    rw [← e] at b
    exact hs _ b.1 b.2.1 b.2.2.1
  · exact h1
theorem Greedy.one {N : Nat} {arcs : List ArcV} {l l' : List Int} (h : Greedy N arcs l) (hs : Stuck N arcs l) (h' : Greedy N arcs l') (hs' : Stuck N arcs l') : l = l' := by
  have a := h.le_of_stuck hs h'
  have b := h'.le_of_stuck hs' h
  have e := h.take_eq h' l.length (Nat.le_refl _) (by omega)
  rw [List.take_length, List.take_of_length_le (by omega)] at e
  exact e
end Go.Proofs.Ytekajenmkpobgaa
