/- Plain: how the arcs are laid by nodes. -/
import Derived.Test.YtekajenmkpobgaaB
set_option linter.unusedSimpArgs false
set_option linter.unusedVariables false
namespace Go.Proofs.Ytekajenmkpobgaa

/-- does arc x belong to piece j: out of node j / 2 (j even), or into it (j odd)? -/
def inPiece (n : Nat) (x : ArcV) (j : Nat) : Bool := fitB n x && (if j % 2 = 0 then x.f == ((j / 2 : Nat) : Int) else x.t == ((j / 2 : Nat) : Int))
/-- the arcs of piece j among the first m -/
def pc (n : Nat) (arcs : List ArcV) (m j : Nat) : List Nat := (List.range m).filter fun a => match arcs[a]? with | some x => inPiece n x j | none => false
theorem pc_zero (n : Nat) (arcs : List ArcV) (j : Nat) : pc n arcs 0 j = [] := rfl
theorem pc_succ (n : Nat) (arcs : List ArcV) (m j : Nat) (x : ArcV) (h : arcs[m]? = some x) : pc n arcs (m + 1) j = pc n arcs m j ++ (if inPiece n x j then [m] else []) := by
  unfold pc
  rw [List.range_succ, List.filter_append]
  congr 1
  simp only [List.filter_cons, List.filter_nil, h]
theorem pc_out (n : Nat) (arcs : List ArcV) (v : Nat) : pc n arcs arcs.length (2 * v) = outs n arcs v := by
  unfold pc outs
  apply List.filter_congr
  intro a _
  cases arcs[a]? with
  | none => rfl
  | some x => simp [inPiece]
theorem pc_in (n : Nat) (arcs : List ArcV) (v : Nat) : pc n arcs arcs.length (2 * v + 1) = ins n arcs v := by
  unfold pc ins
  apply List.filter_congr
  intro a _
  cases arcs[a]? with
  | none => rfl
  | some x =>
    have h1 : (2 * v + 1) % 2 = 1 := by omega
    have h2 : (2 * v + 1) / 2 = v := by omega
    simp [inPiece, h1, h2]
/-- piece lengths, and where each piece begins -/
def Ln (n : Nat) (arcs : List ArcV) (j : Nat) : Nat := (pc n arcs arcs.length j).length
def St (n : Nat) (arcs : List ArcV) : Nat → Nat
  | 0 => 0
  | k + 1 => St n arcs k + Ln n arcs k
theorem pc_le (n : Nat) (arcs : List ArcV) (m j : Nat) (hm : m ≤ arcs.length) : (pc n arcs m j).length ≤ Ln n arcs j := by
  have key : ∀ d, m + d ≤ arcs.length → (pc n arcs m j).length ≤ (pc n arcs (m + d) j).length := by
    intro d
    induction d with
    | zero => intro _; exact Nat.le_refl _
    | succ d ih =>
      intro hd
      obtain ⟨x, hx⟩ : ∃ x, arcs[m + d]? = some x := ⟨_, List.getElem?_eq_getElem (by omega)⟩
      have := ih (by omega)
      rw [show m + (d + 1) = m + d + 1 by omega, pc_succ _ _ _ _ x hx, List.length_append]
      omega
  have := key (arcs.length - m) (by omega)
  rw [show m + (arcs.length - m) = arcs.length by omega] at this
  exact this
theorem pc_lt (n : Nat) (arcs : List ArcV) (m j : Nat) (x : ArcV) (h : arcs[m]? = some x) (hp : inPiece n x j = true) : (pc n arcs m j).length < Ln n arcs j := by
  have hm : m < arcs.length := by
    rcases Nat.lt_or_ge m arcs.length with h1 | h1
    · exact h1
    · rw [List.getElem?_eq_none h1] at h; cases h
  have := pc_le n arcs (m + 1) j hm
  rw [pc_succ _ _ _ _ x h, if_pos hp, List.length_append] at this
  simp at this
  omega
theorem St_mono (n : Nat) (arcs : List ArcV) {j k : Nat} (h : j ≤ k) : St n arcs j ≤ St n arcs k := by
  induction h with
  | refl => exact Nat.le_refl _
  | step _ ih => exact Nat.le_trans ih (by simp [St])
theorem St_lt (n : Nat) (arcs : List ArcV) {j k i : Nat} (h : j < k) (hi : i < Ln n arcs j) : St n arcs j + i < St n arcs k := by
  have := St_mono n arcs (show j + 1 ≤ k from h)
  simp only [St] at this
  omega
/-- two places of one list are one only in one piece -/
theorem St_ne (n : Nat) (arcs : List ArcV) {j k i i' : Nat} (hi : i < Ln n arcs j) (hi' : i' < Ln n arcs k) (hne : j ≠ k) : St n arcs j + i ≠ St n arcs k + i' := by
  rcases Nat.lt_or_ge j k with h | h
  · have := St_lt n arcs h hi; omega
  · have := St_lt n arcs (show k < j by omega) hi'; omega
theorem fit_bounds {n : Nat} {x : ArcV} (h : fitB n x = true) : 0 ≤ x.f ∧ x.f < n ∧ 0 ≤ x.t ∧ x.t < n := by
  simp [fitB] at h
  omega
theorem inPiece_out {n : Nat} {x : ArcV} (h : fitB n x = true) (f : Nat) (hf : x.f = f) (j : Nat) (hj : j % 2 = 0) : inPiece n x j = decide (j = 2 * f) := by
  rw [Bool.eq_iff_iff]
  simp [inPiece, h, hj, hf]
  omega
theorem inPiece_in {n : Nat} {x : ArcV} (h : fitB n x = true) (t : Nat) (ht : x.t = t) (j : Nat) (hj : j % 2 = 1) : inPiece n x j = decide (j = 2 * t + 1) := by
  rw [Bool.eq_iff_iff]
  have : ¬ j % 2 = 0 := by omega
  simp [inPiece, h, ht, this]
  omega
theorem inPiece_unfit {n : Nat} {x : ArcV} (h : fitB n x = false) (j : Nat) : inPiece n x j = false := by simp [inPiece, h]
theorem sum_zero (l : List Nat) : (l.map fun _ => 0).sum = 0 := by induction l <;> simp_all
/-- all pieces together hold no more than two places an arc -/
theorem St_le (n : Nat) (arcs : List ArcV) (N : Nat) : St n arcs N ≤ 2 * arcs.length := by
  have key : ∀ m, m ≤ arcs.length → ∀ N, ((List.range N).map fun j => (pc n arcs m j).length).sum ≤ 2 * m := by
    intro m
    induction m with
    | zero => intro _ N; simp only [pc_zero, List.length_nil]; rw [sum_zero]; omega
    | succ m ih =>
      intro hm N
      obtain ⟨x, hx⟩ : ∃ x, arcs[m]? = some x := ⟨_, List.getElem?_eq_getElem (by omega)⟩
      have e : ((List.range N).map fun j => (pc n arcs (m + 1) j).length) = (List.range N).map fun j => (pc n arcs m j).length + (if inPiece n x j then 1 else 0) := by
        apply List.map_congr_left
        intro j _
        rw [pc_succ _ _ _ _ x hx, List.length_append]
        split <;> rfl
      have hs : ∀ (l : List Nat) (f g : Nat → Nat), (l.map fun j => f j + g j).sum = (l.map f).sum + (l.map g).sum := by
        intro l f g
        induction l with
        | nil => rfl
        | cons a l ih => simp [ih]; omega
      rw [e, hs]
      have h2 := ih (by omega) N
      have h3 : ((List.range N).map fun j => if inPiece n x j then 1 else 0).sum ≤ 2 := by
        cases hf : fitB n x with
        | false =>
          have : ((List.range N).map fun j => if inPiece n x j then 1 else 0) = (List.range N).map fun _ => 0 := by
            apply List.map_congr_left; intro j _; rw [inPiece_unfit hf]; rfl
          rw [this]
          rw [sum_zero]; omega
        | true =>
          obtain ⟨b1, b2, b3, b4⟩ := fit_bounds hf
          obtain ⟨f, hfe⟩ := Int.eq_ofNat_of_zero_le b1
          obtain ⟨t, hte⟩ := Int.eq_ofNat_of_zero_le b3
          have hle : ∀ N, ((List.range N).map fun j => if inPiece n x j then 1 else 0).sum ≤ (if 2 * f < N then 1 else 0) + (if 2 * t + 1 < N then 1 else 0) := by
            intro N
            induction N with
            | zero => simp
            | succ N ih =>
              rw [List.range_succ, List.map_append, List.sum_append]
              simp only [List.map_cons, List.map_nil, List.sum_cons, List.sum_nil]
              rcases Nat.mod_two_eq_zero_or_one N with hp | hp
              · rw [inPiece_out hf f hfe N hp]
                by_cases hN : N = 2 * f
                · subst hN
                  simp at ih ⊢
                  split at ih <;> split <;> omega
                · simp only [hN, decide_false, Bool.false_eq_true, if_false]
                  split at ih <;> split at ih <;> split <;> split <;> omega
              · rw [inPiece_in hf t hte N hp]
                by_cases hN : N = 2 * t + 1
                · subst hN
                  simp at ih ⊢
                  split at ih <;> split <;> omega
                · simp only [hN, decide_false, Bool.false_eq_true, if_false]
                  split at ih <;> split at ih <;> split <;> split <;> omega
          have := hle N
          split at this <;> split at this <;> omega
      omega
  have hS : ∀ N, St n arcs N = ((List.range N).map fun j => (pc n arcs arcs.length j).length).sum := by
    intro N
    induction N with
    | zero => rfl
    | succ N ih => rw [List.range_succ, List.map_append, List.sum_append, ← ih]; simp [St, Ln]
  rw [hS]
  exact key _ (Nat.le_refl _) N

/-- the first N cells of a row of ints are the numbers f 0, f 1, .. -/
def Row (cs : Array Value) (N : Nat) (f : Nat → Nat) : Prop := N ≤ cs.size ∧ ∀ j, j < N → cs[j]? = some (.int .i64 (f j : Int))
theorem Row.set {cs : Array Value} {N : Nat} {f : Nat → Nat} (h : Row cs N f) (k v : Nat) : Row (cs.setIfInBounds k (.int .i64 (v : Int))) N (fun j => if j = k then v else f j) := by
  refine ⟨by simpa using h.1, fun j hj => ?_⟩
  have := h.1
  by_cases e : j = k
  · subst e; rw [Array.getElem?_setIfInBounds_self_of_lt (by omega)]; simp
  · rw [Array.getElem?_setIfInBounds_ne (fun e' => e e'.symm), h.2 j hj]; simp [e]
theorem Row.congr {cs : Array Value} {N : Nat} {f g : Nat → Nat} (h : Row cs N f) (e : ∀ j, j < N → f j = g j) : Row cs N g := ⟨h.1, fun j hj => by rw [h.2 j hj, e j hj]⟩
/-- how many arcs each piece has among the first m, one place on -/
def cnt (n : Nat) (arcs : List ArcV) (m : Nat) : Nat → Nat
  | 0 => 0
  | j + 1 => (pc n arcs m j).length
theorem cnt_skip {n : Nat} {arcs : List ArcV} {m : Nat} {x : ArcV} (h : arcs[m]? = some x) (hf : fitB n x = false) (j : Nat) : cnt n arcs (m + 1) j = cnt n arcs m j := by
  cases j with
  | zero => rfl
  | succ j => simp [cnt, pc_succ _ _ _ _ x h, inPiece_unfit hf]
theorem cnt_step {n : Nat} {arcs : List ArcV} {m : Nat} {x : ArcV} (h : arcs[m]? = some x) (hf : fitB n x = true) (f t : Nat) (hfe : x.f = f) (hte : x.t = t) (j : Nat) :
    cnt n arcs (m + 1) j = if j = 2 * t + 2 then cnt n arcs m j + 1 else if j = 2 * f + 1 then cnt n arcs m j + 1 else cnt n arcs m j := by
  cases j with
  | zero => simp [cnt]
  | succ j =>
    simp only [cnt, pc_succ _ _ _ _ x h, List.length_append]
    rcases Nat.mod_two_eq_zero_or_one j with hp | hp
    · rw [inPiece_out hf f hfe j hp, if_neg (show ¬ j + 1 = 2 * t + 2 by omega)]
      by_cases e : j = 2 * f
      · rw [if_pos (show j + 1 = 2 * f + 1 by omega)]; simp [e]
      · rw [if_neg (show ¬ j + 1 = 2 * f + 1 by omega)]; simp [e]
    · rw [inPiece_in hf t hte j hp]
      by_cases e : j = 2 * t + 1
      · rw [if_pos (show j + 1 = 2 * t + 2 by omega)]; simp [e]
      · rw [if_neg (show ¬ j + 1 = 2 * t + 2 by omega), if_neg (show ¬ j + 1 = 2 * f + 1 by omega)]; simp [e]
/-- the sums up to place k have been made -/
def part (n : Nat) (arcs : List ArcV) (k j : Nat) : Nat := if j ≤ k then St n arcs j else cnt n arcs arcs.length j
theorem part_zero (n : Nat) (arcs : List ArcV) (j : Nat) : part n arcs 0 j = cnt n arcs arcs.length j := by
  unfold part
  split
  · have : j = 0 := by omega
    subst this; rfl
  · rfl
theorem part_succ (n : Nat) (arcs : List ArcV) (k j : Nat) : part n arcs (k + 1) j = if j = k + 1 then part n arcs k (k + 1) + part n arcs k k else part n arcs k j := by
  unfold part
  by_cases h : j = k + 1
  · subst h
    rw [if_pos (Nat.le_refl _), if_pos rfl, if_neg (by omega), if_pos (Nat.le_refl _)]
    simp [St, cnt, Ln, Nat.add_comm]
  · rw [if_neg h]
    by_cases h2 : j ≤ k
    · rw [if_pos (by omega), if_pos h2]
    · rw [if_neg (by omega), if_neg h2]
/-- where the next arc of each piece goes -/
def nxt (n : Nat) (arcs : List ArcV) (m j : Nat) : Nat := St n arcs j + (pc n arcs m j).length
/-- the list holds what the first m arcs have put -/
def Laid (n : Nat) (arcs : List ArcV) (m : Nat) (ls : Array Value) : Prop :=
  ls.size = St n arcs (2 * n) ∧ ∀ j i a : Nat, j < 2 * n → (pc n arcs m j)[i]? = some a → ls[St n arcs j + i]? = some (.int .i64 (a : Int))
theorem Laid.zero {n : Nat} {arcs : List ArcV} {ls : Array Value} (h : ls.size = St n arcs (2 * n)) : Laid n arcs 0 ls := ⟨h, fun j i a _ hi => by simp [pc_zero] at hi⟩
theorem Laid.skip {n : Nat} {arcs : List ArcV} {m : Nat} {ls : Array Value} (h : Laid n arcs m ls) {x : ArcV} (hx : arcs[m]? = some x) (hf : fitB n x = false) : Laid n arcs (m + 1) ls :=
  ⟨h.1, fun j i a hj hi => h.2 j i a hj (by simpa [pc_succ _ _ _ _ x hx, inPiece_unfit hf] using hi)⟩
theorem Laid.step {n : Nat} {arcs : List ArcV} {m : Nat} {ls : Array Value} (h : Laid n arcs m ls) {x : ArcV} (hx : arcs[m]? = some x) (hf : fitB n x = true) (f t : Nat) (hfe : x.f = f) (hte : x.t = t) :
    Laid n arcs (m + 1) ((ls.setIfInBounds (nxt n arcs m (2 * f)) (.int .i64 (m : Int))).setIfInBounds (nxt n arcs m (2 * t + 1)) (.int .i64 (m : Int))) := by
  obtain ⟨b1, b2, b3, b4⟩ := fit_bounds hf
  have hml : m < arcs.length := by
    rcases Nat.lt_or_ge m arcs.length with h1 | h1
    · exact h1
    · rw [List.getElem?_eq_none h1] at hx; cases hx
  have pf : inPiece n x (2 * f) = true := by rw [inPiece_out hf f hfe _ (by omega)]; simp
  have pt : inPiece n x (2 * t + 1) = true := by rw [inPiece_in hf t hte _ (by omega)]; simp
  have lf := pc_lt n arcs m (2 * f) x hx pf
  have lt := pc_lt n arcs m (2 * t + 1) x hx pt
  refine ⟨by simpa using h.1, fun j i a hj hi => ?_⟩
  have hlen : i < (pc n arcs (m + 1) j).length := by
    rcases Nat.lt_or_ge i (pc n arcs (m + 1) j).length with h1 | h1
    · exact h1
    · rw [List.getElem?_eq_none h1] at hi; cases hi
  have hL := pc_le n arcs (m + 1) j hml
  have hsz : St n arcs j + i < ls.size := by rw [h.1]; exact St_lt n arcs hj (by omega)
  by_cases hp : inPiece n x j = true
  · have hpc := pc_succ n arcs m j x hx
    rw [if_pos hp] at hpc
    rw [hpc] at hi hlen
    by_cases hii : i < (pc n arcs m j).length
    · rw [List.getElem?_append_left hii] at hi
      have hLm := pc_le n arcs m j (by omega)
      have := h.2 j i a hj hi
      rw [Array.getElem?_setIfInBounds_ne, Array.getElem?_setIfInBounds_ne, this]
      · unfold nxt
        by_cases e : j = 2 * f
        · subst e; omega
        · exact St_ne n arcs lf (by omega) (fun h => e h.symm)
      · unfold nxt
        by_cases e : j = 2 * t + 1
        · subst e; omega
        · exact St_ne n arcs lt (by omega) (fun h => e h.symm)
    · simp at hlen
      have hie : i = (pc n arcs m j).length := by omega
      subst hie
      rw [List.getElem?_append_right (Nat.le_refl _)] at hi
      simp at hi
      subst hi
      rcases Nat.mod_two_eq_zero_or_one j with hpar | hpar
      · rw [inPiece_out hf f hfe j hpar] at hp
        have e : j = 2 * f := by simpa using hp
        subst e
        rw [Array.getElem?_setIfInBounds_ne]
        · unfold nxt; rw [Array.getElem?_setIfInBounds_self_of_lt (by omega)]
        · unfold nxt; exact St_ne n arcs lt lf (by omega)
      · rw [inPiece_in hf t hte j hpar] at hp
        have e : j = 2 * t + 1 := by simpa using hp
        subst e
        unfold nxt
        rw [Array.getElem?_setIfInBounds_self_of_lt (by simpa using hsz)]
  · have hpc := pc_succ n arcs m j x hx
    rw [if_neg hp, List.append_nil] at hpc
    rw [hpc] at hi hlen
    have hLm := pc_le n arcs m j (by omega)
    have := h.2 j i a hj hi
    rw [Array.getElem?_setIfInBounds_ne, Array.getElem?_setIfInBounds_ne, this]
    · unfold nxt
      refine St_ne n arcs lf (by omega) (fun h => hp ?_)
      rw [← h]; exact pf
    · unfold nxt
      refine St_ne n arcs lt (by omega) (fun h => hp ?_)
      rw [← h]; exact pt
theorem nxt_skip {n : Nat} {arcs : List ArcV} {m : Nat} {x : ArcV} (hx : arcs[m]? = some x) (hf : fitB n x = false) (j : Nat) : nxt n arcs (m + 1) j = nxt n arcs m j := by
  simp [nxt, pc_succ _ _ _ _ x hx, inPiece_unfit hf]
theorem nxt_step {n : Nat} {arcs : List ArcV} {m : Nat} {x : ArcV} (hx : arcs[m]? = some x) (hf : fitB n x = true) (f t : Nat) (hfe : x.f = f) (hte : x.t = t) (j : Nat) :
    nxt n arcs (m + 1) j = if j = 2 * t + 1 then nxt n arcs m j + 1 else if j = 2 * f then nxt n arcs m j + 1 else nxt n arcs m j := by
  have := cnt_step hx hf f t hfe hte (j + 1)
  simp only [cnt] at this
  unfold nxt
  rw [this]
  by_cases e1 : j = 2 * t + 1
  · rw [if_pos (show j + 1 = 2 * t + 2 by omega), if_pos e1]; omega
  · rw [if_neg (show ¬ j + 1 = 2 * t + 2 by omega), if_neg e1]
    by_cases e2 : j = 2 * f
    · rw [if_pos (show j + 1 = 2 * f + 1 by omega), if_pos e2]; omega
    · rw [if_neg (show ¬ j + 1 = 2 * f + 1 by omega), if_neg e2]
/-- at the end -/
theorem pieces_of {n : Nat} {arcs : List ArcV} {start list : List Int} (hs : start.length = 2 * n + 1) (hsv : ∀ j, j ≤ 2 * n → start[j]? = some ((St n arcs j : Nat) : Int)) (hl : list.length = St n arcs (2 * n))
    (hlv : ∀ j i a : Nat, j < 2 * n → (pc n arcs arcs.length j)[i]? = some a → list[St n arcs j + i]? = some ((a : Nat) : Int)) : Pieces n arcs start list := by
  refine ⟨hs, fun k hk => ⟨St n arcs k, St n arcs (k + 1), hsv k (by omega), hsv (k + 1) (by omega), St_mono n arcs (by omega), by rw [hl]; exact St_mono n arcs (by omega), ?_⟩⟩
  have e : (if k % 2 = 0 then outs n arcs ((k / 2 : Nat) : Int) else ins n arcs ((k / 2 : Nat) : Int)) = pc n arcs arcs.length k := by
    rcases Nat.mod_two_eq_zero_or_one k with hp | hp
    · rw [if_pos hp, ← pc_out]; congr 1; omega
    · rw [if_neg (by omega), ← pc_in]; congr 1; omega
  rw [e]
  apply List.ext_getElem?
  intro i
  have hle : St n arcs (k + 1) ≤ list.length := by rw [hl]; exact St_mono n arcs (by omega)
  have hd : St n arcs (k + 1) - St n arcs k = (pc n arcs arcs.length k).length := by simp [St, Ln]
  rw [List.getElem?_take, List.getElem?_drop, hd]
  by_cases hi : i < (pc n arcs arcs.length k).length
  · rw [if_pos hi, List.getElem?_map, List.getElem?_eq_getElem hi]
    rw [hlv k i _ hk (List.getElem?_eq_getElem hi)]
    rfl
  · rw [if_neg hi, List.getElem?_eq_none (by simp; omega)]
end Go.Proofs.Ytekajenmkpobgaa
