/- reach.finished -/
import Derived.Test.YtekajenmkpobgaaW
import Derived.Test.YtekajenmkpobgaaPD
set_option linter.unusedSimpArgs false
set_option linter.unusedVariables false
namespace Go.Proofs.Ytekajenmkpobgaa
open Go.RowKit

/-- the way in memory, and what the search keeps -/
structure FD (L : FSl) (At : Option Addr) (ct : Nat) (A : Option Addr) (c : Nat) (ps : List (Value × Value)) (met : List Bool) (stk : List (Int × List Int)) (told : List Int) (w0 w : World) : Prop where
  fs : FS L (ob At) A c ps met stk w0 w
  d : DInv L.N L.arcs met stk told
  t : w.ownsRow L.H 3 1 (.slice At told.length ct) told.length (told.map I)

theorem perm_len {N : Nat} {l : List Int} (hn : l.Nodup) (hs : ∀ v ∈ l, hasB N v = true) : l.length ≤ N := by
  have h2 : l ⊆ (List.range N).map (fun k : Nat => (k : Int)) := by
    intro v hv
    have := hs v hv
    simp [hasB] at this
    exact List.mem_map.2 ⟨v.toNat, by rw [List.mem_range]; omega, by omega⟩
  have := hn.length_le_of_subset h2
  simpa using this
theorem DInv.small {N : Nat} {arcs : List ArcV} {met : List Bool} {stk : List (Int × List Int)} {told : List Int} (h : DInv N arcs met stk told) : told.length + stk.length ≤ N := by
  have := perm_len (N := N) h.nd (fun v hv => by
    have := inS_has ((h.metd v).2 (List.mem_append.1 hv))
    rwa [h.len] at this)
  simpa [nodesOf] using this

section
variable {L : FSl} {tb : Option Nat} {A : Option Addr} {c : Nat} {ps : List (Value × Value)} {met : List Bool} {stk : List (Int × List Int)} {w0 w w' : World}
/-- what was told has turned, and lies elsewhere -/
theorem FS.told {tb' : Option Nat} (h : FS L tb A c ps met stk w0 w) (hk : Kept (fun b => tb = some b) w w') (ht : ∀ b, tb' = some b → tb = some b ∨ w.heap.size ≤ b) (h3 : ∀ b, tb = some b → ∃ cur, Blk w b 3 cur) (hH : ∀ b, tb = some b → L.H ≤ b) : FS L tb' A c ps met stk w0 w' := by
  have hne : ∀ {g t cs}, Blk w g t cs → t ≠ 3 → ¬ tb = some g := fun hg hn e => by
    obtain ⟨cur, hc⟩ := h3 _ e
    exact hg.ne_ hc hn rfl
  have hb := hk.to_below h.size (fun k hk e => by have := hH k e; omega)
  refine ⟨h.mv.kept hk (hne h.mv (by decide)), h.mb.kept hk (hne h.mb (by decide)), h.len, h.wv.kept hk (hne h.wv (by decide)), own_kept h.row hk (fun g hg e => ?_), h.way.imp (fun v xs ha => ?_), h.gv.kept hk (hne h.gv (by decide)), h.gr.keep hb, h.b.trans hb, h.sz, h.le⟩
  · obtain ⟨cur, hc⟩ := h3 g e
    exact own_blk_ne h.row hc (by decide) hg
  · obtain ⟨B, cb, e, hc, h0 | ⟨b, off, cur, hA, hbb, hne', hx⟩⟩ := ha
    · exact ⟨B, cb, e, hc, .inl h0⟩
    · refine ⟨B, cb, e, hc, .inr ⟨b, off, cur, hA, hbb.kept hk hne', fun e' => ?_, hx⟩⟩
      rcases ht b e' with h1 | h1
      · exact hne' h1
      · have := hbb.lt; omega
/-- the cells of the last step -/
theorem FS.top {qs : List (Value × Value)} {p : Value × Value} (h : FS L tb A c (qs ++ [p]) met stk w0 w) : ∃ rb cur, A = some ⟨rb, 0, none⟩ ∧ L.H ≤ rb ∧ Blk w rb 102 cur ∧ qs.length < c ∧ w.cell? ⟨rb, qs.length * 2, none⟩ = some p.1 ∧ w.cell? ⟨rb, qs.length * 2 + 1, none⟩ = some p.2 ∧
    w.ownsRow L.H 102 2 (.slice A qs.length c) qs.length (wayCells qs) ∧ cur.toList.take (qs.length * 2 + 2) = wayCells qs ++ [p.1, p.2] := by
  have hr := h.row
  simp only [List.length_append, List.length_cons, List.length_nil, Nat.zero_add, wayCells_snoc] at hr
  rcases hr.2 with ⟨_, h1⟩ | ⟨g, cap, cur, h1, h2, h3, h4, h5, h6, h7⟩
  · omega
  · injection h1 with hA _ hc
    subst hA hc
    have hw := wayCells_length qs
    refine ⟨g, cur, rfl, h2, h3, by omega, ?_, ?_, ownsRow_pop hw hr, ?_⟩
    · have := hr.cells (g := g) rfl (qs.length * 2) p.1 (by rw [List.getElem?_append_right (by omega)]; simp [hw])
      rwa [add_lit, Nat.zero_add] at this
    · have := hr.cells (g := g) rfl (qs.length * 2 + 1) p.2 (by rw [List.getElem?_append_right (by omega)]; simp [hw])
      rwa [add_lit, Nat.zero_add] at this
    · rw [← h7]; congr 1; omega
/-- the last step is left -/
theorem FS.pop {qs : List (Value × Value)} {p : Value × Value} {f : Int × List Int} (h : FS L tb A c (qs ++ [p]) met (stk ++ [f]) w0 w) : FS L tb A c qs met stk w0 (w.setCell ⟨L.wv, 0, none⟩ (.slice A qs.length c)) := by
  obtain ⟨rb, cur, hA, hrb, hcur, hc, _, _, hown, _⟩ := h.top
  obtain ⟨qs', p', e, hl, hw, _, _⟩ := h.way.pop
  have e' : qs' = qs := (List.append_inj' e rfl).1.symm
  subst e'
  have hk : Kept (fun b => b = L.mb ∨ b = L.wv ∨ ob A = some b) w (w.setCell ⟨L.wv, 0, none⟩ (.slice A qs'.length c)) := (Kept.refl _ w).setCell (p := ⟨L.wv, 0, none⟩) (fun _ => .inr (.inl rfl)) _
  exact h.turn hk (h.mb.far (p := ⟨L.wv, 0, none⟩) (h.mb.ne_ h.wv (by decide)) _) h.len (h.wv.set_ 0 _) (own_other hown (own_blk_ne hown h.wv (by decide)) _) (hw.imp (fun _ _ ha => h.arcs hk ha))
/-- the last step's arcs are others -/
theorem FS.setArcs {qs : List (Value × Value)} {p : Value × Value} {u : Int} {r r' : List Int} (h : FS L tb A c (qs ++ [p]) met (stk ++ [(u, r)]) w0 w) {rb : Nat} (hA : A = some ⟨rb, 0, none⟩) (v : Value) (h1 : v.oneCell' = true) (hv : ArcsR w tb v r') :
    FS L tb A c (qs ++ [(p.1, v)]) met (stk ++ [(u, r')]) w0 (w.setCell ⟨rb, qs.length * 2 + 1, none⟩ v) := by
  obtain ⟨rb', cur, hA', hrb, hcur, hc, c0, c1, hown, htk⟩ := h.top
  have e : rb' = rb := by rw [hA] at hA'; injection hA' with e; injection e with e; exact e.symm
  subst e
  obtain ⟨qs', p', e, hl, hw, hp1, hp2⟩ := h.way.pop
  have e1 := (List.append_inj' e rfl)
  have e2 : qs' = qs := e1.1.symm
  have e3 : p' = p := by simpa using e1.2.symm
  subst e2 e3
  have hk : Kept (fun b => b = L.mb ∨ b = L.wv ∨ ob A = some b) w (w.setCell ⟨rb', qs'.length * 2 + 1, none⟩ v) := (Kept.refl _ w).setCell (p := ⟨rb', qs'.length * 2 + 1, none⟩) (fun _ => .inr (.inr (by rw [hA]; rfl))) _
  have hlen : (qs' ++ [(p'.1, v)]).length = (qs' ++ [p']).length := by simp
  refine h.turn hk (h.mb.far (p := ⟨rb', qs'.length * 2 + 1, none⟩) (h.mb.ne_ hcur (by decide)) _) h.len (by rw [hlen]; exact h.wv.far (p := ⟨rb', qs'.length * 2 + 1, none⟩) (h.wv.ne_ hcur (by decide)) _) ?_ ((hw.imp (fun _ _ ha => h.arcs hk ha)).snoc hp1 (h.arcs hk hv))
  have hr := h.row
  rw [hlen]
  refine ⟨by rw [wayCells_length, hlen], ?_⟩
  rcases hr.2 with ⟨h2, h3⟩ | ⟨g, cap, cur', g1, g2, g3, g4, g5, g6, g7⟩
  · simp at h3
  · right
    have e4 : g = rb' := by rw [hA] at g1; injection g1 with e; injection e with e; injection e with e; exact e.symm
    subst e4
    have hs := (show Blk w g 102 cur' from g3).set_ (qs'.length * 2 + 1) v
    refine ⟨g, cap, _, g1, g2, hs, g4, g5, by simpa using g6, ?_⟩
    simp only [List.length_append, List.length_cons, List.length_nil, Nat.zero_add, wayCells_snoc] at g7 ⊢
    have hwl := wayCells_length qs'
    apply List.ext_getElem?
    intro j
    have e5 := congrArg (fun l => l[j]?) g7
    simp only [List.getElem?_take] at e5
    rw [List.getElem?_take]
    by_cases hj : j < (qs'.length + 1) * 2
    · rw [if_pos hj] at e5 ⊢
      by_cases hj2 : j = qs'.length * 2 + 1
      · subst hj2
        have hcs : qs'.length * 2 + 1 < cur'.size := by rw [g6]; simp at g4; omega
        rw [Array.getElem?_toList, Array.getElem?_setIfInBounds_self_of_lt hcs, List.getElem?_append_right (by omega)]
        simp [hwl]
      · rw [Array.getElem?_toList, Array.getElem?_setIfInBounds_ne (by omega), ← Array.getElem?_toList, e5]
        rcases Nat.lt_or_ge j (qs'.length * 2) with h6 | h6
        · rw [List.getElem?_append_left (by omega), List.getElem?_append_left (by omega)]
        · have : j = qs'.length * 2 := by omega
          subst this
          rw [List.getElem?_append_right (by omega), List.getElem?_append_right (by omega)]
          simp [hwl]
    · rw [if_neg hj, List.getElem?_eq_none (by simp [hwl]; omega)]
end
end Go.Proofs.Ytekajenmkpobgaa
