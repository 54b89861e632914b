/- reach.finished: the way in memory; meet. -/
import Derived.Test.YtekajenmkpobgaaV
import Derived.Deep.RegionLaw
set_option linter.unusedSimpArgs false
set_option linter.unusedVariables false
namespace Go.Proofs.Ytekajenmkpobgaa
open Go.RowKit

/-- a list of arcs, its row of ints not in block tb -/
def ArcsR (w : World) (tb : Option Nat) (v : Value) (xs : List Int) : Prop :=
  ∃ A c, v = .slice A xs.length c ∧ xs.length ≤ c ∧ (xs = [] ∨ ∃ b off cur, A = some ⟨b, off, none⟩ ∧ Blk w b 3 cur ∧ tb ≠ some b ∧ ∀ j x, xs[j]? = some x → cur[off + j]? = some (I x))
theorem ArcsR.kept {S : Nat → Prop} {w w' : World} {tb : Option Nat} {v : Value} {xs : List Int} (h : ArcsR w tb v xs) (hk : Kept S w w') (hs : ∀ b cur, Blk w b 3 cur → tb ≠ some b → ¬ S b) : ArcsR w' tb v xs := by
  obtain ⟨A, c, e, hc, h0 | ⟨b, off, cur, hA, hb, hne, hx⟩⟩ := h
  · exact ⟨A, c, e, hc, .inl h0⟩
  · exact ⟨A, c, e, hc, .inr ⟨b, off, cur, hA, hb.kept hk (hs b cur hb hne), hne, hx⟩⟩
theorem ArcsR.below {w w' : World} {tb : Option Nat} {v : Value} {xs : List Int} (h : ArcsR w tb v xs) (hb : Below w.heap.size w w') : ArcsR w' tb v xs :=
  h.kept (Kept.of_below hb (fun _ => False)) (fun _ _ _ _ h => h)
theorem ArcsR.retb {w : World} {tb tb' : Option Nat} {v : Value} {xs : List Int} (h : ArcsR w tb v xs) (ht : ∀ b, b < w.heap.size → tb' = some b → tb = some b) : ArcsR w tb' v xs := by
  obtain ⟨A, c, e, hc, h0 | ⟨b, off, cur, hA, hb, hne, hx⟩⟩ := h
  · exact ⟨A, c, e, hc, .inl h0⟩
  · exact ⟨A, c, e, hc, .inr ⟨b, off, cur, hA, hb, fun e => hne (ht b hb.lt e), hx⟩⟩
theorem ArcsR.of_own {w : World} {base : Nat} {tb : Option Nat} {A : Option Addr} {c : Nat} {xs : List Int} (h : w.ownsRow base 3 1 (.slice A xs.length c) xs.length (xs.map I)) (ht : ∀ b, tb = some b → b < base) : ArcsR w tb (.slice A xs.length c) xs := by
  refine ⟨A, c, rfl, own_cap h, ?_⟩
  rcases h.2 with ⟨_, h1⟩ | ⟨g, cap, cur, h1, h2, h3, h4, h5, h6, h7⟩
  · exact .inl (List.eq_nil_of_length_eq_zero h1)
  · right
    injection h1 with hA _ _
    refine ⟨g, 0, cur, hA, h3, fun e => by have := ht g e; omega, fun j x hj => ?_⟩
    have hjl : j < xs.length := by
      rcases Nat.lt_or_ge j xs.length with h | h
      · exact h
      · rw [List.getElem?_eq_none h] at hj; cases hj
    have e : (cur.toList.take (xs.length * 1))[j]? = cur[j]? := by rw [List.getElem?_take, if_pos (by omega)]; simp
    rw [Nat.zero_add, ← e, h7, List.getElem?_map, hj]
    rfl
/-- the first arc, and the others -/
theorem ArcsR.cons {w : World} {tb : Option Nat} {v : Value} {x : Int} {xs : List Int} (h : ArcsR w tb v (x :: xs)) :
    ∃ b off c, v = .slice (some ⟨b, off, none⟩) (xs.length + 1) c ∧ xs.length + 1 ≤ c ∧ w.cell? ⟨b, off, none⟩ = some (.int .i64 x) ∧ (∃ cur, Blk w b 3 cur) ∧ tb ≠ some b ∧
      ArcsR w tb (.slice (if c = 1 then some ⟨b, off, none⟩ else some ⟨b, off + 1, none⟩) xs.length (c - 1)) xs := by
  obtain ⟨A, c, e, hc, h0 | ⟨b, off, cur, hA, hb, hne, hx⟩⟩ := h
  · cases h0
  · subst hA
    refine ⟨b, off, c, e, hc, ?_, ⟨cur, hb⟩, hne, ?_⟩
    · have := hx 0 x rfl
      rw [hb.cell]
      exact this
    · refine ⟨_, _, rfl, by simp at hc; omega, ?_⟩
      by_cases hl : xs = []
      · exact .inl hl
      · right
        have : 0 < xs.length := List.length_pos_iff.2 hl
        simp at hc
        rw [if_neg (by omega)]
        exact ⟨b, off + 1, cur, rfl, hb, hne, fun j y hj => by have := hx (j + 1) y (by simpa using hj); rwa [Nat.add_assoc, Nat.add_comm 1 j]⟩

/-- the steps of a way: their cells, and what they are -/
def WayR (w : World) (tb : Option Nat) (ps : List (Value × Value)) (stk : List (Int × List Int)) : Prop :=
  ps.length = stk.length ∧ ∀ (i : Nat) (p : Value × Value) (f : Int × List Int), ps[i]? = some p → stk[i]? = some f → p.1 = I f.1 ∧ ArcsR w tb p.2 f.2
def wayCells (ps : List (Value × Value)) : List Value := ps.flatMap fun p => [p.1, p.2]
theorem wayCells_length (ps : List (Value × Value)) : (wayCells ps).length = ps.length * 2 := by
  induction ps with
  | nil => rfl
  | cons p ps ih => simp [wayCells] at ih ⊢; omega
theorem wayCells_snoc (ps : List (Value × Value)) (p : Value × Value) : wayCells (ps ++ [p]) = wayCells ps ++ [p.1, p.2] := by simp [wayCells]
theorem WayR.imp {w w' : World} {tb tb' : Option Nat} {ps : List (Value × Value)} {stk : List (Int × List Int)} (h : WayR w tb ps stk) (hi : ∀ v xs, ArcsR w tb v xs → ArcsR w' tb' v xs) : WayR w' tb' ps stk :=
  ⟨h.1, fun i p f hp hf => ⟨(h.2 i p f hp hf).1, hi _ _ (h.2 i p f hp hf).2⟩⟩
theorem WayR.snoc {w : World} {tb : Option Nat} {ps : List (Value × Value)} {stk : List (Int × List Int)} (h : WayR w tb ps stk) {p : Value × Value} {f : Int × List Int} (h1 : p.1 = I f.1) (h2 : ArcsR w tb p.2 f.2) : WayR w tb (ps ++ [p]) (stk ++ [f]) := by
  refine ⟨by simp [h.1], fun i q e hq he => ?_⟩
  rcases Nat.lt_trichotomy i ps.length with hl | hl | hl
  · rw [List.getElem?_append_left hl] at hq
    rw [List.getElem?_append_left (by rw [← h.1]; exact hl)] at he
    exact h.2 i q e hq he
  · subst hl
    rw [List.getElem?_append_right (Nat.le_refl _)] at hq
    rw [h.1, List.getElem?_append_right (Nat.le_refl _)] at he
    simp at hq he
    subst hq he
    exact ⟨h1, h2⟩
  · rw [List.getElem?_eq_none (by simp; omega)] at hq
    cases hq
theorem WayR.pop {w : World} {tb : Option Nat} {ps : List (Value × Value)} {stk : List (Int × List Int)} {f : Int × List Int} (h : WayR w tb ps (stk ++ [f])) :
    ∃ qs p, ps = qs ++ [p] ∧ qs.length = stk.length ∧ WayR w tb qs stk ∧ p.1 = I f.1 ∧ ArcsR w tb p.2 f.2 := by
  rcases List.eq_nil_or_concat ps with rfl | ⟨qs, p, rfl⟩
  · have := h.1; simp at this
  · rw [List.concat_eq_append] at *
    have hl : qs.length = stk.length := by have := h.1; simpa using this
    refine ⟨qs, p, rfl, hl, ⟨hl, fun i q e hq he => ?_⟩, ?_⟩
    · have hi : i < qs.length := by
        rcases Nat.lt_or_ge i qs.length with h | h
        · exact h
        · rw [List.getElem?_eq_none h] at hq; cases hq
      exact h.2 i q e (by rw [List.getElem?_append_left hi]; exact hq) (by rw [List.getElem?_append_left (by omega)]; exact he)
    · exact h.2 qs.length p f (by simp) (by rw [hl]; simp)

/-- where finished's things lie -/
structure FSl where
  (H N g mv mb wv gv : Nat)
  arcs : List ArcV
structure FS (L : FSl) (tb : Option Nat) (A : Option Addr) (c : Nat) (ps : List (Value × Value)) (met : List Bool) (stk : List (Int × List Int)) (w0 w : World) : Prop where
  mv : Blk w L.mv 31 #[.slice (some ⟨L.mb, 0, none⟩) L.N L.N]
  mb : Blk w L.mb 4 (bools met)
  len : met.length = L.N
  wv : Blk w L.wv 100 #[.slice A ps.length c]
  row : w.ownsRow L.H 102 2 (.slice A ps.length c) ps.length (wayCells ps)
  way : WayR w tb ps stk
  gv : Blk w L.gv 50 #[.pointer (some ⟨L.g, 0, none⟩)]
  gr : Graph w L.H L.g L.N L.arcs
  b : Below L.H w0 w
  sz : L.H ≤ w0.heap.size
  le : L.H ≤ L.mb ∧ L.H ≤ L.wv
theorem Try.info102 : (Try.prog.info? 102).map (fun i => (i.zero, i.size, i.bytes)) = some (some (.agg #[.int .i64 0, .slice none 0 0]), 2, 32) := by kernel_rfl

section
variable {L : FSl} {tb : Option Nat} {A : Option Addr} {c : Nat} {ps : List (Value × Value)} {met : List Bool} {stk : List (Int × List Int)} {w0 w w' : World}
theorem FS.size (h : FS L tb A c ps met stk w0 w) : L.H ≤ w.heap.size := Nat.le_trans h.sz h.b.size
theorem FS.other (h : FS L tb A c ps met stk w0 w) {g : Nat} {t : TypeId} {cs : Array Value} (hg : Blk w g t cs) (ht : t ≠ 102) : ob A ≠ some g := fun e => own_blk_ne h.row hg (fun e' => ht e'.symm) (by rw [ob_own, e])
/-- the marks, the way's variable and its row turn -/
theorem FS.turn (h : FS L tb A c ps met stk w0 w) {tb' : Option Nat} {A' : Option Addr} {c' : Nat} {ps' : List (Value × Value)} {met' : List Bool} {stk' : List (Int × List Int)} (hk : Kept (fun b => b = L.mb ∨ b = L.wv ∨ ob A = some b) w w')
    (hm : Blk w' L.mb 4 (bools met')) (hl : met'.length = L.N) (hv : Blk w' L.wv 100 #[.slice A' ps'.length c']) (hr : w'.ownsRow L.H 102 2 (.slice A' ps'.length c') ps'.length (wayCells ps')) (hw : WayR w' tb' ps' stk') : FS L tb' A' c' ps' met' stk' w0 w' := by
  have hlow : ∀ k, k < L.H → ¬ (k = L.mb ∨ k = L.wv ∨ ob A = some k) := by
    rintro k hk (e | e | e)
    · have := h.le.1; omega
    · have := h.le.2; omega
    · have := (h.row.lt k (by rw [ob_own, e])).1; omega
  have hb := hk.to_below h.size hlow
  refine ⟨h.mv.kept hk ?_, hm, hl, hv, hr, hw, h.gv.kept hk ?_, h.gr.keep hb, h.b.trans hb, h.sz, h.le⟩
  · rintro (e | e | e); exact h.mv.ne_ h.mb (by decide) e; exact h.mv.ne_ h.wv (by decide) e; exact h.other h.mv (by decide) e
  · rintro (e | e | e); exact h.gv.ne_ h.mb (by decide) e; exact h.gv.ne_ h.wv (by decide) e; exact h.other h.gv (by decide) e
/-- no list of arcs lies in what turns -/
theorem FS.arcs (h : FS L tb A c ps met stk w0 w) (hk : Kept (fun b => b = L.mb ∨ b = L.wv ∨ ob A = some b) w w') {v : Value} {xs : List Int} (ha : ArcsR w tb v xs) : ArcsR w' tb v xs := by
  refine ha.kept hk (fun b cur hb _ => ?_)
  rintro (e | e | e)
  · exact hb.ne_ h.mb (by decide) e
  · exact hb.ne_ h.wv (by decide) e
  · exact h.other hb (by decide) e
theorem FS.mark (h : FS L tb A c ps met stk w0 w) (n : Nat) : FS L tb A c ps (met.set n true) stk w0 (w.setCell ⟨L.mb, n, none⟩ (.bool true)) ∧ Kept (fun b => b = L.mb ∨ b = L.wv ∨ ob A = some b) w (w.setCell ⟨L.mb, n, none⟩ (.bool true)) := by
  have hk : Kept (fun b => b = L.mb ∨ b = L.wv ∨ ob A = some b) w (w.setCell ⟨L.mb, n, none⟩ (.bool true)) := (Kept.refl _ w).setCell (p := ⟨L.mb, n, none⟩) (fun _ => .inl rfl) _
  refine ⟨h.turn hk (by rw [← bools_set]; exact h.mb.set_ n _) (by simpa using h.len) (h.wv.far (p := ⟨L.mb, n, none⟩) (h.wv.ne_ h.mb (by decide)) _) (own_other h.row (own_blk_ne h.row h.mb (by decide)) _) (h.way.imp (fun _ _ ha => h.arcs hk ha)), hk⟩
theorem FS.below (h : FS L tb A c ps met stk w0 w) (hb : Below w.heap.size w w') : FS L tb A c ps met stk w0 w' :=
  ⟨h.mv.below hb h.mv.lt, h.mb.below hb h.mb.lt, h.len, h.wv.below hb h.wv.lt, own_below h.row hb, h.way.imp (fun _ _ ha => ha.below hb), h.gv.below hb h.gv.lt, h.gr.keep (hb.mono h.size), h.b.trans (hb.mono h.size), h.sz, h.le⟩
end

set_option maxHeartbeats 1000000 in
theorem fmeet_old (L : FSl) (tb : Option Nat) (A : Option Addr) (c : Nat) (ps : List (Value × Value)) (met : List Bool) (stk : List (Int × List Int)) (w0 w : World) (h : FS L tb A c ps met stk w0 w) (n : Nat) (hn : met[n]? = some true) :
    Calls Try.prog 64 #[.int .i64 (n : Int), .pointer (some ⟨L.mv, 0, none⟩), .pointer (some ⟨L.wv, 0, none⟩), .pointer (some ⟨L.gv, 0, none⟩)] w fun e w' => e = .returned (.tuple #[]) ∧ w = w' := by
  have q0 := h.mv.cell 0
  simp only [List.getElem?_toArray, List.getElem?_cons_zero] at q0
  have hl : n < met.length := by
    rcases Nat.lt_or_ge n met.length with h | h
    · exact h
    · rw [List.getElem?_eq_none h] at hn; cases hn
  have hN : n < L.N := by have := h.len; omega
  have q1 := h.mb.cell n
  rw [bools_at hl, hn] at q1
  simp only [Option.getD_some] at q1
  clear hn
  go_enter Try.func64, Try.ntmps64
  go_wp2
  go_end0
  exact ⟨rfl, rfl⟩

theorem reads_new (w : World) (t : TypeId) (l : List Value) (n size : Nat) (h : l.length = n * size) : Reads (w.alloc (.cells l.toArray t)) (w.heap.size + 1) size (some ⟨w.heap.size, 0, none⟩) n l :=
  ⟨h, fun _ => ⟨w.heap.size, 0, rfl, by omega, fun j u hu => by have := cells_new w t l.toArray j u (by simpa using hu); rwa [add_lit] at this⟩⟩
set_option maxRecDepth 100000 in
set_option maxHeartbeats 2000000 in
theorem fmeet_new (L : FSl) (tb : Option Nat) (A : Option Addr) (c : Nat) (ps : List (Value × Value)) (met : List Bool) (stk : List (Int × List Int)) (w0 w : World) (h : FS L tb A c ps met stk w0 w) (n : Nat) (hn : met[n]? = some false)
    (hpl : ps.length ≤ 1000000000) (htb : ∀ b, tb = some b → b < w.heap.size) :
    Calls Try.prog 64 #[.int .i64 (n : Int), .pointer (some ⟨L.mv, 0, none⟩), .pointer (some ⟨L.wv, 0, none⟩), .pointer (some ⟨L.gv, 0, none⟩)] w fun e w' => e = .returned (.tuple #[]) ∧
      ∃ A' c' ps', FS L tb A' c' ps' (met.set n true) (stk ++ [((n : Int), intsOf (outs L.N L.arcs n))]) w0 w' ∧ Kept (fun b => b = L.mb ∨ b = L.wv ∨ ob A = some b) w w' := by
  have q0 := h.mv.cell 0
  simp only [List.getElem?_toArray, List.getElem?_cons_zero] at q0
  have hl : n < met.length := by
    rcases Nat.lt_or_ge n met.length with h | h
    · exact h
    · rw [List.getElem?_eq_none h] at hn; cases hn
  have hN : n < L.N := by have := h.len; omega
  have q1 := h.mb.cell n
  rw [bools_at hl, hn] at q1
  simp only [Option.getD_some] at q1
  have f1 := h.mb.frozen n
  obtain ⟨i0, hi, hz0, hz1, hz2⟩ := info_parts Try.info102
  obtain ⟨hF1, hk1⟩ := h.mark n
  have hz : (w.setCell ⟨L.mb, n, none⟩ (.bool true)).heap.size = w.heap.size := by simp [World.setCell]
  go_enter Try.func64, Try.ntmps64
  go_wp2_with fail
  generalize w.setCell ⟨L.mb, n, none⟩ (.bool true) = W at *
  have HZ := Lib.hid hz
  have HF := Lib.hid hF1
  have q2 := hF1.wv.cell 0
  have q3 := hF1.gv.cell 0
  have f2 := hF1.wv.frozen 0
  simp only [List.getElem?_toArray, List.getElem?_cons_zero] at q2 q3
  clear q0 q1 f1 hz hF1 hn
  have lwv := HF.out.wv.lt
  have lgv := HF.out.gv.lt
  go_region_law (first
    | (refine step_append_any _ (by rfl) (.tmp 13) (.tmp 19) 100 (by rfl) L.H 102 i0 (.agg #[.int .i64 0, .slice none 0 0]) 2 32 Try.underlying100 hi hz0 hz1 hz2 rfl (by decide) (.slice A ps.length c) ps.length (wayCells ps) (by rfl) ((own_below HF.out.row ((Below.refl _ _).drew.trans hb2)).alloc _) (w2.heap.size + 1) (some ⟨w2.heap.size, 0, none⟩) 1 1 [.int .i64 n, .slice B (pieceOf L.N L.arcs n 0).length cb] (by rfl) (reads_new w2 102 _ 1 2 rfl) (by simp [Value.oneCell']) (by unfold maxLen; omega) (by omega) (by have h1 := HF.out.size; have h2 := hb2.size; simp at h2 ⊢; omega) ?_; intro v' w3 hown3 hgrow3 hat3; obtain ⟨A3, c3, rfl⟩ := own_form hown3; rw [ob_own] at hgrow3; have hB3 := ((HF.out.wv.below ((Below.refl _ _).drew.trans hb2) HF.out.wv.lt).alloc (.cells #[.int .i64 n, .slice B (pieceOf L.N L.arcs n 0).length cb] 102)).grown hgrow3 (fun e => HF.out.other HF.out.wv (by decide) e.symm); have q5 := hB3.cell 0; have f5 := hB3.frozen 0; simp only [List.getElem?_toArray, List.getElem?_cons_zero] at q5)
    | (go_simp; go_at_call 31; refine (Out_any L.H L.g L.N L.arcs _ _ (by exact HF.out.gr.keep (Below.refl _ _).drew) (by exact HF.out.size)).mono ?_; rintro e w2 ⟨B, cb, rfl, ho, hb2⟩; have k1 := (hb2.cell (p := ⟨L.wv, 0, none⟩) HF.out.wv.lt).trans q2; have k2 := (hb2.cell (p := ⟨L.gv, 0, none⟩) HF.out.gv.lt).trans q3; have lw2 : L.wv < w2.heap.size := (Nat.lt_of_lt_of_le HF.out.wv.lt (by have h2 := hb2.size; simpa using h2)); have lg2 : L.gv < w2.heap.size := (Nat.lt_of_lt_of_le HF.out.gv.lt (by have h2 := hb2.size; simpa using h2))))
  all_goals
    go_wp2_with fail
    go_end0
    have hb2' : Below W.heap.size W w2 := (Below.refl _ W).drew.trans hb2
    have F2 := HF.out.below hb2'
    have hk2 : Kept (fun b => b = L.mb ∨ b = L.wv ∨ ob A = some b) w2 (w3.setCell ⟨L.wv, 0, none⟩ (.slice A3 (ps.length + 1) c3)) :=
      (((Kept.refl _ w2).alloc (.cells #[.int .i64 n, .slice B (pieceOf L.N L.arcs n 0).length cb] 102)).trans ((Kept.of_grown hgrow3).mono (fun k _ hk => .inr (.inr hk.symm)))).setCell (p := ⟨L.wv, 0, none⟩) (fun _ => .inr (.inl rfl)) _
    have hpo : (intsOf (outs L.N L.arcs n)).length = (pieceOf L.N L.arcs n 0).length := by simp [intsOf, pieceOf]
    have ha2 : ArcsR w2 tb (.slice B (pieceOf L.N L.arcs n 0).length cb) (intsOf (outs L.N L.arcs n)) := by
      rw [← hpo] at ho ⊢
      refine ArcsR.of_own (base := w.heap.size) ?_ htb
      have : W.drew.heap.size = w.heap.size := HZ.out
      rw [this] at ho
      exact ho
    refine ⟨rfl, A3, c3, ps ++ [(.int .i64 n, .slice B (pieceOf L.N L.arcs n 0).length cb)], F2.turn hk2 ?_ (by simpa using h.len) ?_ ?_ ?_, hk1.trans (Kept.trans (Kept.of_below hb2' _) hk2)⟩
    · exact ((F2.mb.alloc _).grown hgrow3 (fun e => F2.other F2.mb (by decide) e.symm)).far (p := ⟨L.wv, 0, none⟩) (F2.mb.ne_ F2.wv (by decide)) _
    · rw [List.length_append]; exact hB3.set_ 0 _
    · rw [List.length_append, wayCells_snoc]; exact own_other hown3 (own_blk_ne hown3 hB3 (by decide)) _
    · exact (F2.way.imp (fun _ _ ha => F2.arcs hk2 ha)).snoc rfl (F2.arcs hk2 ha2)
end Go.Proofs.Ytekajenmkpobgaa
