/- reach.strong: one group's search: meet, one node's work. -/
import Derived.Test.YtekajenmkpobgaaX2
set_option linter.unusedSimpArgs false
set_option linter.unusedVariables false
namespace Go.Proofs.Ytekajenmkpobgaa
open Go.RowKit

def ints (l : List Int) : Array Value := (l.map I).toArray
theorem ints_at {l : List Int} {k : Nat} {x : Int} (h : l[k]? = some x) : (ints l)[k]? = some (.int .i64 x) := by simp [ints, h, I]
theorem ints_set (l : List Int) (k : Nat) (x : Int) : (ints l).setIfInBounds k (.int .i64 x) = ints (l.set k x) := by
  unfold ints
  rw [List.setIfInBounds_toArray, List.map_set]
  rfl

/-- where a group's things lie -/
structure GSl where
  (H Hb N g ofv ofb fv gpv wv sb mtv gv : Nat)
  arcs : List ArcV
  first : Int
structure GSd (L : GSl) : Prop where
  l1 : L.ofv < L.Hb ∧ L.ofb < L.Hb ∧ L.fv < L.Hb ∧ L.gpv < L.Hb ∧ L.wv < L.Hb ∧ L.sb < L.Hb ∧ L.mtv < L.Hb ∧ L.gv < L.Hb
  l2 : L.H ≤ L.ofb ∧ L.H ≤ L.gpv ∧ L.H ≤ L.sb ∧ L.H ≤ L.Hb
  n1 : L.ofv ≠ L.gpv
  n2 : L.ofb ≠ L.fv
structure GS (L : GSl) (A : Option Addr) (c : Nat) (Ag : Option Addr) (cg : Nat) (ofl grp xs : List Int) (w0 w : World) : Prop where
  ofv : Blk w L.ofv 28 #[.slice (some ⟨L.ofb, 0, none⟩) L.N L.N]
  ofb : Blk w L.ofb 3 (ints ofl)
  len : ofl.length = L.N
  fv : Blk w L.fv 3 #[.int .i64 L.first]
  gpv : Blk w L.gpv 28 #[.slice Ag grp.length cg]
  gro : w.ownsRow L.Hb 3 1 (.slice Ag grp.length cg) grp.length (grp.map I)
  wv : Blk w L.wv 84 #[.pointer (some ⟨L.sb, 0, none⟩)]
  st : Stk w L.Hb L.sb A c xs
  mt : Blk w L.mtv 60 #[.func (.func 48) #[] #[.pointer (some ⟨L.ofv, 0, none⟩), .pointer (some ⟨L.fv, 0, none⟩), .pointer (some ⟨L.gpv, 0, none⟩), .pointer (some ⟨L.wv, 0, none⟩)]]
  gv : Blk w L.gv 50 #[.pointer (some ⟨L.g, 0, none⟩)]
  gr : Graph w L.H L.g L.N L.arcs
  k : Kept (fun b => b = L.ofb ∨ b = L.gpv ∨ b = L.sb ∨ L.Hb ≤ b) w0 w
  sz : L.Hb ≤ w.heap.size
  dis : ∀ b, ob A = some b → ob Ag ≠ some b
section
variable {L : GSl} {A : Option Addr} {c : Nat} {Ag : Option Addr} {cg : Nat} {ofl grp xs : List Int} {w0 w w' : World}
theorem GS.rowA (h : GS L A c Ag cg ofl grp xs w0 w) : ∀ b, ob A = some b → L.Hb ≤ b ∧ b < w.heap.size := fun b hb => h.st.row.lt b (by rw [ob_own]; exact hb)
theorem GS.rowG (h : GS L A c Ag cg ofl grp xs w0 w) : ∀ b, ob Ag = some b → L.Hb ≤ b ∧ b < w.heap.size := fun b hb => h.gro.lt b (by rw [ob_own]; exact hb)
theorem GS.below (d : GSd L) (h : GS L A c Ag cg ofl grp xs w0 w) (hb : Below w.heap.size w w') : GS L A c Ag cg ofl grp xs w0 w' :=
  ⟨h.ofv.below hb h.ofv.lt, h.ofb.below hb h.ofb.lt, h.len, h.fv.below hb h.fv.lt, h.gpv.below hb h.gpv.lt, own_below h.gro hb, h.wv.below hb h.wv.lt, ⟨h.st.blk.below hb h.st.blk.lt, own_below h.st.row hb⟩, h.mt.below hb h.mt.lt, h.gv.below hb h.gv.lt,
    h.gr.keep (hb.mono (by have := h.sz; have := d.l2; omega)), h.k.trans (Kept.of_below hb _), Nat.le_trans h.sz hb.size, h.dis⟩
/-- the numbers, the group and the newest turn -/
theorem GS.turn (d : GSd L) (h : GS L A c Ag cg ofl grp xs w0 w) {A' Ag' : Option Addr} {c' cg' : Nat} {ofl' grp' xs' : List Int} (hk : Kept (fun b => b = L.ofb ∨ b = L.gpv ∨ b = L.sb ∨ L.Hb ≤ b) w w')
    (h1 : Blk w' L.ofb 3 (ints ofl')) (h2 : ofl'.length = L.N) (h3 : Blk w' L.gpv 28 #[.slice Ag' grp'.length cg']) (h4 : w'.ownsRow L.Hb 3 1 (.slice Ag' grp'.length cg') grp'.length (grp'.map I)) (h5 : Stk w' L.Hb L.sb A' c' xs') (h6 : ∀ b, ob A' = some b → ob Ag' ≠ some b) :
    GS L A' c' Ag' cg' ofl' grp' xs' w0 w' := by
  obtain ⟨a1, a2, a3, a4, a5, a6, a7, a8⟩ := d.l1
  have hb : Below L.H w w' := hk.to_below (by have := h.sz; have := d.l2; omega) (by
    rintro k hk (e | e | e | e)
    · have := d.l2; omega
    · have := d.l2; omega
    · have := d.l2; omega
    · have := d.l2; omega)
  refine ⟨h.ofv.kept hk ?_, h1, h2, h.fv.kept hk ?_, h3, h4, h.wv.kept hk ?_, h5, h.mt.kept hk ?_, h.gv.kept hk ?_, h.gr.keep hb, h.k.trans hk, Nat.le_trans h.sz hk.size, h6⟩
  · rintro (e | e | e | e)
    · exact h.ofv.ne_ h.ofb (by decide) e
    · exact d.n1 e
    · exact h.ofv.ne_ h.st.blk (by decide) e
    · omega
  · rintro (e | e | e | e)
    · exact d.n2 e.symm
    · exact h.fv.ne_ h.gpv (by decide) e
    · exact h.fv.ne_ h.st.blk (by decide) e
    · omega
  · rintro (e | e | e | e)
    · exact h.wv.ne_ h.ofb (by decide) e
    · exact h.wv.ne_ h.gpv (by decide) e
    · exact h.wv.ne_ h.st.blk (by decide) e
    · omega
  · rintro (e | e | e | e)
    · exact h.mt.ne_ h.ofb (by decide) e
    · exact h.mt.ne_ h.gpv (by decide) e
    · exact h.mt.ne_ h.st.blk (by decide) e
    · omega
  · rintro (e | e | e | e)
    · exact h.gv.ne_ h.ofb (by decide) e
    · exact h.gv.ne_ h.gpv (by decide) e
    · exact h.gv.ne_ h.st.blk (by decide) e
    · omega
end

set_option maxHeartbeats 1000000 in
theorem smeet_old {L : GSl} {A : Option Addr} {c : Nat} {Ag : Option Addr} {cg : Nat} {ofl grp xs : List Int} {w0 w : World} (h : GS L A c Ag cg ofl grp xs w0 w) (n : Nat) (x : Int) (hn : ofl[n]? = some x) (hx : 0 ≤ x) :
    Calls Try.prog 48 #[.int .i64 (n : Int), .pointer (some ⟨L.ofv, 0, none⟩), .pointer (some ⟨L.fv, 0, none⟩), .pointer (some ⟨L.gpv, 0, none⟩), .pointer (some ⟨L.wv, 0, none⟩)] w fun e w' => e = .returned (.tuple #[]) ∧ w = w' := by
  have q0 := h.ofv.cell 0
  simp only [List.getElem?_toArray, List.getElem?_cons_zero] at q0
  have hl : n < L.N := by
    have := h.len
    rcases Nat.lt_or_ge n ofl.length with h | h
    · omega
    · rw [List.getElem?_eq_none h] at hn; cases hn
  have q1 := h.ofb.cell n
  rw [ints_at hn] at q1
  have hx' : ¬ x < 0 := by omega
  clear hn
  go_enter Try.func48, Try.ntmps48
  go_wp2
  go_end0
  exact ⟨rfl, rfl⟩

set_option maxRecDepth 100000 in
set_option maxHeartbeats 2000000 in
theorem smeet_new {L : GSl} (d : GSd L) {A : Option Addr} {c : Nat} {Ag : Option Addr} {cg : Nat} {ofl grp xs : List Int} {w0 w : World} (h : GS L A c Ag cg ofl grp xs w0 w) (n : Nat) (x : Int) (hn : ofl[n]? = some x) (hx : x < 0) (hl1 : grp.length ≤ 1000000000) (hl2 : xs.length ≤ 1000000000) :
    Calls Try.prog 48 #[.int .i64 (n : Int), .pointer (some ⟨L.ofv, 0, none⟩), .pointer (some ⟨L.fv, 0, none⟩), .pointer (some ⟨L.gpv, 0, none⟩), .pointer (some ⟨L.wv, 0, none⟩)] w fun e w' => e = .returned (.tuple #[]) ∧
      ∃ A' c' Ag' cg', GS L A' c' Ag' cg' (ofl.set n L.first) (grp ++ [(n : Int)]) (xs ++ [(n : Int)]) w0 w' ∧ Kept (fun b => b = L.ofb ∨ b = L.gpv ∨ b = L.sb ∨ ob A = some b ∨ ob Ag = some b) w w' ∧
        (∀ b, ob A' = some b ∨ ob Ag' = some b → ob A = some b ∨ ob Ag = some b ∨ w.heap.size ≤ b) := by
  obtain ⟨a1, a2, a3, a4, a5, a6, a7, a8⟩ := d.l1
  have q0 := h.ofv.cell 0
  have q2 := h.fv.cell 0
  have q3 := h.gpv.cell 0
  have q4 := h.wv.cell 0
  have f3 := h.gpv.frozen 0
  simp only [List.getElem?_toArray, List.getElem?_cons_zero] at q0 q2 q3 q4
  have hl : n < L.N := by
    have := h.len
    rcases Nat.lt_or_ge n ofl.length with h | h
    · omega
    · rw [List.getElem?_eq_none h] at hn; cases hn
  have q1 := h.ofb.cell n
  rw [ints_at hn] at q1
  have f1 := h.ofb.frozen n
  obtain ⟨i0, hi, hz0, hz1, hz2⟩ := info_parts Try.info3
  have n1 : ¬ L.ofb = L.gpv := h.ofb.ne_ h.gpv (by decide)
  have n2 : ¬ L.ofb = L.wv := h.ofb.ne_ h.wv (by decide)
  have n3 : ¬ L.gpv = L.wv := h.gpv.ne_ h.wv (by decide)
  have n4 : ¬ L.gpv = L.sb := h.gpv.ne_ h.st.blk (by decide)
  have n5 : ¬ L.ofb = L.sb := h.ofb.ne_ h.st.blk (by decide)
  -- behind the first store
  have rA := h.rowA
  have rG := h.rowG
  have g1 := own_other h.gro (p := ⟨L.ofb, n, none⟩) (by rw [ob_own]; intro e; have := (rG _ e).1; simp at this; omega) (.int .i64 L.first)
  have b1 := h.gpv.far (p := ⟨L.ofb, n, none⟩) (fun e => n1 e.symm) (.int .i64 L.first)
  have o1 := h.ofb.set_ n (.int .i64 L.first)
  have w1b := h.wv.far (p := ⟨L.ofb, n, none⟩) (fun e => n2 e.symm) (.int .i64 L.first)
  have hz : (w.setCell ⟨L.ofb, n, none⟩ (.int .i64 L.first)).heap.size = w.heap.size := by simp [World.setCell]
  have s1 : Stk (w.setCell ⟨L.ofb, n, none⟩ (.int .i64 L.first)) L.Hb L.sb A c xs := ⟨h.st.blk.far (p := ⟨L.ofb, n, none⟩) (fun e => n5 e.symm) _, own_other h.st.row (p := ⟨L.ofb, n, none⟩) (by rw [ob_own]; intro e; have := (rA _ e).1; simp at this; omega) _⟩
  have k1 : Kept (fun b => b = L.ofb ∨ b = L.gpv ∨ b = L.sb ∨ ob A = some b ∨ ob Ag = some b) w (w.setCell ⟨L.ofb, n, none⟩ (.int .i64 L.first)) := (Kept.refl _ w).setCell (p := ⟨L.ofb, n, none⟩) (fun _ => .inl rfl) _
  have HX := Lib.hid hn
  clear hn
  go_enter Try.func48, Try.ntmps48
  go_upto_region 2 with fail
  generalize w.setCell ⟨L.ofb, n, none⟩ (.int .i64 L.first) = W at *
  clear q0 q1 q2 q3 q4 f1 f3
  have q3 := b1.cell 0
  have f3 := b1.frozen 0
  simp only [List.getElem?_toArray, List.getElem?_cons_zero] at q3
  have HZ := Lib.hid hz
  clear hz
  go_wp2_with (at_builtin; refine wpList_append_own_at _ rfl _ _ 28 rfl L.Hb 3 i0 (.int .i64 0) 1 8 Try.underlying28 hi hz0 hz1 hz2 rfl (by decide) _ _ _ rfl (g1.alloc _) ⟨W.heap.size, 0, none⟩ 1 1 [.int .i64 (n : Int)] rfl rfl ?c1 ?c2 ?c3 ?c4 ?c5 ?_)
  case c1 => exact cell_one_new _ _ _
  case c2 => simp [Value.oneCell']
  case c3 => unfold maxLen; omega
  case c4 => omega
  case c5 => have := h.sz; have := HZ.out; simp; omega
  intro v' w2 hown hgrow _ hat
  rw [ob_own] at hat hgrow
  obtain ⟨Ag', cg', rfl⟩ := own_form hown
  rw [ob_own] at hat
  have hB2 := (b1.alloc (.cells #[.int .i64 (n : Int)] 3)).grown hgrow (fun e => by have := (rG _ e.symm).1; omega)
  have o2 := (o1.alloc (.cells #[.int .i64 (n : Int)] 3)).grown hgrow (fun e => by have := (rG _ e.symm).1; omega)
  have w2b := (w1b.alloc (.cells #[.int .i64 (n : Int)] 3)).grown hgrow (fun e => by have := (rG _ e.symm).1; omega)
  have s2 : Stk w2 L.Hb L.sb A c xs := ⟨(s1.blk.alloc (.cells #[.int .i64 (n : Int)] 3)).grown hgrow (fun e => by have := (rG _ e.symm).1; omega), own_kept (s1.row.alloc (.cells #[.int .i64 (n : Int)] 3)) (Kept.of_grown hgrow) (fun b hb e => h.dis b (by rw [ob_own] at hb; exact hb) e.symm)⟩
  have k2 : Kept (fun b => b = L.ofb ∨ b = L.gpv ∨ b = L.sb ∨ ob A = some b ∨ ob Ag = some b) w w2 := k1.trans (((Kept.refl _ W).alloc (.cells #[.int .i64 (n : Int)] 3)).trans ((Kept.of_grown hgrow).mono (fun b _ e => .inr (.inr (.inr (.inr e.symm))))))
  have hat' : ∀ b, ob Ag' = some b → ob Ag = some b ∨ w.heap.size ≤ b := fun b hb => by
    rcases hat with e | e
    · exact .inl (by rw [← e]; exact hb)
    · rw [hb] at e; cases e; right; have := HZ.out; omega
  have dis2 : ∀ b, ob A = some b → ob Ag' ≠ some b := fun b hb e => by
    rcases hat' b e with h1 | h1
    · exact h.dis b hb h1
    · have := (rA b hb).2; omega
  have rG2 : ∀ b, ob Ag' = some b → L.Hb ≤ b := fun b hb => (hown.lt b (by rw [ob_own]; exact hb)).1
  -- behind the second store
  have b3 := hB2.set_ 0 (.slice Ag' (grp.length + 1) cg')
  have o3 := o2.far (p := ⟨L.gpv, 0, none⟩) n1 (.slice Ag' (grp.length + 1) cg')
  have w3b := w2b.far (p := ⟨L.gpv, 0, none⟩) (fun e => n3 e.symm) (.slice Ag' (grp.length + 1) cg')
  have g3 := own_other hown (p := ⟨L.gpv, 0, none⟩) (by rw [ob_own]; intro e; have := rG2 _ e; simp at this; omega) (.slice Ag' (grp.length + 1) cg')
  have s3 : Stk (w2.setCell ⟨L.gpv, 0, none⟩ (.slice Ag' (grp.length + 1) cg')) L.Hb L.sb A c xs := ⟨s2.blk.far (p := ⟨L.gpv, 0, none⟩) (fun e => n4 e.symm) _, own_other s2.row (p := ⟨L.gpv, 0, none⟩) (by rw [ob_own]; intro e; have := (rA _ e).1; simp at this; omega) _⟩
  have k3 := k2.setCell (p := ⟨L.gpv, 0, none⟩) (fun _ => .inr (.inl rfl)) (.slice Ag' (grp.length + 1) cg')
  clear q3 f3
  have q3 := hB2.cell 0
  have f3 := hB2.frozen 0
  have q4 := w2b.cell 0
  simp only [List.getElem?_toArray, List.getElem?_cons_zero] at q3 q4
  have HS3 := Lib.hid s3
  have hz3 : w.heap.size ≤ (w2.setCell ⟨L.gpv, 0, none⟩ (.slice Ag' (grp.length + 1) cg')).heap.size := k3.size
  go_wp2_with fail
  refine (put_any _ L.Hb L.sb c A xs n HS3.out (Nat.le_trans h.sz hz3) hl2).mono ?_
  rintro e w4 ⟨rfl, A', c', hs4, hk4, hg4⟩
  clear q3 q4 f3
  go_wp2_with fail
  go_end0
  have k4 : Kept (fun b => b = L.ofb ∨ b = L.gpv ∨ b = L.sb ∨ ob A = some b ∨ ob Ag = some b) w w4 := k3.trans (hk4.mono (fun b _ e => by
    rcases e with e | e
    · exact .inr (.inr (.inl e))
    · exact .inr (.inr (.inr (.inl e)))))
  have k5 : Kept (fun b => b = L.ofb ∨ b = L.gpv ∨ b = L.sb ∨ L.Hb ≤ b) w w4 := k4.mono (fun b _ e => by
    rcases e with e | e | e | e | e
    · exact .inl e
    · exact .inr (.inl e)
    · exact .inr (.inr (.inl e))
    · exact .inr (.inr (.inr (rA b e).1))
    · exact .inr (.inr (.inr (rG b e).1)))
  have hgl : (grp ++ [(n : Int)]).length = grp.length + 1 := by simp
  refine ⟨rfl, A', c', Ag', cg', h.turn d k5 ?_ (by simpa using h.len) ?_ ?_ hs4 ?_, k4, ?_⟩
  · rw [← ints_set]
    exact o3.kept hk4 (by rintro (e | e); exact n5 e; have := (rA _ e).1; omega)
  · rw [hgl]
    exact b3.kept hk4 (by rintro (e | e); exact n4 e; have := (rA _ e).1; omega)
  · rw [hgl, List.map_append]
    exact own_kept g3 hk4 (by
      intro b hb
      rw [ob_own] at hb
      rintro (e | e)
      · have := rG2 b hb; omega
      · exact dis2 b e hb)
  · intro b hb e
    rcases hg4 b hb with h1 | h1
    · exact dis2 b h1 e
    · have := (g3.lt b (by rw [ob_own]; exact e)).2
      omega
  · rintro b (hb | hb)
    · rcases hg4 b hb with h1 | h1
      · exact .inl h1
      · exact .inr (.inr (Nat.le_trans hz3 h1))
    · rcases hat' b hb with h1 | h1
      · exact .inr (.inl h1)
      · exact .inr (.inr h1)
end Go.Proofs.Ytekajenmkpobgaa
