/- reach.strong -/
import Derived.Test.YtekajenmkpobgaaZ
set_option linter.unusedSimpArgs false
set_option linter.unusedVariables false
namespace Go.Proofs.Ytekajenmkpobgaa
open Go.RowKit Go.Shelf
attribute [local go_sem] Oper.semAt_some

theorem intsRep (N : Nat) : madeCells #[.int .i64 0] N = ints (List.replicate N 0) := by
  apply Array.ext
  · simp [madeCells, ints]
  · intro j h1 h2
    simp [madeCells, ints, I, Nat.mod_one]
theorem rep_step (N k : Nat) (hk : k < N) : (List.replicate k (-1 : Int) ++ List.replicate (N - k) 0).set k (-1) = List.replicate (k + 1) (-1) ++ List.replicate (N - (k + 1)) 0 := by
  apply List.ext_getElem?
  intro j
  by_cases e : j = k
  · subst e
    rw [List.getElem?_set_self (by simp; omega), List.getElem?_append_left (by simp), List.getElem?_replicate, if_pos (by omega)]
  · rw [List.getElem?_set_ne (fun h => e h.symm)]
    rcases Nat.lt_or_ge j k with h | h
    · rw [List.getElem?_append_left (by simpa using h), List.getElem?_append_left (by simp; omega), List.getElem?_replicate, List.getElem?_replicate, if_pos h, if_pos (by omega)]
    · rw [List.getElem?_append_right (by simpa using h), List.getElem?_append_right (by simp; omega), List.getElem?_replicate, List.getElem?_replicate]
      simp only [List.length_replicate]
      by_cases h2 : j < N
      · rw [if_pos (by omega), if_pos (by omega)]
      · rw [if_neg (by omega), if_neg (by omega)]

/-- while a group is searched -/
def QInv (L : GSl) (of0 : List Int) (w0 : World) (k : Nat) (w : World) : Prop := ∃ (A : Option Addr) (c : Nat) (Ag : Option Addr) (cg : Nat) (s : SSt), GS L A c Ag cg s.1 s.2.1 s.2.2 w0 w ∧ GInv L.N L.arcs of0 L.first s ∧ s.2.1.length + nfc s.1 ≤ 1000000000 ∧ s.2.2.length + nfc s.1 ≤ 1000000000 ∧ k = s.2.2.length + 2 * nfc s.1
def QMid (L : GSl) (of0 : List Int) (w0 : World) (k : Nat) (x : Int) (w : World) : Prop := ∃ (A : Option Addr) (c : Nat) (Ag : Option Addr) (cg : Nat) (ofl grp ys : List Int), GS L A c Ag cg ofl grp ys w0 w ∧ GInv L.N L.arcs of0 L.first (ofl, grp, ys ++ [x]) ∧ grp.length + nfc ofl ≤ 1000000000 ∧ ys.length + 1 + nfc ofl ≤ 1000000000 ∧ k = ys.length + 1 + 2 * nfc ofl
def QDone (L : GSl) (of0 : List Int) (w0 : World) (w : World) : Prop := ∃ (A : Option Addr) (c : Nat) (Ag : Option Addr) (cg : Nat) (ofl grp : List Int), GS L A c Ag cg ofl grp [] w0 w ∧ GInv L.N L.arcs of0 L.first (ofl, grp, []) ∧ grp.length ≤ 1000000000
theorem qnext_any {L : GSl} (d : GSd L) (of0 : List Int) (w0 : World) (k : Nat) (w : World) (h : QInv L of0 w0 k w) :
    Calls Try.prog 91 #[.pointer (some ⟨L.sb, 0, none⟩)] w fun e w' => (e = .returned (.tuple #[.int .i64 0, .bool false]) ∧ QDone L of0 w0 w') ∨ ∃ x, e = .returned (.tuple #[.int .i64 x, .bool true]) ∧ QMid L of0 w0 k x w' := by
  obtain ⟨A, c, Ag, cg, ⟨ofl, grp, xs⟩, hS, hR, hl1, hl2, hk⟩ := h
  simp only at hS hl1 hl2 hk
  rcases List.eq_nil_or_concat xs with rfl | ⟨ys, x, rfl⟩
  · refine (next_none w L.Hb L.sb c A hS.st).mono ?_
    rintro e w' ⟨he, rfl⟩
    exact .inl ⟨he, A, c, Ag, cg, ofl, grp, hS, hR, by omega⟩
  · rw [List.concat_eq_append] at *
    simp only [List.length_append, List.length_cons, List.length_nil] at hl2 hk
    refine (next_some w L.Hb L.sb c A ys x hS.st (by omega)).mono ?_
    rintro e w' ⟨he, hst, hkp⟩
    refine .inr ⟨x, he, A, c, Ag, cg, ofl, grp, ys, ?_, hR, hl1, by omega, by omega⟩
    have hkp' : Kept (fun b => b = L.ofb ∨ b = L.gpv ∨ b = L.sb ∨ L.Hb ≤ b) w w' := hkp.mono (fun b _ e => .inr (.inr (.inl e)))
    refine hS.turn d hkp' (hS.ofb.kept hkp (fun e => hS.ofb.ne_ hS.st.blk (by decide) e)) hS.len (hS.gpv.kept hkp (fun e => hS.gpv.ne_ hS.st.blk (by decide) e)) (own_kept hS.gro hkp (fun b hb e => ?_)) hst hS.dis
    exact own_blk_ne hS.gro hS.st.blk (by decide) (by rw [hb, e])
theorem qdo_any {L : GSl} (d : GSd L) (hf : 0 ≤ L.first) (of0 : List Int) (w0 : World) (k : Nat) (x : Int) (w : World) (h : QMid L of0 w0 k x w) :
    Calls Try.prog 50 #[.int .i64 x, .pointer (some ⟨L.gv, 0, none⟩), .pointer (some ⟨L.mtv, 0, none⟩)] w fun e w' => e = .returned (.tuple #[]) ∧ ∃ k', k' < k ∧ QInv L of0 w0 k' w' := by
  obtain ⟨A, c, Ag, cg, ofl, grp, ys, hS, hR, hl1, hl2, hk⟩ := h
  refine (strong2_any d hf (s := (ofl, grp, ys)) hS hl1 (by simp only; omega) x).mono ?_
  rintro e w' ⟨he, A', c', Ag', cg', hS'⟩
  obtain ⟨r1, r2, r3⟩ := sAll_room L.first hf (nb1 L.N L.arcs x) (ofl, grp, ys)
  simp only at r1 r2 r3
  exact ⟨he, _, by omega, A', c', Ag', cg', _, hS', hR.step hf, by omega, by omega, rfl⟩

/-- where a round's things lie -/
def gsl (h hb N g bx : Nat) (arcs : List ArcV) (first : Int) : GSl := { H := h, Hb := hb + 1 + 1 + 1 + 1, N := N, g := g, ofv := h + 1 + 1, ofb := h + 1, fv := bx, gpv := hb, wv := hb + 1 + 1, sb := hb + 1, mtv := hb + 1 + 1 + 1, gv := h, arcs := arcs, first := first }

/-- between two rounds -/
def StI (N g B0 : Nat) (arcs : List ArcV) (told : List Int) (w : World) (pre : List (BA N)) (W : World) : Prop :=
  ∃ ofl, (Blk W w.heap.size 50 #[.pointer (some ⟨g, 0, none⟩)] ∧ Blk W (w.heap.size + 1) 3 (ints ofl) ∧ Blk W (w.heap.size + 1 + 1) 28 #[.slice (some ⟨w.heap.size + 1, 0, none⟩) N N]) ∧
    SVal N ofl ∧ ((∃ rest, told.reverse = pre.map (·.1.2) ++ rest) → SOk N arcs (pre.map (·.1.2)) ofl) ∧ Below w.heap.size w W ∧ B0 ≤ W.heap.size
theorem Blk.ownFrom {W W' : World} {row : Option Nat} {b : Nat} {t : TypeId} {cs : Array Value} (h : Blk W b t cs) (hg : W.grownBy W' row) (hr : ∀ r, row = some r → ∃ o : Obj, W.heap[r]? = some o ∧ o.isCells = false) : Blk W' b t cs := by
  refine h.grown hg (fun e => ?_)
  obtain ⟨o, ho, hc⟩ := hr b e.symm
  unfold Blk at h
  rw [h] at ho
  cases ho
  cases hc
theorem StI.own (N g B0 : Nat) (arcs : List ArcV) (told : List Int) (w : World) (B : Nat) (hB : w.heap.size ≤ B) : OwnFrom B (StI N g B0 arcs told w) := by
  rintro pre W W' row ⟨ofl, ⟨h1, h2, h3⟩, h4, h5, h6, h7⟩ hg hr
  have hr' : ∀ r, row = some r → ∃ o : Obj, W.heap[r]? = some o ∧ o.isCells = false := fun r e => (hr r e).2
  exact ⟨ofl, ⟨h1.ownFrom hg hr', h2.ownFrom hg hr', h3.ownFrom hg hr'⟩, h4, h5, h6.grown hg h6.size (fun k e => by have := (hr k e).1; omega), Nat.le_trans h7 hg.size⟩

set_option maxRecDepth 100000 in
set_option maxHeartbeats 4000000 in
theorem strong_in (n : Nat) (hn : 6 ≤ n) (H g N : Nat) (arcs : List ArcV) (w : World) (hG : Graph w H g N arcs) (hH : H ≤ w.heap.size) :
    CallsIn Fence.wide n Try.prog 33 #[.pointer (some ⟨g, 0, none⟩)] w fun e w' => ∃ ofb ofl, e = .returned (.slice (some ⟨ofb, 0, none⟩) N N) ∧ Blk w' ofb 3 (ints ofl) ∧ w.heap.size ≤ ofb ∧ SVal N ofl ∧ (∀ v, hasB N v = true → ∃ m, ofl[v.toNat]? = some m ∧ IsLow N arcs v m) ∧ Below w.heap.size w w' := by
  have h1 : 1 ≤ n := by omega
  have hmf : ∀ (fn : Fn) (first cap : Array Value) (w : World), (Instr.makeFunc fn first cap).run Try.prog w = .ok (.func fn first cap) w := fun _ _ _ _ => rfl
  have hNN := hG.small.1
  have hmk := make_rowN N (by omega)
  rw [intsRep] at hmk
  have HG := Lib.hid hG
  clear hG
  refine callsIn_of_wp_marks Try.func33 rfl trivial ?_ rfl
  simp only [Try.ntmps33, List.size_toArray, List.length_cons, List.length_nil, Nat.reduceAdd, Nat.reduceSub, Array.replicate_succ, Array.replicate_zero, List.push_toArray, List.append_toArray, List.nil_append, List.cons_append]
  gi_wp2_with fail
  refine ⟨trivial, (callsIn_wide.2 (Nodes_any H g N arcs _ (HG.out.a.keep ?_))).mono ?_⟩
  · exact (Below.refl _ _).alloc hH _
  rintro e w1 ⟨rfl, rfl⟩
  gi_wp2_with fail
  have hgv : Blk (((w.alloc (.cells #[.pointer (some ⟨g, 0, none⟩)] 50)).alloc (.cells (ints (List.replicate N 0)) 3)).alloc (.cells #[.slice (some ⟨w.heap.size + 1, 0, none⟩) N N] 28)) w.heap.size 50 #[.pointer (some ⟨g, 0, none⟩)] := ((blk_newN _ _ _ w.heap.size rfl).alloc _).alloc _
  have hofb : Blk (((w.alloc (.cells #[.pointer (some ⟨g, 0, none⟩)] 50)).alloc (.cells (ints (List.replicate N 0)) 3)).alloc (.cells #[.slice (some ⟨w.heap.size + 1, 0, none⟩) N N] 28)) (w.heap.size + 1) 3 (ints (List.replicate N 0)) := (blk_newN _ _ _ (w.heap.size + 1) (by simp)).alloc _
  have hofv : Blk (((w.alloc (.cells #[.pointer (some ⟨g, 0, none⟩)] 50)).alloc (.cells (ints (List.replicate N 0)) 3)).alloc (.cells #[.slice (some ⟨w.heap.size + 1, 0, none⟩) N N] 28)) (w.heap.size + 1 + 1) 28 #[.slice (some ⟨w.heap.size + 1, 0, none⟩) N N] := blk_newN _ _ _ (w.heap.size + 1 + 1) (by simp)
  have hb0 : Below w.heap.size w (((w.alloc (.cells #[.pointer (some ⟨g, 0, none⟩)] 50)).alloc (.cells (ints (List.replicate N 0)) 3)).alloc (.cells #[.slice (some ⟨w.heap.size + 1, 0, none⟩) N N] 28)) := (((Below.refl _ w).alloc (Nat.le_refl _) _).alloc (by simp) _).alloc (by simp; omega) _
  generalize hWW : (((w.alloc (.cells #[.pointer (some ⟨g, 0, none⟩)] 50)).alloc (.cells (ints (List.replicate N 0)) 3)).alloc (.cells #[.slice (some ⟨w.heap.size + 1, 0, none⟩) N N] 28)) = W at *
  clear hWW hmk
  gi_loopw [20] (fun i wr => ∃ k : Nat, k ≤ N ∧ i = .int .i64 k ∧ Blk wr w.heap.size 50 #[.pointer (some ⟨g, 0, none⟩)] ∧ Blk wr (w.heap.size + 1) 3 (ints (List.replicate k (-1) ++ List.replicate (N - k) 0)) ∧ Blk wr (w.heap.size + 1 + 1) 28 #[.slice (some ⟨w.heap.size + 1, 0, none⟩) N N] ∧ Below w.heap.size w wr) (fun i _ => N - (intOf i).toNat)
  case atStart => exact ⟨0, Nat.zero_le _, rfl, hgv, by simpa using hofb, hofv, hb0⟩
  case round =>
    clear hgv hofb hofv hb0
    obtain ⟨k, hk, rfl, hgv, hofb, hofv, hb0⟩ := hrel
    by_cases hlt : k < N
    · have q1 := hofv.cell 0
      simp only [List.getElem?_toArray, List.getElem?_cons_zero] at q1
      have q2 : ∃ u, wr.cell? ⟨w.heap.size + 1, k, none⟩ = some u := by
        rw [hofb.cell]; exact ⟨_, Array.getElem?_eq_getElem (by simp [ints]; omega)⟩
      obtain ⟨u, q2⟩ := q2
      have f2 := hofb.frozen k
      gi_wp2_with fail
      go_roundw
      case rel =>
        refine ⟨k + 1, by omega, by go_num, hgv.far (p := ⟨w.heap.size + 1, k, none⟩) (by simp) _, ?_, hofv.far (p := ⟨w.heap.size + 1, k, none⟩) (by simp) _, hb0.setCell (p := ⟨w.heap.size + 1, k, none⟩) (by simp) _⟩
        rw [← rep_step N k hlt, ← ints_set]
        exact hofb.set_ k _
      case measure => simp [intOf]; omega
    · have hkN : k = N := by omega
      subst hkN
      simp only [Nat.sub_self, List.replicate_zero, List.append_nil] at hofb
      have q1 := hgv.cell 0
      simp only [List.getElem?_toArray, List.getElem?_cons_zero] at q1
      gi_wp2_with fail
      refine ⟨trivial, (callsIn_wide.2 (finished_any w.heap.size g k arcs wr ((HG.out.more hH).keep hb0) hb0.size)).mono ?_⟩
      rintro e w1 ⟨At, ct, told, rfl, ht, hF, hb1⟩
      clear q1
      gi_wp2_with fail
      refine ⟨trivial, (callsIn_wide.2 (Backward_any At told.length ct w1)).mono ?_⟩
      rintro e w2 ⟨rfl, rfl⟩
      gi_wp2_with fail
      have hsz1 := hb1.size
      have hmem : ∀ v ∈ told, hasB k v = true := fun v hv => (hF.mem v).1 hv
      have htl : told.length ≤ 1000000000 := by have := perm_len hF.nd hmem; omega
      have hgv1 := (hgv.below hb1 hgv.lt).alloc (.cells #[.slice At told.length ct] 28)
      have hofb1 := (hofb.below hb1 hofb.lt).alloc (.cells #[.slice At told.length ct] 28)
      have hofv1 := (hofv.below hb1 hofv.lt).alloc (.cells #[.slice At told.length ct] 28)
      have hbx1 := Blk.new w1 28 #[.slice At told.length ct]
      have hb2 : Below w.heap.size w (w1.alloc (.cells #[.slice At told.length ct] 28)) := (hb0.trans (hb1.mono hb0.size)).alloc (by have := hb0.size; omega) _
      have htr := (Reads.of_own ht)
      have hWz : (w1.alloc (.cells #[.slice At told.length ct] 28)).heap.size = w1.heap.size + 1 := by simp
      have hbb := hb0.size
      have hlb : w.heap.size + 1 + 1 < wr.heap.size := hofv.lt
      have htb : ∀ b, ob At = some b → wr.heap.size ≤ b ∧ b < w1.heap.size := fun b hb => ht.lt b (by rw [ob_own]; exact hb)
      obtain ⟨W0, hW0⟩ : ∃ W0, w1.alloc (.cells #[.slice At told.length ct] 28) = W0 := ⟨_, rfl⟩
      have hrow0 : 0 < told.length → ∃ tb, At = some ⟨tb, 0, none⟩ ∧ tb < W0.heap.size ∧ (tb = w1.heap.size ∨ ob At = some tb) ∧ ∀ (j : Nat) x, told[j]? = some x → W0.cell? ⟨tb, j, none⟩ = some (.int .i64 x) := by
        intro hp
        rcases ht.2 with ⟨_, h2⟩ | ⟨g', cap, cur, h2, h3, h4, h5, h6, h7, h8⟩
        · omega
        · have hA : At = some ⟨g', 0, none⟩ := by injection h2
          refine ⟨g', hA, ?_, .inr (by rw [hA]; rfl), fun j x hj => ?_⟩
          · have := (htb g' (by rw [hA]; rfl)).2; rw [← hW0, hWz]; omega
          · have h9 := (ht.alloc (.cells #[.slice At told.length ct] 28)).cells (g := g') (by rw [hA]; rfl) j (I x) (by simp [hj])
            rw [hW0, add_lit, Nat.zero_add] at h9
            exact h9
      rw [hW0] at hgv1 hofb1 hofv1 hbx1 hb2 hWz ⊢
      clear hW0
      refine wpIn_rangeFunc_ownH rfl h1 (gf := 63) (lb := #[.pointer (some ⟨w1.heap.size, 0, none⟩)]) rfl trivial (enters_of Try.func63 (by kernel_rfl) rfl)
        (back_stops (n - 1) (by omega) k w1.heap.size At ct told hmem htl (fun b => b = w1.heap.size ∨ ob At = some b) (.inl rfl) W0 (by omega) (hbx1.cell 0) hrow0) KeepSet.trans (fun W l o o' hl _ _ _ b hb => by
          refine World.putObj_heap_other (fun e => ?_)
          rcases hb with h | h
          · omega
          · have := (htb b h).2; omega) (Below.refl _ _) (fun _ => rfl)
        (StI k g W0.heap.size arcs told w) (fun _ _ _ => False) (StI.own k g _ arcs told w _ (by omega)) (fun _ _ _ _ _ hs _ _ => hs)
        ⟨_, ⟨hgv1, hofb1, hofv1⟩, SVal.start k, fun _ => SOk.start k arcs, hb2, Nat.le_refl _⟩
        (fun x a' W => ∃ Bx, W0.heap.size ≤ Bx ∧ Blk W Bx 3 #[.int .i64 x.1.2] ∧ a' = { tmps := #[.pointer (some ⟨g, 0, none⟩), .pointer (some ⟨w.heap.size, 0, none⟩), .slice none 0 0, .pointer (some ⟨w.heap.size + 1 + 1, 0, none⟩), u4, undef, .pointer (some ⟨Bx, 0, none⟩), undef, undef, undef, undef, undef, undef, undef, undef, .pointer (some ⟨g, 0, none⟩), .int .i64 k, .slice (some ⟨w.heap.size + 1, 0, none⟩) k k, .slice (some ⟨w.heap.size + 1, 0, none⟩) k k, .int .i64 k, .int .i64 k, .bool false, u22, u23, u24, u25, u26, .pointer (some ⟨g, 0, none⟩), .slice At told.length ct, .func (.func 63) #[] #[.pointer (some ⟨w1.heap.size, 0, none⟩)], .int .i64 x.1.1, .int .i64 x.1.2,
          undef, undef, undef, undef, undef, undef, undef, undef, undef, undef, undef, undef, undef, undef, undef, undef, undef, undef, undef, undef, undef, undef, undef, undef, undef, undef, undef, undef, undef, undef, undef, undef, undef], defers := [] })
        (fun x a' _ X Y row hs hg hr => by obtain ⟨Bx, h1, h2, h3⟩ := hs; exact ⟨Bx, h1, h2.ownFrom hg (fun r e => (hr r e).2), h3⟩)
        ?assign ?body ?done ?stop
      case assign =>
        rintro l pre x W K hI hK
        gi_wp2
        have hW7 : W0.heap.size ≤ W.heap.size := by obtain ⟨ofl, _, _, _, _, h7⟩ := hI; exact h7
        refine hK _ _ ((KeepsOthers.alloc _ _).from _) (fun b hb => ?_) ((StI.own k g _ arcs told w W0.heap.size (by omega)).alloc _ hI) ⟨W.heap.size, hW7, Blk.new W 3 _, rfl⟩
        refine Below.heap_alloc W _ b ?_
        rcases hb with h | h
        · omega
        · have := (htb b h).2; omega
      case body =>
        rintro l pre x a' W hl ⟨r, hr⟩ ⟨ofl, ⟨c1, c2, c3⟩, hV, hO, hB, hW7⟩ ⟨Bx, hBx, bX, rfl⟩ hlt'
        have h1' : 1 ≤ n - 1 - 1 := by omega
        obtain ⟨⟨x1, first⟩, hxb⟩ := x
        simp only at bX ⊢
        have hfirst : 0 ≤ first := by simp [hasB] at hxb; omega
        have hWs := hB.size
        have lx := bX.lt
        have d : GSd (gsl w.heap.size W.heap.size k g Bx arcs first) := ⟨by simp [gsl]; omega, by simp [gsl]; omega, by simp [gsl]; omega, by simp [gsl]; omega⟩
        have hS : GS (gsl w.heap.size W.heap.size k g Bx arcs first) none 0 none 0 ofl [] [] ((((W.alloc (.cells #[.slice none 0 0] 28)).alloc (.cells #[.slice none 0 0] 86)).alloc (.cells #[.pointer (some ⟨W.heap.size + 1, 0, none⟩)] 84)).alloc (.cells #[.func (.func 48) #[] #[.pointer (some ⟨w.heap.size + 1 + 1, 0, none⟩), .pointer (some ⟨Bx, 0, none⟩), .pointer (some ⟨W.heap.size, 0, none⟩), .pointer (some ⟨W.heap.size + 1 + 1, 0, none⟩)]] 60))
            ((((W.alloc (.cells #[.slice none 0 0] 28)).alloc (.cells #[.slice none 0 0] 86)).alloc (.cells #[.pointer (some ⟨W.heap.size + 1, 0, none⟩)] 84)).alloc (.cells #[.func (.func 48) #[] #[.pointer (some ⟨w.heap.size + 1 + 1, 0, none⟩), .pointer (some ⟨Bx, 0, none⟩), .pointer (some ⟨W.heap.size, 0, none⟩), .pointer (some ⟨W.heap.size + 1 + 1, 0, none⟩)]] 60)) := by
          have hB4 : Below w.heap.size w ((((W.alloc (.cells #[.slice none 0 0] 28)).alloc (.cells #[.slice none 0 0] 86)).alloc (.cells #[.pointer (some ⟨W.heap.size + 1, 0, none⟩)] 84)).alloc (.cells #[.func (.func 48) #[] #[.pointer (some ⟨w.heap.size + 1 + 1, 0, none⟩), .pointer (some ⟨Bx, 0, none⟩), .pointer (some ⟨W.heap.size, 0, none⟩), .pointer (some ⟨W.heap.size + 1 + 1, 0, none⟩)]] 60)) :=
            (((hB.alloc hWs _).alloc (by simp; omega) _).alloc (by simp; omega) _).alloc (by simp; omega) _
          exact ⟨(((c3.alloc _).alloc _).alloc _).alloc _, (((c2.alloc _).alloc _).alloc _).alloc _, hV.1, (((bX.alloc _).alloc _).alloc _).alloc _, (((blk_newN _ _ _ W.heap.size rfl).alloc _).alloc _).alloc _, World.ownsRow_nil _ _ _ _, (blk_newN _ _ _ (W.heap.size + 1 + 1) (by simp)).alloc _,
            ⟨((blk_newN _ _ _ (W.heap.size + 1) (by simp)).alloc _).alloc _, World.ownsRow_nil _ _ _ _⟩, blk_newN _ _ _ (W.heap.size + 1 + 1 + 1) (by simp), (((c1.alloc _).alloc _).alloc _).alloc _, (HG.out.more hH).keep hB4, Kept.refl _ _, by simp [gsl], fun b hb => by cases hb⟩
        have hK4 : Kept (fun _ => False) W ((((W.alloc (.cells #[.slice none 0 0] 28)).alloc (.cells #[.slice none 0 0] 86)).alloc (.cells #[.pointer (some ⟨W.heap.size + 1, 0, none⟩)] 84)).alloc (.cells #[.func (.func 48) #[] #[.pointer (some ⟨w.heap.size + 1 + 1, 0, none⟩), .pointer (some ⟨Bx, 0, none⟩), .pointer (some ⟨W.heap.size, 0, none⟩), .pointer (some ⟨W.heap.size + 1 + 1, 0, none⟩)]] 60)) := ((((Kept.refl (fun _ => False) W).alloc _).alloc _).alloc _).alloc _
        have hz4 : ((((W.alloc (.cells #[.slice none 0 0] 28)).alloc (.cells #[.slice none 0 0] 86)).alloc (.cells #[.pointer (some ⟨W.heap.size + 1, 0, none⟩)] 84)).alloc (.cells #[.func (.func 48) #[] #[.pointer (some ⟨w.heap.size + 1 + 1, 0, none⟩), .pointer (some ⟨Bx, 0, none⟩), .pointer (some ⟨W.heap.size, 0, none⟩), .pointer (some ⟨W.heap.size + 1 + 1, 0, none⟩)]] 60)).heap.size = W.heap.size + 1 + 1 + 1 + 1 := by simp
        have HS := Lib.hid hS
        have HK4 := Lib.hid hK4
        have HZ4 := Lib.hid hz4
        clear hS hK4 hz4
        have qx := bX.cell 0
        simp only [List.getElem?_toArray, List.getElem?_cons_zero] at qx
        have lx1 : Bx < W.heap.size + 1 := by omega
        have lx2 : Bx < W.heap.size + 1 + 1 := by omega
        have lx3 : Bx < W.heap.size + 1 + 1 + 1 := by omega
        gi_wp2_with fail
        generalize hW4 : ((((W.alloc (.cells #[.slice none 0 0] 28)).alloc (.cells #[.slice none 0 0] 86)).alloc (.cells #[.pointer (some ⟨W.heap.size + 1, 0, none⟩)] 84)).alloc (.cells #[.func (.func 48) #[] #[.pointer (some ⟨w.heap.size + 1 + 1, 0, none⟩), .pointer (some ⟨Bx, 0, none⟩), .pointer (some ⟨W.heap.size, 0, none⟩), .pointer (some ⟨W.heap.size + 1 + 1, 0, none⟩)]] 60)) = W4 at *
        clear hW4 qx
        have hnf : nfc ofl ≤ k := by unfold nfc; exact Nat.le_trans List.countP_le_length (Nat.le_of_eq hV.1)
        have HV := Lib.hid hV
        clear hV
        refine ⟨trivial, (CallsIn.inRound l (callsIn_wide.2 (smeet_any d (s := (ofl, [], [])) HS.out (by simp) (by simp) first hxb))).mono ?_⟩
        rintro e w5 ⟨rfl, A5, c5, Ag5, cg5, hS5, -, -⟩
        have q5 : w5.cell? ⟨W.heap.size + 1 + 1, 0, none⟩ = some (.pointer (some ⟨W.heap.size + 1, 0, none⟩)) := hS5.wv.cell 0
        obtain ⟨r1, r2, r3⟩ := sStep_room first hfirst (ofl, [], []) first
        simp only [List.length_nil, Nat.zero_add] at r1 r2 r3
        have HS5 := Lib.hid hS5
        have HR := Lib.hid (And.intro r1 r2)
        clear hS5 r1 r2 r3
        gi_wp2_with fail
        refine ⟨trivial, (CallsIn.inRound l (callsIn_wide.2 (drain_strong (QInv (gsl w.heap.size W.heap.size k g Bx arcs first) ofl W4) (QMid (gsl w.heap.size W.heap.size k g Bx arcs first) ofl W4) (QDone (gsl w.heap.size W.heap.size k g Bx arcs first) ofl W4) (W.heap.size + 1) _ _ (qnext_any d ofl W4) (qdo_any d hfirst ofl W4) _ w5
          ⟨A5, c5, Ag5, cg5, _, HS5.out, GInv.start HV.out.1 hxb, by have := HR.out.1; simp only [gsl]; omega, by have := HR.out.2; simp only [gsl]; omega, rfl⟩))).mono ?_⟩
        rintro e w6 ⟨rfl, A6, c6, Ag6, cg6, of6, grp, hS6, hG6, hgl⟩
        clear q5
        have q6 : w6.cell? ⟨Bx, 0, none⟩ = some (.int .i64 first) := hS6.fv.cell 0
        have q7 : w6.cell? ⟨W.heap.size, 0, none⟩ = some (.slice Ag6 grp.length cg6) := hS6.gpv.cell 0
        have HS6 := Lib.hid hS6
        have HG6 := Lib.hid hG6
        clear hS6 hG6
        gi_wp2_with fail
        gi_loopw [10, 45] (fun lo i wr => ∃ j : Nat, j ≤ grp.length ∧ i = .int .i64 j ∧ lo = .int .i64 (minAll first (grp.take j)) ∧ w6 = wr) (fun _ i _ => grp.length - (intOf i).toNat)
        case atStart => exact ⟨0, Nat.zero_le _, rfl, rfl, rfl⟩
        case round =>
          obtain ⟨j, hj, rfl, rfl, rfl⟩ := hrel
          by_cases hjl : j < grp.length
          · obtain ⟨b, off, u, rfl, hbB, hx, hcell⟩ := (Reads.of_own HS6.out.gro).at_ hjl
            simp only [List.getElem?_map, Option.map_eq_some_iff] at hx
            obtain ⟨y, hx, rfl⟩ := hx
            have HX := Lib.hid (take_snoc grp j y hx)
            clear hx
            unfold I at hcell
            gi_wp2_with fail
            go_roundw
            case rel =>
              refine ⟨j + 1, by omega, by go_num, ?_, trivial⟩
              rw [HX.out, minAll_snoc]
              congr 1
              split <;> omega
            case measure => simp [intOf]; omega
          · have hje : grp.take j = grp := List.take_of_length_le (by omega)
            rw [hje]
            clear hje
            obtain ⟨lo, hlo⟩ : ∃ lo, lo = minAll first grp := ⟨_, rfl⟩
            rw [← hlo]
            have HLO := Lib.hid hlo
            clear hlo
            gi_wp2_with fail
            clear q6 q7
            gi_loopw [55] (fun i wr => ∃ j : Nat, j ≤ grp.length ∧ i = .int .i64 j ∧ GS (gsl w.heap.size W.heap.size k g Bx arcs first) A6 c6 Ag6 cg6 (setAll lo (grp.take j) of6) grp [] W4 wr) (fun i _ => grp.length - (intOf i).toNat)
            case atStart => exact ⟨0, Nat.zero_le _, rfl, HS6.out⟩
            case round =>
              obtain ⟨j, hj, rfl, hS7⟩ := hrel
              by_cases hjl : j < grp.length
              · obtain ⟨b, off, u, rfl, hbB, hx, hcell⟩ := (Reads.of_own hS7.gro).at_ hjl
                simp only [List.getElem?_map, Option.map_eq_some_iff] at hx
                obtain ⟨y, hx, rfl⟩ := hx
                have hyb := (HG6.out.sub y (List.mem_of_getElem? hx)).1
                have HX := Lib.hid (take_snoc grp j y hx)
                clear hx
                unfold I at hcell
                simp only [hasB, Bool.and_eq_true, decide_eq_true_eq] at hyb
                obtain ⟨ny, rfl⟩ := Int.eq_ofNat_of_zero_le hyb.1
                have hyl : ny < k := by have := hyb.2; simp only [gsl] at this; omega
                have q1 : wr.cell? ⟨w.heap.size + 1 + 1, 0, none⟩ = some (.slice (some ⟨w.heap.size + 1, 0, none⟩) k k) := hS7.ofv.cell 0
                have hl7 : (setAll lo (grp.take j) of6).length = k := hS7.len
                obtain ⟨z, hz⟩ : ∃ z, (setAll lo (grp.take j) of6)[ny]? = some z := ⟨_, List.getElem?_eq_getElem (by omega)⟩
                have q2 : wr.cell? ⟨w.heap.size + 1, ny, none⟩ = some (.int .i64 z) := (hS7.ofb.cell ny).trans (ints_at hz)
                have f2 : wr.frozen? ⟨w.heap.size + 1, ny, none⟩ = false := hS7.ofb.frozen ny
                have HS7 := Lib.hid hS7
                clear hz hl7 hS7 hyb
                gi_wp2_with fail
                go_roundw
                case rel =>
                  refine ⟨j + 1, by omega, by go_num, ?_⟩
                  have hk8 : Kept (fun b => b = w.heap.size + 1 ∨ b = W.heap.size ∨ b = W.heap.size + 1 ∨ W.heap.size + 1 + 1 + 1 + 1 ≤ b) wr (wr.setCell ⟨w.heap.size + 1, ny, none⟩ (.int .i64 lo)) := (Kept.refl _ wr).setCell (p := ⟨w.heap.size + 1, ny, none⟩) (fun _ => .inl rfl) _
                  have hkn : Kept (fun b => b = w.heap.size + 1) wr (wr.setCell ⟨w.heap.size + 1, ny, none⟩ (.int .i64 lo)) := (Kept.refl (fun b => b = w.heap.size + 1) wr).setCell (p := ⟨w.heap.size + 1, ny, none⟩) (fun _ => rfl) _
                  rw [HX.out, setAll_snoc]
                  refine HS7.out.turn d hk8 ?_ (by rw [List.length_set]; exact HS7.out.len) (HS7.out.gpv.kept hkn (fun e => HS7.out.gpv.ne_ HS7.out.ofb (by decide) e)) (own_kept HS7.out.gro hkn (fun b' hb' e => ?_)) ⟨HS7.out.st.blk.kept hkn (fun e => HS7.out.st.blk.ne_ HS7.out.ofb (by decide) e), own_kept HS7.out.st.row hkn (fun b' hb' e => ?_)⟩ HS7.out.dis
                  · rw [← ints_set]; exact HS7.out.ofb.set_ ny _
                  · have := (HS7.out.gro.lt b' hb').1; simp only [gsl] at this; omega
                  · have := (HS7.out.st.row.lt b' hb').1; simp only [gsl] at this; omega
                case measure => simp [intOf]; omega
              · have hje : grp.take j = grp := List.take_of_length_le (by omega)
                rw [hje, HLO.out] at hS7
                clear hje
                have hS8 := Lib.hid hS7
                clear hS7
                gi_wp2_with fail
                have hk9 := hS8.out.k
                obtain ⟨v1, v2⟩ := HV.out.step hxb HG6.out
                refine ⟨⟨?_, fun b o hbB hbo hbc => ?_⟩, fun b hb => ?_, _, ⟨hS8.out.gv, hS8.out.ofb, hS8.out.ofv⟩, v1, ?_, ?_, ?_⟩
                · have := hk9.size; have := HZ4.out; omega
                · have hbW : b < W.heap.size := (Array.getElem?_eq_some_iff.1 hbo).1
                  exact ((hk9.block b (by rw [HZ4.out]; omega) (by simp only [gsl]; omega)).trans (HK4.out.block b hbW (fun h => h))).trans hbo
                · have hb' : b < W.heap.size ∧ w.heap.size + 1 + 1 < b := by
                    rcases hb with h | h
                    · omega
                    · have := htb b h; omega
                  exact (hk9.block b (by rw [HZ4.out]; omega) (by simp only [gsl]; omega)).trans (HK4.out.block b hb'.1 (fun h => h))
                · rintro ⟨rest', hrest⟩
                  rw [List.map_append, List.append_assoc] at hrest
                  rw [List.map_append]
                  exact SOk.step hF hrest (hO ⟨_, hrest⟩) HG6.out
                · refine hB.trans ((HK4.out.to_below (B := w.heap.size) hWs (fun _ _ h => h)).trans (hk9.to_below (by rw [HZ4.out]; omega) (fun b hb => by simp only [gsl]; omega)))
                · have := hk9.size; have := HZ4.out; omega
      case done =>
        rintro D zs W hD rfl ⟨ofl, ⟨c1, c2, c3⟩, hV, hO, hB, hW7⟩ hK
        have q1 := c3.cell 0
        simp only [List.getElem?_toArray, List.getElem?_cons_zero] at q1
        gi_wp2
        refine ⟨by simp, .inl ⟨_, _, rfl, run_takeDeferred hK, ?_⟩⟩
        have hg := grownBy_putObj' W D (.deferred none)
        have hgr : ∀ r, some D = some r → ∃ o : Obj, W.heap[r]? = some o ∧ o.isCells = false := fun r e => by cases e; exact ⟨_, hK, rfl⟩
        refine ⟨_, results_tmp rfl _ _ _, w.heap.size + 1, rfl, ofl, c2.ownFrom hg hgr, by omega, hV, fun v hv => ?_, hB.trans (belowK_b (w := w) (Nat.le_refl _) W D _ _ (by omega) hK rfl rfl)⟩
        exact (hO ⟨[], by rw [backs_rev, List.append_nil]⟩).yes v hv ⟨v, by rw [backs_rev]; simpa using (hF.mem v).2 hv, Mut.refl _ _ _⟩
      case stop =>
        rintro D c pre W _ _ h _
        exact h.elim
theorem strong_any (H g N : Nat) (arcs : List ArcV) (w : World) (hG : Graph w H g N arcs) (hH : H ≤ w.heap.size) :
    Calls Try.prog 33 #[.pointer (some ⟨g, 0, none⟩)] w fun e w' => ∃ ofb ofl, e = .returned (.slice (some ⟨ofb, 0, none⟩) N N) ∧ Blk w' ofb 3 (ints ofl) ∧ w.heap.size ≤ ofb ∧ SVal N ofl ∧ (∀ v, hasB N v = true → ∃ m, ofl[v.toNat]? = some m ∧ IsLow N arcs v m) ∧ Below w.heap.size w w' :=
  callsIn_wide.1 (strong_in 6 (Nat.le_refl _) H g N arcs w hG hH)
end Go.Proofs.Ytekajenmkpobgaa
