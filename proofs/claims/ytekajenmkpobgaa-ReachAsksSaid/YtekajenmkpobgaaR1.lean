/- reach.Strong and reach.Back -/
import Derived.Test.YtekajenmkpobgaaZ2
set_option linter.unusedSimpArgs false
set_option linter.unusedVariables false
namespace Go.Proofs.Ytekajenmkpobgaa
open Go.RowKit Go.Shelf

/-- a step's goal, boxed: a guard that is off must not let it be reckoned through -/
structure StBox (p : Prop) : Prop where
  out : p
theorem stbox_step {P : Program} {ops : Array Oper} {w : World} {Q : Act → Prop} {a : Act} {o : Oper} {rest : List Oper}
    (h : ∀ K : Act → Prop, (∀ a, StBox (wpStill P ops w Q rest a) → K a) → if Region.wanted o (yielded ops a.tmps) then o.still P a w K else K (a.put o.dst undef)) : StBox (wpStill P ops w Q (o :: rest) a) :=
  ⟨wpStill_step (fun K hK => h K (fun a hb => hK a hb.out))⟩
theorem stbox_nil {P : Program} {ops : Array Oper} {w : World} {Q : Act → Prop} {a : Act} (h : Q a) : StBox (wpStill P ops w Q [] a) := ⟨h⟩
/-- what the numbers are -/
def LowAll (N : Nat) (arcs : List ArcV) (ofl : List Int) : Prop := ofl.length = N ∧ ∀ v, hasB N v = true → ∃ m, ofl[v.toNat]? = some m ∧ IsLow N arcs v m
/-- what is told of arcs -/
def backOf (N : Nat) (ofl : List Int) (x : ArcV) : Bool := fitB N x && (ofl[x.f.toNat]? == ofl[x.t.toNat]?)

set_option maxRecDepth 100000 in
set_option maxHeartbeats 2000000 in
theorem Strong_any (A1 A2 : Option Addr) (n c1 n2 c2 B : Nat) (sup : List Int) (arcs : List ArcV) (w : World) (h : InstR w B A1 A2 n n2 sup arcs) (hB : B ≤ w.heap.size) :
    Calls Try.prog 21 #[.agg #[.slice A1 n c1, .slice A2 n2 c2]] w fun e w' => ∃ ofb ofl, e = .returned (.slice (some ⟨ofb, 0, none⟩) n n) ∧ Blk w' ofb 3 (ints ofl) ∧ w.heap.size ≤ ofb ∧ LowAll n arcs ofl ∧ Below w.heap.size w w' := by
  have hb0 : ∀ o, Below w.heap.size w (w.alloc o) := fun o => (Below.refl _ w).alloc (Nat.le_refl _) o
  have HB0 := Lib.hid hb0
  clear hb0
  go_enter Try.func21, Try.ntmps21
  go_wp2_with fail
  refine (New_any A1 A2 n c1 n2 c2 B sup arcs _ (h.s.below ((HB0.out _).mono hB)) (h.a.below ((HB0.out _).mono hB)) (by simp; omega) h.hn h.hn2).mono ?_
  rintro e w1 ⟨g, rfl, hG, hb1⟩
  have hb2 := (HB0.out (.cells #[.slice A1 n c1, .slice A2 n2 c2] 26)).trans (hb1.mono (by simp))
  go_wp2_with fail
  refine (strong_any _ g n arcs w1 hG (Nat.le_refl _)).mono ?_
  rintro e w2 ⟨ofb, ofl, rfl, hm, hle, hV, hL, hb3⟩
  go_wp2_with fail
  go_ret
  have := hb2.size
  exact ⟨ofb, ofl, rfl, hm, by omega, ⟨hV.1, hL⟩, hb2.trans (hb3.mono (by omega))⟩

theorem map_take_fill {α : Type} (l : List α) (f : α → Bool) (k : Nat) (x : α) (hk : l[k]? = some x) :
    ((l.take k).map f ++ List.replicate (l.length - k) false).set k (f x) = (l.take (k + 1)).map f ++ List.replicate (l.length - (k + 1)) false := by
  have hl : k < l.length := by
    rcases Nat.lt_or_ge k l.length with h | h
    · exact h
    · rw [List.getElem?_eq_none h] at hk; cases hk
  rw [take_snoc l k x hk, List.map_append, List.set_append, if_neg (by simp; omega)]
  have e : l.length - k = (l.length - (k + 1)) + 1 := by omega
  rw [e, List.replicate_succ]
  simp [Nat.min_eq_left (Nat.le_of_lt hl)]

set_option maxRecDepth 100000 in
set_option maxHeartbeats 4000000 in
theorem Back_any (A1 A2 : Option Addr) (n c1 n2 c2 B : Nat) (sup : List Int) (arcs : List ArcV) (w : World) (h : InstR w B A1 A2 n n2 sup arcs) (hB : B ≤ w.heap.size) :
    Calls Try.prog 12 #[.agg #[.slice A1 n c1, .slice A2 n2 c2]] w fun e w' => ∃ mb ofl, e = .returned (.slice (some ⟨mb, 0, none⟩) n2 n2) ∧ Blk w' mb 4 (bools (arcs.map (backOf n ofl))) ∧ w.heap.size ≤ mb ∧ LowAll n arcs ofl ∧ Below w.heap.size w w' := by
  have hb0 : ∀ o, Below w.heap.size w (w.alloc o) := fun o => (Below.refl _ w).alloc (Nat.le_refl _) o
  have HB0 := Lib.hid hb0
  clear hb0
  have hn2 : arcs.length = n2 := by have := h.a.1; rw [arcCells_length] at this; omega
  have hn2' := h.hn2
  have hmk := makeBools n2 (by omega)
  rw [madeBools] at hmk
  go_enter Try.func12, Try.ntmps12
  go_wp2_with fail
  refine (New_any A1 A2 n c1 n2 c2 B sup arcs _ (h.s.below ((HB0.out _).mono hB)) (h.a.below ((HB0.out _).mono hB)) (by simp; omega) h.hn h.hn2).mono ?_
  rintro e w1 ⟨g, rfl, hG, hb1⟩
  have hi0 : Blk (w.alloc (.cells #[.slice A1 n c1, .slice A2 n2 c2] 26)) w.heap.size 26 #[.slice A1 n c1, .slice A2 n2 c2] := Blk.new w 26 _
  have hi1 := hi0.below hb1 (by simp)
  have hb2 := (HB0.out (.cells #[.slice A1 n c1, .slice A2 n2 c2] 26)).trans (hb1.mono (by simp))
  have hz1 : w.heap.size + 1 ≤ w1.heap.size := by have := hb1.size; simpa using this
  clear hb1 hi0
  have HMK := Lib.hid hmk
  clear hmk
  go_wp2_with fail
  refine (strong_any _ g n arcs w1 hG (Nat.le_refl _)).mono ?_
  rintro e w2 ⟨ofb, ofl, rfl, hm, hle, hV, hL, hb3⟩
  have hmk := HMK.out
  have hi2 := hi1.below hb3 hi1.lt
  have q1 := hi2.cell 1
  simp only [List.getElem?_toArray, List.getElem?_cons_zero, List.getElem?_cons_succ] at q1
  have l1 := hi2.lt
  go_wp2_with fail
  have hG2 := hG.keep hb3
  have hb4 : Below w.heap.size w (w2.alloc (.cells (bools (List.replicate n2 false)) 4)) := (hb2.trans (hb3.mono (by omega))).alloc (by have := hb3.size; omega) _
  have hG3 := hG2.keep ((Below.refl w1.heap.size w2).alloc hb3.size (.cells (bools (List.replicate n2 false)) 4))
  have hof := hm.alloc (.cells (bools (List.replicate n2 false)) 4)
  have hmb : Blk (w2.alloc (.cells (bools (List.replicate n2 false)) 4)) w2.heap.size 4 (bools (List.replicate n2 false)) := Blk.new w2 4 _
  have hz3 := hb3.size
  have hofl := hm.lt
  generalize w2.alloc (.cells (bools (List.replicate n2 false)) 4) = W at *
  clear q1 hi1 hi2 hmk HMK hm hG hG2
  go_loopw [19] (fun i wr => ∃ k : Nat, k ≤ n2 ∧ i = .int .i64 k ∧ Blk wr w2.heap.size 4 (bools ((arcs.take k).map (backOf n ofl) ++ List.replicate (arcs.length - k) false)) ∧ Blk wr ofb 3 (ints ofl) ∧ Graph wr w1.heap.size g n arcs ∧ Below w.heap.size w wr) (fun i _ => n2 - (intOf i).toNat)
  case atStart => exact ⟨0, Nat.zero_le _, rfl, by simpa [hn2] using hmb, hof, hG3, hb4⟩
  case round =>
    clear hmb hof hG3 hb4
    obtain ⟨k, hk, rfl, hmb, hof, hG, hb4⟩ := hrel
    by_cases hlt : k < n2
    · obtain ⟨x, hx⟩ : ∃ x, arcs[k]? = some x := ⟨_, List.getElem?_eq_getElem (by omega)⟩
      have hts := map_take_fill arcs (backOf n ofl) k x hx
      have HTS := Lib.hid hts
      clear hts
      have lm := hmb.lt
      have hsz : w1.heap.size ≤ wr.heap.size := by omega
      go_wp2_with fail
      by_cases hf : fitB n x = true
      · have ha : arcAt n arcs (k : Int) = some x := by simp [arcAt, hx, hf]
        refine (Arc_some w1.heap.size g n arcs wr hG.a hsz k x ha).mono ?_
        rintro e w5 ⟨rfl, hb5⟩
        have hmb5 := hmb.below hb5 hmb.lt
        have hof5 := hof.below hb5 hof.lt
        have hf' := hf
        simp only [fitB, Bool.and_eq_true, decide_eq_true_eq] at hf'
        obtain ⟨⟨⟨hf1, hf2⟩, hf3⟩, hf4⟩ := hf'
        obtain ⟨nf, hnf⟩ := Int.eq_ofNat_of_zero_le hf1
        obtain ⟨nt, hnt⟩ := Int.eq_ofNat_of_zero_le hf3
        obtain ⟨y1, hy1⟩ : ∃ y, ofl[nf]? = some y := ⟨_, List.getElem?_eq_getElem (by have := hV.1; omega)⟩
        obtain ⟨y2, hy2⟩ : ∃ y, ofl[nt]? = some y := ⟨_, List.getElem?_eq_getElem (by have := hV.1; omega)⟩
        have hbk : backOf n ofl x = decide (y1 = y2) := by
          simp [backOf, hf, hnf, hnt, hy1, hy2]
          by_cases e : y1 = y2 <;> simp [e]
        rw [hbk] at HTS
        have HX := Lib.hid (And.intro hnf hnt)
        clear hnf hnt
        go_wp2_with fail
        have hx0 : Blk (w5.alloc (.cells #[.int .i64 x.f, .int .i64 x.t, .int .i64 x.lo, .int .i64 x.cap, .int .i64 x.cost] 36)) w5.heap.size 36 #[.int .i64 x.f, .int .i64 x.t, .int .i64 x.lo, .int .i64 x.cap, .int .i64 x.cost] := Blk.new w5 36 _
        have hmb6 := hmb5.alloc (.cells #[.int .i64 x.f, .int .i64 x.t, .int .i64 x.lo, .int .i64 x.cap, .int .i64 x.cost] 36)
        have hof6 := hof5.alloc (.cells #[.int .i64 x.f, .int .i64 x.t, .int .i64 x.lo, .int .i64 x.cap, .int .i64 x.cost] 36)
        have hb6 : Below wr.heap.size wr (w5.alloc (.cells #[.int .i64 x.f, .int .i64 x.t, .int .i64 x.lo, .int .i64 x.cap, .int .i64 x.cost] 36)) := hb5.alloc hb5.size _
        generalize w5.alloc (.cells #[.int .i64 x.f, .int .i64 x.t, .int .i64 x.lo, .int .i64 x.cap, .int .i64 x.cost] 36) = W6 at *
        have r1 := hx0.cell 0
        have r2 := hx0.cell 1
        simp only [List.getElem?_toArray, List.getElem?_cons_zero, List.getElem?_cons_succ] at r1 r2
        rw [HX.out.1] at r1
        rw [HX.out.2] at r2
        have r3 : W6.cell? ⟨ofb, nf, none⟩ = some (.int .i64 y1) := (hof6.cell nf).trans (ints_at hy1)
        have r4 : W6.cell? ⟨ofb, nt, none⟩ = some (.int .i64 y2) := (hof6.cell nt).trans (ints_at hy2)
        have r5 : ∃ u, W6.cell? ⟨w2.heap.size, k, none⟩ = some u := by
          rw [hmb6.cell]; exact ⟨_, Array.getElem?_eq_getElem (by simp [bools]; omega)⟩
        obtain ⟨u5, r5⟩ := r5
        have f5 := hmb6.frozen k
        have g1 : (nf : Int) < n := by have := HX.out.1; omega
        have g2 : (nt : Int) < n := by have := HX.out.2; omega
        have HB6 := Lib.hid hb6
        clear hb6 hf hbk hy1 hy2 hf1 hf2 hf3 hf4
        go_still_tail 17, (by kernel_rfl)
        change wpList _ _ _ _ _ W6.drew
        go_wp2_with fail
        go_roundw
        case rel =>
          refine ⟨k + 1, by omega, by go_num, ?_, hof6.drew.far (p := ⟨w2.heap.size, k, none⟩) (show ofb ≠ w2.heap.size by omega) _, hG.keep (((HB6.out.mono hsz).drew).setCell (p := ⟨w2.heap.size, k, none⟩) (show w1.heap.size ≤ w2.heap.size by omega) _), hb4.trans (((HB6.out.mono hb4.size).drew).setCell (p := ⟨w2.heap.size, k, none⟩) (show w.heap.size ≤ w2.heap.size by omega) _)⟩
          rw [← HTS.out, ← bools_set]
          exact hmb6.drew.set_ k _
        case measure => simp [intOf]; omega
      · have ha : arcAt n arcs (k : Int) = none := by simp [arcAt, hx, hf]
        obtain ⟨z, hz⟩ : ∃ z : Int, z = 0 := ⟨0, rfl⟩
        have hA := Arc_none w1.heap.size g n arcs wr hG.a hsz k ha
        rw [← hz] at hA
        clear hz
        refine hA.mono ?_
        rintro e w5 ⟨rfl, hb5⟩
        have hmb5 := hmb.below hb5 hmb.lt
        have hof5 := hof.below hb5 hof.lt
        have hbk : backOf n ofl x = false := by
          simp only [Bool.not_eq_true] at hf
          simp [backOf, hf]
        rw [hbk] at HTS
        go_wp2_with fail
        have hmb6 := hmb5.alloc (.cells #[.int .i64 z, .int .i64 z, .int .i64 z, .int .i64 z, .int .i64 z] 36)
        have hof6 := hof5.alloc (.cells #[.int .i64 z, .int .i64 z, .int .i64 z, .int .i64 z, .int .i64 z] 36)
        have hb6 : Below wr.heap.size wr (w5.alloc (.cells #[.int .i64 z, .int .i64 z, .int .i64 z, .int .i64 z, .int .i64 z] 36)) := hb5.alloc hb5.size _
        generalize w5.alloc (.cells #[.int .i64 z, .int .i64 z, .int .i64 z, .int .i64 z, .int .i64 z] 36) = W6 at *
        have r5 : ∃ u, W6.cell? ⟨w2.heap.size, k, none⟩ = some u := by
          rw [hmb6.cell]; exact ⟨_, Array.getElem?_eq_getElem (by simp [bools]; omega)⟩
        obtain ⟨u5, r5⟩ := r5
        have f5 := hmb6.frozen k
        have HB6 := Lib.hid hb6
        clear hb6 hf hbk
        refine wp_region_still_tail 17 (by kernel_rfl) (by kernel_rfl) (StBox.out ?_)
        simp only [List.take_succ_cons, List.take_zero, List.drop_succ_cons, List.drop_zero]
        repeat (refine stbox_step (fun K hK => ?_); go_simp; refine hK _ ?_; clear hK K)
        try refine stbox_nil ?_
        change wpList _ _ _ _ _ W6.drew
        go_wp2_with fail
        go_roundw
        case rel =>
          refine ⟨k + 1, by omega, by go_num, ?_, hof6.drew.far (p := ⟨w2.heap.size, k, none⟩) (show ofb ≠ w2.heap.size by omega) _, hG.keep (((HB6.out.mono hsz).drew).setCell (p := ⟨w2.heap.size, k, none⟩) (show w1.heap.size ≤ w2.heap.size by omega) _), hb4.trans (((HB6.out.mono hb4.size).drew).setCell (p := ⟨w2.heap.size, k, none⟩) (show w.heap.size ≤ w2.heap.size by omega) _)⟩
          rw [← HTS.out, ← bools_set]
          exact hmb6.drew.set_ k _
        case measure => simp [intOf]; omega
    · have hkn : k = arcs.length := by omega
      rw [hkn, List.take_of_length_le (Nat.le_refl _), Nat.sub_self, List.replicate_zero, List.append_nil] at hmb
      go_wp2_with fail
      go_ret
      exact ⟨_, ofl, rfl, hmb, by omega, ⟨hV.1, hL⟩, hb4⟩
end Go.Proofs.Ytekajenmkpobgaa
