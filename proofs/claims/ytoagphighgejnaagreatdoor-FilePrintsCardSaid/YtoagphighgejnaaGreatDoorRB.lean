/- What the document's Print wants: a line in a block, sums of texts. Conditions: none. -/
import Derived.BigQuiet
import Derived.StillTail
import Derived.Test.YtoagphighgejnaaGreatDoorRJ
import Derived.Test.YtoagphighgejnaaGreatDoorFS
import Derived.Test.YtoagphighgejnaaGreatDoorPD
import Derived.Test.YtoagphighgejnaaGreatDoorW4
set_option linter.unusedSimpArgs false
set_option linter.unusedVariables false
namespace Go.Proofs.YtoagphighgejnaaGreatDoor
section
section
open Go Go.RowKit

section
variable {P : Program} {ops : Array Oper} {md : Region.Mode} {C : World → Prop}
theorem run_move0 {ρ : Operand → Value} {o : Oper} (x : Operand) (h : o.op = .move x) (w : World) : (execOp ρ o).run P w = .ok (.value (ρ x)) w := BigFrame.run_move x h w
/-- whatever order is picked among the first n operations -/
def HeadQ (P : Program) (md : Region.Mode) (ops : Array Oper) (C : World → Prop) (n : Nat) (L : Array Bool → Act → Prop) : Nat → Array Bool → Act → Prop
  | 0, listed, a => L listed a
  | f + 1, listed, a => Region.ready md ops listed ≠ [] ∧ ∀ i ∈ Region.ready md ops listed, i < n ∧ qOp P ops C i (HeadQ P md ops C n L f (listed.setIfInBounds i true)) a
theorem any_of_headQ {n g : Nat} {L : Array Bool → Act → Prop} {Q' : Exit → Act → World → Prop} (hL : ∀ listed a w, C w → L listed a → wpAny P md ops Q' g listed a w) :
    ∀ (f : Nat) (listed : Array Bool) (a : Act) (w : World), C w → HeadQ P md ops C n L f listed a → wpAny P md ops Q' (f + g) listed a w
  | 0, listed, a, w, hw, h => by rw [Nat.zero_add]; exact hL _ _ _ hw h
  | f + 1, listed, a, w, hw, h => by
    rw [show f + 1 + g = (f + g) + 1 by omega]
    exact ⟨fun h0 => absurd h0 h.1, fun i hi => wpOp_of_qOp hw (fun a' w' hw' h' => any_of_headQ hL f _ a' w' hw' h') (h.2 i hi).2⟩
theorem headQ_first {n i : Nat} {oi : Oper} {v : Value} {L : Array Bool → Act → Prop} (hi : ops[i]? = some oi) (hsel : ∀ (j : Nat) (o : Oper) cs b, ops[j]? = some o → o.op ≠ .select cs b)
    (hs : Region.sinkB md ops n = true) (hc : Region.chainB md ops n = true) (hn : n < ops.size) (hin : i < n)
    (hdone : ∀ listed a, L listed a → ∀ j ∈ Region.ready md ops listed, n ≤ j) :
    ∀ (f : Nat) (listed : Array Bool) (a : Act), HeadInv md ops n listed →
      (∀ j oj, ops[j]? = some oj → j ≠ i → listed.getD j true = false → (∀ e ∈ oj.after, Region.binds md e = true → e.on ≠ i) → oi.apart ops oj = true) →
      i ∈ Region.ready md ops listed → YieldsIn P ops C oi v a →
      HeadQ P md ops C n L f (listed.setIfInBounds i true) (a.put oi.dst v) → HeadQ P md ops C n L (f + 1) listed a := by
  intro f
  induction f with
  | zero =>
    intro listed a inv _ hr hy H
    have hun := (mem_ready.1 hr).1
    refine ⟨fun h => (by rw [h] at hr; cases hr), fun j hj => ?_⟩
    have hjn : j < n := by
      rcases Nat.lt_or_ge j n with h | h
      · exact h
      · exact absurd hj (tail_waits hs hc hn inv _ i rfl hin hun j h)
    refine ⟨hjn, ?_⟩
    by_cases hji : j = i
    · subst hji; exact hy.qOp hi H
    · have := hdone _ _ H j (ready_mono hj hji)
      omega
  | succ f ih =>
    intro listed a inv hfree hr hy H
    have hun := (mem_ready.1 hr).1
    refine ⟨fun h => (by rw [h] at hr; cases hr), fun j hj => ?_⟩
    have hjn : j < n := by
      rcases Nat.lt_or_ge j n with h | h
      · exact h
      · exact absurd hj (tail_waits hs hc hn inv _ i rfl hin hun j h)
    refine ⟨hjn, ?_⟩
    by_cases hji : j = i
    · subst hji; exact hy.qOp hi H
    · have h1 := (H.2 j (ready_mono hj hji)).2
      obtain ⟨hjun, oj, hoj, hall⟩ := mem_ready.1 hj
      have hnot : ∀ e ∈ oj.after, Region.binds md e = true → e.on ≠ i := fun e he hb heq => by
        have h1 := hall e he hb
        rw [heq, getD_both hun] at h1
        cases h1
      have h2 := qOp_put hoj (hfree j oj hoj hji hjun hnot) (fun cs b => hsel i oi cs b hi) (fun cs b => hsel j oj cs b hoj) hy h1
      refine qOp_mono (fun a' h3 => ih (listed.setIfInBounds j true) a' (inv.set hj hjn) (fun k ok hk hki hun' hno => ?_) (ready_mono hr (Ne.symm hji)) h3.1 ?_) h2
      · refine hfree k ok hk hki ?_ hno
        by_cases hjk : j = k
        · subst hjk; exact hjun
        · rw [getD_set_ne true hjk] at hun'; exact hun'
      · rw [Array.setIfInBounds_comm _ _ hji]
        exact h3.2
theorem headQ_lex {n g : Nat} {Lq : Act → Prop} (hsel : Region.noSelect ops = true) (hs : Region.sinkB md ops n = true) (hc : Region.chainB md ops n = true) (hn : n < ops.size) :
    ∀ (l : List Oper) (k : Nat) (listed : Array Bool) (a : Act), (∀ j, j < l.length → l[j]? = ops[k + j]?) → k + l.length = n → HeadInv md ops n listed →
    Region.lexHead md ops g l.length k listed = true → wpQuiet P ops C Lq l a →
    HeadQ P md ops C n (fun listed' a' => Region.seqB md ops g n listed' = true ∧ Lq a') l.length listed a
  | [], k, listed, a, _, hk, _, hB, h => by
    have : k = n := by simpa using hk
    subst this
    exact ⟨by simpa [Region.lexHead] using hB, h⟩
  | o :: l, k, listed, a, hl, hk, inv, hB, h => by
    have h0 : ops[k]? = some o := by simpa using (hl 0 (by simp)).symm
    simp only [List.length_cons, Region.lexHead, Bool.and_eq_true] at hB
    obtain ⟨⟨hr, hf⟩, hB'⟩ := hB
    have hkn : k < n := by simp only [List.length_cons] at hk; omega
    have hr' : k ∈ Region.ready md ops listed := by simpa using hr
    have hst : qOp P ops C k (wpQuiet P ops C Lq l) a := by unfold qOp; simp only [h0]; exact h
    obtain ⟨v, hy, hK⟩ := yieldsIn_of_qOp h0 hst
    exact headQ_first h0 (Region.noSelect_spec hsel) hs hc hn hkn (fun listed' a' hL => seqB_ready hL.1) l.length listed a inv (Region.free_spec h0 hf) hr' hy
      (headQ_lex hsel hs hc hn l (k + 1) _ _ (fun j hj => by have := hl (j + 1) (by simp; omega); simpa [Nat.add_assoc, Nat.add_comm 1 j] using this) (by simp only [List.length_cons] at hk; omega) (inv.set hr' hkn) hB' hK)
theorem wp_region_quiet_tail {id : Nat} {Q : Exit → Act → World → Prop} {a : Act} {w : World} {l : List Oper} (n : Nat) (hm : P.follows .mixedOrders = true) (hB : Region.lexTailB .any l.toArray n = true)
    (h : wpQuiet P l.toArray (fun w' => ∃ n, w' = w.drewN n) (fun a' => ∀ w', (∃ n, w' = w.drewN n) → wpList P l.toArray Q (l.drop n) a' w') (l.take n) a) : (Code.region id l.toArray true).wp P Q a w := by
  simp only [Region.lexTailB, Bool.and_eq_true, decide_eq_true_eq] at hB
  obtain ⟨⟨⟨⟨hsel, hn⟩, hs⟩, hc⟩, hlex⟩ := hB
  have hn' : n < l.length := by simpa using hn
  have htl : (l.take n).length = n := by simp; omega
  have hdl : (l.drop n).length = l.toArray.size - n := by simp
  have inv0 : HeadInv .any l.toArray n (Array.replicate l.toArray.size false) :=
    ⟨by simp, fun j oj _ hl => (by rw [getD_replicate_false] at hl; cases hl), fun t _ ht => getD_in (by simpa using ht) (getD_replicate_false _ _)⟩
  have H := headQ_lex (md := .any) (g := l.toArray.size - n) hsel hs hc hn (l.take n) 0 _ a (fun j hj => by
    have hj' : j < n := by rw [htl] at hj; exact hj
    simp [hj']) (by simpa using htl) inv0 (by rw [htl]; exact hlex) h
  refine wp_region_any hm ?_
  have := any_of_headQ (Q' := Q) (g := l.toArray.size - n) (fun listed a' w' hw' hL => by
    have := wpAny_of_seq (md := .any) (Q' := Q) (l.drop n) n listed a' w' (fun j => by simp [List.getElem?_drop]) (by rw [hdl]; exact hL.1) (hL.2 w' hw')
    rwa [hdl] at this) _ _ _ { w with drawn := w.drawn + 1 } ⟨1, rfl⟩ H
  rw [htl, show n + (l.toArray.size - n) = l.toArray.size by omega] at this
  exact this
/-! The same, where operation 0 is a move whose slot is wanted in the tail alone: it is taken first. -/
def sink1 (md : Region.Mode) (ops : Array Oper) (n : Nat) : Bool :=
  (List.range n).all fun i => decide (i = 0) || (List.range (n + 1)).any fun j => decide (i < j) && Region.waitsFor md ops j i
theorem tail_waits1 {n : Nat} {listed : Array Bool} (hs : sink1 md ops n = true) (hc : Region.chainB md ops n = true) (hn : n < ops.size) (inv : HeadInv md ops n listed) (h0 : listed.getD 0 false = true) :
    ∀ (d i : Nat), n - i = d → i < n → listed.getD i true = false → ∀ t, n ≤ t → t ∉ Region.ready md ops listed := by
  intro d
  induction d using Nat.strongRecOn with
  | _ d ih =>
    intro i hd hi hun t ht hr
    have hi0 : ¬ i = 0 := fun e => by subst e; rw [getD_both hun] at h0; cases h0
    obtain ⟨_, ot, hot, hall⟩ := mem_ready.1 hr
    have htlt : t < ops.size := (Array.getElem?_eq_some_iff.1 hot).1
    by_cases htn : t = n
    · subst htn
      have h1 := List.all_eq_true.1 hs i (List.mem_range.2 hi)
      simp only [Bool.or_eq_true, decide_eq_true_eq, hi0, false_or] at h1
      obtain ⟨j, hj, hj2⟩ := List.any_eq_true.1 h1
      simp only [Bool.and_eq_true, decide_eq_true_eq] at hj2
      obtain ⟨oj, hoj, e, he, hb, hon⟩ := Region.waitsFor_spec hj2.2
      have hjle : j ≤ t := by have := List.mem_range.1 hj; omega
      by_cases hjt : j = t
      · subst hjt
        have : oj = ot := Option.some.inj (hoj.symm.trans hot)
        subst this
        have h2 := hall e he hb
        rw [hon, getD_both hun] at h2
        cases h2
      · cases hl : listed.getD j false with
        | true =>
          have h2 := inv.closed j oj hoj hl e he hb
          rw [hon, getD_both hun] at h2
          cases h2
        | false =>
          have hjs : j < listed.size := by rw [inv.size]; omega
          exact ih (t - j) (by omega) j rfl (by omega) (getD_in hjs hl) t (Nat.le_refl _) hr
    · have h1 := List.all_eq_true.1 hc t (List.mem_range.2 htlt)
      simp only [Bool.or_eq_true, decide_eq_true_eq] at h1
      rcases h1 with h1 | h1
      · omega
      · obtain ⟨o', ho', e, he, hb, hon⟩ := Region.waitsFor_spec h1
        have : o' = ot := Option.some.inj (ho'.symm.trans hot)
        subst this
        have h2 := hall e he hb
        rw [hon, getD_both (inv.tail (t - 1) (by omega) (by omega))] at h2
        cases h2
theorem headQ_first1 {n i : Nat} {oi : Oper} {v : Value} {L : Array Bool → Act → Prop} (hi : ops[i]? = some oi) (hsel : ∀ (j : Nat) (o : Oper) cs b, ops[j]? = some o → o.op ≠ .select cs b)
    (hs : sink1 md ops n = true) (hc : Region.chainB md ops n = true) (hn : n < ops.size) (hin : i < n)
    (hdone : ∀ listed a, L listed a → ∀ j ∈ Region.ready md ops listed, n ≤ j) :
    ∀ (f : Nat) (listed : Array Bool) (a : Act), HeadInv md ops n listed → listed.getD 0 false = true →
      (∀ j oj, ops[j]? = some oj → j ≠ i → listed.getD j true = false → (∀ e ∈ oj.after, Region.binds md e = true → e.on ≠ i) → oi.apart ops oj = true) →
      i ∈ Region.ready md ops listed → YieldsIn P ops C oi v a →
      HeadQ P md ops C n L f (listed.setIfInBounds i true) (a.put oi.dst v) → HeadQ P md ops C n L (f + 1) listed a := by
  intro f
  induction f with
  | zero =>
    intro listed a inv hl0 _ hr hy H
    have hun := (mem_ready.1 hr).1
    refine ⟨fun h => (by rw [h] at hr; cases hr), fun j hj => ?_⟩
    have hjn : j < n := by
      rcases Nat.lt_or_ge j n with h | h
      · exact h
      · exact absurd hj (tail_waits1 hs hc hn inv hl0 _ i rfl hin hun j h)
    refine ⟨hjn, ?_⟩
    by_cases hji : j = i
    · subst hji; exact hy.qOp hi H
    · have := hdone _ _ H j (ready_mono hj hji)
      omega
  | succ f ih =>
    intro listed a inv hl0 hfree hr hy H
    have hun := (mem_ready.1 hr).1
    refine ⟨fun h => (by rw [h] at hr; cases hr), fun j hj => ?_⟩
    have hjn : j < n := by
      rcases Nat.lt_or_ge j n with h | h
      · exact h
      · exact absurd hj (tail_waits1 hs hc hn inv hl0 _ i rfl hin hun j h)
    refine ⟨hjn, ?_⟩
    by_cases hji : j = i
    · subst hji; exact hy.qOp hi H
    · have h1 := (H.2 j (ready_mono hj hji)).2
      obtain ⟨hjun, oj, hoj, hall⟩ := mem_ready.1 hj
      have hnot : ∀ e ∈ oj.after, Region.binds md e = true → e.on ≠ i := fun e he hb heq => by
        have h1 := hall e he hb
        rw [heq, getD_both hun] at h1
        cases h1
      have h2 := qOp_put hoj (hfree j oj hoj hji hjun hnot) (fun cs b => hsel i oi cs b hi) (fun cs b => hsel j oj cs b hoj) hy h1
      refine qOp_mono (fun a' h3 => ih (listed.setIfInBounds j true) a' (inv.set hj hjn) (getD_set_true hl0) (fun k ok hk hki hun' hno => ?_) (ready_mono hr (Ne.symm hji)) h3.1 ?_) h2
      · refine hfree k ok hk hki ?_ hno
        by_cases hjk : j = k
        · subst hjk; exact hjun
        · rw [getD_set_ne true hjk] at hun'; exact hun'
      · rw [Array.setIfInBounds_comm _ _ hji]
        exact h3.2
theorem headQ_lex1 {n g : Nat} {Lq : Act → Prop} (hsel : Region.noSelect ops = true) (hs : sink1 md ops n = true) (hc : Region.chainB md ops n = true) (hn : n < ops.size) :
    ∀ (l : List Oper) (k : Nat) (listed : Array Bool) (a : Act), (∀ j, j < l.length → l[j]? = ops[k + j]?) → k + l.length = n → HeadInv md ops n listed → listed.getD 0 false = true →
    Region.lexHead md ops g l.length k listed = true → wpQuiet P ops C Lq l a →
    HeadQ P md ops C n (fun listed' a' => Region.seqB md ops g n listed' = true ∧ Lq a') l.length listed a
  | [], k, listed, a, _, hk, _, _, hB, h => by
    have : k = n := by simpa using hk
    subst this
    exact ⟨by simpa [Region.lexHead] using hB, h⟩
  | o :: l, k, listed, a, hl, hk, inv, hl0, hB, h => by
    have h0 : ops[k]? = some o := by simpa using (hl 0 (by simp)).symm
    simp only [List.length_cons, Region.lexHead, Bool.and_eq_true] at hB
    obtain ⟨⟨hr, hf⟩, hB'⟩ := hB
    have hkn : k < n := by simp only [List.length_cons] at hk; omega
    have hr' : k ∈ Region.ready md ops listed := by simpa using hr
    have hst : qOp P ops C k (wpQuiet P ops C Lq l) a := by unfold qOp; simp only [h0]; exact h
    obtain ⟨v, hy, hK⟩ := yieldsIn_of_qOp h0 hst
    exact headQ_first1 h0 (Region.noSelect_spec hsel) hs hc hn hkn (fun listed' a' hL => seqB_ready hL.1) l.length listed a inv hl0 (Region.free_spec h0 hf) hr' hy
      (headQ_lex1 hsel hs hc hn l (k + 1) _ _ (fun j hj => by have := hl (j + 1) (by simp; omega); simpa [Nat.add_assoc, Nat.add_comm 1 j] using this) (by simp only [List.length_cons] at hk; omega) (inv.set hr' hkn) (getD_set_true hl0) hB' hK)
def lexTail1 (md : Region.Mode) (ops : Array Oper) (n : Nat) : Bool :=
  Region.noSelect ops && decide (0 < n) && decide (n < ops.size) && sink1 md ops n && Region.chainB md ops n && (Region.ready md ops (Array.replicate ops.size false)).contains 0 && Region.free md ops (Array.replicate ops.size false) 0 &&
    Region.lexHead md ops (ops.size - n) (n - 1) 1 ((Array.replicate ops.size false).setIfInBounds 0 true)
theorem wp_region_move_quiet_tail {id : Nat} {Q : Exit → Act → World → Prop} {a : Act} {w : World} {o0 : Oper} {l : List Oper} (x : Operand) (n : Nat) (hm : P.follows .mixedOrders = true) (ho : o0.op = .move x) (hg : o0.guard = none)
    (hB : lexTail1 .any (o0 :: l).toArray n = true) (hQ : ∀ c a' w', Q (.panic c) (a'.put o0.dst (a.eval x)) w' → Q (.panic c) a' w')
    (h : wpQuiet P (o0 :: l).toArray (fun w' => ∃ n, w' = w.drewN n) (fun a' => ∀ w', (∃ n, w' = w.drewN n) → wpList P (o0 :: l).toArray Q (l.drop (n - 1)) a' w') (o0 :: l.take (n - 1)) a) : (Code.region id (o0 :: l).toArray true).wp P Q a w := by
  have hw0 : Region.wanted o0 (yielded (o0 :: l).toArray a.tmps) = true := by simp [Region.wanted, hg]
  have h := show wpQuiet P (o0 :: l).toArray (fun w' => ∃ n, w' = w.drewN n) (fun a' => ∀ w', (∃ n, w' = w.drewN n) → wpList P (o0 :: l).toArray Q (l.drop (n - 1)) a' w') (l.take (n - 1)) (a.put o0.dst (a.eval x)) by
    rw [wpQuiet, if_pos hw0] at h
    obtain ⟨v, h1, h2⟩ := h
    have h3 := h1 (w.drewN 0) ⟨0, rfl⟩
    unfold Oper.quietAt at h3
    rw [run_move0 x ho] at h3
    rw [h3.2]
    exact h2
  simp only [lexTail1, Bool.and_eq_true, decide_eq_true_eq] at hB
  obtain ⟨⟨⟨⟨⟨⟨⟨hsel, hn0⟩, hn⟩, hs⟩, hc⟩, hr0⟩, hf0⟩, hlex⟩ := hB
  have hn' : n ≤ l.length := by simp at hn; omega
  have htl : (l.take (n - 1)).length = n - 1 := by simp; omega
  have hsz : (o0 :: l).toArray.size = l.length + 1 := by simp
  have hdl : (l.drop (n - 1)).length = (o0 :: l).toArray.size - n := by simp; omega
  have hi0 : ((o0 :: l).toArray)[0]? = some o0 := by simp
  have inv0 : HeadInv .any (o0 :: l).toArray n (Array.replicate (o0 :: l).toArray.size false) :=
    ⟨by simp, fun j oj _ hl => (by rw [getD_replicate_false] at hl; cases hl), fun t _ ht => getD_in (by simpa using ht) (getD_replicate_false _ _)⟩
  have hr0' : 0 ∈ Region.ready .any (o0 :: l).toArray (Array.replicate (o0 :: l).toArray.size false) := by simpa using hr0
  have inv1 := inv0.set hr0' hn0
  have h01 : ((Array.replicate (o0 :: l).toArray.size false).setIfInBounds 0 true).getD 0 false = true := by simp
  have H := headQ_lex1 (md := .any) (g := (o0 :: l).toArray.size - n) hsel hs hc hn (l.take (n - 1)) 1 _ _ (fun j hj => by
    have hj' : j < n - 1 := by rw [htl] at hj; exact hj
    rw [List.getElem?_take_of_lt hj', Nat.add_comm 1 j]; simp) (by rw [htl]; omega) inv1 h01 (by rw [htl]; exact hlex) h
  have H2 := any_of_headQ (Q' := Q) (g := (o0 :: l).toArray.size - n) (fun listed a' w' hw' hL => by
    have := wpAny_of_seq (md := .any) (Q' := Q) (l.drop (n - 1)) n listed a' w' (fun j => by
      rw [List.getElem?_drop]
      obtain ⟨k, rfl⟩ : ∃ k, n = k + 1 := ⟨n - 1, by omega⟩
      rw [show k + 1 + j = (k + j) + 1 by omega]; simp) (by rw [hdl]; exact hL.1) (hL.2 w' hw')
    rwa [hdl] at this) _ _ _ { w with drawn := w.drawn + 1 } ⟨1, rfl⟩ H
  rw [htl, show n - 1 + ((o0 :: l).toArray.size - n) = l.length by rw [hsz]; omega] at H2
  refine wp_region_any hm ?_
  rw [hsz] at *
  refine wpAny_take hi0 hsel hf0 hr0 hQ (.inl ⟨by simp [Region.wanted, hg], fun w => run_move0 x ho w⟩) H2
end
end
section
open Go.RowKit Go.Shelf

theorem one_in (n : Int) (h0 : 0 ≤ n) (h1 : n ≤ 4294967296) (w : World) :
    Calls Tryz.prog 27 #[.int .i64 n] w fun e w' => e = .returned (strV (Lib.itoa (n + 1))) ∧ ∃ q, w' = w.drewN q := by
  have HT := Lib.hid (rText_in (n + 1) (by omega) (by omega) w)
  have hw : IntKind.i64.wrap (n + 1) = n + 1 := IntWalk.i64_in _ (by omega)
  go_enter Tryz.func27, Tryz.ntmps27
  go_wp2_with fail
  refine HT.out.mono ?_
  rintro e w1 ⟨rfl, q, rfl⟩
  go_wp2_with fail
  go_ret
  exact ⟨rfl, q, rfl⟩
theorem cap_in (c : Int) (h0 : -9223372036854775808 ≤ c) (h1 : c ≤ 9223372036854775807) (w : World) :
    Calls Tryz.prog 28 #[.int .i64 c] w fun e w' => e = .returned (strV (capW c)) ∧ ∃ q, w' = w.drewN q := by
  have HT := Lib.hid (rText_in c h0 h1 w)
  clear h0 h1
  unfold capW infC
  by_cases hc : c = 4611686018427387904
  · rw [if_pos hc]
    have hb : (c == 4611686018427387904) = true := by simp [hc]
    clear hc
    go_enter Tryz.func28, Tryz.ntmps28
    go_wp2_with fail
    go_ret
    exact ⟨rfl, 0, rfl⟩
  · rw [if_neg hc]
    have hb : (c == 4611686018427387904) = false := by simp [hc]
    clear hc
    go_enter Tryz.func28, Tryz.ntmps28
    go_wp2_with fail
    refine HT.out.mono ?_
    rintro e w1 ⟨rfl, q, rfl⟩
    go_wp2_with fail
    go_ret
    exact ⟨rfl, q, rfl⟩
theorem rline_in (A : Option Addr) (n c B : Nat) (ws : List (List UInt8)) (w : World) (hr : Reads w B 1 A n (ws.map strV)) (hn : n ≤ 100) (hx : ∀ x ∈ ws, x.length ≤ 100) :
    Calls Tryz.prog 25 #[.slice A n c] w fun e w' => e = .returned (strV (lnW ws ++ [10])) ∧ ∃ q, w' = w.drewN q := by
  have hlen : ws.length = n := by have := hr.1; simpa using this
  have hjl : ∀ k, (Lib.join (ws.take k) [32]).length ≤ 10100 := fun k => by
    have h1 := join_len 32 100 (ws.take k) (fun x h => hx x (List.mem_of_mem_take h))
    have h2 : (ws.take k).length ≤ 100 := by rw [List.length_take]; omega
    have h3 : (ws.take k).length * (1 + 100) ≤ 100 * 101 := Nat.mul_le_mul h2 (by omega)
    omega
  have hl : (lnW ws).length ≤ 10100 := by have := hjl ws.length; rwa [List.take_length] at this
  have HJ := Lib.hid (rJoin_in A n c B ws ⟨#[32]⟩ w hr (by omega) (fun k => by
    have h1 := hjl k
    have h2 : (⟨#[32]⟩ : ByteArray).size = 1 := rfl
    have h3 : (⟨#[32]⟩ : ByteArray).data.toList = [32] := rfl
    rw [h3]; omega))
  change Hid (Calls Tryz.prog 15 #[.slice A n c, .string ⟨#[32]⟩] w fun e w' => e = .returned (strV (lnW ws)) ∧ ∃ q, w' = w.drewN q) at HJ
  obtain ⟨X, hX⟩ : ∃ X : ByteArray, X = ⟨(lnW ws).toArray⟩ := ⟨_, rfl⟩
  rw [show strV (lnW ws) = .string X by rw [hX]; rfl] at HJ
  have hXs : ¬ 9223372036854775807 < X.size + 1 := by rw [hX]; show ¬ 9223372036854775807 < (lnW ws).length + 1; omega
  have HX := Lib.hid hX
  clear hr hx hjl hl hlen hX
  go_enter Tryz.func25, Tryz.ntmps25
  go_wp2_with fail
  refine HJ.out.mono ?_
  rintro e w1 ⟨rfl, q, rfl⟩
  go_wp2_with fail
  go_ret
  refine ⟨?_, q, rfl⟩
  rw [HX.out, ← strV_data]
  refine congrArg (fun l => Ending.returned (strV l)) ?_
  simp
/-- one of a problem's lines -/
theorem pline_in (p : ProbV) (h : FitsF p) (ws : List (List UInt8)) (hw : ws ∈ allWs p) (A : Option Addr) (c B : Nat) (w : World) (hr : Reads w B 1 A ws.length (ws.map strV)) :
    Calls Tryz.prog 25 #[.slice A ws.length c] w fun e w' => e = .returned (strV (lnW ws ++ [10])) ∧ ∃ q, w' = w.drewN q := by
  obtain ⟨h1, h2⟩ := all_small p h ws hw
  exact rline_in A ws.length c B ws w hr (by omega) (fun x hx => by have := h2 x hx; omega)
/-- .. in a row that was just laid -/
theorem pline_new (p : ProbV) (h : FitsF p) (ws : List (List UInt8)) (hw : ws ∈ allWs p) (W : World) :
    Calls Tryz.prog 25 #[.slice (some ⟨W.heap.size, 0, none⟩) ws.length ws.length] (W.alloc (.cells (ws.map strV).toArray 9)) fun e w' => e = .returned (strV (lnW ws ++ [10])) ∧ ∃ q, w' = (W.alloc (.cells (ws.map strV).toArray 9)).drewN q := by
  have := reads_fresh W (ws.map strV)
  rw [List.length_map] at this
  exact pline_in p h ws hw _ _ _ _ this
def RPriTells (p : ProbV) (w : World) (e : Ending) (w' : World) : Prop := ∃ T k, e = .returned (.tuple #[strV T, .int .i64 k]) ∧ PrintsTo p T k ∧ Below w.heap.size w w'
end
end
section
open Go.RowKit Go.Shelf

theorem below_dq (w : World) (q : Nat) : Below w.heap.size w (w.drewN q) := ⟨rfl, rfl, rfl, Nat.le_refl _, fun _ _ => rfl⟩
theorem reads_blk {W : World} {g : Nat} {xs : List Value} (hk : Blk W g 9 xs.toArray) : Reads W W.heap.size 1 (some ⟨g, 0, none⟩) xs.length xs := by
  refine ⟨by simp, fun _ => ⟨g, 0, rfl, hk.lt, fun j u hu => ?_⟩⟩
  rw [Nat.zero_add, hk.cell, List.getElem?_toArray]
  exact hu
theorem pline_blk (p : ProbV) (h : FitsF p) (ws : List (List UInt8)) (hw : ws ∈ allWs p) (g : Nat) (W : World) (hk : Blk W g 9 (ws.map strV).toArray) :
    Calls Tryz.prog 25 #[.slice (some ⟨g, 0, none⟩) ws.length ws.length] W fun e w' => e = .returned (strV (lnW ws ++ [10])) ∧ Below W.heap.size W w' := by
  have := reads_blk hk
  rw [List.length_map] at this
  refine (pline_in p h ws hw _ _ _ _ this).mono ?_
  rintro e w' ⟨h1, q, rfl⟩
  exact ⟨h1, below_dq _ _⟩
theorem str_app {T L : ByteArray} {a b : List UInt8} (hT : strV a = .string T) (hL : strV b = .string L) : Value.string (T ++ L) = strV (a ++ b) := by
  unfold strV at hT hL
  injection hT with hT
  injection hL with hL
  subst hT hL
  rw [← strV_data]
  refine congrArg strV ?_
  simp
theorem str_size {T : ByteArray} {a : List UInt8} (hT : strV a = .string T) : T.size = a.length := by
  unfold strV at hT
  injection hT with hT
  subst hT
  rfl
theorem below_q {B : Nat} {w w' : World} (h : Below B w w') (q : Nat) (hB : B ≤ w'.heap.size) : Below B w (w'.drewN q) := h.trans ((below_dq w' q).mono hB)
theorem blk_at (w : World) (t : TypeId) (cs : Array Value) (k : Nat) (hk : w.heap.size = k) : Blk (w.alloc (.cells cs t)) k t cs := by subst hk; exact Blk.new w t cs
section
variable (W : World) (k j l : Nat) (cs : Array Value) (o : Obj)
theorem blkA1 : Blk ((W.drewN k).alloc (.cells cs 9)) W.heap.size 9 cs := Blk.new (W.drewN k) 9 cs
theorem blkA2 : Blk (((W.drewN k).alloc (.cells cs 9)).drewN j) W.heap.size 9 cs := (blkA1 W k cs).drewN j
theorem blkA3 : Blk (((W.drewN k).alloc (.cells cs 9)).alloc o) W.heap.size 9 cs := (blkA1 W k cs).alloc o
theorem blkA4 : Blk ((((W.drewN k).alloc (.cells cs 9)).alloc o).drewN j) W.heap.size 9 cs := (blkA3 W k cs o).drewN j
theorem blkA5 : Blk ((((W.drewN k).alloc (.cells cs 9)).drewN j).alloc o) W.heap.size 9 cs := (blkA2 W k j cs).alloc o
theorem blkA6 : Blk (((((W.drewN k).alloc (.cells cs 9)).drewN j).alloc o).drewN l) W.heap.size 9 cs := (blkA5 W k j cs o).drewN l
theorem blkB1 : Blk (((W.drewN k).alloc o).alloc (.cells cs 9)) (W.heap.size + 1) 9 cs := blk_at _ _ _ _ (World.size_alloc (W.drewN k) o)
theorem blkB2 : Blk ((((W.drewN k).alloc o).alloc (.cells cs 9)).drewN j) (W.heap.size + 1) 9 cs := (blkB1 W k cs o).drewN j
theorem blkB3 : Blk ((((W.drewN k).alloc o).drewN j).alloc (.cells cs 9)) (W.heap.size + 1) 9 cs := blk_at _ _ _ _ (World.size_alloc (W.drewN k) o)
theorem blkB4 : Blk (((((W.drewN k).alloc o).drewN j).alloc (.cells cs 9)).drewN l) (W.heap.size + 1) 9 cs := (blkB3 W k j cs o).drewN l
end
theorem below_ad (w : World) (o : Obj) (q : Nat) : Below w.heap.size w ((w.alloc o).drewN q) := ((Below.refl _ w).alloc (Nat.le_refl _) o).trans ((below_dq _ q).mono (by simp))
theorem below_da (w : World) (o : Obj) (q : Nat) : Below w.heap.size w ((w.drewN q).alloc o) := (below_dq w q).alloc (Nat.le_refl _) o
end
end Go.Proofs.YtoagphighgejnaaGreatDoor
