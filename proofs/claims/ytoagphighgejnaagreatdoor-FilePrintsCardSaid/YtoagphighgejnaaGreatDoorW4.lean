/- The document's answer: what may be printed: Fits (24). Conditions: none. -/
import Derived.Test.YtoagphighgejnaaGreatDoorW1
import Derived.StillTailTactics
import Derived.Test.YtoagphighgejnaaGreatDoorW2
import Derived.Deep.DeepCutAuto
set_option linter.unusedSimpArgs false
set_option linter.unusedVariables false
namespace Go.Proofs.YtoagphighgejnaaGreatDoor
open Go.RowKit Go.Shelf

theorem rin3_yes (x : Int) (h : -4398046511104 ≤ x ∧ x ≤ 4398046511104) (w : World) : Calls Tryz.prog 63 #[.int .i64 x] w fun e w' => e = .returned (.bool true) ∧ w' = w := by
  obtain ⟨h0, h1⟩ := h
  have h2 : ¬ x < -4398046511104 := by omega
  go_enter Tryz.func63, Tryz.ntmps63
  go_wp2_with fail
  go_ret
  exact ⟨rfl, rfl⟩
theorem rin3_no (x : Int) (h : ¬ (-4398046511104 ≤ x ∧ x ≤ 4398046511104)) (w : World) : Calls Tryz.prog 63 #[.int .i64 x] w fun e w' => e = .returned (.bool false) ∧ w' = w := by
  by_cases h0 : x < -4398046511104
  · have h1 : ¬ -4398046511104 ≤ x := by omega
    clear h
    go_enter Tryz.func63, Tryz.ntmps63
    go_wp2_with fail
    go_ret
    exact ⟨rfl, rfl⟩
  · have h1 : -4398046511104 ≤ x := by omega
    have h2 : ¬ x ≤ 4398046511104 := by omega
    clear h
    go_enter Tryz.func63, Tryz.ntmps63
    go_wp2_with fail
    go_ret
    exact ⟨rfl, rfl⟩
theorem rin8_yes (x lo hi : Int) (h : lo ≤ x ∧ x ≤ hi) (w : World) : Calls Tryz.prog 46 #[.int .i64 x, .int .i64 lo, .int .i64 hi] w fun e w' => e = .returned (.bool true) ∧ w' = w := by
  obtain ⟨h0, h1⟩ := h
  have h2 : ¬ x < lo := by omega
  go_enter Tryz.func46, Tryz.ntmps46
  go_wp2_with fail
  go_ret
  exact ⟨rfl, rfl⟩
theorem rin8_no (x lo hi : Int) (h : ¬ (lo ≤ x ∧ x ≤ hi)) (w : World) : Calls Tryz.prog 46 #[.int .i64 x, .int .i64 lo, .int .i64 hi] w fun e w' => e = .returned (.bool false) ∧ w' = w := by
  by_cases h0 : x < lo
  · have h1 : ¬ lo ≤ x := by omega
    clear h
    go_enter Tryz.func46, Tryz.ntmps46
    go_wp2_with fail
    go_ret
    exact ⟨rfl, rfl⟩
  · have h1 : lo ≤ x := by omega
    have h2 : ¬ x ≤ hi := by omega
    clear h
    go_enter Tryz.func46, Tryz.ntmps46
    go_wp2_with fail
    go_ret
    exact ⟨rfl, rfl⟩
/-- an error's number, the document's, that is 0 just if all is right -/
def ErrI (p : Prop) (w : World) (e : Ending) (w' : World) : Prop := ∃ k : Int, e = .returned (.int .i64 k) ∧ (k = 0 ↔ p) ∧ Below w.heap.size w w'
theorem eri_no {p : Prop} {w w' : World} (k : Int) (hk : ¬ k = 0) (hp : ¬ p) (hb : Below w.heap.size w w') : ErrI p w (.returned (.int .i64 k)) w' := ⟨k, rfl, ⟨fun h => absurd h hk, fun h => absurd h hp⟩, hb⟩
theorem eri_yes {p : Prop} {w w' : World} (hp : p) (hb : Below w.heap.size w w') : ErrI p w (.returned (.int .i64 0)) w' := ⟨0, rfl, ⟨fun _ => hp, fun _ => rfl⟩, hb⟩

set_option maxHeartbeats 1600000 in
set_option maxRecDepth 100000 in
theorem rArc_in (a : ArcV) (n : Nat) (w : World) : Calls Tryz.prog 62 #[arcV a, .int .i64 n] w (ErrI (ArcR n a) w) := by
  have HY := Lib.hid (fun x W h => rin3_yes x h W)
  have HN := Lib.hid (fun x W h => rin3_no x h W)
  obtain ⟨f, t, lo, cap, cost⟩ := a
  have HB := Lib.hid ((Below.refl w.heap.size w).alloc (Nat.le_refl _) (.cells #[.int .i64 f, .int .i64 t, .int .i64 lo, .int .i64 cap, .int .i64 cost] 42))
  obtain ⟨p0, p1, p2, p3, p4⟩ := blk5 (Blk.new w 42 #[.int .i64 f, .int .i64 t, .int .i64 lo, .int .i64 cap, .int .i64 cost])
  unfold arcV
  go_enter Tryz.func62, Tryz.ntmps62
  by_cases hf : f < 0
  · go_wp2_with fail
    go_ret
    exact eri_no 21 (by decide) (fun h => by have := h.f.1; simp only at this; omega) HB.out
  by_cases hf2 : (n : Int) ≤ f
  · go_wp2_with fail
    go_ret
    exact eri_no 21 (by decide) (fun h => by have := h.f.2; simp only at this; omega) HB.out
  by_cases ht : t < 0
  · go_wp2_with fail
    go_ret
    exact eri_no 21 (by decide) (fun h => by have := h.t.1; simp only at this; omega) HB.out
  by_cases ht2 : (n : Int) ≤ t
  · go_wp2_with fail
    go_ret
    exact eri_no 21 (by decide) (fun h => by have := h.t.2; simp only at this; omega) HB.out
  by_cases hl : lo < 0
  · go_wp2_with fail
    go_ret
    exact eri_no 22 (by decide) (fun h => by have := h.lo.1; simp only at this; omega) HB.out
  by_cases hl2 : 4398046511104 < lo
  · go_wp2_with fail
    go_ret
    exact eri_no 22 (by decide) (fun h => by have := h.lo.2; simp only at this; omega) HB.out
  have Hcost : ∀ (hcap : cap = infC ∨ (lo ≤ cap ∧ cap ≤ 4398046511104)), ArcR n ⟨f, t, lo, cap, cost⟩ ↔ (-4398046511104 ≤ cost ∧ cost ≤ 4398046511104) := fun hcap =>
    ⟨fun h => h.cost, fun h => ⟨⟨by simp only; omega, by simp only; omega⟩, ⟨by simp only; omega, by simp only; omega⟩, ⟨by simp only; omega, by simp only; omega⟩, hcap, h⟩⟩
  have HC := Lib.hid Hcost
  clear Hcost
  by_cases hc : cap = 4611686018427387904
  · have hc1 : (cap != 4611686018427387904) = false := by simp [hc]
    have HC2 := Lib.hid (HC.out (.inl hc))
    clear HC hc
    go_wp2_with fail
    by_cases hk : -4398046511104 ≤ cost ∧ cost ≤ 4398046511104
    · refine (HY.out _ _ hk).mono ?_
      rintro e _ ⟨rfl, rfl⟩
      have HP := Lib.hid (HC2.out.2 hk)
      clear hk HY HN
      go_wp2_with fail
      go_ret
      exact eri_yes HP.out HB.out
    · refine (HN.out _ _ hk).mono ?_
      rintro e _ ⟨rfl, rfl⟩
      have HP := Lib.hid (fun h => hk (HC2.out.1 h))
      clear hk HY HN
      go_wp2_with fail
      go_ret
      exact eri_no 23 (by decide) HP.out HB.out
  · have hc1 : (cap != 4611686018427387904) = true := by simp [hc]
    have HC0 := Lib.hid hc
    clear hc
    by_cases hcl : cap < lo
    · go_wp2_with fail
      go_ret
      exact eri_no 22 (by decide) (fun h => by
        rcases h.cap with h | h
        · exact HC0.out h
        · have := h.1; simp only at this; omega) HB.out
    by_cases hcm : 4398046511104 < cap
    · go_wp2_with fail
      go_ret
      exact eri_no 22 (by decide) (fun h => by
        rcases h.cap with h | h
        · exact HC0.out h
        · have := h.2; simp only at this; omega) HB.out
    have HC2 := Lib.hid (HC.out (.inr ⟨by omega, by omega⟩))
    clear HC
    go_wp2_with fail
    by_cases hk : -4398046511104 ≤ cost ∧ cost ≤ 4398046511104
    · refine (HY.out _ _ hk).mono ?_
      rintro e _ ⟨rfl, rfl⟩
      have HP := Lib.hid (HC2.out.2 hk)
      clear hk HY HN
      go_wp2_with fail
      go_ret
      exact eri_yes HP.out HB.out
    · refine (HN.out _ _ hk).mono ?_
      rintro e _ ⟨rfl, rfl⟩
      have HP := Lib.hid (fun h => hk (HC2.out.1 h))
      clear hk HY HN
      go_wp2_with fail
      go_ret
      exact eri_no 23 (by decide) HP.out HB.out

set_option maxHeartbeats 3200000 in
set_option maxRecDepth 100000 in
theorem rRight_in (S A : Option Addr) (n c m d : Nat) (sup : List Int) (arcs : List ArcV) (w : World) (hn : n = sup.length) (hm : m = arcs.length) (r : Reads w w.heap.size 1 S n (sup.map I)) (ra : Reads w w.heap.size 5 A m (arcCells arcs)) :
    Calls Tryz.prog 45 #[.agg #[.slice S n c, .slice A m d]] w (ErrI (InstR sup arcs) w) := by
  have HA := Lib.hid (fun a W => rArc_in a n W)
  have hb0 := (Below.refl w.heap.size w).alloc (Nat.le_refl _) (.cells #[.slice S n c, .slice A m d] 29)
  have kb := Blk.new w 29 #[.slice S n c, .slice A m d]
  have HL := Lib.hid (And.intro hn hm)
  have HR := Lib.hid (And.intro ((r.below hb0).more hb0.size) ((ra.below hb0).more hb0.size))
  have HB := Lib.hid hb0
  have p0 := kb.cell 0
  have p1 := kb.cell 1
  have hlt := kb.lt
  simp only [List.getElem?_toArray, List.getElem?_cons_zero, List.getElem?_cons_succ] at p0 p1
  clear hn hm r ra hb0 kb
  go_enter Tryz.func45, Tryz.ntmps45
  by_cases h64 : (64 : Int) < n
  · go_wp2_with fail
    go_ret
    exact eri_no 20 (by decide) (fun h => by have := h.n64; have := HL.out.1; omega) HB.out
  by_cases h256 : (256 : Int) < m
  · go_wp2_with fail
    go_ret
    exact eri_no 20 (by decide) (fun h => by have := h.m256; have := HL.out.2; omega) HB.out
  go_wp2_with fail
  generalize hW0 : w.alloc (.cells #[.slice S n c, .slice A m d] 29) = W0 at *
  go_loopw [3] (fun i wr => ∃ k : Nat, k ≤ m ∧ i = .int .i64 k ∧ Hid (∀ a ∈ arcs.take k, ArcR n a) ∧ Below W0.heap.size W0 wr) (fun i _ => m - (intOf i).toNat)
  case atStart => exact ⟨0, Nat.zero_le _, rfl, Lib.hid (by simp), Below.refl _ _⟩
  case round =>
    obtain ⟨k, hk, rfl, hG, hbw⟩ := hrel
    have q0 := (hbw.cell (p := ⟨w.heap.size, 0, none⟩) hlt).trans p0
    have q1 := (hbw.cell (p := ⟨w.heap.size, 1, none⟩) hlt).trans p1
    by_cases hkm : k < m
    · obtain ⟨a, ha⟩ : ∃ a, arcs[k]? = some a := ⟨_, List.getElem?_eq_getElem (by have := HL.out.2; omega)⟩
      obtain ⟨b, off, rfl, hb, x0, x1, x2, x3, x4⟩ := (HR.out.2.below hbw).arc ha
      have hk1 : IntKind.i64.wrap ((k : Int) + 1) = (k : Int) + 1 := IntWalk.i64_in _ (by omega)
      have HT := Lib.hid (take_snoc arcs k a ha)
      have HM := Lib.hid (List.mem_of_getElem? ha)
      have HX := Lib.hid hbw
      clear ha hbw
      have hk2 : (k : Int) < (m : Int) := by omega
      go_wp2_with fail
      go_still_tail 8, (by kernel_rfl)
      change wpList _ _ _ _ _ wr.drew
      go_wp2_with fail
      refine (HA.out a _).mono ?_
      rintro e w1 ⟨e1, rfl, he, hb1⟩
      have HE := Lib.hid he
      have HX1 := Lib.hid (HX.out.drew.trans (hb1.mono HX.out.size))
      clear he hb1 x0 x1 x2 x3 x4 q0 q1 HX
      by_cases h0 : e1 = 0
      · subst h0
        go_wp2_with fail
        go_roundw
        case rel => exact ⟨k + 1, by omega, by go_num, Lib.hid (by
          rw [HT.out]
          intro x hx
          rcases List.mem_append.1 hx with hx | hx
          · exact hG.out x hx
          · obtain rfl := List.mem_singleton.1 hx
            exact HE.out.1 (by trivial)), HX1.out⟩
        case measure => simp [intOf]; omega
      · have h0b : (e1 != 0) = true := by simp [h0]
        have H0 := Lib.hid h0
        clear h0
        go_wp2_with fail
        go_ret
        exact ⟨e1, rfl, ⟨fun h => absurd h H0.out, fun h => HE.out.2 (by rw [HL.out.1]; exact h.arcB _ HM.out)⟩, HB.out.trans (HX1.out.mono HB.out.size)⟩
    · obtain rfl : k = m := by omega
      have HG := Lib.hid (show ∀ a ∈ arcs, ArcR n a from fun a ha => hG.out a (by rw [HL.out.2, List.take_length]; exact ha))
      clear hG
      have HR1 := Lib.hid (HR.out.1.below hbw)
      have HBW := Lib.hid (HB.out.trans (hbw.mono HB.out.size))
      clear hbw hW0 p0 p1 HR
      go_wp2_with fail
      go_loopw [5, 6] (fun v i wx => ∃ j : Nat, j ≤ n ∧ i = .int .i64 j ∧ v = .int .i64 (sup.take j).sum ∧ Hid (∀ x ∈ sup.take j, -4398046511104 ≤ x ∧ x ≤ 4398046511104) ∧ wx = wr) (fun _ i _ => n - (intOf i).toNat)
      case atStart => exact ⟨0, Nat.zero_le _, rfl, rfl, Lib.hid (by simp), rfl⟩
      case round =>
        obtain ⟨j, hj, rfl, rfl, hS, rfl⟩ := hrel
        by_cases hjn : j < n
        · obtain ⟨x, hx⟩ : ∃ x, sup[j]? = some x := ⟨_, List.getElem?_eq_getElem (by have := HL.out.1; omega)⟩
          obtain ⟨b, off, u, rfl, hb, hx', hc⟩ := HR1.out.at_ hjn
          rw [List.getElem?_map, hx] at hx'
          cases hx'
          unfold I at hc
          have hk1 : IntKind.i64.wrap ((j : Int) + 1) = (j : Int) + 1 := IntWalk.i64_in _ (by omega)
          have HT := Lib.hid (take_snoc sup j x hx)
          have HM := Lib.hid (List.mem_of_getElem? hx)
          have hsm := sum_small (sup.take j) 4398046511104 (by omega) hS.out
          have hlen : (sup.take j).length ≤ 64 := by rw [List.length_take]; omega
          have HSM := Lib.hid (show -281474976710656 ≤ (sup.take j).sum ∧ (sup.take j).sum ≤ 281474976710656 by omega)
          clear hx hsm hlen
          generalize hq : (sup.take j).sum = q at *
          have HQ := Lib.hid hq
          clear hq
          have hj2 : (j : Int) < (n : Int) := by omega
          go_wp2_with fail
          by_cases hk : -4398046511104 ≤ x ∧ x ≤ 4398046511104
          case neg =>
            refine (rin3_no _ hk _).mono ?_
            rintro e _ ⟨rfl, rfl⟩
            have HP := Lib.hid hk
            clear hk
            go_wp2_with fail
            go_ret
            exact eri_no 24 (by decide) (fun h => HP.out (h.supB _ HM.out)) HBW.out
          refine (rin3_yes _ hk _).mono ?_
          rintro e _ ⟨rfl, rfl⟩
          have HP := Lib.hid hk
          clear hk
          have hw : IntKind.i64.wrap (q + x) = q + x := IntWalk.i64_in _ (by have := HSM.out; have := HP.out; omega)
          go_wp2_with fail
          go_roundw
          case rel => exact ⟨j + 1, by omega, by go_num, by rw [HT.out, List.sum_append, HQ.out]; simp, Lib.hid (by
            rw [HT.out]
            intro y hy
            rcases List.mem_append.1 hy with hy | hy
            · exact hS.out y hy
            · obtain rfl := List.mem_singleton.1 hy
              exact HP.out), trivial⟩
          case measure => simp [intOf]; omega
        · obtain rfl : j = n := by omega
          have hall : sup.take j = sup := by rw [HL.out.1, List.take_length]
          rw [hall] at hS ⊢
          generalize hq : sup.sum = q at *
          have HQ := Lib.hid hq
          clear hq hall
          by_cases h0 : q = 0
          · subst h0
            go_wp2_with fail
            go_ret
            exact eri_yes ⟨by have := HL.out.1; omega, by have := HL.out.2; omega, fun a ha => by rw [← HL.out.1]; exact HG.out a ha, hS.out, HQ.out⟩ HBW.out
          · have h0b : (q != 0) = true := by simp [h0]
            have H0 := Lib.hid h0
            clear h0
            go_wp2_with fail
            go_ret
            exact eri_no 25 (by decide) (fun h => H0.out (HQ.out ▸ h.sum)) HBW.out

set_option maxHeartbeats 6400000 in
set_option maxRecDepth 100000 in
theorem rfits_false (S A : Option Addr) (n c m d : Nat) (sup : List Int) (arcs : List ArcV) (ps pt : Int) (w : World) (hn : n = sup.length) (hm : m = arcs.length) (r : Reads w w.heap.size 1 S n (sup.map I)) (ra : Reads w w.heap.size 5 A m (arcCells arcs)) :
    Calls Tryz.prog 24 #[probV false S n c A m d ps pt] w (SaysIf (FitsF ⟨false, sup, arcs, ps, pt⟩) w) := by
  have HF := Lib.hid (fits_iff ⟨false, sup, arcs, ps, pt⟩)
  have hb0 := (Below.refl w.heap.size w).alloc (Nat.le_refl _) (.cells #[.bool false, .slice S n c, .slice A m d, .int .i64 ps, .int .i64 pt] 31)
  have HRT := Lib.hid (rRight_in S A n c m d sup arcs (w.alloc (.cells #[.bool false, .slice S n c, .slice A m d, .int .i64 ps, .int .i64 pt] 31)) hn hm ((r.below hb0).more hb0.size) ((ra.below hb0).more hb0.size))
  have HL := Lib.hid (And.intro hn hm)
  have HR := Lib.hid (And.intro ((r.below hb0).more hb0.size) ((ra.below hb0).more hb0.size))
  have HB := Lib.hid hb0
  have kb := Blk.new w 31 #[.bool false, .slice S n c, .slice A m d, .int .i64 ps, .int .i64 pt]
  obtain ⟨p0, p1, p2, p3, p4⟩ := blk5 kb
  have hlt := kb.lt
  have HKB := Lib.hid kb
  clear hn hm r ra hb0 kb
  unfold probV
  go_enter Tryz.func24, Tryz.ntmps24
  go_wp2_with fail
  generalize w.alloc (.cells #[.bool false, .slice S n c, .slice A m d, .int .i64 ps, .int .i64 pt] 31) = W0 at *
  refine HRT.out.mono ?_
  rintro e w1 ⟨k, rfl, hk, hb1⟩
  obtain ⟨q0, q1, q2, q3, q4⟩ := blk5 (HKB.out.below hb1 HKB.out.lt)
  have hlt1 : w.heap.size < w1.heap.size := by have := hb1.size; omega
  have HR1 := Lib.hid (And.intro ((HR.out.1.below hb1).more hb1.size) ((HR.out.2.below hb1).more hb1.size))
  have HBW := Lib.hid (HB.out.trans (hb1.mono HB.out.size))
  have HK := Lib.hid hk
  clear hk hb1 p0 p1 p2 p3 p4 hlt HRT HR HB HKB
  by_cases hk0 : k = 0
  case neg =>
    have h0b : (k != 0) = true := by simp [hk0]
    have H0 := Lib.hid hk0
    clear hk0
    go_wp2_with fail
    go_ret
    exact says_no (fun h => H0.out (HK.out.2 (HF.out.1 h).1)) HBW.out
  have HI := Lib.hid (HK.out.1 hk0)
  clear HK
  subst hk0
  by_cases hn0 : n = 0
  · have hz : ((n : Int) == 0) = true := by simp [hn0]
    have HN0 := Lib.hid hn0
    clear hn0
    go_wp2_with fail
    go_ret
    exact says_no (fun h => by have h1 := (HF.out.1 h).2.1; have h2 := HL.out.1; have h3 := HN0.out; (try simp only at h1); omega) HBW.out
  have hz : ((n : Int) == 0) = false := by simp; omega
  have HN0 := Lib.hid hn0
  clear hn0
  go_wp2_with fail
  go_loopw [4] (fun i wx => ∃ j : Nat, j ≤ n ∧ i = .int .i64 j ∧ Hid (∀ x ∈ sup.take j, SupF false x) ∧ w1 = wx) (fun i _ => n - (intOf i).toNat)
  case atStart => exact ⟨0, Nat.zero_le _, rfl, Lib.hid (by simp), rfl⟩
  case round =>
    obtain ⟨j, hj, rfl, hS, rfl⟩ := hrel
    by_cases hjn : j < n
    · obtain ⟨x, hx⟩ : ∃ x, sup[j]? = some x := ⟨_, List.getElem?_eq_getElem (by have := HL.out.1; omega)⟩
      obtain ⟨b, off, u, rfl, hb, hx', hc⟩ := HR1.out.1.at_ hjn
      rw [List.getElem?_map, hx] at hx'
      cases hx'
      unfold I at hc
      have hk1 : IntKind.i64.wrap ((j : Int) + 1) = (j : Int) + 1 := IntWalk.i64_in _ (by have := HI.out.n64; have := HL.out.1; omega)
      have HT := Lib.hid (take_snoc sup j x hx)
      have HM := Lib.hid (List.mem_of_getElem? hx)
      have hj2 : (j : Int) < (n : Int) := by omega
      clear hx
      go_wp2_with fail
      by_cases hx : -2147483648 ≤ x ∧ x ≤ 2147483648
      case neg =>
        refine (rin8_no _ _ _ hx _).mono ?_
        rintro e _ ⟨rfl, rfl⟩
        have HP := Lib.hid hx
        clear hx
        go_wp2_with fail
        go_ret
        exact says_no (fun h => HP.out ((HF.out.1 h).2.2.1 x HM.out).b) HBW.out
      refine (rin8_yes _ _ _ hx _).mono ?_
      rintro e _ ⟨rfl, rfl⟩
      have Hhx := Lib.hid hx
      clear hx
      go_wp2_with fail
      go_roundw
      case rel => exact ⟨j + 1, by omega, by go_num, Lib.hid (by
        rw [HT.out]
        intro y hy
        rcases List.mem_append.1 hy with hy | hy
        · exact hS.out y hy
        · obtain rfl := List.mem_singleton.1 hy
          exact ⟨Hhx.out, fun h => by cases h⟩), trivial⟩
      case measure => simp [intOf]; omega
    · obtain rfl : j = n := by omega
      have HS := Lib.hid (show ∀ x ∈ sup, SupF false x from fun x hx => hS.out x (by rw [HL.out.1, List.take_length]; exact hx))
      clear hS
      go_wp2_with fail
      go_loopw [5] (fun i wr => ∃ k : Nat, k ≤ m ∧ i = .int .i64 k ∧ Hid (∀ a ∈ arcs.take k, ArcF false a) ∧ Below w1.heap.size w1 wr) (fun i _ => m - (intOf i).toNat)
      case atStart => exact ⟨0, Nat.zero_le _, rfl, Lib.hid (by simp), Below.refl _ _⟩
      case round =>
        obtain ⟨k, hk, rfl, hG, hbw⟩ := hrel
        have s0 := (hbw.cell (p := ⟨w.heap.size, 0, none⟩) hlt1).trans q0
        have s2 := (hbw.cell (p := ⟨w.heap.size, 2, none⟩) hlt1).trans q2
        have s3 := (hbw.cell (p := ⟨w.heap.size, 3, none⟩) hlt1).trans q3
        have s4 := (hbw.cell (p := ⟨w.heap.size, 4, none⟩) hlt1).trans q4
        by_cases hkm : k < m
        · obtain ⟨a, ha⟩ : ∃ a, arcs[k]? = some a := ⟨_, List.getElem?_eq_getElem (by have := HL.out.2; omega)⟩
          obtain ⟨b, off, rfl, hb, x0, x1, x2, x3, x4⟩ := (HR1.out.2.below hbw).arc ha
          have hk1 : IntKind.i64.wrap ((k : Int) + 1) = (k : Int) + 1 := IntWalk.i64_in _ (by have := HI.out.m256; have := HL.out.2; omega)
          have HT := Lib.hid (take_snoc arcs k a ha)
          have HM := Lib.hid (List.mem_of_getElem? ha)
          have HAR := Lib.hid (HI.out.arcB a (List.mem_of_getElem? ha))
          obtain ⟨af, at_, lo, cap, cost⟩ := a
          simp only at x0 x1 x2 x3 x4
          have hbx := hbw.alloc (o := .cells #[.int .i64 af, .int .i64 at_, .int .i64 lo, .int .i64 cap, .int .i64 cost] 42) hbw.size
          have HX := Lib.hid hbx
          have hlo := HAR.out.lo.1
          simp only at hlo
          obtain ⟨y0, y1, y2, y3, y4⟩ := blk5 (Blk.new wr 42 #[.int .i64 af, .int .i64 at_, .int .i64 lo, .int .i64 cap, .int .i64 cost])
          have z0 := (hbx.cell (p := ⟨w.heap.size, 0, none⟩) hlt1).trans q0
          have z2 := (hbx.cell (p := ⟨w.heap.size, 2, none⟩) hlt1).trans q2
          have hk2 : (k : Int) < (m : Int) := by omega
          have hsz := hbw.size
          have hltr : w.heap.size < wr.heap.size := by omega
          have HBW := Lib.hid (HBW.out.trans (hbx.mono HBW.out.size))
          clear ha hbx hbw
          go_upto_region 13 with fail
          generalize wr.alloc (.cells #[.int .i64 af, .int .i64 at_, .int .i64 lo, .int .i64 cap, .int .i64 cost] 42) = W2 at *
          clear x0 x1 x2 x3 x4 s0
          by_cases hl : lo ≤ 2147483648
          case neg =>
            have hl2 : 2147483648 < lo := by omega
            have HP := Lib.hid hl
            clear hl
            go_wp2_with fail
            go_ret
            exact says_no (fun h => by have h1 := ((HF.out.1 h).2.2.2.1 _ HM.out).lo; have h2 := HP.out; (try simp only at h1); omega) HBW.out
          have Hhl := Lib.hid (And.intro hlo hl)
          by_cases hcap : cap = 4611686018427387904
          · have hcb2 : (cap != 4611686018427387904) = false := by simp [hcap]
            have HCP := Lib.hid (show cap = infC ∨ cap ≤ 2147483648 from .inl hcap)
            clear hcap
            go_wp2_with fail
            by_cases hc2 : -2147483648 ≤ cost ∧ cost ≤ 2147483648
            case neg =>
              refine (rin8_no _ _ _ hc2 _).mono ?_
              rintro e _ ⟨rfl, rfl⟩
              have HP := Lib.hid hc2
              clear hc2
              go_wp2_with fail
              go_ret
              exact says_no (fun h => HP.out ((HF.out.1 h).2.2.2.1 _ HM.out).cost) HBW.out
            refine (rin8_yes _ _ _ hc2 _).mono ?_
            rintro e _ ⟨rfl, rfl⟩
            have Hhc2 := Lib.hid hc2
            clear hc2
            go_wp2_with fail
            go_roundw
            case rel => exact ⟨k + 1, by omega, by go_num, Lib.hid (by
              rw [HT.out]
              intro y hy
              rcases List.mem_append.1 hy with hy | hy
              · exact hG.out y hy
              · obtain rfl := List.mem_singleton.1 hy
                exact ⟨Hhl.out.2, HCP.out, Hhc2.out, fun h => by cases h⟩), HX.out⟩
            case measure => simp [intOf]; omega
          · have hcb2 : (cap != 4611686018427387904) = true := by simp [hcap]
            have HNC := Lib.hid hcap
            clear hcap
            by_cases hcp : cap ≤ 2147483648
            case neg =>
              have hcp2 : 2147483648 < cap := by omega
              have HP := Lib.hid hcp
              clear hcp
              go_wp2_with fail
              go_ret
              exact says_no (fun h => by
              have h1 := ((HF.out.1 h).2.2.2.1 _ HM.out).cap
              rcases h1 with h1 | h1
              · exact HNC.out h1
              · have h2 := HAR.out.cap
                rcases h2 with h2 | h2
                · exact HNC.out h2
                · have h3 := HP.out; (try simp only at h1 h2); omega) HBW.out
            have Hhcp := Lib.hid (And.intro hlo hcp)
            go_wp2_with fail
            by_cases hc2 : -2147483648 ≤ cost ∧ cost ≤ 2147483648
            case neg =>
              refine (rin8_no _ _ _ hc2 _).mono ?_
              rintro e _ ⟨rfl, rfl⟩
              have HP := Lib.hid hc2
              clear hc2
              go_wp2_with fail
              go_ret
              exact says_no (fun h => HP.out ((HF.out.1 h).2.2.2.1 _ HM.out).cost) HBW.out
            refine (rin8_yes _ _ _ hc2 _).mono ?_
            rintro e _ ⟨rfl, rfl⟩
            have Hhc2 := Lib.hid hc2
            clear hc2
            go_wp2_with fail
            go_roundw
            case rel => exact ⟨k + 1, by omega, by go_num, Lib.hid (by
              rw [HT.out]
              intro y hy
              rcases List.mem_append.1 hy with hy | hy
              · exact hG.out y hy
              · obtain rfl := List.mem_singleton.1 hy
                exact ⟨Hhl.out.2, .inr Hhcp.out.2, Hhc2.out, fun h => by cases h⟩), HX.out⟩
            case measure => simp [intOf]; omega
        · obtain rfl : k = m := by omega
          have HG := Lib.hid (show ∀ a ∈ arcs, ArcF false a from fun a ha => hG.out a (by rw [HL.out.2, List.take_length]; exact ha))
          have HBW := Lib.hid (HBW.out.trans (hbw.mono HBW.out.size))
          clear hG hbw
          by_cases hps : ps = 0
          case neg =>
            have hvb : (ps == 0) = false := by simp [hps]
            have HX0 := Lib.hid hps
            clear hps
            go_wp2_with fail
            go_ret
            exact says_no (fun h => HX0.out ((HF.out.1 h).2.2.2.2.mn rfl).1) HBW.out
          have hpsb : (ps == 0) = true := by simp [hps]
          have Hps := Lib.hid hps
          clear hps
          by_cases hpt : pt = 0
          case neg =>
            have hvb : (pt == 0) = false := by simp [hpt]
            have HX0 := Lib.hid hpt
            clear hpt
            go_wp2_with fail
            go_ret
            exact says_no (fun h => HX0.out ((HF.out.1 h).2.2.2.2.mn rfl).2) HBW.out
          have hptb : (pt == 0) = true := by simp [hpt]
          have Hpt := Lib.hid hpt
          clear hpt
          go_wp2_with fail
          go_ret
          exact says_yes (HF.out.2 ⟨HI.out, by have := HL.out.1; have := HN0.out; omega, HS.out, HG.out, ⟨fun h => (by cases h), fun _ => ⟨Hps.out, Hpt.out⟩⟩⟩) HBW.out

set_option maxHeartbeats 6400000 in
set_option maxRecDepth 100000 in
theorem rfits_true (S A : Option Addr) (n c m d : Nat) (sup : List Int) (arcs : List ArcV) (ps pt : Int) (w : World) (hn : n = sup.length) (hm : m = arcs.length) (r : Reads w w.heap.size 1 S n (sup.map I)) (ra : Reads w w.heap.size 5 A m (arcCells arcs)) :
    Calls Tryz.prog 24 #[probV true S n c A m d ps pt] w (SaysIf (FitsF ⟨true, sup, arcs, ps, pt⟩) w) := by
  have HF := Lib.hid (fits_iff ⟨true, sup, arcs, ps, pt⟩)
  have hb0 := (Below.refl w.heap.size w).alloc (Nat.le_refl _) (.cells #[.bool true, .slice S n c, .slice A m d, .int .i64 ps, .int .i64 pt] 31)
  have HRT := Lib.hid (rRight_in S A n c m d sup arcs (w.alloc (.cells #[.bool true, .slice S n c, .slice A m d, .int .i64 ps, .int .i64 pt] 31)) hn hm ((r.below hb0).more hb0.size) ((ra.below hb0).more hb0.size))
  have HL := Lib.hid (And.intro hn hm)
  have HR := Lib.hid (And.intro ((r.below hb0).more hb0.size) ((ra.below hb0).more hb0.size))
  have HB := Lib.hid hb0
  have kb := Blk.new w 31 #[.bool true, .slice S n c, .slice A m d, .int .i64 ps, .int .i64 pt]
  obtain ⟨p0, p1, p2, p3, p4⟩ := blk5 kb
  have hlt := kb.lt
  have HKB := Lib.hid kb
  clear hn hm r ra hb0 kb
  unfold probV
  go_enter Tryz.func24, Tryz.ntmps24
  go_wp2_with fail
  generalize w.alloc (.cells #[.bool true, .slice S n c, .slice A m d, .int .i64 ps, .int .i64 pt] 31) = W0 at *
  refine HRT.out.mono ?_
  rintro e w1 ⟨k, rfl, hk, hb1⟩
  obtain ⟨q0, q1, q2, q3, q4⟩ := blk5 (HKB.out.below hb1 HKB.out.lt)
  have hlt1 : w.heap.size < w1.heap.size := by have := hb1.size; omega
  have HR1 := Lib.hid (And.intro ((HR.out.1.below hb1).more hb1.size) ((HR.out.2.below hb1).more hb1.size))
  have HBW := Lib.hid (HB.out.trans (hb1.mono HB.out.size))
  have HK := Lib.hid hk
  clear hk hb1 p0 p1 p2 p3 p4 hlt HRT HR HB HKB
  by_cases hk0 : k = 0
  case neg =>
    have h0b : (k != 0) = true := by simp [hk0]
    have H0 := Lib.hid hk0
    clear hk0
    go_wp2_with fail
    go_ret
    exact says_no (fun h => H0.out (HK.out.2 (HF.out.1 h).1)) HBW.out
  have HI := Lib.hid (HK.out.1 hk0)
  clear HK
  subst hk0
  by_cases hn0 : n = 0
  · have hz : ((n : Int) == 0) = true := by simp [hn0]
    have HN0 := Lib.hid hn0
    clear hn0
    go_wp2_with fail
    go_ret
    exact says_no (fun h => by have h1 := (HF.out.1 h).2.1; have h2 := HL.out.1; have h3 := HN0.out; (try simp only at h1); omega) HBW.out
  have hz : ((n : Int) == 0) = false := by simp; omega
  have HN0 := Lib.hid hn0
  clear hn0
  go_wp2_with fail
  go_loopw [4] (fun i wx => ∃ j : Nat, j ≤ n ∧ i = .int .i64 j ∧ Hid (∀ x ∈ sup.take j, SupF true x) ∧ w1 = wx) (fun i _ => n - (intOf i).toNat)
  case atStart => exact ⟨0, Nat.zero_le _, rfl, Lib.hid (by simp), rfl⟩
  case round =>
    obtain ⟨j, hj, rfl, hS, rfl⟩ := hrel
    by_cases hjn : j < n
    · obtain ⟨x, hx⟩ : ∃ x, sup[j]? = some x := ⟨_, List.getElem?_eq_getElem (by have := HL.out.1; omega)⟩
      obtain ⟨b, off, u, rfl, hb, hx', hc⟩ := HR1.out.1.at_ hjn
      rw [List.getElem?_map, hx] at hx'
      cases hx'
      unfold I at hc
      have hk1 : IntKind.i64.wrap ((j : Int) + 1) = (j : Int) + 1 := IntWalk.i64_in _ (by have := HI.out.n64; have := HL.out.1; omega)
      have HT := Lib.hid (take_snoc sup j x hx)
      have HM := Lib.hid (List.mem_of_getElem? hx)
      have hj2 : (j : Int) < (n : Int) := by omega
      clear hx
      go_wp2_with fail
      by_cases hx : -2147483648 ≤ x ∧ x ≤ 2147483648
      case neg =>
        refine (rin8_no _ _ _ hx _).mono ?_
        rintro e _ ⟨rfl, rfl⟩
        have HP := Lib.hid hx
        clear hx
        go_wp2_with fail
        go_ret
        exact says_no (fun h => HP.out ((HF.out.1 h).2.2.1 x HM.out).b) HBW.out
      refine (rin8_yes _ _ _ hx _).mono ?_
      rintro e _ ⟨rfl, rfl⟩
      have Hhx := Lib.hid hx
      clear hx
      by_cases hx0 : x = 0
      case neg =>
        have hxb : (x != 0) = true := by simp [hx0]
        have HX0 := Lib.hid hx0
        clear hx0
        go_wp2_with fail
        go_ret
        exact says_no (fun h => HX0.out (((HF.out.1 h).2.2.1 x HM.out).z rfl)) HBW.out
      have hxb : (x != 0) = false := by simp [hx0]
      have HX0 := Lib.hid hx0
      clear hx0
      go_wp2_with fail
      go_roundw
      case rel => exact ⟨j + 1, by omega, by go_num, Lib.hid (by
        rw [HT.out]
        intro y hy
        rcases List.mem_append.1 hy with hy | hy
        · exact hS.out y hy
        · obtain rfl := List.mem_singleton.1 hy
          exact ⟨Hhx.out, fun _ => HX0.out⟩), trivial⟩
      case measure => simp [intOf]; omega
    · obtain rfl : j = n := by omega
      have HS := Lib.hid (show ∀ x ∈ sup, SupF true x from fun x hx => hS.out x (by rw [HL.out.1, List.take_length]; exact hx))
      clear hS
      go_wp2_with fail
      go_loopw [5] (fun i wr => ∃ k : Nat, k ≤ m ∧ i = .int .i64 k ∧ Hid (∀ a ∈ arcs.take k, ArcF true a) ∧ Below w1.heap.size w1 wr) (fun i _ => m - (intOf i).toNat)
      case atStart => exact ⟨0, Nat.zero_le _, rfl, Lib.hid (by simp), Below.refl _ _⟩
      case round =>
        obtain ⟨k, hk, rfl, hG, hbw⟩ := hrel
        have s0 := (hbw.cell (p := ⟨w.heap.size, 0, none⟩) hlt1).trans q0
        have s2 := (hbw.cell (p := ⟨w.heap.size, 2, none⟩) hlt1).trans q2
        have s3 := (hbw.cell (p := ⟨w.heap.size, 3, none⟩) hlt1).trans q3
        have s4 := (hbw.cell (p := ⟨w.heap.size, 4, none⟩) hlt1).trans q4
        by_cases hkm : k < m
        · obtain ⟨a, ha⟩ : ∃ a, arcs[k]? = some a := ⟨_, List.getElem?_eq_getElem (by have := HL.out.2; omega)⟩
          obtain ⟨b, off, rfl, hb, x0, x1, x2, x3, x4⟩ := (HR1.out.2.below hbw).arc ha
          have hk1 : IntKind.i64.wrap ((k : Int) + 1) = (k : Int) + 1 := IntWalk.i64_in _ (by have := HI.out.m256; have := HL.out.2; omega)
          have HT := Lib.hid (take_snoc arcs k a ha)
          have HM := Lib.hid (List.mem_of_getElem? ha)
          have HAR := Lib.hid (HI.out.arcB a (List.mem_of_getElem? ha))
          obtain ⟨af, at_, lo, cap, cost⟩ := a
          simp only at x0 x1 x2 x3 x4
          have hbx := hbw.alloc (o := .cells #[.int .i64 af, .int .i64 at_, .int .i64 lo, .int .i64 cap, .int .i64 cost] 42) hbw.size
          have HX := Lib.hid hbx
          have hlo := HAR.out.lo.1
          simp only at hlo
          obtain ⟨y0, y1, y2, y3, y4⟩ := blk5 (Blk.new wr 42 #[.int .i64 af, .int .i64 at_, .int .i64 lo, .int .i64 cap, .int .i64 cost])
          have z0 := (hbx.cell (p := ⟨w.heap.size, 0, none⟩) hlt1).trans q0
          have z2 := (hbx.cell (p := ⟨w.heap.size, 2, none⟩) hlt1).trans q2
          have hk2 : (k : Int) < (m : Int) := by omega
          have hsz := hbw.size
          have hltr : w.heap.size < wr.heap.size := by omega
          have HBW := Lib.hid (HBW.out.trans (hbx.mono HBW.out.size))
          clear ha hbx hbw
          go_upto_region 13 with fail
          generalize wr.alloc (.cells #[.int .i64 af, .int .i64 at_, .int .i64 lo, .int .i64 cap, .int .i64 cost] 42) = W2 at *
          clear x0 x1 x2 x3 x4 s0
          by_cases hl : lo ≤ 2147483648
          case neg =>
            have hl2 : 2147483648 < lo := by omega
            have HP := Lib.hid hl
            clear hl
            go_wp2_with fail
            go_ret
            exact says_no (fun h => by have h1 := ((HF.out.1 h).2.2.2.1 _ HM.out).lo; have h2 := HP.out; (try simp only at h1); omega) HBW.out
          have Hhl := Lib.hid (And.intro hlo hl)
          by_cases hcap : cap = 4611686018427387904
          · have hcb2 : (cap != 4611686018427387904) = false := by simp [hcap]
            have HCP := Lib.hid (show cap = infC ∨ cap ≤ 2147483648 from .inl hcap)
            clear hcap
            go_wp2_with fail
            by_cases hc2 : -2147483648 ≤ cost ∧ cost ≤ 2147483648
            case neg =>
              refine (rin8_no _ _ _ hc2 _).mono ?_
              rintro e _ ⟨rfl, rfl⟩
              have HP := Lib.hid hc2
              clear hc2
              go_wp2_with fail
              go_ret
              exact says_no (fun h => HP.out ((HF.out.1 h).2.2.2.1 _ HM.out).cost) HBW.out
            refine (rin8_yes _ _ _ hc2 _).mono ?_
            rintro e _ ⟨rfl, rfl⟩
            have Hhc2 := Lib.hid hc2
            clear hc2
            by_cases hl0 : lo = 0
            case neg =>
              have hlb : (lo != 0) = true := by simp [hl0]
              have HX0 := Lib.hid hl0
              clear hl0
              go_wp2_with fail
              go_ret
              exact says_no (fun h => HX0.out (((HF.out.1 h).2.2.2.1 _ HM.out).z rfl).1) HBW.out
            have hlb : (lo != 0) = false := by simp [hl0]
            have HL0 := Lib.hid hl0
            clear hl0
            by_cases hc0 : cost = 0
            case neg =>
              have hcb : (cost != 0) = true := by simp [hc0]
              have HX0 := Lib.hid hc0
              clear hc0
              go_wp2_with fail
              go_ret
              exact says_no (fun h => HX0.out (((HF.out.1 h).2.2.2.1 _ HM.out).z rfl).2) HBW.out
            have hcb : (cost != 0) = false := by simp [hc0]
            have HC0 := Lib.hid hc0
            clear hc0
            go_wp2_with fail
            go_roundw
            case rel => exact ⟨k + 1, by omega, by go_num, Lib.hid (by
              rw [HT.out]
              intro y hy
              rcases List.mem_append.1 hy with hy | hy
              · exact hG.out y hy
              · obtain rfl := List.mem_singleton.1 hy
                exact ⟨Hhl.out.2, HCP.out, Hhc2.out, fun _ => ⟨HL0.out, HC0.out⟩⟩), HX.out⟩
            case measure => simp [intOf]; omega
          · have hcb2 : (cap != 4611686018427387904) = true := by simp [hcap]
            have HNC := Lib.hid hcap
            clear hcap
            by_cases hcp : cap ≤ 2147483648
            case neg =>
              have hcp2 : 2147483648 < cap := by omega
              have HP := Lib.hid hcp
              clear hcp
              go_wp2_with fail
              go_ret
              exact says_no (fun h => by
              have h1 := ((HF.out.1 h).2.2.2.1 _ HM.out).cap
              rcases h1 with h1 | h1
              · exact HNC.out h1
              · have h2 := HAR.out.cap
                rcases h2 with h2 | h2
                · exact HNC.out h2
                · have h3 := HP.out; (try simp only at h1 h2); omega) HBW.out
            have Hhcp := Lib.hid (And.intro hlo hcp)
            go_wp2_with fail
            by_cases hc2 : -2147483648 ≤ cost ∧ cost ≤ 2147483648
            case neg =>
              refine (rin8_no _ _ _ hc2 _).mono ?_
              rintro e _ ⟨rfl, rfl⟩
              have HP := Lib.hid hc2
              clear hc2
              go_wp2_with fail
              go_ret
              exact says_no (fun h => HP.out ((HF.out.1 h).2.2.2.1 _ HM.out).cost) HBW.out
            refine (rin8_yes _ _ _ hc2 _).mono ?_
            rintro e _ ⟨rfl, rfl⟩
            have Hhc2 := Lib.hid hc2
            clear hc2
            by_cases hl0 : lo = 0
            case neg =>
              have hlb : (lo != 0) = true := by simp [hl0]
              have HX0 := Lib.hid hl0
              clear hl0
              go_wp2_with fail
              go_ret
              exact says_no (fun h => HX0.out (((HF.out.1 h).2.2.2.1 _ HM.out).z rfl).1) HBW.out
            have hlb : (lo != 0) = false := by simp [hl0]
            have HL0 := Lib.hid hl0
            clear hl0
            by_cases hc0 : cost = 0
            case neg =>
              have hcb : (cost != 0) = true := by simp [hc0]
              have HX0 := Lib.hid hc0
              clear hc0
              go_wp2_with fail
              go_ret
              exact says_no (fun h => HX0.out (((HF.out.1 h).2.2.2.1 _ HM.out).z rfl).2) HBW.out
            have hcb : (cost != 0) = false := by simp [hc0]
            have HC0 := Lib.hid hc0
            clear hc0
            go_wp2_with fail
            go_roundw
            case rel => exact ⟨k + 1, by omega, by go_num, Lib.hid (by
              rw [HT.out]
              intro y hy
              rcases List.mem_append.1 hy with hy | hy
              · exact hG.out y hy
              · obtain rfl := List.mem_singleton.1 hy
                exact ⟨Hhl.out.2, .inr Hhcp.out.2, Hhc2.out, fun _ => ⟨HL0.out, HC0.out⟩⟩), HX.out⟩
            case measure => simp [intOf]; omega
        · obtain rfl : k = m := by omega
          have HG := Lib.hid (show ∀ a ∈ arcs, ArcF true a from fun a ha => hG.out a (by rw [HL.out.2, List.take_length]; exact ha))
          have HBW := Lib.hid (HBW.out.trans (hbw.mono HBW.out.size))
          clear hG hbw
          by_cases hps0 : ps < 0
          · have hvb : ¬ 0 ≤ ps := by omega
            have HX0 := Lib.hid hvb
            go_wp2_with fail
            go_ret
            exact says_no (fun h => by have h1 := ((HF.out.1 h).2.2.2.2.mx rfl).1; have h2 := HX0.out; (try simp only at h1); omega) HBW.out
          have hpsa : 0 ≤ ps := by omega
          by_cases hps1 : ps < (j : Int)
          case neg =>
            have HX0 := Lib.hid hps1
            go_wp2_with fail
            go_ret
            exact says_no (fun h => by have h1 := ((HF.out.1 h).2.2.2.2.mx rfl).2.1; have h2 := HX0.out; have h3 := HL.out.1; (try simp only at h1); omega) HBW.out
          have Hps := Lib.hid (And.intro hpsa hps1)
          by_cases hpt0 : pt < 0
          · have hvb : ¬ 0 ≤ pt := by omega
            have HX0 := Lib.hid hvb
            go_wp2_with fail
            go_ret
            exact says_no (fun h => by have h1 := ((HF.out.1 h).2.2.2.2.mx rfl).2.2.1; have h2 := HX0.out; (try simp only at h1); omega) HBW.out
          have hpta : 0 ≤ pt := by omega
          by_cases hpt1 : pt < (j : Int)
          case neg =>
            have HX0 := Lib.hid hpt1
            go_wp2_with fail
            go_ret
            exact says_no (fun h => by have h1 := ((HF.out.1 h).2.2.2.2.mx rfl).2.2.2.1; have h2 := HX0.out; have h3 := HL.out.1; (try simp only at h1); omega) HBW.out
          have Hpt := Lib.hid (And.intro hpta hpt1)
          by_cases hst : ps = pt
          · have hsb : (ps != pt) = false := by simp [hst]
            have HST := Lib.hid hst
            clear hst
            go_wp2_with fail
            go_ret
            exact says_no (fun h => ((HF.out.1 h).2.2.2.2.mx rfl).2.2.2.2 HST.out) HBW.out
          have hsb : (ps != pt) = true := by simp [hst]
          have HST := Lib.hid hst
          clear hst
          go_wp2_with fail
          go_ret
          exact says_yes (HF.out.2 ⟨HI.out, by have := HL.out.1; have := HN0.out; omega, HS.out, HG.out, ⟨fun _ => ⟨Hps.out.1, show ps < (sup.length : Int) by have := Hps.out.2; have := HL.out.1; omega, Hpt.out.1, show pt < (sup.length : Int) by have := Hpt.out.2; have := HL.out.1; omega, HST.out⟩, fun h => by cases h⟩⟩) HBW.out

theorem rfits_in (p : ProbV) (v : Value) (w : World) (hv : ProbIs w p v) : Calls Tryz.prog 24 #[v] w (SaysIf (FitsF p) w) := by
  obtain ⟨S, n, c, A, m, d, rfl, hn, hm, -, -, r, ra⟩ := hv
  obtain ⟨mx, sup, arcs, ps, pt⟩ := p
  cases mx
  · exact rfits_false S A n c m d sup arcs ps pt w hn hm r ra
  · exact rfits_true S A n c m d sup arcs ps pt w hn hm r ra
end Go.Proofs.YtoagphighgejnaaGreatDoor
