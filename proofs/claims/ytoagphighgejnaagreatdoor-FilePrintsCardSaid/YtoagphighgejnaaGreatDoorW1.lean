/- What is right of an instance: isNode (81), rightArc (69), Right (49), isIn (50). Conditions: none. -/
import Derived.Test.YtoagphighgejnaaGreatDoorFS
import Derived.IntWalk
set_option linter.unusedSimpArgs false
set_option linter.unusedVariables false
namespace Go.Proofs.YtoagphighgejnaaGreatDoor
open Go.RowKit Go.Shelf

theorem blk5 {w : World} {b : Nat} {t : TypeId} {u0 u1 u2 u3 u4 : Value} (h : Blk w b t #[u0, u1, u2, u3, u4]) :
    w.cell? ⟨b, 0, none⟩ = some u0 ∧ w.cell? ⟨b, 1, none⟩ = some u1 ∧ w.cell? ⟨b, 2, none⟩ = some u2 ∧ w.cell? ⟨b, 3, none⟩ = some u3 ∧ w.cell? ⟨b, 4, none⟩ = some u4 :=
  ⟨h.cell 0, h.cell 1, h.cell 2, h.cell 3, h.cell 4⟩
theorem isNode_yes (x : Int) (n : Nat) (h : 0 ≤ x ∧ x < n) (w : World) : Calls Tryz.prog 81 #[.int .i64 x, .int .i64 n] w fun e w' => e = .returned (.bool true) ∧ w' = w := by
  obtain ⟨h0, h1⟩ := h
  have h2 : ¬ x < 0 := by omega
  go_enter Tryz.func81, Tryz.ntmps81
  go_wp2_with fail
  go_ret
  exact ⟨rfl, rfl⟩
theorem isNode_no (x : Int) (n : Nat) (h : ¬ (0 ≤ x ∧ x < n)) (w : World) : Calls Tryz.prog 81 #[.int .i64 x, .int .i64 n] w fun e w' => e = .returned (.bool false) ∧ w' = w := by
  by_cases h0 : x < 0
  · have h1 : ¬ 0 ≤ x := by omega
    clear h
    go_enter Tryz.func81, Tryz.ntmps81
    go_wp2_with fail
    go_ret
    exact ⟨rfl, rfl⟩
  · have h1 : 0 ≤ x := by omega
    have h2 : ¬ x < (n : Int) := by omega
    clear h
    go_enter Tryz.func81, Tryz.ntmps81
    go_wp2_with fail
    go_ret
    exact ⟨rfl, rfl⟩
theorem isIn_yes (x : Int) (h : -2147483648 ≤ x ∧ x ≤ 2147483648) (w : World) : Calls Tryz.prog 50 #[.int .i64 x] w fun e w' => e = .returned (.bool true) ∧ w' = w := by
  obtain ⟨h0, h1⟩ := h
  have h2 : ¬ x < -2147483648 := by omega
  go_enter Tryz.func50, Tryz.ntmps50
  go_wp2_with fail
  go_ret
  exact ⟨rfl, rfl⟩
theorem isIn_no (x : Int) (h : ¬ (-2147483648 ≤ x ∧ x ≤ 2147483648)) (w : World) : Calls Tryz.prog 50 #[.int .i64 x] w fun e w' => e = .returned (.bool false) ∧ w' = w := by
  by_cases h0 : x < -2147483648
  · have h1 : ¬ -2147483648 ≤ x := by omega
    clear h
    go_enter Tryz.func50, Tryz.ntmps50
    go_wp2_with fail
    go_ret
    exact ⟨rfl, rfl⟩
  · have h1 : -2147483648 ≤ x := by omega
    have h2 : ¬ x ≤ 2147483648 := by omega
    clear h
    go_enter Tryz.func50, Tryz.ntmps50
    go_wp2_with fail
    go_ret
    exact ⟨rfl, rfl⟩

/-- an error's number, that is 0 just if all is right -/
def ErrIs (p : Prop) (w : World) (e : Ending) (w' : World) : Prop := ∃ k : Int, e = .returned (.int .u16 k) ∧ (k = 0 ↔ p) ∧ Below w.heap.size w w'
theorem err_no {p : Prop} {w w' : World} (k : Int) (hk : ¬ k = 0) (hp : ¬ p) (hb : Below w.heap.size w w') : ErrIs p w (.returned (.int .u16 k)) w' := ⟨k, rfl, ⟨fun h => absurd h hk, fun h => absurd h hp⟩, hb⟩
theorem err_yes {p : Prop} {w w' : World} (hp : p) (hb : Below w.heap.size w w') : ErrIs p w (.returned (.int .u16 0)) w' := ⟨0, rfl, ⟨fun _ => hp, fun _ => rfl⟩, hb⟩
def arcV (a : ArcV) : Value := .agg #[.int .i64 a.f, .int .i64 a.t, .int .i64 a.lo, .int .i64 a.cap, .int .i64 a.cost]

set_option maxHeartbeats 1600000 in
set_option maxRecDepth 100000 in
theorem rightArc_in (a : ArcV) (n : Nat) (w : World) : Calls Tryz.prog 69 #[arcV a, .int .i64 n] w (ErrIs (ArcR n a) w) := by
  have HY := Lib.hid (fun x W h => isNode_yes x n h W)
  have HN := Lib.hid (fun x W h => isNode_no x n h W)
  obtain ⟨f, t, lo, cap, cost⟩ := a
  have HB := Lib.hid ((Below.refl w.heap.size w).alloc (Nat.le_refl _) (.cells #[.int .i64 f, .int .i64 t, .int .i64 lo, .int .i64 cap, .int .i64 cost] 42))
  obtain ⟨p0, p1, p2, p3, p4⟩ := blk5 (Blk.new w 42 #[.int .i64 f, .int .i64 t, .int .i64 lo, .int .i64 cap, .int .i64 cost])
  unfold arcV
  go_enter Tryz.func69, Tryz.ntmps69
  go_wp2_with fail
  generalize w.alloc (.cells #[.int .i64 f, .int .i64 t, .int .i64 lo, .int .i64 cap, .int .i64 cost] 42) = W at *
  by_cases hf : 0 ≤ f ∧ f < n
  case neg =>
    refine (HN.out _ _ hf).mono ?_
    rintro e _ ⟨rfl, rfl⟩
    clear HY HN
    have Hf := Lib.hid hf
    clear hf
    go_wp2_with fail
    go_ret
    exact err_no 21 (by decide) (fun h => Hf.out h.f) HB.out
  refine (HY.out _ _ hf).mono ?_
  rintro e _ ⟨rfl, rfl⟩
  have Hf := Lib.hid hf
  clear hf
  go_wp2_with fail
  by_cases ht : 0 ≤ t ∧ t < n
  case neg =>
    refine (HN.out _ _ ht).mono ?_
    rintro e _ ⟨rfl, rfl⟩
    clear HY HN
    have Ht := Lib.hid ht
    clear ht
    go_wp2_with fail
    go_ret
    exact err_no 21 (by decide) (fun h => Ht.out h.t) HB.out
  refine (HY.out _ _ ht).mono ?_
  rintro e _ ⟨rfl, rfl⟩
  have Ht := Lib.hid ht
  clear ht HY HN
  by_cases hl : lo < 0
  · go_wp2_with fail
    go_ret
    exact err_no 22 (by decide) (fun h => by have := h.lo.1; simp only at this; omega) HB.out
  by_cases hl2 : 4398046511104 < lo
  · go_wp2_with fail
    go_ret
    exact err_no 22 (by decide) (fun h => by have := h.lo.2; simp only at this; omega) HB.out
  have Hcost : ∀ (hcap : cap = infC ∨ (lo ≤ cap ∧ cap ≤ 4398046511104)), ArcR n ⟨f, t, lo, cap, cost⟩ ↔ (-4398046511104 ≤ cost ∧ cost ≤ 4398046511104) := fun hcap =>
    ⟨fun h => h.cost, fun h => ⟨Hf.out, Ht.out, ⟨by simp only; omega, by simp only; omega⟩, hcap, h⟩⟩
  have HC := Lib.hid Hcost
  clear Hcost
  by_cases hc : cap = 4611686018427387904
  · have hc1 : (cap != 4611686018427387904) = false := by simp [hc]
    have HC2 := Lib.hid (HC.out (.inl hc))
    clear HC hc
    by_cases hk : cost < -4398046511104
    · go_wp2_with fail
      go_ret
      exact err_no 23 (by decide) (fun h => by have := HC2.out.1 h; omega) HB.out
    by_cases hk2 : 4398046511104 < cost
    · go_wp2_with fail
      go_ret
      exact err_no 23 (by decide) (fun h => by have := HC2.out.1 h; omega) HB.out
    go_wp2_with fail
    go_ret
    exact err_yes (HC2.out.2 ⟨by omega, by omega⟩) HB.out
  · have hc1 : (cap != 4611686018427387904) = true := by simp [hc]
    have HC0 := Lib.hid hc
    clear hc
    by_cases hcl : cap < lo
    · go_wp2_with fail
      go_ret
      exact err_no 22 (by decide) (fun h => by
        rcases h.cap with h | h
        · exact HC0.out h
        · have := h.1; simp only at this; omega) HB.out
    by_cases hcm : 4398046511104 < cap
    · go_wp2_with fail
      go_ret
      exact err_no 22 (by decide) (fun h => by
        rcases h.cap with h | h
        · exact HC0.out h
        · have := h.2; simp only at this; omega) HB.out
    have HC2 := Lib.hid (HC.out (.inr ⟨by omega, by omega⟩))
    clear HC
    by_cases hk : cost < -4398046511104
    · go_wp2_with fail
      go_ret
      exact err_no 23 (by decide) (fun h => by have := HC2.out.1 h; omega) HB.out
    by_cases hk2 : 4398046511104 < cost
    · go_wp2_with fail
      go_ret
      exact err_no 23 (by decide) (fun h => by have := HC2.out.1 h; omega) HB.out
    go_wp2_with fail
    go_ret
    exact err_yes (HC2.out.2 ⟨by omega, by omega⟩) HB.out

set_option maxHeartbeats 3200000 in
set_option maxRecDepth 100000 in
theorem Right_in (S A : Option Addr) (n c m d : Nat) (sup : List Int) (arcs : List ArcV) (w : World) (hn : n = sup.length) (hm : m = arcs.length) (r : Reads w w.heap.size 1 S n (sup.map I)) (ra : Reads w w.heap.size 5 A m (arcCells arcs)) :
    Calls Tryz.prog 49 #[.agg #[.slice S n c, .slice A m d]] w (ErrIs (InstR sup arcs) w) := by
  have HA := Lib.hid (fun a W => rightArc_in a n W)
  have hb0 := (Below.refl w.heap.size w).alloc (Nat.le_refl _) (.cells #[.slice S n c, .slice A m d] 29)
  have kb := Blk.new w 29 #[.slice S n c, .slice A m d]
  have HL := Lib.hid (And.intro hn hm)
  have HR := Lib.hid (And.intro ((r.below hb0).more hb0.size) ((ra.below hb0).more hb0.size))
  have HB := Lib.hid hb0
  have p0 := kb.cell 0
  have p1 := kb.cell 1
  have hlt := kb.lt
  simp only [List.getElem?_toArray, List.getElem?_cons_zero, List.getElem?_cons_succ] at p0 p1
  clear hn hm r ra hb0 kb
  go_enter Tryz.func49, Tryz.ntmps49
  by_cases h64 : (64 : Int) < n
  · go_wp2_with fail
    go_ret
    exact err_no 20 (by decide) (fun h => by have := h.n64; have := HL.out.1; omega) HB.out
  by_cases h256 : (256 : Int) < m
  · go_wp2_with fail
    go_ret
    exact err_no 20 (by decide) (fun h => by have := h.m256; have := HL.out.2; omega) HB.out
  go_wp2_with fail
  generalize hW0 : w.alloc (.cells #[.slice S n c, .slice A m d] 29) = W0 at *
  go_loopw [22] (fun i wr => ∃ k : Nat, k ≤ m ∧ i = .int .i64 k ∧ Hid (∀ a ∈ arcs.take k, ArcR n a) ∧ Below W0.heap.size W0 wr) (fun i _ => m - (intOf i).toNat)
  case atStart => exact ⟨0, Nat.zero_le _, rfl, Lib.hid (by simp), Below.refl _ _⟩
  case round =>
    obtain ⟨k, hk, rfl, hG, hbw⟩ := hrel
    have q0 := (hbw.cell (p := ⟨w.heap.size, 0, none⟩) hlt).trans p0
    have q1 := (hbw.cell (p := ⟨w.heap.size, 1, none⟩) hlt).trans p1
    by_cases hkm : k < m
    · obtain ⟨a, ha⟩ : ∃ a, arcs[k]? = some a := ⟨_, List.getElem?_eq_getElem (by have := HL.out.2; omega)⟩
      obtain ⟨b, off, rfl, hb, x0, x1, x2, x3, x4⟩ := (HR.out.2.below hbw).arc ha
      have hk1 : IntKind.i64.wrap ((k : Int) + 1) = (k : Int) + 1 := IntWalk.i64_in _ (by omega)
      have HT := Lib.hid (take_snoc arcs k a ha)
      have HM := Lib.hid (List.mem_of_getElem? ha)
      have hbx := hbw.alloc (o := .cells #[.int .i64 a.f, .int .i64 a.t, .int .i64 a.lo, .int .i64 a.cap, .int .i64 a.cost] 42) hbw.size
      have q2 := (hbx.cell (p := ⟨w.heap.size, 0, none⟩) hlt).trans p0
      obtain ⟨y0, y1, y2, y3, y4⟩ := blk5 (Blk.new wr 42 #[.int .i64 a.f, .int .i64 a.t, .int .i64 a.lo, .int .i64 a.cap, .int .i64 a.cost])
      have HX := Lib.hid hbx
      have hsz := hbw.size
      have hltr : w.heap.size < wr.heap.size := by omega
      clear ha hbx
      go_wp2_with fail
      refine (HA.out a _).mono ?_
      rintro e w1 ⟨e1, rfl, he, hb1⟩
      have HE := Lib.hid he
      have HX1 := Lib.hid (HX.out.trans (hb1.mono HX.out.size))
      clear he hb1 x0 x1 x2 x3 x4 y0 y1 y2 y3 y4 q0 q1 q2 HX
      by_cases h0 : e1 = 0
      · subst h0
        go_wp2_with fail
        go_roundw
        case rel => exact ⟨k + 1, by omega, by go_num, Lib.hid (by
          rw [HT.out]
          intro x hx
          rcases List.mem_append.1 hx with hx | hx
          · exact hG.out x hx
          · obtain rfl := List.mem_singleton.1 hx
            exact HE.out.1 (by trivial)), HX1.out⟩
        case measure => simp [intOf]; omega
      · have h0b : (e1 != 0) = true := by simp [h0]
        have H0 := Lib.hid h0
        clear h0
        go_wp2_with fail
        go_ret
        exact ⟨e1, rfl, ⟨fun h => absurd h H0.out, fun h => HE.out.2 (by rw [HL.out.1]; exact h.arcB _ HM.out)⟩, HB.out.trans (HX1.out.mono HB.out.size)⟩
    · obtain rfl : k = m := by omega
      have HG := Lib.hid (show ∀ a ∈ arcs, ArcR n a from fun a ha => hG.out a (by rw [HL.out.2, List.take_length]; exact ha))
      clear hG
      have HR1 := Lib.hid (HR.out.1.below hbw)
      have HBW := Lib.hid (HB.out.trans (hbw.mono HB.out.size))
      clear hbw hW0 q1 p0 p1 HR
      go_wp2_with fail
      go_loopw [6, 38] (fun v i wx => ∃ j : Nat, j ≤ n ∧ i = .int .i64 j ∧ v = .int .i64 (sup.take j).sum ∧ Hid (∀ x ∈ sup.take j, -4398046511104 ≤ x ∧ x ≤ 4398046511104) ∧ wx = wr) (fun _ i _ => n - (intOf i).toNat)
      case atStart => exact ⟨0, Nat.zero_le _, rfl, rfl, Lib.hid (by simp), rfl⟩
      case round =>
        obtain ⟨j, hj, rfl, rfl, hS, rfl⟩ := hrel
        by_cases hjn : j < n
        · obtain ⟨x, hx⟩ : ∃ x, sup[j]? = some x := ⟨_, List.getElem?_eq_getElem (by have := HL.out.1; omega)⟩
          obtain ⟨b, off, u, rfl, hb, hx', hc⟩ := HR1.out.at_ hjn
          rw [List.getElem?_map, hx] at hx'
          cases hx'
          unfold I at hc
          have hk1 : IntKind.i64.wrap ((j : Int) + 1) = (j : Int) + 1 := IntWalk.i64_in _ (by omega)
          have HT := Lib.hid (take_snoc sup j x hx)
          have HM := Lib.hid (List.mem_of_getElem? hx)
          have hsm := sum_small (sup.take j) 4398046511104 (by omega) hS.out
          have hlen : (sup.take j).length ≤ 64 := by rw [List.length_take]; omega
          have HSM := Lib.hid (show -281474976710656 ≤ (sup.take j).sum ∧ (sup.take j).sum ≤ 281474976710656 by omega)
          clear hx hsm hlen
          generalize hq : (sup.take j).sum = q at *
          have HQ := Lib.hid hq
          clear hq
          by_cases h1 : x < -4398046511104
          · go_wp2_with fail
            go_ret
            exact err_no 24 (by decide) (fun h => by have := h.supB _ HM.out; omega) HBW.out
          by_cases h2 : 4398046511104 < x
          · go_wp2_with fail
            go_ret
            exact err_no 24 (by decide) (fun h => by have := h.supB _ HM.out; omega) HBW.out
          have hw : IntKind.i64.wrap (q + x) = q + x := IntWalk.i64_in _ (by have := HSM.out; omega)
          go_wp2_with fail
          go_roundw
          case rel => exact ⟨j + 1, by omega, by go_num, by rw [HT.out, List.sum_append, HQ.out]; simp, Lib.hid (by
            rw [HT.out]
            intro y hy
            rcases List.mem_append.1 hy with hy | hy
            · exact hS.out y hy
            · obtain rfl := List.mem_singleton.1 hy
              omega), trivial⟩
          case measure => simp [intOf]; omega
        · obtain rfl : j = n := by omega
          have hall : sup.take j = sup := by rw [HL.out.1, List.take_length]
          rw [hall] at hS ⊢
          generalize hq : sup.sum = q at *
          have HQ := Lib.hid hq
          clear hq hall
          by_cases h0 : q = 0
          · subst h0
            go_wp2_with fail
            go_ret
            exact err_yes ⟨by have := HL.out.1; omega, by have := HL.out.2; omega, fun a ha => by rw [← HL.out.1]; exact HG.out a ha, hS.out, HQ.out⟩ HBW.out
          · have h0b : (q != 0) = true := by simp [h0]
            have H0 := Lib.hid h0
            clear h0
            go_wp2_with fail
            go_ret
            exact err_no 25 (by decide) (fun h => H0.out (HQ.out ▸ h.sum)) HBW.out
end Go.Proofs.YtoagphighgejnaaGreatDoor
