/- What may be printed: fits (32). Conditions: none. -/
import Derived.Test.YtoagphighgejnaaGreatDoorW1
import Derived.Test.YtoagphighgejnaaGreatDoorJ13
set_option linter.unusedSimpArgs false
set_option linter.unusedVariables false
namespace Go.Proofs.YtoagphighgejnaaGreatDoor
open Go.RowKit Go.Shelf

/-- a yes or no -/
def SaysIf (p : Prop) (w : World) (e : Ending) (w' : World) : Prop := ∃ b : Bool, e = .returned (.bool b) ∧ (b = true ↔ p) ∧ Below w.heap.size w w'
theorem says_no {p : Prop} {w w' : World} (hp : ¬ p) (hb : Below w.heap.size w w') : SaysIf p w (.returned (.bool false)) w' := ⟨false, rfl, ⟨fun h => by simp at h, fun h => absurd h hp⟩, hb⟩
theorem says_yes {p : Prop} {w w' : World} (hp : p) (hb : Below w.heap.size w w') : SaysIf p w (.returned (.bool true)) w' := ⟨true, rfl, ⟨fun _ => hp, fun _ => rfl⟩, hb⟩

set_option maxHeartbeats 6400000 in
set_option maxRecDepth 100000 in
theorem fits_false (S A : Option Addr) (n c m d : Nat) (sup : List Int) (arcs : List ArcV) (ps pt : Int) (w : World) (hn : n = sup.length) (hm : m = arcs.length) (r : Reads w w.heap.size 1 S n (sup.map I)) (ra : Reads w w.heap.size 5 A m (arcCells arcs)) :
    Calls Tryz.prog 32 #[probV false S n c A m d ps pt] w (SaysIf (FitsF ⟨false, sup, arcs, ps, pt⟩) w) := by
  have HF := Lib.hid (fits_iff ⟨false, sup, arcs, ps, pt⟩)
  have hb0 := (Below.refl w.heap.size w).alloc (Nat.le_refl _) (.cells #[.bool false, .slice S n c, .slice A m d, .int .i64 ps, .int .i64 pt] 31)
  have HRT := Lib.hid (Right_in S A n c m d sup arcs (w.alloc (.cells #[.bool false, .slice S n c, .slice A m d, .int .i64 ps, .int .i64 pt] 31)) hn hm ((r.below hb0).more hb0.size) ((ra.below hb0).more hb0.size))
  have HL := Lib.hid (And.intro hn hm)
  have HR := Lib.hid (And.intro ((r.below hb0).more hb0.size) ((ra.below hb0).more hb0.size))
  have HB := Lib.hid hb0
  have kb := Blk.new w 31 #[.bool false, .slice S n c, .slice A m d, .int .i64 ps, .int .i64 pt]
  obtain ⟨p0, p1, p2, p3, p4⟩ := blk5 kb
  have hlt := kb.lt
  have HKB := Lib.hid kb
  clear hn hm r ra hb0 kb
  unfold probV
  go_enter Tryz.func32, Tryz.ntmps32
  go_wp2_with fail
  generalize w.alloc (.cells #[.bool false, .slice S n c, .slice A m d, .int .i64 ps, .int .i64 pt] 31) = W0 at *
  refine HRT.out.mono ?_
  rintro e w1 ⟨k, rfl, hk, hb1⟩
  obtain ⟨q0, q1, q2, q3, q4⟩ := blk5 (HKB.out.below hb1 HKB.out.lt)
  have hlt1 : w.heap.size < w1.heap.size := by have := hb1.size; omega
  have HR1 := Lib.hid (And.intro ((HR.out.1.below hb1).more hb1.size) ((HR.out.2.below hb1).more hb1.size))
  have HBW := Lib.hid (HB.out.trans (hb1.mono HB.out.size))
  have HK := Lib.hid hk
  clear hk hb1 p0 p1 p2 p3 p4 hlt HRT HR HB HKB
  by_cases hk0 : k = 0
  case neg =>
    have h0b : (k != 0) = true := by simp [hk0]
    have H0 := Lib.hid hk0
    clear hk0
    go_wp2_with fail
    go_ret
    exact says_no (fun h => H0.out (HK.out.2 (HF.out.1 h).1)) HBW.out
  have HI := Lib.hid (HK.out.1 hk0)
  clear HK
  subst hk0
  by_cases hn0 : n = 0
  · have hz : ((n : Int) == 0) = true := by simp [hn0]
    have HN0 := Lib.hid hn0
    clear hn0
    go_wp2_with fail
    go_ret
    exact says_no (fun h => by have h1 := (HF.out.1 h).2.1; have h2 := HL.out.1; have h3 := HN0.out; (try simp only at h1); omega) HBW.out
  have hz : ((n : Int) == 0) = false := by simp; omega
  have HN0 := Lib.hid hn0
  clear hn0
  go_wp2_with fail
  go_loopw [24] (fun i wx => ∃ j : Nat, j ≤ n ∧ i = .int .i64 j ∧ Hid (∀ x ∈ sup.take j, SupF false x) ∧ w1 = wx) (fun i _ => n - (intOf i).toNat)
  case atStart => exact ⟨0, Nat.zero_le _, rfl, Lib.hid (by simp), rfl⟩
  case round =>
    obtain ⟨j, hj, rfl, hS, rfl⟩ := hrel
    by_cases hjn : j < n
    · obtain ⟨x, hx⟩ : ∃ x, sup[j]? = some x := ⟨_, List.getElem?_eq_getElem (by have := HL.out.1; omega)⟩
      obtain ⟨b, off, u, rfl, hb, hx', hc⟩ := HR1.out.1.at_ hjn
      rw [List.getElem?_map, hx] at hx'
      cases hx'
      unfold I at hc
      have hk1 : IntKind.i64.wrap ((j : Int) + 1) = (j : Int) + 1 := IntWalk.i64_in _ (by have := HI.out.n64; have := HL.out.1; omega)
      have HT := Lib.hid (take_snoc sup j x hx)
      have HM := Lib.hid (List.mem_of_getElem? hx)
      clear hx
      go_wp2_with fail
      by_cases hx : -2147483648 ≤ x ∧ x ≤ 2147483648
      case neg =>
        refine (isIn_no _ hx _).mono ?_
        rintro e _ ⟨rfl, rfl⟩
        have HP := Lib.hid hx
        clear hx
        go_wp2_with fail
        go_ret
        exact says_no (fun h => HP.out ((HF.out.1 h).2.2.1 x HM.out).b) HBW.out
      refine (isIn_yes _ hx _).mono ?_
      rintro e _ ⟨rfl, rfl⟩
      have Hhx := Lib.hid hx
      clear hx
      go_wp2_with fail
      go_roundw
      case rel => exact ⟨j + 1, by omega, by go_num, Lib.hid (by
        rw [HT.out]
        intro y hy
        rcases List.mem_append.1 hy with hy | hy
        · exact hS.out y hy
        · obtain rfl := List.mem_singleton.1 hy
          exact ⟨Hhx.out, fun h => by cases h⟩), trivial⟩
      case measure => simp [intOf]; omega
    · obtain rfl : j = n := by omega
      have HS := Lib.hid (show ∀ x ∈ sup, SupF false x from fun x hx => hS.out x (by rw [HL.out.1, List.take_length]; exact hx))
      clear hS
      go_wp2_with fail
      go_loopw [44] (fun i wr => ∃ k : Nat, k ≤ m ∧ i = .int .i64 k ∧ Hid (∀ a ∈ arcs.take k, ArcF false a) ∧ Below w1.heap.size w1 wr) (fun i _ => m - (intOf i).toNat)
      case atStart => exact ⟨0, Nat.zero_le _, rfl, Lib.hid (by simp), Below.refl _ _⟩
      case round =>
        obtain ⟨k, hk, rfl, hG, hbw⟩ := hrel
        have s0 := (hbw.cell (p := ⟨w.heap.size, 0, none⟩) hlt1).trans q0
        have s2 := (hbw.cell (p := ⟨w.heap.size, 2, none⟩) hlt1).trans q2
        have s3 := (hbw.cell (p := ⟨w.heap.size, 3, none⟩) hlt1).trans q3
        have s4 := (hbw.cell (p := ⟨w.heap.size, 4, none⟩) hlt1).trans q4
        by_cases hkm : k < m
        · obtain ⟨a, ha⟩ : ∃ a, arcs[k]? = some a := ⟨_, List.getElem?_eq_getElem (by have := HL.out.2; omega)⟩
          obtain ⟨b, off, rfl, hb, x0, x1, x2, x3, x4⟩ := (HR1.out.2.below hbw).arc ha
          have hk1 : IntKind.i64.wrap ((k : Int) + 1) = (k : Int) + 1 := IntWalk.i64_in _ (by have := HI.out.m256; have := HL.out.2; omega)
          have HT := Lib.hid (take_snoc arcs k a ha)
          have HM := Lib.hid (List.mem_of_getElem? ha)
          have HAR := Lib.hid (HI.out.arcB a (List.mem_of_getElem? ha))
          obtain ⟨af, at_, lo, cap, cost⟩ := a
          simp only at x0 x1 x2 x3 x4
          have hbx := hbw.alloc (o := .cells #[.int .i64 af, .int .i64 at_, .int .i64 lo, .int .i64 cap, .int .i64 cost] 42) hbw.size
          have HX := Lib.hid hbx
          have hlo := HAR.out.lo.1
          simp only at hlo
          obtain ⟨y0, y1, y2, y3, y4⟩ := blk5 (Blk.new wr 42 #[.int .i64 af, .int .i64 at_, .int .i64 lo, .int .i64 cap, .int .i64 cost])
          have z0 := (hbx.cell (p := ⟨w.heap.size, 0, none⟩) hlt1).trans q0
          have hsz := hbw.size
          have hltr : w.heap.size < wr.heap.size := by omega
          have HBW := Lib.hid (HBW.out.trans (hbx.mono HBW.out.size))
          clear ha hbx hbw
          go_wp2_with fail
          generalize wr.alloc (.cells #[.int .i64 af, .int .i64 at_, .int .i64 lo, .int .i64 cap, .int .i64 cost] 42) = W2 at *
          clear x0 x1 x2 x3 x4 s0
          by_cases hl : -2147483648 ≤ lo ∧ lo ≤ 2147483648
          case neg =>
            refine (isIn_no _ hl _).mono ?_
            rintro e _ ⟨rfl, rfl⟩
            have HP := Lib.hid hl
            clear hl
            go_wp2_with fail
            go_ret
            exact says_no (fun h => by have h1 := ((HF.out.1 h).2.2.2.1 _ HM.out).lo; have h2 := HP.out; (try simp only at h1); omega) HBW.out
          refine (isIn_yes _ hl _).mono ?_
          rintro e _ ⟨rfl, rfl⟩
          have Hhl := Lib.hid hl
          clear hl
          by_cases hcap : cap = 4611686018427387904
          · have hcb2 : (cap != 4611686018427387904) = false := by simp [hcap]
            have HCP := Lib.hid (show cap = infC ∨ cap ≤ 2147483648 from .inl hcap)
            clear hcap
            go_wp2_with fail
            by_cases hc2 : -2147483648 ≤ cost ∧ cost ≤ 2147483648
            case neg =>
              refine (isIn_no _ hc2 _).mono ?_
              rintro e _ ⟨rfl, rfl⟩
              have HP := Lib.hid hc2
              clear hc2
              go_wp2_with fail
              go_ret
              exact says_no (fun h => HP.out ((HF.out.1 h).2.2.2.1 _ HM.out).cost) HBW.out
            refine (isIn_yes _ hc2 _).mono ?_
            rintro e _ ⟨rfl, rfl⟩
            have Hhc2 := Lib.hid hc2
            clear hc2
            go_wp2_with fail
            go_roundw
            case rel => exact ⟨k + 1, by omega, by go_num, Lib.hid (by
              rw [HT.out]
              intro y hy
              rcases List.mem_append.1 hy with hy | hy
              · exact hG.out y hy
              · obtain rfl := List.mem_singleton.1 hy
                exact ⟨Hhl.out.2, HCP.out, Hhc2.out, fun h => by cases h⟩), HX.out⟩
            case measure => simp [intOf]; omega
          · have hcb2 : (cap != 4611686018427387904) = true := by simp [hcap]
            have HNC := Lib.hid hcap
            clear hcap
            go_wp2_with fail
            by_cases hcp : -2147483648 ≤ cap ∧ cap ≤ 2147483648
            case neg =>
              refine (isIn_no _ hcp _).mono ?_
              rintro e _ ⟨rfl, rfl⟩
              have HP := Lib.hid hcp
              clear hcp
              go_wp2_with fail
              go_ret
              exact says_no (fun h => by
              have h1 := ((HF.out.1 h).2.2.2.1 _ HM.out).cap
              rcases h1 with h1 | h1
              · exact HNC.out h1
              · have h2 := HAR.out.cap
                rcases h2 with h2 | h2
                · exact HNC.out h2
                · have h3 := HP.out; (try simp only at h1 h2); omega) HBW.out
            refine (isIn_yes _ hcp _).mono ?_
            rintro e _ ⟨rfl, rfl⟩
            have Hhcp := Lib.hid hcp
            clear hcp
            go_wp2_with fail
            by_cases hc2 : -2147483648 ≤ cost ∧ cost ≤ 2147483648
            case neg =>
              refine (isIn_no _ hc2 _).mono ?_
              rintro e _ ⟨rfl, rfl⟩
              have HP := Lib.hid hc2
              clear hc2
              go_wp2_with fail
              go_ret
              exact says_no (fun h => HP.out ((HF.out.1 h).2.2.2.1 _ HM.out).cost) HBW.out
            refine (isIn_yes _ hc2 _).mono ?_
            rintro e _ ⟨rfl, rfl⟩
            have Hhc2 := Lib.hid hc2
            clear hc2
            go_wp2_with fail
            go_roundw
            case rel => exact ⟨k + 1, by omega, by go_num, Lib.hid (by
              rw [HT.out]
              intro y hy
              rcases List.mem_append.1 hy with hy | hy
              · exact hG.out y hy
              · obtain rfl := List.mem_singleton.1 hy
                exact ⟨Hhl.out.2, .inr Hhcp.out.2, Hhc2.out, fun h => by cases h⟩), HX.out⟩
            case measure => simp [intOf]; omega
        · obtain rfl : k = m := by omega
          have HG := Lib.hid (show ∀ a ∈ arcs, ArcF false a from fun a ha => hG.out a (by rw [HL.out.2, List.take_length]; exact ha))
          have HBW := Lib.hid (HBW.out.trans (hbw.mono HBW.out.size))
          clear hG hbw
          by_cases hps : ps = 0
          case neg =>
            have hvb : (ps == 0) = false := by simp [hps]
            have HX0 := Lib.hid hps
            clear hps
            go_wp2_with fail
            go_ret
            exact says_no (fun h => HX0.out ((HF.out.1 h).2.2.2.2.mn rfl).1) HBW.out
          have hpsb : (ps == 0) = true := by simp [hps]
          have Hps := Lib.hid hps
          clear hps
          by_cases hpt : pt = 0
          case neg =>
            have hvb : (pt == 0) = false := by simp [hpt]
            have HX0 := Lib.hid hpt
            clear hpt
            go_wp2_with fail
            go_ret
            exact says_no (fun h => HX0.out ((HF.out.1 h).2.2.2.2.mn rfl).2) HBW.out
          have hptb : (pt == 0) = true := by simp [hpt]
          have Hpt := Lib.hid hpt
          clear hpt
          go_wp2_with fail
          go_ret
          exact says_yes (HF.out.2 ⟨HI.out, by have := HL.out.1; have := HN0.out; omega, HS.out, HG.out, ⟨fun h => (by cases h), fun _ => ⟨Hps.out, Hpt.out⟩⟩⟩) HBW.out

set_option maxHeartbeats 6400000 in
set_option maxRecDepth 100000 in
theorem fits_true (S A : Option Addr) (n c m d : Nat) (sup : List Int) (arcs : List ArcV) (ps pt : Int) (w : World) (hn : n = sup.length) (hm : m = arcs.length) (r : Reads w w.heap.size 1 S n (sup.map I)) (ra : Reads w w.heap.size 5 A m (arcCells arcs)) :
    Calls Tryz.prog 32 #[probV true S n c A m d ps pt] w (SaysIf (FitsF ⟨true, sup, arcs, ps, pt⟩) w) := by
  have HF := Lib.hid (fits_iff ⟨true, sup, arcs, ps, pt⟩)
  have hb0 := (Below.refl w.heap.size w).alloc (Nat.le_refl _) (.cells #[.bool true, .slice S n c, .slice A m d, .int .i64 ps, .int .i64 pt] 31)
  have HRT := Lib.hid (Right_in S A n c m d sup arcs (w.alloc (.cells #[.bool true, .slice S n c, .slice A m d, .int .i64 ps, .int .i64 pt] 31)) hn hm ((r.below hb0).more hb0.size) ((ra.below hb0).more hb0.size))
  have HL := Lib.hid (And.intro hn hm)
  have HR := Lib.hid (And.intro ((r.below hb0).more hb0.size) ((ra.below hb0).more hb0.size))
  have HB := Lib.hid hb0
  have kb := Blk.new w 31 #[.bool true, .slice S n c, .slice A m d, .int .i64 ps, .int .i64 pt]
  obtain ⟨p0, p1, p2, p3, p4⟩ := blk5 kb
  have hlt := kb.lt
  have HKB := Lib.hid kb
  clear hn hm r ra hb0 kb
  unfold probV
  go_enter Tryz.func32, Tryz.ntmps32
  go_wp2_with fail
  generalize w.alloc (.cells #[.bool true, .slice S n c, .slice A m d, .int .i64 ps, .int .i64 pt] 31) = W0 at *
  refine HRT.out.mono ?_
  rintro e w1 ⟨k, rfl, hk, hb1⟩
  obtain ⟨q0, q1, q2, q3, q4⟩ := blk5 (HKB.out.below hb1 HKB.out.lt)
  have hlt1 : w.heap.size < w1.heap.size := by have := hb1.size; omega
  have HR1 := Lib.hid (And.intro ((HR.out.1.below hb1).more hb1.size) ((HR.out.2.below hb1).more hb1.size))
  have HBW := Lib.hid (HB.out.trans (hb1.mono HB.out.size))
  have HK := Lib.hid hk
  clear hk hb1 p0 p1 p2 p3 p4 hlt HRT HR HB HKB
  by_cases hk0 : k = 0
  case neg =>
    have h0b : (k != 0) = true := by simp [hk0]
    have H0 := Lib.hid hk0
    clear hk0
    go_wp2_with fail
    go_ret
    exact says_no (fun h => H0.out (HK.out.2 (HF.out.1 h).1)) HBW.out
  have HI := Lib.hid (HK.out.1 hk0)
  clear HK
  subst hk0
  by_cases hn0 : n = 0
  · have hz : ((n : Int) == 0) = true := by simp [hn0]
    have HN0 := Lib.hid hn0
    clear hn0
    go_wp2_with fail
    go_ret
    exact says_no (fun h => by have h1 := (HF.out.1 h).2.1; have h2 := HL.out.1; have h3 := HN0.out; (try simp only at h1); omega) HBW.out
  have hz : ((n : Int) == 0) = false := by simp; omega
  have HN0 := Lib.hid hn0
  clear hn0
  go_wp2_with fail
  go_loopw [24] (fun i wx => ∃ j : Nat, j ≤ n ∧ i = .int .i64 j ∧ Hid (∀ x ∈ sup.take j, SupF true x) ∧ w1 = wx) (fun i _ => n - (intOf i).toNat)
  case atStart => exact ⟨0, Nat.zero_le _, rfl, Lib.hid (by simp), rfl⟩
  case round =>
    obtain ⟨j, hj, rfl, hS, rfl⟩ := hrel
    by_cases hjn : j < n
    · obtain ⟨x, hx⟩ : ∃ x, sup[j]? = some x := ⟨_, List.getElem?_eq_getElem (by have := HL.out.1; omega)⟩
      obtain ⟨b, off, u, rfl, hb, hx', hc⟩ := HR1.out.1.at_ hjn
      rw [List.getElem?_map, hx] at hx'
      cases hx'
      unfold I at hc
      have hk1 : IntKind.i64.wrap ((j : Int) + 1) = (j : Int) + 1 := IntWalk.i64_in _ (by have := HI.out.n64; have := HL.out.1; omega)
      have HT := Lib.hid (take_snoc sup j x hx)
      have HM := Lib.hid (List.mem_of_getElem? hx)
      clear hx
      go_wp2_with fail
      by_cases hx : -2147483648 ≤ x ∧ x ≤ 2147483648
      case neg =>
        refine (isIn_no _ hx _).mono ?_
        rintro e _ ⟨rfl, rfl⟩
        have HP := Lib.hid hx
        clear hx
        go_wp2_with fail
        go_ret
        exact says_no (fun h => HP.out ((HF.out.1 h).2.2.1 x HM.out).b) HBW.out
      refine (isIn_yes _ hx _).mono ?_
      rintro e _ ⟨rfl, rfl⟩
      have Hhx := Lib.hid hx
      clear hx
      by_cases hx0 : x = 0
      case neg =>
        have hxb : (x != 0) = true := by simp [hx0]
        have HX0 := Lib.hid hx0
        clear hx0
        go_wp2_with fail
        go_ret
        exact says_no (fun h => HX0.out (((HF.out.1 h).2.2.1 x HM.out).z rfl)) HBW.out
      have hxb : (x != 0) = false := by simp [hx0]
      have HX0 := Lib.hid hx0
      clear hx0
      go_wp2_with fail
      go_roundw
      case rel => exact ⟨j + 1, by omega, by go_num, Lib.hid (by
        rw [HT.out]
        intro y hy
        rcases List.mem_append.1 hy with hy | hy
        · exact hS.out y hy
        · obtain rfl := List.mem_singleton.1 hy
          exact ⟨Hhx.out, fun _ => HX0.out⟩), trivial⟩
      case measure => simp [intOf]; omega
    · obtain rfl : j = n := by omega
      have HS := Lib.hid (show ∀ x ∈ sup, SupF true x from fun x hx => hS.out x (by rw [HL.out.1, List.take_length]; exact hx))
      clear hS
      go_wp2_with fail
      go_loopw [44] (fun i wr => ∃ k : Nat, k ≤ m ∧ i = .int .i64 k ∧ Hid (∀ a ∈ arcs.take k, ArcF true a) ∧ Below w1.heap.size w1 wr) (fun i _ => m - (intOf i).toNat)
      case atStart => exact ⟨0, Nat.zero_le _, rfl, Lib.hid (by simp), Below.refl _ _⟩
      case round =>
        obtain ⟨k, hk, rfl, hG, hbw⟩ := hrel
        have s0 := (hbw.cell (p := ⟨w.heap.size, 0, none⟩) hlt1).trans q0
        have s2 := (hbw.cell (p := ⟨w.heap.size, 2, none⟩) hlt1).trans q2
        have s3 := (hbw.cell (p := ⟨w.heap.size, 3, none⟩) hlt1).trans q3
        have s4 := (hbw.cell (p := ⟨w.heap.size, 4, none⟩) hlt1).trans q4
        by_cases hkm : k < m
        · obtain ⟨a, ha⟩ : ∃ a, arcs[k]? = some a := ⟨_, List.getElem?_eq_getElem (by have := HL.out.2; omega)⟩
          obtain ⟨b, off, rfl, hb, x0, x1, x2, x3, x4⟩ := (HR1.out.2.below hbw).arc ha
          have hk1 : IntKind.i64.wrap ((k : Int) + 1) = (k : Int) + 1 := IntWalk.i64_in _ (by have := HI.out.m256; have := HL.out.2; omega)
          have HT := Lib.hid (take_snoc arcs k a ha)
          have HM := Lib.hid (List.mem_of_getElem? ha)
          have HAR := Lib.hid (HI.out.arcB a (List.mem_of_getElem? ha))
          obtain ⟨af, at_, lo, cap, cost⟩ := a
          simp only at x0 x1 x2 x3 x4
          have hbx := hbw.alloc (o := .cells #[.int .i64 af, .int .i64 at_, .int .i64 lo, .int .i64 cap, .int .i64 cost] 42) hbw.size
          have HX := Lib.hid hbx
          have hlo := HAR.out.lo.1
          simp only at hlo
          obtain ⟨y0, y1, y2, y3, y4⟩ := blk5 (Blk.new wr 42 #[.int .i64 af, .int .i64 at_, .int .i64 lo, .int .i64 cap, .int .i64 cost])
          have z0 := (hbx.cell (p := ⟨w.heap.size, 0, none⟩) hlt1).trans q0
          have hsz := hbw.size
          have hltr : w.heap.size < wr.heap.size := by omega
          have HBW := Lib.hid (HBW.out.trans (hbx.mono HBW.out.size))
          clear ha hbx hbw
          go_wp2_with fail
          generalize wr.alloc (.cells #[.int .i64 af, .int .i64 at_, .int .i64 lo, .int .i64 cap, .int .i64 cost] 42) = W2 at *
          clear x0 x1 x2 x3 x4 s0
          by_cases hl : -2147483648 ≤ lo ∧ lo ≤ 2147483648
          case neg =>
            refine (isIn_no _ hl _).mono ?_
            rintro e _ ⟨rfl, rfl⟩
            have HP := Lib.hid hl
            clear hl
            go_wp2_with fail
            go_ret
            exact says_no (fun h => by have h1 := ((HF.out.1 h).2.2.2.1 _ HM.out).lo; have h2 := HP.out; (try simp only at h1); omega) HBW.out
          refine (isIn_yes _ hl _).mono ?_
          rintro e _ ⟨rfl, rfl⟩
          have Hhl := Lib.hid hl
          clear hl
          by_cases hcap : cap = 4611686018427387904
          · have hcb2 : (cap != 4611686018427387904) = false := by simp [hcap]
            have HCP := Lib.hid (show cap = infC ∨ cap ≤ 2147483648 from .inl hcap)
            clear hcap
            go_wp2_with fail
            by_cases hc2 : -2147483648 ≤ cost ∧ cost ≤ 2147483648
            case neg =>
              refine (isIn_no _ hc2 _).mono ?_
              rintro e _ ⟨rfl, rfl⟩
              have HP := Lib.hid hc2
              clear hc2
              go_wp2_with fail
              go_ret
              exact says_no (fun h => HP.out ((HF.out.1 h).2.2.2.1 _ HM.out).cost) HBW.out
            refine (isIn_yes _ hc2 _).mono ?_
            rintro e _ ⟨rfl, rfl⟩
            have Hhc2 := Lib.hid hc2
            clear hc2
            by_cases hl0 : lo = 0
            case neg =>
              have hlb : (lo != 0) = true := by simp [hl0]
              have HX0 := Lib.hid hl0
              clear hl0
              go_wp2_with fail
              go_ret
              exact says_no (fun h => HX0.out (((HF.out.1 h).2.2.2.1 _ HM.out).z rfl).1) HBW.out
            have hlb : (lo != 0) = false := by simp [hl0]
            have HL0 := Lib.hid hl0
            clear hl0
            by_cases hc0 : cost = 0
            case neg =>
              have hcb : (cost != 0) = true := by simp [hc0]
              have HX0 := Lib.hid hc0
              clear hc0
              go_wp2_with fail
              go_ret
              exact says_no (fun h => HX0.out (((HF.out.1 h).2.2.2.1 _ HM.out).z rfl).2) HBW.out
            have hcb : (cost != 0) = false := by simp [hc0]
            have HC0 := Lib.hid hc0
            clear hc0
            go_wp2_with fail
            go_roundw
            case rel => exact ⟨k + 1, by omega, by go_num, Lib.hid (by
              rw [HT.out]
              intro y hy
              rcases List.mem_append.1 hy with hy | hy
              · exact hG.out y hy
              · obtain rfl := List.mem_singleton.1 hy
                exact ⟨Hhl.out.2, HCP.out, Hhc2.out, fun _ => ⟨HL0.out, HC0.out⟩⟩), HX.out⟩
            case measure => simp [intOf]; omega
          · have hcb2 : (cap != 4611686018427387904) = true := by simp [hcap]
            have HNC := Lib.hid hcap
            clear hcap
            go_wp2_with fail
            by_cases hcp : -2147483648 ≤ cap ∧ cap ≤ 2147483648
            case neg =>
              refine (isIn_no _ hcp _).mono ?_
              rintro e _ ⟨rfl, rfl⟩
              have HP := Lib.hid hcp
              clear hcp
              go_wp2_with fail
              go_ret
              exact says_no (fun h => by
              have h1 := ((HF.out.1 h).2.2.2.1 _ HM.out).cap
              rcases h1 with h1 | h1
              · exact HNC.out h1
              · have h2 := HAR.out.cap
                rcases h2 with h2 | h2
                · exact HNC.out h2
                · have h3 := HP.out; (try simp only at h1 h2); omega) HBW.out
            refine (isIn_yes _ hcp _).mono ?_
            rintro e _ ⟨rfl, rfl⟩
            have Hhcp := Lib.hid hcp
            clear hcp
            go_wp2_with fail
            by_cases hc2 : -2147483648 ≤ cost ∧ cost ≤ 2147483648
            case neg =>
              refine (isIn_no _ hc2 _).mono ?_
              rintro e _ ⟨rfl, rfl⟩
              have HP := Lib.hid hc2
              clear hc2
              go_wp2_with fail
              go_ret
              exact says_no (fun h => HP.out ((HF.out.1 h).2.2.2.1 _ HM.out).cost) HBW.out
            refine (isIn_yes _ hc2 _).mono ?_
            rintro e _ ⟨rfl, rfl⟩
            have Hhc2 := Lib.hid hc2
            clear hc2
            by_cases hl0 : lo = 0
            case neg =>
              have hlb : (lo != 0) = true := by simp [hl0]
              have HX0 := Lib.hid hl0
              clear hl0
              go_wp2_with fail
              go_ret
              exact says_no (fun h => HX0.out (((HF.out.1 h).2.2.2.1 _ HM.out).z rfl).1) HBW.out
            have hlb : (lo != 0) = false := by simp [hl0]
            have HL0 := Lib.hid hl0
            clear hl0
            by_cases hc0 : cost = 0
            case neg =>
              have hcb : (cost != 0) = true := by simp [hc0]
              have HX0 := Lib.hid hc0
              clear hc0
              go_wp2_with fail
              go_ret
              exact says_no (fun h => HX0.out (((HF.out.1 h).2.2.2.1 _ HM.out).z rfl).2) HBW.out
            have hcb : (cost != 0) = false := by simp [hc0]
            have HC0 := Lib.hid hc0
            clear hc0
            go_wp2_with fail
            go_roundw
            case rel => exact ⟨k + 1, by omega, by go_num, Lib.hid (by
              rw [HT.out]
              intro y hy
              rcases List.mem_append.1 hy with hy | hy
              · exact hG.out y hy
              · obtain rfl := List.mem_singleton.1 hy
                exact ⟨Hhl.out.2, .inr Hhcp.out.2, Hhc2.out, fun _ => ⟨HL0.out, HC0.out⟩⟩), HX.out⟩
            case measure => simp [intOf]; omega
        · obtain rfl : k = m := by omega
          have HG := Lib.hid (show ∀ a ∈ arcs, ArcF true a from fun a ha => hG.out a (by rw [HL.out.2, List.take_length]; exact ha))
          have HBW := Lib.hid (HBW.out.trans (hbw.mono HBW.out.size))
          clear hG hbw
          by_cases hps0 : ps < 0
          · have hvb : ¬ 0 ≤ ps := by omega
            have HX0 := Lib.hid hvb
            go_wp2_with fail
            go_ret
            exact says_no (fun h => by have h1 := ((HF.out.1 h).2.2.2.2.mx rfl).1; have h2 := HX0.out; (try simp only at h1); omega) HBW.out
          have hpsa : 0 ≤ ps := by omega
          by_cases hps1 : ps < (j : Int)
          case neg =>
            have HX0 := Lib.hid hps1
            go_wp2_with fail
            go_ret
            exact says_no (fun h => by have h1 := ((HF.out.1 h).2.2.2.2.mx rfl).2.1; have h2 := HX0.out; have h3 := HL.out.1; (try simp only at h1); omega) HBW.out
          have Hps := Lib.hid (And.intro hpsa hps1)
          by_cases hpt0 : pt < 0
          · have hvb : ¬ 0 ≤ pt := by omega
            have HX0 := Lib.hid hvb
            go_wp2_with fail
            go_ret
            exact says_no (fun h => by have h1 := ((HF.out.1 h).2.2.2.2.mx rfl).2.2.1; have h2 := HX0.out; (try simp only at h1); omega) HBW.out
          have hpta : 0 ≤ pt := by omega
          by_cases hpt1 : pt < (j : Int)
          case neg =>
            have HX0 := Lib.hid hpt1
            go_wp2_with fail
            go_ret
            exact says_no (fun h => by have h1 := ((HF.out.1 h).2.2.2.2.mx rfl).2.2.2.1; have h2 := HX0.out; have h3 := HL.out.1; (try simp only at h1); omega) HBW.out
          have Hpt := Lib.hid (And.intro hpta hpt1)
          by_cases hst : ps = pt
          · have hsb : (ps != pt) = false := by simp [hst]
            have HST := Lib.hid hst
            clear hst
            go_wp2_with fail
            go_ret
            exact says_no (fun h => ((HF.out.1 h).2.2.2.2.mx rfl).2.2.2.2 HST.out) HBW.out
          have hsb : (ps != pt) = true := by simp [hst]
          have HST := Lib.hid hst
          clear hst
          go_wp2_with fail
          go_ret
          exact says_yes (HF.out.2 ⟨HI.out, by have := HL.out.1; have := HN0.out; omega, HS.out, HG.out, ⟨fun _ => ⟨Hps.out.1, show ps < (sup.length : Int) by have := Hps.out.2; have := HL.out.1; omega, Hpt.out.1, show pt < (sup.length : Int) by have := Hpt.out.2; have := HL.out.1; omega, HST.out⟩, fun h => by cases h⟩⟩) HBW.out

theorem fits_in (p : ProbV) (v : Value) (w : World) (hv : ProbIs w p v) : Calls Tryz.prog 32 #[v] w (SaysIf (FitsF p) w) := by
  obtain ⟨S, n, c, A, m, d, rfl, hn, hm, -, -, r, ra⟩ := hv
  obtain ⟨mx, sup, arcs, ps, pt⟩ := p
  cases mx
  · exact fits_false S A n c m d sup arcs ps pt w hn hm r ra
  · exact fits_true S A n c m d sup arcs ps pt w hn hm r ra
end Go.Proofs.YtoagphighgejnaaGreatDoor
