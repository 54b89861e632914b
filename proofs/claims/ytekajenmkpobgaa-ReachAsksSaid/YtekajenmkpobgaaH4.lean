/- container/heap: up and down on a pile. -/
import Derived.Test.YtekajenmkpobgaaH3
set_option linter.unusedSimpArgs false
set_option linter.unusedVariables false
namespace Go.Proofs.Ytekajenmkpobgaa
open Go.RowKit Go.Shelf

theorem Hp.drewN {w : World} {H sb c : Nat} {A : Option Addr} {xs : List Int} (h : Hp w H sb A c xs) (n : Nat) : Hp (w.drewN n) H sb A c xs := ⟨h.blk, h.row⟩

set_option maxRecDepth 100000 in
set_option maxHeartbeats 2000000 in
theorem up_any (H sb : Nat) (A : Option Addr) (c : Nat) (xs : List Int) (w : World) (h : Hp w H sb A c xs) (j : Nat) (hj : j < xs.length) (hl : xs.length ≤ 1000000001) (hU : HU (hv xs) xs.length j) :
    Calls Try.prog 62 #[.iface 76 (.pointer (some ⟨sb, 0, none⟩)), .int .i64 j] w fun e w' => e = .returned (.tuple #[]) ∧ ∃ xs', Hp w' H sb A c xs' ∧ HO (hv xs') xs'.length ∧ xs'.Perm xs ∧ Kept (fun b => ob A = some b) w w' := by
  go_enter Try.func62, Try.ntmps62
  go_wp2_with fail
  go_loopw [1] (fun i wr => ∃ (k : Nat) (ys : List Int), i = .int .i64 k ∧ k < ys.length ∧ Hp wr H sb A c ys ∧ HU (hv ys) ys.length k ∧ ys.Perm xs ∧ Kept (fun b => ob A = some b) w wr) (fun i _ => (intOf i).toNat)
  case atStart => exact ⟨j, xs, rfl, hj, h, hU, List.Perm.refl _, Kept.refl _ _⟩
  case round =>
    clear h hU hj
    obtain ⟨k, ys, rfl, hk, h, hU, hP, hK⟩ := hrel
    have hyl := hP.length_eq
    have q := h.blk.cell 0
    simp only [List.getElem?_toArray, List.getElem?_cons_zero] at q
    have m1 := meth_Less sb wr _ q
    by_cases k0 : k = 0
    · subst k0
      have ht : (((0 : Nat) : Int) - 1).tdiv 2 = ((0 : Nat) : Int) := by decide
      go_wp2_with fail
      go_end0
      exact ⟨rfl, ys, h, hU.top, hP, hK⟩
    · obtain ⟨i, hi⟩ : ∃ i, i = (k - 1) / 2 := ⟨_, rfl⟩
      have ht : ((k : Int) - 1).tdiv 2 = (i : Int) := by
        rw [hi, Int.tdiv_eq_ediv_of_nonneg (by omega)]; omega
      have hik : i < k := by omega
      have hkb : k ≤ 1000000001 := by omega
      have hne : ((i : Int) == (k : Int)) = false := by rw [beq_eq_false_iff_ne]; omega
      have hil : i < ys.length := by omega
      have HI := Lib.hid hi
      have HY := Lib.hid hyl
      clear hi hyl
      go_wp2_with fail
      refine (Less_any H sb A c ys wr h k i _ _ (hv_at hk) (hv_at hil)).mono ?_
      rintro e w1 ⟨rfl, nd, rfl⟩
      have m2 := meth_Swap sb (wr.drewN nd) _ q
      by_cases hlt : hv ys k < hv ys i
      · have hlt' : decide (hv ys k < hv ys i) = true := by simpa using hlt
        rw [hlt']
        go_wp2_with fail
        refine (Swap_any H sb A c ys _ (h.drewN nd) i k _ _ (hv_at hil) (hv_at hk)).mono ?_
        rintro e w2 ⟨rfl, h2, hK2⟩
        have hK3 : Kept (fun b => ob A = some b) w w2 := (hK.drewN nd).trans hK2
        have hU2 := hU.step hk (by omega) (by rw [← HI.out]; exact hlt)
        rw [← HI.out, ← hv_swap hil hk] at hU2
        go_wp2_with fail
        go_roundw
        case rel => exact ⟨i, _, rfl, by simpa using hil, h2, by simpa using hU2, (hv_perm hil hk).trans hP, hK3⟩
        case measure => simp [intOf]; omega
      · have hlt' : decide (hv ys k < hv ys i) = false := by simpa using hlt
        rw [hlt']
        go_wp2_with fail
        go_end0
        exact ⟨rfl, ys, h.drewN nd, hU.done (by rw [← HI.out]; omega), hP, hK.drewN nd⟩

theorem HD.child {f : Nat → Int} {n i j : Nat} (h : HD f n i) (hc : (2 * i + 2 < n ∧ f (2 * i + 2) < f (2 * i + 1) ∧ j = 2 * i + 2) ∨ (¬ (2 * i + 2 < n ∧ f (2 * i + 2) < f (2 * i + 1)) ∧ j = 2 * i + 1)) (hn : 2 * i + 1 < n) :
    j < n ∧ 0 < j ∧ (j - 1) / 2 = i ∧ ∀ k, 0 < k → k < n → (k - 1) / 2 = i → f j ≤ f k := by
  rcases hc with ⟨h1, h2, rfl⟩ | ⟨h1, rfl⟩
  · refine ⟨h1, by omega, by omega, fun k k0 hk hp => ?_⟩
    rcases (show k = 2 * i + 1 ∨ k = 2 * i + 2 by omega) with rfl | rfl <;> omega
  · refine ⟨hn, by omega, by omega, fun k k0 hk hp => ?_⟩
    rcases (show k = 2 * i + 1 ∨ k = 2 * i + 2 by omega) with rfl | rfl
    · omega
    · rcases Classical.em (f (2 * i + 2) < f (2 * i + 1)) with h3 | h3
      · exact absurd ⟨hk, h3⟩ h1
      · omega
set_option maxRecDepth 100000 in
set_option maxHeartbeats 4000000 in
theorem down_any (H sb : Nat) (A : Option Addr) (c : Nat) (xs : List Int) (w : World) (h : Hp w H sb A c xs) (n : Nat) (hn : n < xs.length) (hl : xs.length ≤ 1000000001) (hD : HD (hv xs) n 0) :
    Calls Try.prog 85 #[.iface 76 (.pointer (some ⟨sb, 0, none⟩)), .int .i64 0, .int .i64 n] w fun e w' => ∃ b xs', e = .returned (.bool b) ∧ Hp w' H sb A c xs' ∧ HO (hv xs') n ∧ xs'.Perm xs ∧ hv xs' n = hv xs n ∧ Kept (fun b => ob A = some b) w w' := by
  go_enter Try.func85, Try.ntmps85
  go_wp2_with fail
  go_loopw [7] (fun i wr => ∃ (k : Nat) (ys : List Int), i = .int .i64 k ∧ k ≤ n ∧ Hp wr H sb A c ys ∧ HD (hv ys) n k ∧ ys.Perm xs ∧ hv ys n = hv xs n ∧ Kept (fun b => ob A = some b) w wr) (fun i _ => n - (intOf i).toNat)
  case atStart => exact ⟨0, xs, rfl, Nat.zero_le _, h, hD, List.Perm.refl _, rfl, Kept.refl _ _⟩
  case round =>
    clear h hD
    obtain ⟨k, ys, rfl, hk, h, hD, hP, hL, hK⟩ := hrel
    have hyl := hP.length_eq
    have q := h.blk.cell 0
    simp only [List.getElem?_toArray, List.getElem?_cons_zero] at q
    have m1 := meth_Less sb wr _ q
    have HL := Lib.hid hL
    have HY := Lib.hid hyl
    clear hL
    have hnb : n ≤ 1000000000 := by omega
    have hny : n < ys.length := by omega
    clear hyl
    by_cases hj : 2 * k + 1 < n
    · have g1 : ¬ ((n : Int) ≤ 2 * (k : Int) + 1) := by omega
      have g2 : ¬ (2 * (k : Int) + 1 < 0) := by omega
      by_cases hj2 : 2 * k + 2 < n
      · have g3 : (2 * (k : Int) + 1 + 1 < (n : Int)) := by omega
        go_wp2_with fail
        change Calls _ _ #[_, .int .i64 ((2 * k + 2 : Nat) : Int), .int .i64 ((2 * k + 1 : Nat) : Int)] _ _
        refine (Less_any H sb A c ys wr h (2 * k + 2) (2 * k + 1) _ _ (hv_at (by omega)) (hv_at (by omega))).mono ?_
        rintro e w1 ⟨rfl, nd, rfl⟩
        have hW := h.drewN nd
        have hKW := hK.drewN nd
        have qW : (wr.drewN nd).cell? ⟨sb, 0, none⟩ = some _ := q
        have m2 := meth_Less sb (wr.drewN nd) _ qW
        generalize wr.drewN nd = W at *
        clear q m1 h hK
        by_cases hlt : hv ys (2 * k + 2) < hv ys (2 * k + 1)
        · have hlt' : decide (hv ys (2 * k + 2) < hv ys (2 * k + 1)) = true := by simpa using hlt
          have HC := Lib.hid (hD.child (j := 2 * k + 2) (.inl ⟨hj2, hlt, rfl⟩) hj)
          rw [hlt']
          clear hlt hlt'
          go_wp2_with fail
          change Calls _ _ #[_, .int .i64 ((2 * k + 2 : Nat) : Int), .int .i64 k] _ _
          refine (Less_any H sb A c ys W hW (2 * k + 2) k _ _ (hv_at (by have := HC.out.1; omega)) (hv_at (by omega))).mono ?_
          rintro e w1 ⟨rfl, nd2, rfl⟩
          have m3 := meth_Swap sb (W.drewN nd2) _ qW
          by_cases hl2 : hv ys (2 * k + 2) < hv ys k
          · have hl2' : decide (hv ys (2 * k + 2) < hv ys k) = true := by simpa using hl2
            rw [hl2']
            go_wp2_with fail
            change Calls _ _ #[_, .int .i64 k, .int .i64 ((2 * k + 2 : Nat) : Int)] _ _
            refine (Swap_any H sb A c ys _ (hW.drewN nd2) k (2 * k + 2) _ _ (hv_at (by omega)) (hv_at (by have := HC.out.1; omega))).mono ?_
            rintro e w2 ⟨rfl, h2, hK2⟩
            have hK3 : Kept (fun b => ob A = some b) w w2 := (hKW.drewN nd2).trans hK2
            have hD2 := hD.step HC.out.1 (by omega) HC.out.2.1 HC.out.2.2.1 HC.out.2.2.2 hl2
            have hsw := hv_swap (xs := ys) (i := k) (j := 2 * k + 2) (by omega) (by have := HC.out.1; omega)
            rw [← hsw] at hD2
            go_wp2_with fail
            go_roundw
            case rel => exact ⟨2 * k + 2, _, by go_num, by have := HC.out.1; omega, h2, hD2, (hv_perm (by omega) (by have := HC.out.1; omega)).trans hP, by rw [hsw, swf, if_neg (by have := HC.out.1; omega), if_neg (by omega)]; exact HL.out, hK3⟩
            case measure => simp [intOf]; omega
          · have hl2' : decide (hv ys (2 * k + 2) < hv ys k) = false := by simpa using hl2
            rw [hl2']
            go_wp2_with fail
            go_ret
            exact ⟨_, ys, rfl, hW.drewN nd2, hD.done (fun k' k0 hk' hp => by have := HC.out.2.2.2 k' k0 hk' hp; omega), hP, HL.out, hKW.drewN nd2⟩
        · have hlt' : decide (hv ys (2 * k + 2) < hv ys (2 * k + 1)) = false := by simpa using hlt
          have HC := Lib.hid (hD.child (j := 2 * k + 1) (.inr ⟨fun hh => hlt hh.2, rfl⟩) hj)
          rw [hlt']
          clear hlt hlt'
          go_wp2_with fail
          change Calls _ _ #[_, .int .i64 ((2 * k + 1 : Nat) : Int), .int .i64 k] _ _
          refine (Less_any H sb A c ys W hW (2 * k + 1) k _ _ (hv_at (by have := HC.out.1; omega)) (hv_at (by omega))).mono ?_
          rintro e w1 ⟨rfl, nd2, rfl⟩
          have m3 := meth_Swap sb (W.drewN nd2) _ qW
          by_cases hl2 : hv ys (2 * k + 1) < hv ys k
          · have hl2' : decide (hv ys (2 * k + 1) < hv ys k) = true := by simpa using hl2
            rw [hl2']
            go_wp2_with fail
            change Calls _ _ #[_, .int .i64 k, .int .i64 ((2 * k + 1 : Nat) : Int)] _ _
            refine (Swap_any H sb A c ys _ (hW.drewN nd2) k (2 * k + 1) _ _ (hv_at (by omega)) (hv_at (by have := HC.out.1; omega))).mono ?_
            rintro e w2 ⟨rfl, h2, hK2⟩
            have hK3 : Kept (fun b => ob A = some b) w w2 := (hKW.drewN nd2).trans hK2
            have hD2 := hD.step HC.out.1 (by omega) HC.out.2.1 HC.out.2.2.1 HC.out.2.2.2 hl2
            have hsw := hv_swap (xs := ys) (i := k) (j := 2 * k + 1) (by omega) (by have := HC.out.1; omega)
            rw [← hsw] at hD2
            go_wp2_with fail
            go_roundw
            case rel => exact ⟨2 * k + 1, _, by go_num, by have := HC.out.1; omega, h2, hD2, (hv_perm (by omega) (by have := HC.out.1; omega)).trans hP, by rw [hsw, swf, if_neg (by have := HC.out.1; omega), if_neg (by omega)]; exact HL.out, hK3⟩
            case measure => simp [intOf]; omega
          · have hl2' : decide (hv ys (2 * k + 1) < hv ys k) = false := by simpa using hl2
            rw [hl2']
            go_wp2_with fail
            go_ret
            exact ⟨_, ys, rfl, hW.drewN nd2, hD.done (fun k' k0 hk' hp => by have := HC.out.2.2.2 k' k0 hk' hp; omega), hP, HL.out, hKW.drewN nd2⟩
      · have g3 : ¬ (2 * (k : Int) + 1 + 1 < (n : Int)) := by omega
        have HC := Lib.hid (hD.child (j := 2 * k + 1) (.inr ⟨fun hh => hj2 hh.1, rfl⟩) hj)
        have hW := h
        have hKW := hK
        have qW := q
        clear h hK
        obtain ⟨W, hWW⟩ : ∃ W, W = wr := ⟨_, rfl⟩
        go_wp2_with fail
        change Calls _ _ #[_, .int .i64 ((2 * k + 1 : Nat) : Int), .int .i64 k] _ _
        refine (Less_any H sb A c ys wr hW (2 * k + 1) k _ _ (hv_at (by have := HC.out.1; omega)) (hv_at (by omega))).mono ?_
        rintro e w1 ⟨rfl, nd2, rfl⟩
        have m3 := meth_Swap sb (wr.drewN nd2) _ q
        by_cases hl2 : hv ys (2 * k + 1) < hv ys k
        · have hl2' : decide (hv ys (2 * k + 1) < hv ys k) = true := by simpa using hl2
          rw [hl2']
          go_wp2_with fail
          change Calls _ _ #[_, .int .i64 k, .int .i64 ((2 * k + 1 : Nat) : Int)] _ _
          refine (Swap_any H sb A c ys _ (hW.drewN nd2) k (2 * k + 1) _ _ (hv_at (by omega)) (hv_at (by have := HC.out.1; omega))).mono ?_
          rintro e w2 ⟨rfl, h2, hK2⟩
          have hK3 : Kept (fun b => ob A = some b) w w2 := (hKW.drewN nd2).trans hK2
          have hD2 := hD.step HC.out.1 (by omega) HC.out.2.1 HC.out.2.2.1 HC.out.2.2.2 hl2
          have hsw := hv_swap (xs := ys) (i := k) (j := 2 * k + 1) (by omega) (by have := HC.out.1; omega)
          rw [← hsw] at hD2
          go_wp2_with fail
          go_roundw
          case rel => exact ⟨2 * k + 1, _, by go_num, by have := HC.out.1; omega, h2, hD2, (hv_perm (by omega) (by have := HC.out.1; omega)).trans hP, by rw [hsw, swf, if_neg (by have := HC.out.1; omega), if_neg (by omega)]; exact HL.out, hK3⟩
          case measure => simp [intOf]; omega
        · have hl2' : decide (hv ys (2 * k + 1) < hv ys k) = false := by simpa using hl2
          rw [hl2']
          go_wp2_with fail
          go_ret
          exact ⟨_, ys, rfl, hW.drewN nd2, hD.done (fun k' k0 hk' hp => by have := HC.out.2.2.2 k' k0 hk' hp; omega), hP, HL.out, hKW.drewN nd2⟩
    · have g1 : ((n : Int) ≤ 2 * (k : Int) + 1) := by omega
      go_wp2_with fail
      go_ret
      exact ⟨_, ys, rfl, h, hD.done (fun k' k0 hk' hp => by omega), hP, HL.out, hK⟩
end Go.Proofs.Ytekajenmkpobgaa

