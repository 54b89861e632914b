/- container/heap: Push and Pop; least.put, least.next. -/
import Derived.Test.YtekajenmkpobgaaH4
set_option linter.unusedSimpArgs false
set_option linter.unusedVariables false
namespace Go.Proofs.Ytekajenmkpobgaa
open Go.RowKit Go.Shelf

theorem hv_append {xs : List Int} {x : Int} {k : Nat} (h : k < xs.length) : hv (xs ++ [x]) k = hv xs k := by
  unfold hv; rw [List.getElem?_append_left h]
theorem HO.append {xs : List Int} (x : Int) (h : HO (hv xs) xs.length) : HO (hv (xs ++ [x])) xs.length := fun k h0 hk => by
  rw [hv_append hk, hv_append (by omega)]; exact h k h0 hk

set_option maxRecDepth 100000 in
set_option maxHeartbeats 2000000 in
theorem hPush_any (H sb : Nat) (A : Option Addr) (c : Nat) (xs : List Int) (w : World) (h : Hp w H sb A c xs) (hH : H ≤ w.heap.size) (hl : xs.length ≤ 1000000000) (hO : HO (hv xs) xs.length) (x : Int) :
    Calls Try.prog 45 #[.iface 76 (.pointer (some ⟨sb, 0, none⟩)), .iface 3 (.int .i64 x)] w fun e w' => e = .returned (.tuple #[]) ∧ ∃ A' c' xs', Hp w' H sb A' c' xs' ∧ HO (hv xs') xs'.length ∧ xs'.Perm (x :: xs) ∧ Kept (fun b => b = sb ∨ ob A = some b) w w' ∧ (∀ g, ob A' = some g → ob A = some g ∨ w.heap.size ≤ g) := by
  have q := h.blk.cell 0
  simp only [List.getElem?_toArray, List.getElem?_cons_zero] at q
  have m1 := meth_Push sb w
  go_enter Try.func45, Try.ntmps45
  go_wp2_with fail
  refine (pPush_any w H sb c A xs x h hH hl).mono ?_
  rintro e w1 ⟨rfl, A', c', h1, hK1, hg1⟩
  have q1 := h1.blk.cell 0
  simp only [List.getElem?_toArray, List.getElem?_cons_zero] at q1
  have m2 := meth_Len sb w1 _ q1
  have hlen : (xs ++ [x]).length = xs.length + 1 := by simp
  go_wp2_with fail
  refine (Len_any A' (xs.length + 1) c' w1).mono ?_
  rintro e w2 ⟨rfl, rfl⟩
  go_wp2_with fail
  change Calls _ _ #[_, .int .i64 ((xs.length : Nat) : Int)] _ _
  refine (up_any H sb A' c' (xs ++ [x]) w1 h1 xs.length (by omega) (by omega) (by rw [hlen]; exact HU.start (HO.append x hO))).mono ?_
  rintro e w3 ⟨rfl, xs', h3, hO3, hP3, hK3⟩
  go_wp2_with fail
  go_end0
  refine ⟨rfl, A', c', xs', h3, hO3, hP3.trans (List.perm_append_comm), ?_, hg1⟩
  refine ⟨hK3.os.trans hK1.os, hK3.tape.trans hK1.tape, hK3.output.trans hK1.output, Nat.le_trans hK1.size hK3.size, fun i hi hs => ?_⟩
  rw [hK3.block i (Nat.lt_of_lt_of_le hi hK1.size) ?_, hK1.block i hi hs]
  intro e
  rcases hg1 i e with e1 | e1
  · exact hs (.inr e1)
  · omega

theorem split_last {xs : List Int} {n : Nat} (h : xs.length = n + 1) : ∃ ys, xs = ys ++ [hv xs n] ∧ ys.length = n := by
  rcases List.eq_nil_or_concat xs with rfl | ⟨ys, x, rfl⟩
  · simp at h
  · rw [List.concat_eq_append] at *
    simp at h
    refine ⟨ys, ?_, h⟩
    simp [hv, ← h]
set_option maxRecDepth 100000 in
set_option maxHeartbeats 2000000 in
theorem hPop_any (H sb : Nat) (A : Option Addr) (c : Nat) (xs : List Int) (w : World) (h : Hp w H sb A c xs) (n : Nat) (hn : xs.length = n + 1) (hl : n ≤ 1000000000) (hO : HO (hv xs) xs.length) :
    Calls Try.prog 84 #[.iface 76 (.pointer (some ⟨sb, 0, none⟩))] w fun e w' => ∃ xs', e = .returned (.iface 3 (.int .i64 (hv xs 0))) ∧ Hp w' H sb A c xs' ∧ HO (hv xs') xs'.length ∧ (hv xs 0 :: xs').Perm xs ∧ (∀ y ∈ xs, hv xs 0 ≤ y) ∧ Kept (fun b => b = sb ∨ ob A = some b) w w' := by
  have q := h.blk.cell 0
  simp only [List.getElem?_toArray, List.getElem?_cons_zero] at q
  have m1 := meth_Len sb w _ q
  have m2 := meth_Swap sb w _ q
  have HN := Lib.hid hn
  clear hn
  go_enter Try.func84, Try.ntmps84
  go_wp2_with fail
  refine (Len_any A xs.length c w).mono ?_
  rintro e w2 ⟨rfl, rfl⟩
  rw [show (Value.int .i64 ((xs.length : Nat) : Int)) = .int .i64 ((n : Int) + 1) by rw [HN.out]; rfl]
  go_wp2_with fail
  refine (Swap_any H sb A c xs w h 0 n _ _ (hv_at (by have := HN.out; omega)) (hv_at (by have := HN.out; omega))).mono ?_
  rintro e w3 ⟨rfl, h3, hK3⟩
  have hsw := hv_swap (xs := xs) (i := 0) (j := n) (by have := HN.out; omega) (by have := HN.out; omega)
  have hP1 := hv_perm (xs := xs) (i := 0) (j := n) (by have := HN.out; omega) (by have := HN.out; omega)
  have hD : HD (hv ((xs.set 0 (hv xs n)).set n (hv xs 0))) n 0 := by
    have h1 : HO (hv xs) n := fun k h0 hk => hO k h0 (by have := HN.out; omega)
    have h2 := HD.start h1 (hv xs n)
    rw [hsw]
    refine ⟨fun k h0 hk hne => ?_, fun k h0 hk he hh => by omega⟩
    have := h2.1 k h0 hk hne
    simp only [if_neg hne, if_neg (show k ≠ 0 by omega)] at this
    unfold swf
    rw [if_neg (by omega), if_neg hne, if_neg (by omega), if_neg (by omega)]
    exact this
  have HD1 := Lib.hid hD
  clear hD
  have q3 := h3.blk.cell 0
  simp only [List.getElem?_toArray, List.getElem?_cons_zero] at q3
  go_wp2_with fail
  refine (down_any H sb A c _ w3 h3 n (by have := HN.out; simp; omega) (by have := HN.out; simp; omega) HD1.out).mono ?_
  rintro e w4 ⟨b, xs', rfl, h4, hO4, hP4, hv4, hK4⟩
  have m3 := meth_Pop sb w4
  have hl4 : xs'.length = n + 1 := by rw [hP4.length_eq]; simpa using HN.out
  obtain ⟨ys, hys, hyl⟩ := split_last hl4
  have hx : hv xs' n = hv xs 0 := by
    rw [hv4, hsw]; simp [swf]
  rw [hx] at hys
  rw [hys] at h4 hP4 hO4
  go_wp2_with fail
  refine (pPop_any w4 H sb c A ys (hv xs 0) h4 (by omega)).mono ?_
  rintro e w5 ⟨rfl, h5, hK5⟩
  go_wp2_with fail
  go_ret
  refine ⟨ys, rfl, h5, ?_, ?_, ?_, ?_⟩
  · intro k h0 hk
    have := hO4 k h0 (by omega)
    rwa [hv_append hk, hv_append (by omega)] at this
  · exact (List.perm_append_comm (l₁ := [hv xs 0]) (l₂ := ys)).trans (hP4.trans hP1)
  · intro y hy
    obtain ⟨k, hk, e⟩ := List.getElem_of_mem hy
    have := hO.least k hk
    simpa [hv, hk, e] using this
  · exact ((hK3.mono (fun b _ e => .inr e)).trans (hK4.mono (fun b _ e => .inr e))).trans (hK5.mono (fun b _ e => .inl e))

set_option maxRecDepth 100000 in
set_option maxHeartbeats 2000000 in
theorem lput_any (H sb : Nat) (A : Option Addr) (c : Nat) (xs : List Int) (w : World) (h : Hp w H sb A c xs) (hH : H ≤ w.heap.size) (hl : xs.length ≤ 1000000000) (hO : HO (hv xs) xs.length) (x : Int) :
    Calls Try.prog 28 #[.pointer (some ⟨sb, 0, none⟩), .int .i64 x] w fun e w' => e = .returned (.tuple #[]) ∧ ∃ A' c' xs', Hp w' H sb A' c' xs' ∧ HO (hv xs') xs'.length ∧ xs'.Perm (x :: xs) ∧ Kept (fun b => b = sb ∨ ob A = some b) w w' ∧ (∀ g, ob A' = some g → ob A = some g ∨ w.heap.size ≤ g) := by
  go_enter Try.func28, Try.ntmps28
  go_wp2_with fail
  refine (hPush_any H sb A c xs w h hH hl hO x).mono ?_
  rintro e w1 ⟨rfl, hh⟩
  go_wp2_with fail
  go_end0
  exact ⟨rfl, hh⟩
set_option maxRecDepth 100000 in
set_option maxHeartbeats 2000000 in
theorem lnext_none (H sb : Nat) (A : Option Addr) (c : Nat) (w : World) (h : Hp w H sb A c []) :
    Calls Try.prog 82 #[.pointer (some ⟨sb, 0, none⟩)] w fun e w' => e = .returned (.tuple #[.int .i64 0, .bool false]) ∧ w = w' := by
  have q := h.blk.cell 0
  simp only [List.getElem?_toArray, List.getElem?_cons_zero, List.length_nil] at q
  go_enter Try.func82, Try.ntmps82
  go_wp2_with fail
  refine (Len_any A 0 c w).mono ?_
  rintro e w2 ⟨rfl, rfl⟩
  go_wp2_with fail
  go_ret2
  exact ⟨rfl, rfl⟩
set_option maxRecDepth 100000 in
set_option maxHeartbeats 2000000 in
theorem lnext_some (H sb : Nat) (A : Option Addr) (c : Nat) (xs : List Int) (w : World) (h : Hp w H sb A c xs) (n : Nat) (hn : xs.length = n + 1) (hl : n ≤ 1000000000) (hO : HO (hv xs) xs.length) :
    Calls Try.prog 82 #[.pointer (some ⟨sb, 0, none⟩)] w fun e w' => ∃ x xs', e = .returned (.tuple #[.int .i64 x, .bool true]) ∧ Hp w' H sb A c xs' ∧ HO (hv xs') xs'.length ∧ (x :: xs').Perm xs ∧ (∀ y ∈ xs, x ≤ y) ∧ Kept (fun b => b = sb ∨ ob A = some b) w w' := by
  have q := h.blk.cell 0
  simp only [List.getElem?_toArray, List.getElem?_cons_zero] at q
  have hta := assertInt (hv xs 0)
  have HN := Lib.hid hn
  clear hn
  go_enter Try.func82, Try.ntmps82
  go_wp2_with fail
  refine (Len_any A xs.length c w).mono ?_
  rintro e w2 ⟨rfl, rfl⟩
  have hne : (((xs.length : Nat) : Int) == 0) = false := by rw [HN.out, beq_eq_false_iff_ne]; omega
  go_wp2_with fail
  refine (hPop_any H sb A c xs w h n HN.out hl hO).mono ?_
  rintro e w3 ⟨xs', rfl, h3, hO3, hP3, hL3, hK3⟩
  go_wp2_with fail
  go_ret2
  exact ⟨_, xs', rfl, h3, hO3, hP3, hL3, hK3⟩
end Go.Proofs.Ytekajenmkpobgaa
