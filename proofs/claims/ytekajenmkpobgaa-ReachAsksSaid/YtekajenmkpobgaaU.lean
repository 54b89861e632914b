/- reach.spread: meet; the spreading. -/
import Derived.Test.YtekajenmkpobgaaT
set_option linter.unusedSimpArgs false
set_option linter.unusedVariables false
namespace Go.Proofs.Ytekajenmkpobgaa
open Go.RowKit

/-- is a number a node that has not been met? -/
def newB (met : List Bool) (n : Int) : Bool := hasB met.length n && !(met[n.toNat]?.getD true)
def meetM (met : List Bool) (n : Int) : List Bool := if newB met n then met.set n.toNat true else met
def meetX (met : List Bool) (xs : List Int) (n : Int) : List Int := if newB met n then xs ++ [n] else xs

def bools (met : List Bool) : Array Value := (met.map V).toArray
theorem bools_at {met : List Bool} {k : Nat} (hk : k < met.length) : (bools met)[k]? = some (.bool (met[k]?.getD true)) := by
  simp [bools, V, hk]
theorem bools_set (met : List Bool) (k : Nat) (b : Bool) : (bools met).setIfInBounds k (.bool b) = bools (met.set k b) := by
  unfold bools
  rw [List.setIfInBounds_toArray, List.map_set]
  rfl

set_option maxHeartbeats 1000000 in
theorem meet_old (w : World) (base sb c bv mb wv N : Nat) (A : Option Addr) (met : List Bool) (xs : List Int) (n : Int) (hbv : Blk w bv 31 #[.slice (some ⟨mb, 0, none⟩) N N]) (hmb : Blk w mb 4 (bools met)) (hN : met.length = N)
    (hnew : newB met n = false) :
    Calls Try.prog 52 #[.int .i64 n, .pointer (some ⟨bv, 0, none⟩), .pointer (some ⟨wv, 0, none⟩)] w fun e w' => e = .returned (.tuple #[]) ∧ w = w' := by
  have q0 := hbv.cell 0
  simp only [List.getElem?_toArray, List.getElem?_cons_zero] at q0
  by_cases h0 : 0 ≤ n
  · obtain ⟨k, rfl⟩ := Int.eq_ofNat_of_zero_le h0
    have d0 : decide (0 ≤ (k : Int)) = true := by simp
    by_cases h1 : k < N
    · have hm : met[k]?.getD true = true := by
        simp only [newB, hasB, Int.toNat_natCast] at hnew
        rw [hN] at hnew
        simpa [h1] using hnew
      have q1 := hmb.cell k
      rw [bools_at (by omega), hm] at q1
      have d1 : decide ((k : Int) < (N : Int)) = true := by simpa using h1
      clear hnew hm
      go_enter Try.func52, Try.ntmps52
      go_wp2
      go_end0
      exact ⟨rfl, rfl⟩
    · have d1 : decide ((k : Int) < (N : Int)) = false := by simpa using h1
      clear hnew
      go_enter Try.func52, Try.ntmps52
      go_wp2
      go_end0
      exact ⟨rfl, rfl⟩
  · have d0 : decide (0 ≤ n) = false := by simpa using h0
    clear hnew
    go_enter Try.func52, Try.ntmps52
    go_wp2
    go_end0
    exact ⟨rfl, rfl⟩

set_option maxHeartbeats 1000000 in
theorem meet_new (w : World) (base sb c bv mb wv N : Nat) (A : Option Addr) (met : List Bool) (xs : List Int) (n : Int) (hbv : Blk w bv 31 #[.slice (some ⟨mb, 0, none⟩) N N]) (hmb : Blk w mb 4 (bools met)) (hN : met.length = N)
    (hwv : Blk w wv 84 #[.pointer (some ⟨sb, 0, none⟩)]) (hst : Stk w base sb A c xs) (hb : base ≤ w.heap.size) (hl : xs.length ≤ 1000000000)
    (hnew : newB met n = true) :
    Calls Try.prog 52 #[.int .i64 n, .pointer (some ⟨bv, 0, none⟩), .pointer (some ⟨wv, 0, none⟩)] w fun e w' => e = .returned (.tuple #[]) ∧ Blk w' mb 4 (bools (met.set n.toNat true)) ∧
      ∃ A' c', Stk w' base sb A' c' (xs ++ [n]) ∧ Kept (fun b => b = mb ∨ b = sb ∨ ob A = some b) w w' ∧ (∀ g, ob A' = some g → ob A = some g ∨ w.heap.size ≤ g) := by
  have q0 := hbv.cell 0
  simp only [List.getElem?_toArray, List.getElem?_cons_zero] at q0
  have h0 : 0 ≤ n := by simp [newB, hasB] at hnew; omega
  obtain ⟨k, rfl⟩ := Int.eq_ofNat_of_zero_le h0
  have h1 : k < N := by simp [newB, hasB] at hnew; omega
  have hm : met[k]?.getD true = false := by
    simp only [newB, Int.toNat_natCast, Bool.and_eq_true] at hnew
    simpa using hnew.2
  have q1 := hmb.cell k
  rw [bools_at (by omega), hm] at q1
  have f1 := hmb.frozen k
  have q2 := hwv.cell 0
  simp only [List.getElem?_toArray, List.getElem?_cons_zero] at q2
  have d0 : decide (0 ≤ (k : Int)) = true := by simp
  have d1 : decide ((k : Int) < (N : Int)) = true := by simpa using h1
  have n1 : ¬ mb = wv := hmb.ne_ hwv (by decide)
  have n2 : ¬ wv = mb := fun h => n1 h.symm
  have nms : ¬ mb = sb := hmb.ne_ hst.blk (by decide)
  have hst' : Stk (w.setCell ⟨mb, k, none⟩ (.bool true)) base sb A c xs := hst.kept (S := fun b => b = mb) ((Kept.refl (fun b => b = mb) w).setCell (p := ⟨mb, k, none⟩) (fun _ => rfl) _) (fun h => nms h.symm) (fun g hg e => own_blk_ne hst.row hmb (by decide) (by rw [ob_own, hg, e]))
  have hz : (w.setCell ⟨mb, k, none⟩ (.bool true)).heap.size = w.heap.size := by simp [World.setCell]
  have HST := Lib.hid hst'
  have HZ := Lib.hid hz
  clear hnew hm hst' hz
  rw [Int.toNat_natCast, ← bools_set]
  go_enter Try.func52, Try.ntmps52
  go_wp2_with fail
  refine (put_any _ base sb c A xs k HST.out (by rw [HZ.out]; exact hb) hl).mono ?_
  rintro e w1 ⟨rfl, A', c', hs, hk, hg⟩
  go_wp2_with fail
  go_end0
  have hmb1 := (hmb.set_ k (.bool true)).kept hk (by rintro (h | h); exact nms h; exact own_blk_ne hst.row hmb (by decide) (by rw [ob_own, h]))
  exact ⟨rfl, hmb1, A', c', hs, ((Kept.refl (fun b => b = mb ∨ b = sb ∨ ob A = some b) w).setCell (p := ⟨mb, k, none⟩) (fun _ => .inl rfl) _).trans (hk.mono (fun b _ h => .inr h)), fun g h => by rw [HZ.out] at hg; exact hg g h⟩
end Go.Proofs.Ytekajenmkpobgaa
