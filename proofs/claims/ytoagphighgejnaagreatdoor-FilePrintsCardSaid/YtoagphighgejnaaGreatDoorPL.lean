/- A line of words that were just laid, and of words in a row of one's own. Conditions: none. -/
import Derived.Test.YtoagphighgejnaaGreatDoorPR
import Derived.Test.YtoagphighgejnaaGreatDoorAV
set_option linter.unusedSimpArgs false
set_option linter.unusedVariables false
namespace Go.Proofs.YtoagphighgejnaaGreatDoor
open Go.RowKit Go.Shelf

theorem reads_fresh (W : World) (xs : List Value) : Reads (W.alloc (.cells xs.toArray 9)) (W.alloc (.cells xs.toArray 9)).heap.size 1 (some ⟨W.heap.size, 0, none⟩) xs.length xs := by
  refine ⟨by simp, fun _ => ⟨W.heap.size, 0, rfl, by simp, fun j u hu => ?_⟩⟩
  rw [Nat.zero_add, (Blk.new W 9 xs.toArray).cell, List.getElem?_toArray]
  exact hu
theorem own_fresh (W : World) (B : Nat) (hB : B ≤ W.heap.size) (xs : List Value) (hl : xs.length ≤ 1000) : (W.alloc (.cells xs.toArray 9)).ownsRow B 9 1 (.slice (some ⟨W.heap.size, 0, none⟩) xs.length xs.length) xs.length xs := by
  refine ⟨by simp, .inr ⟨W.heap.size, xs.length, xs.toArray, rfl, hB, heap_alloc_new W _, Nat.le_refl _, by unfold maxLen; omega, by simp, by simp⟩⟩
/-- the page's line of words that were laid in a new row -/
theorem line_new (B b : Nat) (l : List UInt8) (ws : List (List UInt8)) (w W : World) (h : PageIs B b (Lib.byteCells l) w) (hb : Below w.heap.size w W) (hl1 : ws.length ≤ 100) (hl2 : (lnW ws).length ≤ 1000) (hl3 : l.length ≤ 1000000) (hBw : B ≤ w.heap.size) :
    Calls Tryz.prog 33 #[.pointer (some ⟨b, 0, none⟩), .slice (some ⟨W.heap.size, 0, none⟩) ws.length ws.length] (W.alloc (.cells (ws.map strV).toArray 9)) fun e w' => e = .returned (.tuple #[]) ∧ PageUsed B b (Lib.byteCells (l ++ (lnW ws ++ [10]))) w' ∧ Below B w w' := by
  have hb2 := hb.alloc (o := .cells (ws.map strV).toArray 9) hb.size
  refine (line_in B b l _ ws.length ws.length ws _ (page_below h hb2) rfl (Nat.le_refl _) ?_ hl1 hl2 hl3 (Nat.le_trans hBw hb2.size)).mono ?_
  · have := reads_fresh W (ws.map strV)
    rwa [List.length_map] at this
  · rintro e w' ⟨h1, h2, h3⟩
    exact ⟨h1, h2, (hb2.mono hBw).trans h3⟩
/-- .. of words in a row that grew -/
theorem line_own (B b R : Nat) (l : List UInt8) (A : Option Addr) (n c : Nat) (ws : List (List UInt8)) (w W : World) (h : PageIs B b (Lib.byteCells l) w) (hb : Below w.heap.size w W) (ho : W.ownsRow R 9 1 (.slice A n c) n (ws.map strV)) (hl1 : ws.length ≤ 100) (hl2 : (lnW ws).length ≤ 1000) (hl3 : l.length ≤ 1000000) (hBw : B ≤ w.heap.size) :
    Calls Tryz.prog 33 #[.pointer (some ⟨b, 0, none⟩), .slice A n c] W fun e w' => e = .returned (.tuple #[]) ∧ PageUsed B b (Lib.byteCells (l ++ (lnW ws ++ [10]))) w' ∧ Below B w w' := by
  have hn : n = ws.length := by have := ho.1; simpa using this.symm
  refine (line_in B b l _ n c ws _ (page_below h hb) hn (own_cap ho) (Reads.of_own ho) (by omega) hl2 hl3 (Nat.le_trans hBw hb.size)).mono ?_
  rintro e w' ⟨h1, h2, h3⟩
  exact ⟨h1, h2, (hb.mono hBw).trans h3⟩
theorem page_new (w : World) : PageIs w.heap.size w.heap.size (Lib.byteCells []) (w.alloc (.cells #[.pointer none, .slice none 0 0] 67)) :=
  .inl ⟨Nat.le_refl _, .slice none 0 0, heap_alloc_new w _, World.ownsRow_nil _ _ _ _, by simp [Value.ownBlock]⟩
end Go.Proofs.YtoagphighgejnaaGreatDoor
