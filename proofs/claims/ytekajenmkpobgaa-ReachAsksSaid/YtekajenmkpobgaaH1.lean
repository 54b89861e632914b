/- container/heap on a pile: its methods. -/
import Derived.Test.YtekajenmkpobgaaR1
set_option linter.unusedSimpArgs false
set_option linter.unusedVariables false
namespace Go.Proofs.Ytekajenmkpobgaa
open Go.RowKit Go.Shelf

theorem meth_Push (sb : Nat) (w : World) : (method 224 76 (.pointer (some ⟨sb, 0, none⟩)) "Push").run Try.prog w = .ok (90, .pointer (some ⟨sb, 0, none⟩)) w := by kernel_rfl
theorem meth_Pop (sb : Nat) (w : World) : (method 224 76 (.pointer (some ⟨sb, 0, none⟩)) "Pop").run Try.prog w = .ok (89, .pointer (some ⟨sb, 0, none⟩)) w := by kernel_rfl
theorem meth_of (sb : Nat) (w : World) (v : Value) (f : FuncId) (h : w.cell? ⟨sb, 0, none⟩ = some v) : (do let v ← load ⟨sb, 0, none⟩; pure (f, v) : Sem (FuncId × Value)).run Try.prog w = .ok (f, v) w := by
  simp [run_load, h]
theorem meth_Len (sb : Nat) (w : World) (v : Value) (h : w.cell? ⟨sb, 0, none⟩ = some v) : (method 224 76 (.pointer (some ⟨sb, 0, none⟩)) "Len").run Try.prog w = .ok (83, v) w := by
  have e : (method 224 76 (.pointer (some ⟨sb, 0, none⟩)) "Len").run Try.prog w = (do let v ← load ⟨sb, 0, none⟩; pure (83, v) : Sem (FuncId × Value)).run Try.prog w := by
    kernel_rfl
  exact e.trans (meth_of sb w v 83 h)
theorem meth_Less (sb : Nat) (w : World) (v : Value) (h : w.cell? ⟨sb, 0, none⟩ = some v) : (method 224 76 (.pointer (some ⟨sb, 0, none⟩)) "Less").run Try.prog w = .ok (86, v) w := by
  have e : (method 224 76 (.pointer (some ⟨sb, 0, none⟩)) "Less").run Try.prog w = (do let v ← load ⟨sb, 0, none⟩; pure (86, v) : Sem (FuncId × Value)).run Try.prog w := by
    kernel_rfl
  exact e.trans (meth_of sb w v 86 h)
theorem meth_Swap (sb : Nat) (w : World) (v : Value) (h : w.cell? ⟨sb, 0, none⟩ = some v) : (method 224 76 (.pointer (some ⟨sb, 0, none⟩)) "Swap").run Try.prog w = .ok (88, v) w := by
  have e : (method 224 76 (.pointer (some ⟨sb, 0, none⟩)) "Swap").run Try.prog w = (do let v ← load ⟨sb, 0, none⟩; pure (88, v) : Sem (FuncId × Value)).run Try.prog w := by
    kernel_rfl
  exact e.trans (meth_of sb w v 88 h)

/-- the heap in memory -/
structure Hp (w : World) (H sb : Nat) (A : Option Addr) (c : Nat) (xs : List Int) : Prop where
  blk : Blk w sb 58 #[.slice A xs.length c]
  row : w.ownsRow H 3 1 (.slice A xs.length c) xs.length (xs.map I)

theorem Len_any (A : Option Addr) (n c : Nat) (w : World) : Calls Try.prog 83 #[.slice A n c] w fun e w' => e = .returned (.int .i64 n) ∧ w = w' := by
  go_enter Try.func83, Try.ntmps83
  go_wp2_with fail
  go_ret
  exact ⟨rfl, rfl⟩
set_option maxRecDepth 100000 in
set_option maxHeartbeats 1000000 in
theorem Less_any (H sb : Nat) (A : Option Addr) (c : Nat) (xs : List Int) (w : World) (h : Hp w H sb A c xs) (i j : Nat) (x y : Int) (hi : xs[i]? = some x) (hj : xs[j]? = some y) :
    Calls Try.prog 86 #[.slice A xs.length c, .int .i64 i, .int .i64 j] w fun e w' => e = .returned (.bool (decide (x < y))) ∧ ∃ n, w' = w.drewN n := by
  have hil : i < xs.length := by
    rcases Nat.lt_or_ge i xs.length with h1 | h1
    · exact h1
    · rw [List.getElem?_eq_none h1] at hi; cases hi
  have hjl : j < xs.length := by
    rcases Nat.lt_or_ge j xs.length with h1 | h1
    · exact h1
    · rw [List.getElem?_eq_none h1] at hj; cases hj
  obtain ⟨b, off, u, rfl, hbB, hx, hcell⟩ := (Reads.of_own h.row).at_ hil
  obtain ⟨b', off', u', hA, hbB', hx', hcell'⟩ := (Reads.of_own h.row).at_ hjl
  cases hA
  simp only [List.getElem?_map, hi, hj, Option.map_some, Option.some.injEq] at hx hx'
  subst hx
  subst hx'
  unfold I at hcell hcell'
  have e1 : (i : Int) < xs.length := by omega
  have e2 : (j : Int) < xs.length := by omega
  clear h hi hj
  go_enter Try.func86, Try.ntmps86
  go_wp2_with fail
  go_quiet (fail)
  go_wp2_with fail
  go_ret
  exact ⟨rfl, _, rfl⟩
theorem lt_of_at {α : Type} {l : List α} {i : Nat} {x : α} (h : l[i]? = some x) : i < l.length := by
  rcases Nat.lt_or_ge i l.length with h1 | h1
  · exact h1
  · rw [List.getElem?_eq_none h1] at h; cases h

/-- one cell of a row is set -/
theorem own_set {w : World} {base g : Nat} {n c : Nat} {xs : List Int} (h : w.ownsRow base 3 1 (.slice (some ⟨g, 0, none⟩) n c) n (xs.map I)) (i : Nat) (hi : i < n) (x : Int) :
    (w.setCell ⟨g, i, none⟩ (.int .i64 x)).ownsRow base 3 1 (.slice (some ⟨g, 0, none⟩) n c) n ((xs.set i x).map I) := by
  refine ⟨by have := h.1; simpa using this, .inr ?_⟩
  rcases h.2 with ⟨h1, _⟩ | ⟨g', cap, cur, h1, h2, h3, h4, h5, h6, h7⟩
  · cases h1
  · cases h1
    refine ⟨g, c, cur.setIfInBounds i (.int .i64 x), rfl, h2, ?_, h4, h5, by simpa using h6, ?_⟩
    · exact Blk.set_ (t := 3) (cs := cur) h3 i _
    · rw [Array.toList_setIfInBounds, List.take_set, h7, List.map_set]
      rfl

set_option maxRecDepth 100000 in
set_option maxHeartbeats 1000000 in
theorem Swap_any (H sb : Nat) (A : Option Addr) (c : Nat) (xs : List Int) (w : World) (h : Hp w H sb A c xs) (i j : Nat) (x y : Int) (hi : xs[i]? = some x) (hj : xs[j]? = some y) :
    Calls Try.prog 88 #[.slice A xs.length c, .int .i64 i, .int .i64 j] w fun e w' => e = .returned (.tuple #[]) ∧ Hp w' H sb A c ((xs.set i y).set j x) ∧ Kept (fun b => ob A = some b) w w' := by
  have hil := lt_of_at hi
  have hjl := lt_of_at hj
  rcases h.row.2 with ⟨h1, h2⟩ | ⟨g, cap, cur, h1, h2, h3, h4⟩
  · omega
  cases h1
  have hB : Blk w g 3 cur := h3
  have f1 := hB.frozen i
  have f2 := hB.frozen j
  have c1 : w.cell? ⟨g, i, none⟩ = some (.int .i64 x) := by
    have := h.row.cells (g := g) rfl i (I x) (by simp [hi])
    rw [add_lit, Nat.zero_add] at this
    exact this
  have c2 : w.cell? ⟨g, j, none⟩ = some (.int .i64 y) := by
    have := h.row.cells (g := g) rfl j (I y) (by simp [hj])
    rw [add_lit, Nat.zero_add] at this
    exact this
  have hne : sb ≠ g := fun e => own_blk_ne h.row h.blk (by decide) (by rw [e]; rfl)
  have e1 : (i : Int) < xs.length := by omega
  have e2 : (j : Int) < xs.length := by omega
  have hW : Hp ((w.setCell ⟨g, i, none⟩ (.int .i64 y)).setCell ⟨g, j, none⟩ (.int .i64 x)) H sb (some ⟨g, 0, none⟩) c ((xs.set i y).set j x) := by
    refine ⟨?_, ?_⟩
    · rw [List.length_set, List.length_set]
      exact (h.blk.far (p := ⟨g, i, none⟩) hne _).far (p := ⟨g, j, none⟩) hne _
    · rw [List.length_set, List.length_set]
      exact own_set (own_set h.row i hil y) j hjl x
  have hK : Kept (fun b => ob (some ⟨g, 0, none⟩) = some b) w ((w.setCell ⟨g, i, none⟩ (.int .i64 y)).setCell ⟨g, j, none⟩ (.int .i64 x)) := ((Kept.refl (fun b => ob (some ⟨g, 0, none⟩) = some b) w).setCell (p := ⟨g, i, none⟩) (fun _ => rfl) _).setCell (p := ⟨g, j, none⟩) (fun _ => rfl) _
  have c3 : ∃ u, (w.setCell ⟨g, i, none⟩ (.int .i64 y)).cell? ⟨g, j, none⟩ = some u := by
    have := (own_set h.row i hil y).cells (g := g) rfl j
    rw [add_lit, Nat.zero_add] at this
    exact ⟨_, this _ (by rw [List.getElem?_map, List.getElem?_eq_getElem (by simpa using hjl)]; rfl)⟩
  obtain ⟨u3, c3⟩ := c3
  have HW := Lib.hid (And.intro hW hK)
  clear h hi hj hW hK h2 h3 h4
  go_enter Try.func88, Try.ntmps88
  go_wp2_with fail
  go_region
  go_wp2_with fail
  go_end0
  exact ⟨rfl, ⟨HW.out.1.blk, HW.out.1.row⟩, HW.out.2.drew⟩
end Go.Proofs.Ytekajenmkpobgaa
