/- reach: the list of what was put last (newest): put, next. -/
import Derived.Test.YtekajenmkpobgaaQ
set_option linter.unusedSimpArgs false
set_option linter.unusedVariables false
namespace Go.Proofs.Ytekajenmkpobgaa
open Go.RowKit

/-- a newest in memory: its block, its row -/
structure Stk (w : World) (base sb : Nat) (A : Option Addr) (c : Nat) (xs : List Int) : Prop where
  blk : Blk w sb 86 #[.slice A xs.length c]
  row : w.ownsRow base 3 1 (.slice A xs.length c) xs.length (xs.map I)

def ob (A : Option Addr) : Option Nat := A.map (·.block)
theorem ob_own (A : Option Addr) (n c : Nat) : (Value.slice A n c).ownBlock = ob A := by cases A <;> rfl

theorem Stk.kept {S : Nat → Prop} {w w' : World} {base sb c : Nat} {A : Option Addr} {xs : List Int} (h : Stk w base sb A c xs) (hk : Kept S w w') (h1 : ¬ S sb) (h2 : ∀ g, ob A = some g → ¬ S g) : Stk w' base sb A c xs :=
  ⟨h.blk.kept hk h1, own_kept h.row hk (by rw [ob_own]; exact h2)⟩

set_option maxHeartbeats 1000000 in
theorem put_any (w : World) (base sb c : Nat) (A : Option Addr) (xs : List Int) (x : Int) (h : Stk w base sb A c xs) (hb : base ≤ w.heap.size) (hl : xs.length ≤ 1000000000) :
    Calls Try.prog 49 #[.pointer (some ⟨sb, 0, none⟩), .int .i64 x] w fun e w' => e = .returned (.tuple #[]) ∧ ∃ A' c', Stk w' base sb A' c' (xs ++ [x]) ∧ Kept (fun b => b = sb ∨ ob A = some b) w w' ∧ (∀ g, ob A' = some g → ob A = some g ∨ w.heap.size ≤ g) := by
  obtain ⟨i0, hi, hz0, hz1, hz2⟩ := info_parts Try.info3
  have q0 := h.blk.cell 0
  have f0 := h.blk.frozen 0
  simp only [List.getElem?_toArray, List.getElem?_cons_zero] at q0
  have hne := own_blk_ne h.row h.blk (by decide)
  rw [ob_own] at hne
  have lt := h.blk.lt
  go_enter Try.func49, Try.ntmps49
  go_wp2_with (at_builtin; refine wpList_append_own_at _ rfl _ _ 28 rfl base 3 i0 (.int .i64 0) 1 8 Try.underlying28 hi hz0 hz1 hz2 rfl (by decide) _ _ _ rfl (h.row.alloc _) ⟨w.heap.size, 0, none⟩ 1 1 [.int .i64 x] rfl rfl ?c1 ?c2 ?c3 ?c4 ?c5 ?_)
  case c1 => exact cell_one_new _ _ _
  case c2 => simp [Value.oneCell']
  case c3 => unfold maxLen; omega
  case c4 => omega
  case c5 => simp; omega
  intro v' w1 hown hgrow _ hat
  rw [ob_own] at hat hgrow
  obtain ⟨A', c', rfl⟩ := own_form hown
  rw [ob_own] at hat
  have hB1 := (h.blk.alloc (.cells #[.int .i64 x] 3)).grown hgrow (fun e => hne e.symm)
  have hk1 : Kept (fun b => b = sb ∨ ob A = some b) w w1 := ((Kept.refl _ w).alloc (.cells #[.int .i64 x] 3)).trans ((Kept.of_grown hgrow).mono (fun k _ hk => .inr hk.symm))
  clear q0 f0
  have q0 := hB1.cell 0
  have f0 := hB1.frozen 0
  simp only [List.getElem?_toArray, List.getElem?_cons_zero] at q0
  have hn2 := own_blk_ne hown hB1 (by decide)
  have hsz := hgrow.size
  simp only [World.size_alloc] at hsz
  go_wp2_with fail
  go_end0
  refine ⟨rfl, A', c', ⟨?_, ?_⟩, hk1.setCell (fun _ => .inl rfl) _, fun g hg => ?_⟩
  · rw [List.length_append]; exact hB1.set_ 0 _
  · rw [List.length_append, List.map_append]; exact own_other hown hn2 _
  · rcases hat with e | e
    · exact .inl (by rw [← e]; exact hg)
    · rw [hg] at e; cases e; right; omega

/-- what lies last in a row of the call's own -/
theorem Stk.last {w : World} {base sb c : Nat} {A : Option Addr} {ys : List Int} {x : Int} (h : Stk w base sb A c (ys ++ [x])) :
    ∃ g, A = some ⟨g, 0, none⟩ ∧ base ≤ g ∧ w.cell? ⟨g, ys.length, none⟩ = some (.int .i64 x) ∧ ys.length < c ∧ w.ownsRow base 3 1 (.slice A ys.length c) ys.length (ys.map I) := by
  have hr := h.row
  simp only [List.length_append, List.length_cons, List.length_nil, List.map_append, List.map_cons, List.map_nil, Nat.zero_add] at hr
  rcases hr.2 with ⟨_, h1⟩ | ⟨g, cap, cur, h1, h2, h3, h4, h5, h6, h7⟩
  · omega
  · injection h1 with hA _ hc
    subst hA hc
    refine ⟨g, rfl, h2, ?_, by omega, ownsRow_pop (by simp) hr⟩
    have := hr.cells (g := g) rfl ys.length (I x) (by simp)
    rwa [add_lit, Nat.zero_add] at this

set_option maxHeartbeats 1000000 in
theorem next_none (w : World) (base sb c : Nat) (A : Option Addr) (h : Stk w base sb A c []) :
    Calls Try.prog 91 #[.pointer (some ⟨sb, 0, none⟩)] w fun e w' => e = .returned (.tuple #[.int .i64 0, .bool false]) ∧ w = w' := by
  have q0 := h.blk.cell 0
  simp only [List.getElem?_toArray, List.getElem?_cons_zero, List.length_nil] at q0
  go_enter Try.func91, Try.ntmps91
  go_wp2
  go_ret2
  exact ⟨rfl, rfl⟩

set_option maxHeartbeats 1000000 in
theorem next_some (w : World) (base sb c : Nat) (A : Option Addr) (ys : List Int) (x : Int) (h : Stk w base sb A c (ys ++ [x])) (hl : ys.length ≤ 1000000000) :
    Calls Try.prog 91 #[.pointer (some ⟨sb, 0, none⟩)] w fun e w' => e = .returned (.tuple #[.int .i64 x, .bool true]) ∧ Stk w' base sb A c ys ∧ Kept (fun b => b = sb) w w' := by
  obtain ⟨g, rfl, hg, hc, hcap, hrow⟩ := h.last
  have q0 := h.blk.cell 0
  have f0 := h.blk.frozen 0
  simp only [List.getElem?_toArray, List.getElem?_cons_zero, List.length_append, List.length_cons, List.length_nil, Nat.zero_add] at q0
  have b1 : ¬ ((ys.length : Int) + 1 - 1 < 0) := by omega
  have hgs : ¬ g = sb := fun e => own_blk_ne hrow h.blk (by decide) (by rw [e]; rfl)
  go_enter Try.func91, Try.ntmps91
  go_wp2_with fail
  go_ret2
  exact ⟨rfl, ⟨h.blk.set_ 0 _, own_other hrow (own_blk_ne hrow h.blk (by decide)) _⟩, (Kept.refl (fun b => b = sb) w).setCell (p := ⟨sb, 0, none⟩) (fun _ => rfl) _⟩
end Go.Proofs.Ytekajenmkpobgaa
