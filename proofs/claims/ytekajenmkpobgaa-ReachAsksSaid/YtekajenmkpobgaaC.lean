/- Package adj: Arc by its number, Other; inst.Copy's pieces. -/
import Derived.Test.YtekajenmkpobgaaB
set_option linter.unusedSimpArgs false
set_option linter.unusedVariables false
namespace Go.Proofs.Ytekajenmkpobgaa
open Go.RowKit

theorem Arc_some (B g n : Nat) (arcs : List ArcV) (w : World) (hG : GraphA w B g n arcs) (hB : B ≤ w.heap.size) (a : Int) (x : ArcV) (ha : arcAt n arcs a = some x) :
    Calls Try.prog 34 #[.pointer (some ⟨g, 0, none⟩), .int .i64 a] w fun e w' => e = .returned (.tuple #[.agg #[.int .i64 x.f, .int .i64 x.t, .int .i64 x.lo, .int .i64 x.cap, .int .i64 x.cost], .bool true]) ∧ Below w.heap.size w w' := by
  unfold arcAt at ha
  by_cases h0 : 0 ≤ a
  · rw [if_pos h0] at ha
    obtain ⟨k, rfl⟩ := Int.eq_ofNat_of_zero_le h0
    rw [Int.toNat_natCast] at ha
    obtain ⟨y, hy, h2⟩ := Option.bind_eq_some_iff.1 ha
    by_cases hf : fitB n y = true
    · rw [if_pos hf] at h2
      cases h2
      exact Arc_yes B g n arcs w hG hB k x hy hf
    · rw [if_neg hf] at h2; cases h2
  · rw [if_neg h0] at ha; cases ha
theorem Arc_none (B g n : Nat) (arcs : List ArcV) (w : World) (hG : GraphA w B g n arcs) (hB : B ≤ w.heap.size) (a : Int) (ha : arcAt n arcs a = none) :
    Calls Try.prog 34 #[.pointer (some ⟨g, 0, none⟩), .int .i64 a] w fun e w' => e = .returned (.tuple #[.agg #[.int .i64 0, .int .i64 0, .int .i64 0, .int .i64 0, .int .i64 0], .bool false]) ∧ Below w.heap.size w w' := by
  unfold arcAt at ha
  by_cases h0 : 0 ≤ a
  · rw [if_pos h0] at ha
    obtain ⟨k, rfl⟩ := Int.eq_ofNat_of_zero_le h0
    rw [Int.toNat_natCast] at ha
    cases hy : arcs[k]? with
    | none =>
      have := List.getElem?_eq_none_iff.1 hy
      exact Arc_out B g n arcs w hG hB k (by omega)
    | some y =>
      rw [hy] at ha
      by_cases hf : fitB n y = true
      · simp [hf] at ha
      · exact Arc_unfit B g n arcs w hG hB k y hy (by simpa using hf)
  · exact Arc_out B g n arcs w hG hB a (by omega)

def otherOf (n : Nat) (arcs : List ArcV) (a v : Int) : Int :=
  match arcAt n arcs a with
  | some x => if x.f = v then x.t else if x.t = v then x.f else -1
  | none => -1

set_option maxHeartbeats 1000000 in
theorem Other_any (B g n : Nat) (arcs : List ArcV) (w : World) (hG : GraphA w B g n arcs) (hB : B ≤ w.heap.size) (a v : Int) :
    Calls Try.prog 32 #[.pointer (some ⟨g, 0, none⟩), .int .i64 a, .int .i64 v] w fun e w' => e = .returned (.int .i64 (otherOf n arcs a v)) ∧ Below w.heap.size w w' := by
  unfold otherOf
  cases ha : arcAt n arcs a with
  | none =>
    have HA := Lib.hid ha
    clear ha
    go_enter Try.func32, Try.ntmps32
    go_wp2_with fail
    refine (Arc_none B g n arcs _ hG hB a HA.out).mono ?_
    rintro e w1 ⟨rfl, hb⟩
    go_wp2_with fail
    go_ret
    exact ⟨rfl, hb.alloc hb.size _⟩
  | some x =>
    have HA := Lib.hid ha
    clear ha
    by_cases h1 : x.f = v
    · have hq : (x.f == v) = true := by simpa using h1
      have H1 := Lib.hid h1
      clear h1
      go_enter Try.func32, Try.ntmps32
      go_wp2_with fail
      refine (Arc_some B g n arcs _ hG hB a x HA.out).mono ?_
      rintro e w1 ⟨rfl, hb⟩
      go_wp2_with fail
      go_ret
      exact ⟨ret_int (by simp), hb.alloc hb.size _⟩
    · have hq : (x.f == v) = false := by simpa using h1
      have H1 := Lib.hid h1
      clear h1
      by_cases h2 : x.t = v
      · have hq2 : (x.t == v) = true := by simpa using h2
        have H2 := Lib.hid h2
        clear h2
        go_enter Try.func32, Try.ntmps32
        go_wp2_with fail
        refine (Arc_some B g n arcs _ hG hB a x HA.out).mono ?_
        rintro e w1 ⟨rfl, hb⟩
        go_wp2_with fail
        go_ret
        exact ⟨ret_int (by simp), hb.alloc hb.size _⟩
      · have hq2 : (x.t == v) = false := by simpa using h2
        have H2 := Lib.hid h2
        clear h2
        go_enter Try.func32, Try.ntmps32
        go_wp2_with fail
        refine (Arc_some B g n arcs _ hG hB a x HA.out).mono ?_
        rintro e w1 ⟨rfl, hb⟩
        go_wp2_with fail
        go_ret
        exact ⟨ret_int (by simp), hb.alloc hb.size _⟩

/- inst.Copy -/
set_option maxHeartbeats 400000 in
theorem Copy1_any (x : Int) (w : World) : Calls Try.prog 58 #[.int .i64 x] w fun e w' => e = .returned (.bool true) ∧ w = w' := by
  go_enter Try.func58, Try.ntmps58
  go_wp2
  go_ret
  exact ⟨rfl, rfl⟩
set_option maxHeartbeats 400000 in
theorem Copy2_any (x : ArcV) (w : World) : Calls Try.prog 60 #[.agg #[.int .i64 x.f, .int .i64 x.t, .int .i64 x.lo, .int .i64 x.cap, .int .i64 x.cost]] w fun e w' => e = .returned (.bool true) ∧ Below w.heap.size w w' := by
  go_enter Try.func60, Try.ntmps60
  go_wp2
  go_ret
  exact ⟨rfl, (Below.refl _ _).alloc (Nat.le_refl _) _⟩

theorem Try.info2 : (Try.prog.info? 2).map (fun i => (i.zero, i.size, i.bytes)) = some (some (.int .i64 0), 1, 8) := by kernel_rfl
theorem Try.info3 : (Try.prog.info? 3).map (fun i => (i.zero, i.size, i.bytes)) = some (some (.int .i64 0), 1, 8) := by kernel_rfl
theorem Try.info4 : (Try.prog.info? 4).map (fun i => (i.zero, i.size, i.bytes)) = some (some (.bool false), 1, 1) := by kernel_rfl
theorem Try.info36 : (Try.prog.info? 36).map (fun i => (i.zero, i.size, i.bytes)) = some (some (.agg #[.int .i64 0, .int .i64 0, .int .i64 0, .int .i64 0, .int .i64 0]), 5, 40) := by kernel_rfl

theorem take_snoc {α : Type} (xs : List α) (k : Nat) (x : α) (h : xs[k]? = some x) : xs.take (k + 1) = xs.take k ++ [x] := by
  rw [List.take_add_one, h]; rfl

set_option maxHeartbeats 1000000 in
theorem takeInts_any (A : Option Addr) (n c B : Nat) (xs : List Int) (w : World) (hr : Reads w B 1 A n (xs.map I)) (hB : B ≤ w.heap.size) (hn : n ≤ 2000000000) :
    Calls Try.prog 57 #[.slice A n c, .func (.func 58) #[] #[]] w fun e w' => ∃ A' c', e = .returned (.slice A' n c') ∧ w'.ownsRow w.heap.size 2 1 (.slice A' n c') n (xs.map I) ∧ Below w.heap.size w w' := by
  have hl : xs.length ≤ n ∧ n ≤ xs.length := by have := hr.1; simp at this; omega
  obtain ⟨i0, hi, hz0, hz1, hz2⟩ := info_parts Try.info2
  go_enter Try.func57, Try.ntmps57
  go_wp2
  go_loopw [5, 10] (fun v i wr => ∃ k : Nat, k ≤ n ∧ i = .int .i64 k ∧ wr.ownsRow w.heap.size 2 1 v k ((xs.take k).map I) ∧ Below w.heap.size w wr) (fun _ i _ => n - (intOf i).toNat)
  case atStart => exact ⟨0, Nat.zero_le _, rfl, World.ownsRow_nil _ _ _ _, Below.refl _ _⟩
  case round =>
    obtain ⟨k, hk, rfl, hown, hbw⟩ := hrel
    by_cases hlt : k < n
    · obtain ⟨b, off, u, rfl, hbB, hx, hcell⟩ := ((hr.more hB).below hbw).at_ hlt
      simp only [List.getElem?_map, Option.map_eq_some_iff] at hx
      obtain ⟨x, hx, rfl⟩ := hx
      have HS := Lib.hid (take_snoc xs k x hx)
      clear hx
      unfold I at hcell
      have hsz := hbw.size
      go_wp2_with fail
      refine (Copy1_any x _).mono ?_
      rintro e w1 ⟨rfl, rfl⟩
      go_wp2_with (at_builtin; refine wpList_append_own _ rfl _ _ 23 rfl w.heap.size 2 i0 (.int .i64 0) 1 8 Try.underlying23 hi hz0 hz1 hz2 rfl (by decide) _ _ _ rfl (hown.alloc _) ⟨wr.heap.size, 0, none⟩ 1 1 [.int .i64 x] rfl rfl ?c1 ?c2 ?c3 ?c4 ?c5 ?_)
      case c1 => exact cell_one_new _ _ _
      case c2 => simp [Value.oneCell']
      case c3 => unfold maxLen; omega
      case c4 => omega
      case c5 => simp; omega
      intro v' w1 hown' hgrow _
      go_wp2_with fail
      go_roundw
      case rel =>
        refine ⟨k + 1, by omega, by go_num, ?_, ?_⟩
        · rw [HS.out, List.map_append, List.map_take]; exact hown'
        · exact (hbw.alloc hsz _).grown hgrow (by simp; omega) (fun j hj => (hown.lt j hj).1)
      case measure => simp [intOf]; omega
    · go_wp2
      go_ret
      have : k = n := by omega
      subst this
      rw [List.take_of_length_le (by omega)] at hown
      obtain ⟨A', c', rfl⟩ := own_form hown
      exact ⟨A', c', rfl, hown, hbw⟩

theorem cells_new (w : World) (t : TypeId) (cs : Array Value) : ∀ j u, cs.toList[j]? = some u → (w.alloc (.cells cs t)).cell? ((⟨w.heap.size, 0, none⟩ : Addr).add j) = some u := by
  intro j u hu
  rw [add_lit, (Blk.new w t cs).cell]
  simpa using hu

set_option maxHeartbeats 1000000 in
theorem takeArcs_any (A : Option Addr) (n c B : Nat) (xs : List ArcV) (w : World) (hr : Reads w B 5 A n (arcCells xs)) (hB : B ≤ w.heap.size) (hn : n ≤ 2000000000) :
    Calls Try.prog 59 #[.slice A n c, .func (.func 60) #[] #[]] w fun e w' => ∃ A' c', e = .returned (.slice A' n c') ∧ w'.ownsRow w.heap.size 36 5 (.slice A' n c') n (arcCells xs) ∧ Below w.heap.size w w' := by
  have hl : xs.length ≤ n ∧ n ≤ xs.length := by have := hr.1; rw [arcCells_length] at this; omega
  obtain ⟨i0, hi, hz0, hz1, hz2⟩ := info_parts Try.info36
  go_enter Try.func59, Try.ntmps59
  go_wp2
  go_loopw [5, 10] (fun v i wr => ∃ k : Nat, k ≤ n ∧ i = .int .i64 k ∧ wr.ownsRow w.heap.size 36 5 v k (arcCells (xs.take k)) ∧ Below w.heap.size w wr) (fun _ i _ => n - (intOf i).toNat)
  case atStart => exact ⟨0, Nat.zero_le _, rfl, World.ownsRow_nil _ _ _ _, Below.refl _ _⟩
  case round =>
    obtain ⟨k, hk, rfl, hown, hbw⟩ := hrel
    by_cases hlt : k < n
    · obtain ⟨x, hx⟩ : ∃ x, xs[k]? = some x := ⟨_, List.getElem?_eq_getElem (by omega)⟩
      obtain ⟨b, off, rfl, hbB, e0, e1, e2, e3, e4⟩ := ((hr.more hB).below hbw).arc hx
      have HS := Lib.hid (take_snoc xs k x hx)
      clear hx
      have hsz := hbw.size
      go_wp2_with fail
      refine (Copy2_any x _).mono ?_
      rintro e w1 ⟨rfl, hb1⟩
      obtain ⟨hc1, hf1⟩ := bcell hb1
      have hsz1 := hb1.size
      simp only [World.size_alloc] at hsz1 hc1 hf1
      have hown1 := own_below (hown.alloc (.cells #[.int .i64 x.f, .int .i64 x.t, .int .i64 x.lo, .int .i64 x.cap, .int .i64 x.cost] 36)) hb1
      go_wp2_with (at_builtin; refine wpList_append_own _ rfl _ _ 24 rfl w.heap.size 36 i0 (.agg #[.int .i64 0, .int .i64 0, .int .i64 0, .int .i64 0, .int .i64 0]) 5 40 Try.underlying24 hi hz0 hz1 hz2 rfl (by decide) _ _ _ rfl (hown1.alloc _) ⟨w1.heap.size, 0, none⟩ 1 1 [.int .i64 x.f, .int .i64 x.t, .int .i64 x.lo, .int .i64 x.cap, .int .i64 x.cost] rfl rfl ?c1 ?c2 ?c3 ?c4 ?c5 ?_)
      case c1 => exact cells_new w1 36 #[.int .i64 x.f, .int .i64 x.t, .int .i64 x.lo, .int .i64 x.cap, .int .i64 x.cost]
      case c2 => simp [Value.oneCell']
      case c3 => unfold maxLen; omega
      case c4 => omega
      case c5 => simp; omega
      intro v' w2 hown' hgrow _
      have hbw1 : Below w.heap.size w w1 := (hbw.alloc hsz _).trans (hb1.mono (by simp; omega))
      go_wp2_with fail
      go_roundw
      case rel =>
        refine ⟨k + 1, by omega, by go_num, ?_, ?_⟩
        · rw [HS.out]
          simpa [arcCells, ArcV.cells, I] using hown'
        · exact (hbw1.alloc (by omega) _).grown hgrow (by simp; omega) (fun j hj => (hown.lt j hj).1)
      case measure => simp [intOf]; omega
    · go_wp2
      go_ret
      have : k = n := by omega
      subst this
      rw [List.take_of_length_le (by omega)] at hown
      obtain ⟨A', c', rfl⟩ := own_form hown
      exact ⟨A', c', rfl, hown, hbw⟩
end Go.Proofs.Ytekajenmkpobgaa
