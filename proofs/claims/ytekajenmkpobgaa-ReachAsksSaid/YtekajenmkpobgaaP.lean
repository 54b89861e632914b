/- adj: piece, Out, In: a range over a function. -/
import Derived.RangeFuncNested
import Derived.RangeFuncBound
import Derived.RangeFuncCalls
import Derived.RangeFuncLeaves
import Derived.RangeFuncBox
import Derived.Shelf.Abstract
import Derived.Shelf.RegionOpen
import Derived.OwnWalkIn
import Derived.TacticsInMore
import Derived.LoopNIn
import Derived.LoopIn
import Derived.Sort.BigQuietIn
import Derived.Maps.AppendAt
import Derived.Test.YtekajenmkpobgaaN
set_option linter.unusedSimpArgs false
set_option linter.unusedVariables false
namespace Go.Proofs.Ytekajenmkpobgaa
open Go.RowKit Go.Shelf
attribute [local go_sem] Oper.semAt_some

/-- what the walk of a piece reads -/
theorem Graph.cells {w : World} {B g n : Nat} {arcs : List ArcV} (h : Graph w B g n arcs) (v way : Nat) (hv : v < n) (hw : way < 2) (zs : List Nat) (hz : zs = if way = 0 then outs n arcs v else ins n arcs v) :
    ∃ (a sb so sl sc ll lc : Nat) (A : Option Addr), w.cell? ⟨g, 2, none⟩ = some (.slice A ll lc) ∧ w.cell? ⟨g, 3, none⟩ = some (.slice (some ⟨sb, so, none⟩) sl sc) ∧
      2 * v + way + 1 < sl ∧ w.cell? ⟨sb, so + (2 * v + way), none⟩ = some (.int .i64 (a : Int)) ∧ w.cell? ⟨sb, so + (2 * v + way + 1), none⟩ = some (.int .i64 ((a + zs.length : Nat) : Int)) ∧ a + zs.length ≤ ll ∧ ll ≤ lc ∧ ll ≤ 2000000000 ∧
      (0 < zs.length → ∃ lb lo, A = some ⟨lb, lo, none⟩ ∧ lb < B ∧ ∀ (j x : Nat), zs[j]? = some x → w.cell? ⟨lb, lo + a + j, none⟩ = some (.int .i64 (x : Int))) := by
  obtain ⟨h1, h2, A1, A2, A3, n1, c1, n2, c2, n3, c3, list, start, k1, k2, k3, k4, k5, k6, k7, k8⟩ := h
  obtain ⟨a, b, ha, hb, hab, hbl, hpc⟩ := k8.ends (2 * v + way) (by omega)
  have hl3 := k4.1
  have hsl := k8.len
  have hl2 := k3.1
  simp only [List.length_map, Nat.mul_one] at hl3 hl2
  obtain ⟨sb, so, rfl, hsb, hsc⟩ := k4.2 (by omega)
  have hzz : (if (2 * v + way) % 2 = 0 then outs n arcs (((2 * v + way) / 2 : Nat) : Int) else ins n arcs (((2 * v + way) / 2 : Nat) : Int)) = zs := by
    have e : (2 * v + way) / 2 = v := by omega
    rw [hz, e]
    by_cases h0 : way = 0
    · rw [if_pos (by omega), if_pos h0]
    · rw [if_neg (by omega), if_neg h0]
  rw [hzz] at hpc
  have hzl : zs.length = b - a := by
    have := congrArg List.length hpc
    simp only [List.length_take, List.length_drop, List.length_map] at this
    omega
  refine ⟨a, sb, so, n3, c3, n2, c2, A2, k1.cell 2, k1.cell 3, by omega, ?_, ?_, by omega, k5, by omega, fun hpos => ?_⟩
  · exact hsc _ _ (by rw [List.getElem?_map, ha]; rfl)
  · exact hsc _ _ (by rw [List.getElem?_map, hb, hzl, show a + (b - a) = b by omega]; rfl)
  · obtain ⟨lb, lo, rfl, hlb, hlc⟩ := k3.2 (by omega)
    refine ⟨lb, lo, rfl, hlb, fun j x hj => ?_⟩
    rw [Nat.add_assoc]
    refine hlc _ _ ?_
    have hjl : j < zs.length := by
      rcases Nat.lt_or_ge j zs.length with h | h
      · exact h
      · rw [List.getElem?_eq_none h] at hj; cases hj
    have e := congrArg (fun l => l[j]?) hpc
    simp only [List.getElem?_take, List.getElem?_drop, List.getElem?_map, hj, Option.map_some] at e
    rw [if_pos (by omega)] at e
    rw [List.getElem?_map, e]
    rfl

set_option maxRecDepth 100000 in
set_option maxHeartbeats 2000000 in
theorem piece1_out (n : Nat) (l bg bn bw n₀ g N : Nat) (x : Int) (arcs : List ArcV) (hx : hasB N x = false) (J : List Int → World → Prop) (W : World) (hbg : W.cell? ⟨bg, 0, none⟩ = some (.pointer (some ⟨g, 0, none⟩))) (hbn : W.cell? ⟨bn, 0, none⟩ = some (.int .i64 x))
    (hG : Graph W n₀ g N arcs) (h0 : J [] W) :
    CallsIn Fence.wide n Try.prog 61 #[.func (.yield l) #[] #[], .pointer (some ⟨bg, 0, none⟩), .pointer (some ⟨bn, 0, none⟩), .pointer (some ⟨bw, 0, none⟩)] W fun e W' => (∃ v, e = .returned v) ∧ J [] W' := by
  have HX := Lib.hid hx
  clear hx
  refine callsIn_of_wp Try.func61 rfl trivial ?_ rfl
  simp only [Try.ntmps61, List.size_toArray, List.length_cons, List.length_nil, Nat.reduceAdd, Nat.reduceSub, Array.replicate_succ, Array.replicate_zero, List.push_toArray, List.append_toArray, List.nil_append, List.cons_append]
  gi_wp2_with fail
  refine ⟨trivial, (fun h => by cases h), (callsIn_wide.2 (has_any n₀ g N arcs _ hG.a x)).mono ?_⟩
  rintro e w' ⟨rfl, rfl⟩
  rw [HX.out]
  gi_wp2_with fail
  refine bodyPost_ret (results_none rfl _ _ _) rfl ?_
  exact ⟨⟨_, rfl⟩, h0⟩

def upto {α : Type} (f : Nat → α) (k : Nat) : List α := (List.range k).map f
theorem upto_succ {α : Type} (f : Nat → α) (k : Nat) : upto f (k + 1) = upto f k ++ [f k] := by simp [upto, List.range_succ]
theorem upto_length {α : Type} (f : Nat → α) (k : Nat) : (upto f k).length = k := by simp [upto]

theorem run_slice3 (A : Option Addr) (ll lc a z : Nat) (h1 : a + z ≤ lc) (W : World) :
    (Instr.slice 28 (.slice A ll lc) (some (.int .i64 (a : Int))) (some (.int .i64 ((a : Int) + (z : Int)))) (some (.int .i64 ((a : Int) + (z : Int))))).run Try.prog W = .ok (.slice (if z = 0 then A else A.map (·.add a)) z z) W := by
  have hs : (sizeOf 3).run Try.prog W = .ok 1 W := by kernel_rfl
  have e1 : (0 : Int) ≤ (a : Int) + (z : Int) := by omega
  have e2 : (a : Int) + (z : Int) ≤ (lc : Int) := by omega
  have e3 : ((a : Int) + (z : Int)).toNat = a + z := by omega
  simp [Instr.slice, Instr.sliceBounds, Instr.sliceBound, asIntOf, run_underlying Try.underlying28, e1, e2, e3, hs]

set_option maxRecDepth 100000 in
set_option maxHeartbeats 2000000 in
theorem piece1_in (n : Nat) (hn : 1 ≤ n) (l bg bn bw n₀ g N v way : Nat) (arcs : List ArcV) (hv : v < N) (hway : way < 2) (J Jx : List Int → World → Prop) (zs : List Nat) (hz : zs = if way = 0 then outs N arcs v else ins N arcs v)
    (hY : ∀ pre x W, J pre W → pre.length < zs.length → YieldAt Fence.wide (n - 1) Try.prog l #[.int .i64 x] W fun e W' =>
      (e = .returned (.bool true) ∧ J (pre ++ [x]) W' ∧ Below n₀ W W') ∨ (e = .returned (.bool false) ∧ Jx (pre ++ [x]) W'))
    (W : World) (hbg : W.cell? ⟨bg, 0, none⟩ = some (.pointer (some ⟨g, 0, none⟩))) (hbn : W.cell? ⟨bn, 0, none⟩ = some (.int .i64 (v : Int))) (hbw : W.cell? ⟨bw, 0, none⟩ = some (.int .i64 (way : Int)))
    (hG : Graph W n₀ g N arcs) (h0 : J [] W) (hJ : AbidesFrom W.heap.size J) :
    CallsIn Fence.wide n Try.prog 61 #[.func (.yield l) #[] #[], .pointer (some ⟨bg, 0, none⟩), .pointer (some ⟨bn, 0, none⟩), .pointer (some ⟨bw, 0, none⟩)] W fun e W' => (∃ v, e = .returned v) ∧
      ((∃ ys, ys = upto (fun j => ((zs[j]?.getD 0 : Nat) : Int)) zs.length ∧ J ys W') ∨ (∃ pre, (∃ k, k ≤ zs.length ∧ pre = upto (fun j => ((zs[j]?.getD 0 : Nat) : Int)) k) ∧ Jx pre W')) := by
  have HX := Lib.hid (show hasB N (v : Int) = true by simp [hasB]; omega)
  have hsm := hG.small
  obtain ⟨a, sb, so, sl, sc, ll, lc, A, c2, c3, hsl, ca, cb, hall, hlc, hll, hcs⟩ := hG.cells v way hv hway zs hz
  have HC := Lib.hid hcs
  have HZ := Lib.hid hz
  clear hcs hz
  have v1 : IntKind.i64.wrap (2 * (v : Int)) = 2 * (v : Int) := IntWalk.i64_in _ (by omega)
  have v2 : IntKind.i64.wrap (2 * (v : Int) + (way : Int)) = 2 * (v : Int) + (way : Int) := IntWalk.i64_in _ (by omega)
  have v3 : IntKind.i64.wrap (2 * (v : Int) + (way : Int) + 1) = 2 * (v : Int) + (way : Int) + 1 := IntWalk.i64_in _ (by omega)
  have v4 : (2 * (v : Int) + (way : Int)).toNat = 2 * v + way := by omega
  have v5 : (2 * (v : Int) + (way : Int) + 1).toNat = 2 * v + way + 1 := by omega
  have v6 : 0 ≤ 2 * (v : Int) + (way : Int) := by omega
  have v7 : 0 ≤ 2 * (v : Int) + (way : Int) + 1 := by omega
  have v8 : 2 * (v : Int) + (way : Int) < (sl : Int) := by omega
  have v9 : 2 * (v : Int) + (way : Int) + 1 < (sl : Int) := by omega
  refine callsIn_of_wp Try.func61 rfl trivial ?_ rfl
  simp only [Try.ntmps61, List.size_toArray, List.length_cons, List.length_nil, Nat.reduceAdd, Nat.reduceSub, Array.replicate_succ, Array.replicate_zero, List.push_toArray, List.append_toArray, List.nil_append, List.cons_append]
  gi_wp2_with fail
  refine ⟨trivial, (callsIn_wide.2 (has_any n₀ g N arcs _ hG.a v)).mono ?_⟩
  rintro e w' ⟨rfl, rfl⟩
  rw [HX.out]
  gi_wp2_with fail
  gi_big_quiet_th (fail)
  have hsl3 := run_slice3 A ll lc a zs.length (by omega)
  obtain ⟨A', hA'⟩ : ∃ A', A' = (if zs.length = 0 then A else A.map (·.add a)) := ⟨_, rfl⟩
  rw [← hA'] at hsl3
  have HA := Lib.hid hA'
  clear hA'
  gi_wp2_with fail
  clear v1 v2 v3 v4 v5 v6 v7 v8 v9 c2 c3 ca cb hbg hbn hbw hsl3
  have hzl : zs.length ≤ 2000000000 := by omega
  clear hall hlc hll hsl
  gi_loopw [43] (fun i wr => ∃ k : Nat, k ≤ zs.length ∧ i = .int .i64 k ∧ J (upto (fun j => ((zs[j]?.getD 0 : Nat) : Int)) k) wr ∧ Below n₀ W wr) (fun i _ => zs.length - (intOf i).toNat)
  case atStart => exact ⟨0, Nat.zero_le _, rfl, hJ [] W _ none h0 ⟨rfl, rfl, rfl, Nat.le_refl _, fun _ _ _ => rfl⟩ (fun r e => by cases e), ⟨rfl, rfl, rfl, Nat.le_refl _, fun _ _ => rfl⟩⟩
  case round =>
    obtain ⟨k, hk, rfl, hJs, hnx⟩ := hrel
    by_cases hlt : k < zs.length
    · obtain ⟨lb, lo, rfl, hlb, hcc⟩ := HC.out (by omega)
      have hA2 : A' = some ⟨lb, lo + a, none⟩ := by rw [HA.out, if_neg (by omega)]; simp [add_lit]
      subst hA2
      have hcx : wr.cell? ⟨lb, lo + a + k, none⟩ = some (.int .i64 ((zs[k]?.getD 0 : Nat) : Int)) := (hnx.cell (p := ⟨lb, lo + a + k, none⟩) hlb).trans (hcc k _ (by rw [List.getElem?_eq_getElem hlt]; rfl))
      clear hcc
      have hus := upto_succ (fun j => ((zs[j]?.getD 0 : Nat) : Int)) k
      obtain ⟨y, hye⟩ : ∃ y : Int, y = ((zs[k]?.getD 0 : Nat) : Int) := ⟨_, rfl⟩
      rw [← hye] at hcx hus
      have HU := Lib.hid hus
      clear hye hus
      obtain ⟨fn, tmps, assign, body, hy, hR⟩ := hY _ y wr hJs (by rw [upto_length]; exact hlt)
      gi_wp2
      refine hR.mono ?_
      rintro e W3 (⟨rfl, hJ3, hk3⟩ | ⟨rfl, hJx3⟩)
      · gi_wp2
        go_roundw
        case rel => exact ⟨k + 1, by omega, by go_num, by rw [HU.out]; exact hJ3, hnx.trans hk3⟩
        case measure => simp [intOf]; omega
      · gi_wp2
        refine bodyPost_ret (results_none rfl _ _ _) rfl ?_
        exact ⟨⟨_, rfl⟩, .inr ⟨_, ⟨k + 1, by omega, HU.out.symm⟩, hJx3⟩⟩
    · obtain rfl : k = zs.length := by omega
      gi_wp2_with fail
      go_end0
      exact ⟨⟨_, rfl⟩, .inl ⟨_, rfl, hJs⟩⟩

theorem upto_all (zs : List Nat) : upto (fun j => ((zs[j]?.getD 0 : Nat) : Int)) zs.length = zs.map (fun x : Nat => (x : Int)) := by
  apply List.ext_getElem
  · simp [upto]
  · intro i h1 h2
    have : i < zs.length := by simpa using h2
    simp [upto, this]
theorem upto_take (zs : List Nat) {k : Nat} (hk : k ≤ zs.length) : upto (fun j => ((zs[j]?.getD 0 : Nat) : Int)) k = (zs.map (fun x : Nat => (x : Int))).take k := by
  apply List.ext_getElem
  · simp [upto, hk]
  · intro i h1 h2
    have : i < zs.length := by simp [upto] at h1; omega
    simp [upto, this]
theorem outs_none {n : Nat} {arcs : List ArcV} {x : Int} (h : hasB n x = false) : outs n arcs x = [] := by
  unfold outs
  rw [List.filter_eq_nil_iff]
  intro a _
  cases arcs[a]? with
  | none => simp
  | some y =>
    intro hh
    simp only [Bool.and_eq_true, beq_iff_eq] at hh
    obtain ⟨h1, h2⟩ := hh
    obtain ⟨b1, b2, b3, b4⟩ := fit_bounds h1
    subst h2
    simp [hasB] at h
    omega
theorem ins_none {n : Nat} {arcs : List ArcV} {x : Int} (h : hasB n x = false) : ins n arcs x = [] := by
  unfold ins
  rw [List.filter_eq_nil_iff]
  intro a _
  cases arcs[a]? with
  | none => simp
  | some y =>
    intro hh
    simp only [Bool.and_eq_true, beq_iff_eq] at hh
    obtain ⟨h1, h2⟩ := hh
    obtain ⟨b1, b2, b3, b4⟩ := fit_bounds h1
    subst h2
    simp [hasB] at h
    omega
def pieceOf (n : Nat) (arcs : List ArcV) (x : Int) (way : Nat) : List Nat := if way = 0 then outs n arcs x else ins n arcs x
theorem pieceOf_none {n : Nat} {arcs : List ArcV} {x : Int} (h : hasB n x = false) (way : Nat) : pieceOf n arcs x way = [] := by
  unfold pieceOf
  rw [outs_none h, ins_none h]
  split <;> rfl
def intsOf (l : List Nat) : List Int := l.map (fun x : Nat => (x : Int))

/-- the piece of a node hands back just its arcs -/
theorem piece_stops (n : Nat) (hn : 1 ≤ n) (bg bn bw n₀ g N way : Nat) (x : Int) (arcs : List ArcV) (hway : way < 2) (w : World) (hbgl : bg < w.heap.size) (hbnl : bn < w.heap.size) (hbwl : bw < w.heap.size) (hn₀ : n₀ ≤ w.heap.size)
    (hbg : w.cell? ⟨bg, 0, none⟩ = some (.pointer (some ⟨g, 0, none⟩))) (hbn : w.cell? ⟨bn, 0, none⟩ = some (.int .i64 x)) (hbw : w.cell? ⟨bw, 0, none⟩ = some (.int .i64 (way : Int))) (hG : Graph w n₀ g N arcs) :
    SeqStopsK Fence.wide n Try.prog 61 #[.pointer (some ⟨bg, 0, none⟩), .pointer (some ⟨bn, 0, none⟩), .pointer (some ⟨bw, 0, none⟩)] (fun x : Int => #[Value.int .i64 x]) (Below n₀) (fun ys => ys = intsOf (pieceOf N arcs x way)) (fun pre => pre <+: intsOf (pieceOf N arcs x way)) (pieceOf N arcs x way).length w := fun l J Jx W hW hJ _ hY h0 => by
  have g1 := (hW.cell (p := ⟨bg, 0, none⟩) (show bg < _ by omega)).trans hbg
  have g2 := (hW.cell (p := ⟨bn, 0, none⟩) (show bn < _ by omega)).trans hbn
  have g3 := (hW.cell (p := ⟨bw, 0, none⟩) (show bw < _ by omega)).trans hbw
  have hG' := hG.keep (hW.mono hn₀)
  by_cases hx : hasB N x = true
  · have hx' := hx
    simp only [hasB, Bool.and_eq_true, decide_eq_true_eq] at hx'
    obtain ⟨v, rfl⟩ := Int.eq_ofNat_of_zero_le hx'.1
    refine (piece1_in n hn l bg bn bw n₀ g N v way arcs (by omega) hway J Jx (pieceOf N arcs v way) rfl hY W g1 g2 g3 hG' h0 hJ).mono ?_
    rintro e W' ⟨he, ⟨ys, rfl, hj⟩ | ⟨pre, ⟨k, hk, rfl⟩, hj⟩⟩
    · exact ⟨he, .inl ⟨_, upto_all _, hj⟩⟩
    · exact ⟨he, .inr ⟨_, by rw [upto_take _ hk]; exact List.take_prefix _ _, hj⟩⟩
  · have hx' : hasB N x = false := by simpa using hx
    refine (piece1_out n l bg bn bw n₀ g N x arcs hx' J W g1 g2 hG' h0).mono ?_
    rintro e W' ⟨he, hj⟩
    exact ⟨he, .inl ⟨[], by rw [pieceOf_none hx']; rfl, hj⟩⟩

set_option maxHeartbeats 1000000 in
theorem piece_any (g : Nat) (x way : Int) (w : World) :
    Calls Try.prog 44 #[.pointer (some ⟨g, 0, none⟩), .int .i64 x, .int .i64 way] w fun e w' => e = .returned (.func (.func 61) #[] #[.pointer (some ⟨w.heap.size, 0, none⟩), .pointer (some ⟨w.heap.size + 1, 0, none⟩), .pointer (some ⟨w.heap.size + 1 + 1, 0, none⟩)]) ∧
      w' = ((w.alloc (.cells #[.pointer (some ⟨g, 0, none⟩)] 50)).alloc (.cells #[.int .i64 x] 3)).alloc (.cells #[.int .i64 way] 3) := by
  have hmf : ∀ (fn : Fn) (first cap : Array Value) (w : World), (Instr.makeFunc fn first cap).run Try.prog w = .ok (.func fn first cap) w := fun _ _ _ _ => rfl
  go_enter Try.func44, Try.ntmps44
  go_wp2
  go_ret
  exact ⟨rfl, rfl⟩
end Go.Proofs.Ytekajenmkpobgaa
