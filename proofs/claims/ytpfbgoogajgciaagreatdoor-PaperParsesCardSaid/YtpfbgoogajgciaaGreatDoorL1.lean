/- The makers of the laws: Arcs (24), with bounds of what it makes. Conditions: none. -/
import Derived.Test.YtpfbgoogajgciaaGreatDoorN10
import Derived.IntWalk
import Derived.Deep.DeepCutAuto
import Derived.Deep.RegionHeld3
import Derived.Deep.CutBlock
import Derived.StillTailTactics
import Derived.RegionTactic
set_option linter.unusedSimpArgs false
set_option linter.unusedVariables false
namespace Go.Proofs.YtpfbgoogajgciaaGreatDoor
open Go.RowKit Go.Shelf

theorem take_snoc {α : Type} (xs : List α) (k : Nat) (x : α) (h : xs[k]? = some x) : xs.take (k + 1) = xs.take k ++ [x] := by
  rw [List.take_add_one, h]; rfl

/-- an arc's five numbers -/
structure ArcV where
  f : Int
  t : Int
  lo : Int
  cap : Int
  cost : Int
  deriving DecidableEq, Inhabited
def ArcV.cells (a : ArcV) : List Value := [I a.f, I a.t, I a.lo, I a.cap, I a.cost]
def ArcV.zero : ArcV := ⟨0, 0, 0, 0, 0⟩
def arcCells (l : List ArcV) : List Value := l.flatMap ArcV.cells
def fitB (n : Nat) (a : ArcV) : Bool := decide (0 ≤ a.f) && decide (a.f < n) && decide (0 ≤ a.t) && decide (a.t < n)

theorem arcCells_length (l : List ArcV) : (arcCells l).length = l.length * 5 := by
  induction l with
  | nil => rfl
  | cons a l ih => simp [arcCells, ArcV.cells] at ih ⊢; omega
theorem arcCells_at (l : List ArcV) (k j : Nat) (hj : j < 5) : (arcCells l)[k * 5 + j]? = (l[k]?).bind fun a => a.cells[j]? := by
  induction l generalizing k with
  | nil => simp [arcCells]
  | cons a l ih =>
    cases k with
    | zero =>
      have : (arcCells (a :: l)) = a.cells ++ arcCells l := by simp [arcCells]
      rw [this]
      simp only [Nat.zero_mul, Nat.zero_add, List.getElem?_cons_zero, Option.bind_some]
      exact List.getElem?_append_left (by simpa [ArcV.cells] using hj)
    | succ k =>
      have : (arcCells (a :: l)) = a.cells ++ arcCells l := by simp [arcCells]
      rw [this, List.getElem?_append_right (by simp [ArcV.cells]; omega)]
      have e : (k + 1) * 5 + j - a.cells.length = k * 5 + j := by simp [ArcV.cells]; omega
      rw [e, ih k]
      simp

/-- the cells of element k of a slice of arcs -/
theorem Reads.arc {w : World} {B : Nat} {A : Option Addr} {n : Nat} {l : List ArcV} (h : Reads w B 5 A n (arcCells l)) {k : Nat} {a : ArcV} (hk : l[k]? = some a) :
    ∃ b off, A = some ⟨b, off, none⟩ ∧ b < B ∧ w.cell? ⟨b, off + k * 5, none⟩ = some (.int .i64 a.f) ∧ w.cell? ⟨b, off + k * 5 + 1, none⟩ = some (.int .i64 a.t) ∧ w.cell? ⟨b, off + k * 5 + 2, none⟩ = some (.int .i64 a.lo) ∧
      w.cell? ⟨b, off + k * 5 + 3, none⟩ = some (.int .i64 a.cap) ∧ w.cell? ⟨b, off + k * 5 + 4, none⟩ = some (.int .i64 a.cost) := by
  have hkl : k < l.length := by
    rcases Nat.lt_or_ge k l.length with h1 | h1
    · exact h1
    · rw [List.getElem?_eq_none h1] at hk; cases hk
  have hl := h.1
  rw [arcCells_length] at hl
  obtain ⟨b, off, e, hb, hc⟩ := h.2 (by omega)
  have H : ∀ j u, j < 5 → a.cells[j]? = some u → w.cell? ⟨b, off + k * 5 + j, none⟩ = some u := fun j u hj hu => by
    rw [Nat.add_assoc]
    exact hc _ _ (by rw [arcCells_at _ _ _ hj, hk]; exact hu)
  exact ⟨b, off, e, hb, H 0 _ (by omega) rfl, H 1 _ (by omega) rfl, H 2 _ (by omega) rfl, H 3 _ (by omega) rfl, H 4 _ (by omega) rfl⟩


def ints (l : List Int) : Array Value := (l.map I).toArray

/-- a byte of Go's -/
def U (v : Int) : Value := .int .u8 v
def Byt (cs : List Int) : Prop := ∀ v ∈ cs, 0 ≤ v ∧ v ≤ 255
theorem Byt.at_ {cs : List Int} {k : Nat} {x : Int} (h : Byt cs) (hk : cs[k]? = some x) : 0 ≤ x ∧ x ≤ 255 := h x (List.mem_of_getElem? hk)


theorem info58 : (Tryz.prog.info? 58).map (fun i => (i.zero, i.size, i.bytes)) = some (some (.agg #[.int .i64 0, .int .i64 0, .int .i64 0, .int .i64 0, .int .i64 0]), 5, 40) := by kernel_rfl
/-- what an arc that was made is like -/
structure ArcB0 (N : Nat) (x : ArcV) : Prop where
  f0 : 0 ≤ x.f
  f1 : x.f < N
  t0 : 0 ≤ x.t
  t1 : x.t < N
  l0 : 0 ≤ x.lo
  l1 : x.lo ≤ 2
  c0 : -8 ≤ x.cost
  c1 : x.cost ≤ 12
structure ArcB (N : Nat) (x : ArcV) : Prop extends ArcB0 N x where
  k0 : x.lo ≤ x.cap
  k1 : x.cap ≤ 7 ∨ x.cap = 4611686018427387904

theorem blk_new_drew (w : World) (t : TypeId) (cs : Array Value) : Blk (w.drew.alloc (.cells cs t)) w.heap.size t cs := Blk.new w.drew t cs
/-- an arc that was made -/
def ArcMade (B : ArcV → Prop) (w : World) (s7 : Value) (wx : World) : Prop := ∃ (ab : Nat) (x : ArcV), s7 = .pointer (some ⟨ab, 0, none⟩) ∧ B x ∧
  Blk wx ab 58 #[.int .i64 x.f, .int .i64 x.t, .int .i64 x.lo, .int .i64 x.cap, .int .i64 x.cost] ∧ Below w.heap.size w wx ∧ w.heap.size ≤ ab

set_option maxRecDepth 100000 in
set_option maxHeartbeats 4000000 in
theorem Arcs_any (A : Option Addr) (n c B N : Nat) (cs : List Int) (w : World) (hr : Reads w B 1 A n (cs.map U)) (hy : Byt cs) (hB : B ≤ w.heap.size) (hn : n ≤ 9223372036854775807) (hN0 : 0 < N) (hN : N ≤ 1000) :
    Calls Tryz.prog 24 #[.slice A n c, .int .i64 (N : Int)] w fun e w' => ∃ A' m c' arcs, e = .returned (.slice A' m c') ∧ w'.ownsRow w.heap.size 58 5 (.slice A' m c') m (arcCells arcs) ∧ (∀ x ∈ arcs, ArcB N x) ∧ m ≤ 18 ∧ Below w.heap.size w w' := by
  have hl : cs.length ≤ n ∧ n ≤ cs.length := by have := hr.1; simp at this; omega
  obtain ⟨i0, hi, hz0, hz1, hz2⟩ := info_parts info58
  go_enter Tryz.func24, Tryz.ntmps24
  go_wp2
  go_loopw [5, 6] (fun v i wr => ∃ (k j : Nat) (arcs : List ArcV), j = 4 * k ∧ j ≤ n ∧ k ≤ 18 ∧ i = .int .i64 j ∧ wr.ownsRow w.heap.size 58 5 v k (arcCells arcs) ∧ (∀ x ∈ arcs, ArcB N x) ∧ Below w.heap.size w wr) (fun _ i _ => n - (intOf i).toNat)
  case atStart => exact ⟨0, 0, [], rfl, Nat.zero_le _, Nat.zero_le _, rfl, World.ownsRow_nil _ _ _ _, by simp, Below.refl _ _⟩
  case round =>
    obtain ⟨k, j, arcs, hj, hk, hk6, rfl, hown, hft, hbw⟩ := hrel
    have HFT := Lib.hid hft
    clear hft
    have HJ := Lib.hid hj
    have hj1 : 4 * k ≤ j ∧ j ≤ 4 * k := by omega
    clear hj
    by_cases hlt : j + 3 < n
    · by_cases h6 : k < 18
      · have h72 : j < 72 := by omega
        obtain ⟨x0, hx0⟩ : ∃ x, cs[j]? = some x := ⟨_, List.getElem?_eq_getElem (by omega)⟩
        obtain ⟨x1, hx1⟩ : ∃ x, cs[j + 1]? = some x := ⟨_, List.getElem?_eq_getElem (by omega)⟩
        obtain ⟨x2, hx2⟩ : ∃ x, cs[j + 2]? = some x := ⟨_, List.getElem?_eq_getElem (by omega)⟩
        obtain ⟨x3, hx3⟩ : ∃ x, cs[j + 3]? = some x := ⟨_, List.getElem?_eq_getElem (by omega)⟩
        obtain ⟨a0, b0⟩ := hy.at_ hx0
        obtain ⟨a1, b1⟩ := hy.at_ hx1
        obtain ⟨a2, b2⟩ := hy.at_ hx2
        obtain ⟨a3, b3⟩ := hy.at_ hx3
        obtain ⟨b, off, rfl, hbB, hcl⟩ := ((hr.more hB).below hbw).2 (by omega)
        have q0 : wr.cell? ⟨b, off + j, none⟩ = some (.int .u8 x0) := hcl j _ (by rw [List.getElem?_map, hx0]; rfl)
        have q1 : wr.cell? ⟨b, off + (j + 1), none⟩ = some (.int .u8 x1) := hcl (j + 1) _ (by rw [List.getElem?_map, hx1]; rfl)
        have q2 : wr.cell? ⟨b, off + (j + 2), none⟩ = some (.int .u8 x2) := hcl (j + 2) _ (by rw [List.getElem?_map, hx2]; rfl)
        have q3 : wr.cell? ⟨b, off + (j + 3), none⟩ = some (.int .u8 x3) := hcl (j + 3) _ (by rw [List.getElem?_map, hx3]; rfl)
        clear hx0 hx1 hx2 hx3 hcl
        have hsz := hbw.size
        have d1 : ¬ N = 0 := by omega
        have d72 : decide ((j : Int) < 72) = true := by simp; omega
        go_upto_region 5 with fail
        go_cut [7] (fun s7 wx => ArcMade (ArcB0 N) wr s7 wx)
        case first =>
          have j0 : j < n := by omega
          have j1 : j + 1 < n := by omega
          have j2 : j + 2 < n := by omega
          have j3 : (j : Int) + 1 < n := by omega
          have j4 : (j : Int) + 2 < n := by omega
          have j5 : (0 : Int) ≤ (j : Int) + 1 := by omega
          have j6 : (0 : Int) ≤ (j : Int) + 2 := by omega
          have s1 : IntKind.i64.wrap ((j : Int) + 1) = (j : Int) + 1 := IntWalk.i64_in _ (by omega)
          have s2 : IntKind.i64.wrap ((j : Int) + 2) = (j : Int) + 2 := IntWalk.i64_in _ (by omega)
          have s3 : ((j : Int) + 1).toNat = j + 1 := by omega
          have s4 : ((j : Int) + 2).toNat = j + 2 := by omega
          have t0 : IntKind.i64.wrap x0 = x0 := IntWalk.i64_in _ (by omega)
          have t1 : x0.tmod (N : Int) = x0 % N := Int.tmod_eq_emod_of_nonneg a0
          have t2 : x0.tdiv 16 = x0 / 16 := Int.tdiv_eq_ediv_of_nonneg a0
          have t6 : IntKind.u8.wrap (x0 / 16) = x0 / 16 := IntWalk.u8_in _ (by omega)
          have t7 : IntKind.i64.wrap (x0 / 16) = x0 / 16 := IntWalk.i64_in _ (by omega)
          have t3 : (x0 / 16).tmod (N : Int) = x0 / 16 % N := Int.tmod_eq_emod_of_nonneg (by omega)
          have t4 : x1.tmod 3 = x1 % 3 := Int.tmod_eq_emod_of_nonneg a1
          have t5 : x2.tmod 21 = x2 % 21 := Int.tmod_eq_emod_of_nonneg a2
          have e0 := World.new_ne wr ⟨b, off + j, none⟩ q0
          have e1 := World.new_ne wr ⟨b, off + (j + 1), none⟩ q1
          have e2 := World.new_ne wr ⟨b, off + (j + 2), none⟩ q2
          go_region_held3 (fun w' => w'.cell? ⟨b, off + j, none⟩ = some (.int .u8 x0) ∧ w'.cell? ⟨b, off + (j + 1), none⟩ = some (.int .u8 x1) ∧ w'.cell? ⟨b, off + (j + 2), none⟩ = some (.int .u8 x2)) (go_keep) (fail)
          go_wp2_with fail
          go_meet
          have hNi : (0 : Int) < N := by omega
          have w1 : IntKind.i64.wrap (x1 % 3) = x1 % 3 := IntWalk.i64_in _ (by omega)
          have w2 : IntKind.i64.wrap (x2 % 21) = x2 % 21 := IntWalk.i64_in _ (by omega)
          have w3 : IntKind.i64.wrap (x2 % 21 - 8) = x2 % 21 - 8 := IntWalk.i64_in _ (by omega)
          rw [w1, w2, w3]
          exact ⟨wr.heap.size, ⟨x0 % N, x0 / 16 % N, x1 % 3, 0, x2 % 21 - 8⟩, rfl, ⟨Int.emod_nonneg _ (by omega), Int.emod_lt_of_pos _ hNi, Int.emod_nonneg _ (by omega), Int.emod_lt_of_pos _ hNi, by show 0 ≤ x1 % 3; omega, by show x1 % 3 ≤ 2; omega, by show -8 ≤ x2 % 21 - 8; omega, by show x2 % 21 - 8 ≤ 12; omega⟩, blk_new_drew _ _ _, (Below.refl _ _).drew.alloc (Nat.le_refl _) _, Nat.le_refl _⟩
        case rest =>
          obtain ⟨ab, x, rfl, hx, hab, hbx, hle⟩ := hcut
          have hcp : x.lo ≤ wrap64 (x.lo + x1 / 3 % 6) ∧ wrap64 (x.lo + x1 / 3 % 6) ≤ 7 := by
            have := hx.l0; have := hx.l1
            rw [show wrap64 (x.lo + x1 / 3 % 6) = x.lo + x1 / 3 % 6 from IntWalk.wrap64_in _ (by omega)]
            omega
          have HX := Lib.hid hx
          have HC := Lib.hid hcp
          clear hx hcp d72
          have lab := hab.lt
          have p2 := hab.cell 2
          have p3 := hab.cell 3
          simp only [List.getElem?_toArray, List.getElem?_cons_zero, List.getElem?_cons_succ] at p2 p3
          have f3 := hab.frozen 3
          have hlb : b < wr.heap.size := by omega
          have r1 : wc.cell? ⟨b, off + (j + 1), none⟩ = some (.int .u8 x1) := (hbx.cell (p := ⟨b, off + (j + 1), none⟩) hlb).trans q1
          have r3 : wc.cell? ⟨b, off + (j + 3), none⟩ = some (.int .u8 x3) := (hbx.cell (p := ⟨b, off + (j + 3), none⟩) hlb).trans q3
          have j0 : j < n := by omega
          have j1 : j + 1 < n := by omega
          have j3 : (j : Int) + 1 < n := by omega
          have j5 : (0 : Int) ≤ (j : Int) + 1 := by omega
          have s1 : IntKind.i64.wrap ((j : Int) + 1) = (j : Int) + 1 := IntWalk.i64_in _ (by omega)
          have s3 : ((j : Int) + 1).toNat = j + 1 := by omega
          clear q0 q1 q2 q3
          go_wp2_with fail
          go_still_tail 12, (by kernel_rfl)
          change wpList _ _ _ _ _ wc.drew
          clear s1 s3
          go_upto_block 2 with fail
          have hab3 := (hab.set_ 3 (.int .i64 (wrap64 (x.lo + x1 / 3 % 6)))).drew
          have hbx3 : Below wr.heap.size wr (wc.setCell ⟨ab, 3, none⟩ (.int .i64 (wrap64 (x.lo + x1 / 3 % 6)))).drew := (hbx.setCell (p := ⟨ab, 3, none⟩) hle _).drew
          simp only [List.setIfInBounds_toArray, List.set_cons_succ, List.set_cons_zero] at hab3
          generalize (wc.setCell ⟨ab, 3, none⟩ (.int .i64 (wrap64 (x.lo + x1 / 3 % 6)))).drew = W3 at *
          generalize wrap64 (x.lo + x1 / 3 % 6) = cp at *
          clear p2 p3 f3 r1 r3 hbx hab
          have lab3 := hab3.lt
          go_cut [] (fun wx => ArcMade (ArcB N) wr (.pointer (some ⟨ab, 0, none⟩)) wx)
          case first =>
            have o2 := hab3.cell 2
            have o3 := hab3.cell 3
            have o4 := hab3.cell 4
            simp only [List.getElem?_toArray, List.getElem?_cons_zero, List.getElem?_cons_succ] at o2 o3 o4
            have g2 := hab3.frozen 2
            have g3 := hab3.frozen 3
            have g4 := hab3.frozen 4
            by_cases c0 : x3 % 8 = 0
            · have z0 : (x3 % 8 == 0) = true := by simpa using c0
              clear c0
              go_wp2_with fail
              go_meet
              refine ⟨ab, ⟨x.f, x.t, x.lo, 4611686018427387904, x.cost⟩, rfl, ⟨{ HX.out with }, by have := HX.out.l1; show x.lo ≤ 4611686018427387904; omega, .inr rfl⟩, ?_, hbx3.setCell (p := ⟨ab, 3, none⟩) hle _, hle⟩
              have := hab3.set_ 3 (.int .i64 4611686018427387904)
              simpa only [List.setIfInBounds_toArray, List.set_cons_succ, List.set_cons_zero] using this
            · have z0 : (x3 % 8 == 0) = false := by simpa using c0
              by_cases c1 : x3 % 8 = 1
              · have z1 : (x3 % 8 == 1) = true := by simpa using c1
                clear c0 c1
                go_wp2_with fail
                go_meet
                refine ⟨ab, ⟨x.f, x.t, 0, cp, x.cost⟩, rfl, ⟨{ HX.out with l0 := Int.le_refl _, l1 := by show (0 : Int) ≤ 2; decide }, by have := HX.out.l0; have := HC.out.1; show (0 : Int) ≤ cp; omega, .inl HC.out.2⟩, ?_, hbx3.setCell (p := ⟨ab, 2, none⟩) hle _, hle⟩
                have := hab3.set_ 2 (.int .i64 0)
                simpa only [List.setIfInBounds_toArray, List.set_cons_succ, List.set_cons_zero] using this
              · have z1 : (x3 % 8 == 1) = false := by simpa using c1
                by_cases c2 : x3 % 8 = 2
                · have z2 : (x3 % 8 == 2) = true := by simpa using c2
                  clear c0 c1 c2
                  go_wp2_with fail
                  go_meet
                  refine ⟨ab, ⟨x.f, x.t, x.lo, cp, 0⟩, rfl, ⟨{ HX.out with c0 := by show (-8 : Int) ≤ 0; decide, c1 := by show (0 : Int) ≤ 12; decide }, HC.out.1, .inl HC.out.2⟩, ?_, hbx3.setCell (p := ⟨ab, 4, none⟩) hle _, hle⟩
                  have := hab3.set_ 4 (.int .i64 0)
                  simpa only [List.setIfInBounds_toArray, List.set_cons_succ, List.set_cons_zero] using this
                · have z2 : (x3 % 8 == 2) = false := by simpa using c2
                  clear c0 c1 c2
                  go_wp2_with fail
                  go_meet
                  exact ⟨ab, ⟨x.f, x.t, x.lo, cp, x.cost⟩, rfl, ⟨{ HX.out with }, HC.out.1, .inl HC.out.2⟩, hab3, hbx3, hle⟩
          case rest =>
            clear hab3 hbx3 hle lab lab3
            obtain ⟨ab', y, hab', hyB, hab, hbx, hle⟩ := hcut
            injection hab' with hab'
            injection hab' with hab'
            injection hab' with hab'
            subst hab'
            have HYB := Lib.hid hyB
            clear hyB
            have p0 := hab.cell 0
            have p1 := hab.cell 1
            have p2 := hab.cell 2
            have p3 := hab.cell 3
            have p4 := hab.cell 4
            simp only [List.getElem?_toArray, List.getElem?_cons_zero, List.getElem?_cons_succ] at p0 p1 p2 p3 p4
            have lab := hab.lt
            have hown1 := own_below hown hbx
            have hbw1 := hbw.trans (hbx.mono hbw.size)
            have hsz1 := hbw1.size
            go_wp2_with (at_builtin; refine wpList_append_own _ rfl _ _ 36 rfl w.heap.size 58 i0 (.agg #[.int .i64 0, .int .i64 0, .int .i64 0, .int .i64 0, .int .i64 0]) 5 40 Tryz.underlying36 hi hz0 hz1 hz2 rfl (by decide) _ _ _ rfl (hown1.alloc _) ⟨wc.heap.size, 0, none⟩ 1 1 [.int .i64 y.f, .int .i64 y.t, .int .i64 y.lo, .int .i64 y.cap, .int .i64 y.cost] rfl rfl ?c1 ?c2 ?c3 ?c4 ?c5 ?_)
            case c2 => simp [Value.oneCell']
            case c3 => unfold maxLen; omega
            case c4 => omega
            case c5 => omega
            intro v' w2 hown' hgrow _
            go_wp2_with fail
            go_roundw
            case rel =>
              refine ⟨k + 1, j + 4, arcs ++ [y], by have := HJ.out; omega, by omega, by omega, by go_num, ?_, ?_, ?_⟩
              · simpa [arcCells, ArcV.cells, I] using hown'
              · intro z hz
                rcases List.mem_append.1 hz with hz | hz
                · exact HFT.out z hz
                · rw [List.mem_singleton.1 hz]; exact HYB.out
              · exact (hbw1.alloc (by omega) _).grown hgrow (by simp; omega) (fun j hj => (hown1.lt j hj).1)
            case measure => simp [intOf]; omega
      · have d72 : decide ((j : Int) < 72) = false := by simp; omega
        go_wp2_with fail
        go_ret
        obtain ⟨A', c', rfl⟩ := own_form hown
        first | exact ⟨A', k, c', arcs, rfl, hown, HFT.out, hk6, hbw⟩ | exact ⟨A', k, c', rfl, arcs, hown, HFT.out, hk6, hbw⟩
    · go_wp2_with fail
      go_ret
      obtain ⟨A', c', rfl⟩ := own_form hown
      first | exact ⟨A', k, c', arcs, rfl, hown, HFT.out, hk6, hbw⟩ | exact ⟨A', k, c', rfl, arcs, hown, HFT.out, hk6, hbw⟩

end Go.Proofs.YtpfbgoogajgciaaGreatDoor
