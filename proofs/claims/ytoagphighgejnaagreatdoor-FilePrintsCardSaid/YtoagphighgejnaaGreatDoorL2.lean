/- The makers of the laws: Inst (13), with bounds of what it makes. Conditions: none. -/
import Derived.Test.YtoagphighgejnaaGreatDoorAV
import Derived.IntWalk
import Derived.Deep.DeepCutAuto
import Derived.Deep.RegionHeld3
import Derived.Deep.CutBlock
import Derived.StillTailTactics
import Derived.RegionTactic
import Derived.Test.YtoagphighgejnaaGreatDoorJ6
set_option linter.unusedSimpArgs false
set_option linter.unusedVariables false
namespace Go.Proofs.YtoagphighgejnaaGreatDoor
open Go.RowKit Go.Shelf

theorem info58 : (Tryz.prog.info? 42).map (fun i => (i.zero, i.size, i.bytes)) = some (some (.agg #[.int .i64 0, .int .i64 0, .int .i64 0, .int .i64 0, .int .i64 0]), 5, 40) := by kernel_rfl
/-- what an arc that was made is like -/
structure ArcB0 (N : Nat) (x : ArcV) : Prop where
  f0 : 0 ≤ x.f
  f1 : x.f < N
  t0 : 0 ≤ x.t
  t1 : x.t < N
  l0 : 0 ≤ x.lo
  l1 : x.lo ≤ 2
  c0 : -8 ≤ x.cost
  c1 : x.cost ≤ 12
structure ArcB (N : Nat) (x : ArcV) : Prop extends ArcB0 N x where
  k0 : x.lo ≤ x.cap
  k1 : x.cap ≤ 7 ∨ x.cap = 4611686018427387904

theorem blk_new_drew (w : World) (t : TypeId) (cs : Array Value) : Blk (w.drew.alloc (.cells cs t)) w.heap.size t cs := Blk.new w.drew t cs
/-- an arc that was made -/
def ArcMade (B : ArcV → Prop) (w : World) (s7 : Value) (wx : World) : Prop := ∃ (ab : Nat) (x : ArcV), s7 = .pointer (some ⟨ab, 0, none⟩) ∧ B x ∧
  Blk wx ab 42 #[.int .i64 x.f, .int .i64 x.t, .int .i64 x.lo, .int .i64 x.cap, .int .i64 x.cost] ∧ Below w.heap.size w wx ∧ w.heap.size ≤ ab

set_option maxRecDepth 100000 in
set_option maxHeartbeats 4000000 in
theorem Arcs_any (A : Option Addr) (n c B N : Nat) (cs : List Int) (w : World) (hr : Reads w B 1 A n (cs.map U)) (hy : Byt cs) (hB : B ≤ w.heap.size) (hn : n ≤ 9223372036854775807) (hN0 : 0 < N) (hN : N ≤ 1000) :
    Calls Tryz.prog 47 #[.slice A n c, .int .i64 (N : Int)] w fun e w' => ∃ A' m c' arcs, e = .returned (.slice A' m c') ∧ w'.ownsRow w.heap.size 42 5 (.slice A' m c') m (arcCells arcs) ∧ (∀ x ∈ arcs, ArcB N x) ∧ m ≤ 18 ∧ Below w.heap.size w w' := by
  have hl : cs.length ≤ n ∧ n ≤ cs.length := by have := hr.1; simp at this; omega
  obtain ⟨i0, hi, hz0, hz1, hz2⟩ := info_parts info58
  go_enter Tryz.func47, Tryz.ntmps47
  go_wp2
  go_loopw [5, 6] (fun v i wr => ∃ (k j : Nat) (arcs : List ArcV), j = 4 * k ∧ j ≤ n ∧ k ≤ 18 ∧ i = .int .i64 j ∧ wr.ownsRow w.heap.size 42 5 v k (arcCells arcs) ∧ (∀ x ∈ arcs, ArcB N x) ∧ Below w.heap.size w wr) (fun _ i _ => n - (intOf i).toNat)
  case atStart => exact ⟨0, 0, [], rfl, Nat.zero_le _, Nat.zero_le _, rfl, World.ownsRow_nil _ _ _ _, by simp, Below.refl _ _⟩
  case round =>
    obtain ⟨k, j, arcs, hj, hk, hk6, rfl, hown, hft, hbw⟩ := hrel
    have HFT := Lib.hid hft
    clear hft
    have HJ := Lib.hid hj
    have hj1 : 4 * k ≤ j ∧ j ≤ 4 * k := by omega
    clear hj
    by_cases hlt : j + 3 < n
    · by_cases h6 : k < 18
      · have h72 : j < 72 := by omega
        obtain ⟨x0, hx0⟩ : ∃ x, cs[j]? = some x := ⟨_, List.getElem?_eq_getElem (by omega)⟩
        obtain ⟨x1, hx1⟩ : ∃ x, cs[j + 1]? = some x := ⟨_, List.getElem?_eq_getElem (by omega)⟩
        obtain ⟨x2, hx2⟩ : ∃ x, cs[j + 2]? = some x := ⟨_, List.getElem?_eq_getElem (by omega)⟩
        obtain ⟨x3, hx3⟩ : ∃ x, cs[j + 3]? = some x := ⟨_, List.getElem?_eq_getElem (by omega)⟩
        obtain ⟨a0, b0⟩ := hy.at_ hx0
        obtain ⟨a1, b1⟩ := hy.at_ hx1
        obtain ⟨a2, b2⟩ := hy.at_ hx2
        obtain ⟨a3, b3⟩ := hy.at_ hx3
        obtain ⟨b, off, rfl, hbB, hcl⟩ := ((hr.more hB).below hbw).2 (by omega)
        have q0 : wr.cell? ⟨b, off + j, none⟩ = some (.int .u8 x0) := hcl j _ (by rw [List.getElem?_map, hx0]; rfl)
        have q1 : wr.cell? ⟨b, off + (j + 1), none⟩ = some (.int .u8 x1) := hcl (j + 1) _ (by rw [List.getElem?_map, hx1]; rfl)
        have q2 : wr.cell? ⟨b, off + (j + 2), none⟩ = some (.int .u8 x2) := hcl (j + 2) _ (by rw [List.getElem?_map, hx2]; rfl)
        have q3 : wr.cell? ⟨b, off + (j + 3), none⟩ = some (.int .u8 x3) := hcl (j + 3) _ (by rw [List.getElem?_map, hx3]; rfl)
        clear hx0 hx1 hx2 hx3 hcl
        have hsz := hbw.size
        have d1 : ¬ N = 0 := by omega
        have d72 : decide ((j : Int) < 72) = true := by simp; omega
        go_upto_region 5 with fail
        go_cut [7] (fun s7 wx => ArcMade (ArcB0 N) wr s7 wx)
        case first =>
          have j0 : j < n := by omega
          have j1 : j + 1 < n := by omega
          have j2 : j + 2 < n := by omega
          have j3 : (j : Int) + 1 < n := by omega
          have j4 : (j : Int) + 2 < n := by omega
          have j5 : (0 : Int) ≤ (j : Int) + 1 := by omega
          have j6 : (0 : Int) ≤ (j : Int) + 2 := by omega
          have s1 : IntKind.i64.wrap ((j : Int) + 1) = (j : Int) + 1 := IntWalk.i64_in _ (by omega)
          have s2 : IntKind.i64.wrap ((j : Int) + 2) = (j : Int) + 2 := IntWalk.i64_in _ (by omega)
          have s3 : ((j : Int) + 1).toNat = j + 1 := by omega
          have s4 : ((j : Int) + 2).toNat = j + 2 := by omega
          have t0 : IntKind.i64.wrap x0 = x0 := IntWalk.i64_in _ (by omega)
          have t1 : x0.tmod (N : Int) = x0 % N := Int.tmod_eq_emod_of_nonneg a0
          have t2 : x0.tdiv 16 = x0 / 16 := Int.tdiv_eq_ediv_of_nonneg a0
          have t6 : IntKind.u8.wrap (x0 / 16) = x0 / 16 := IntWalk.u8_in _ (by omega)
          have t7 : IntKind.i64.wrap (x0 / 16) = x0 / 16 := IntWalk.i64_in _ (by omega)
          have t3 : (x0 / 16).tmod (N : Int) = x0 / 16 % N := Int.tmod_eq_emod_of_nonneg (by omega)
          have t4 : x1.tmod 3 = x1 % 3 := Int.tmod_eq_emod_of_nonneg a1
          have t5 : x2.tmod 21 = x2 % 21 := Int.tmod_eq_emod_of_nonneg a2
          have e0 := World.new_ne wr ⟨b, off + j, none⟩ q0
          have e1 := World.new_ne wr ⟨b, off + (j + 1), none⟩ q1
          have e2 := World.new_ne wr ⟨b, off + (j + 2), none⟩ q2
          go_region_held3 (fun w' => w'.cell? ⟨b, off + j, none⟩ = some (.int .u8 x0) ∧ w'.cell? ⟨b, off + (j + 1), none⟩ = some (.int .u8 x1) ∧ w'.cell? ⟨b, off + (j + 2), none⟩ = some (.int .u8 x2)) (go_keep) (fail)
          go_wp2_with fail
          go_meet
          have hNi : (0 : Int) < N := by omega
          have w1 : IntKind.i64.wrap (x1 % 3) = x1 % 3 := IntWalk.i64_in _ (by omega)
          have w2 : IntKind.i64.wrap (x2 % 21) = x2 % 21 := IntWalk.i64_in _ (by omega)
          have w3 : IntKind.i64.wrap (x2 % 21 - 8) = x2 % 21 - 8 := IntWalk.i64_in _ (by omega)
          rw [w1, w2, w3]
          exact ⟨wr.heap.size, ⟨x0 % N, x0 / 16 % N, x1 % 3, 0, x2 % 21 - 8⟩, rfl, ⟨Int.emod_nonneg _ (by omega), Int.emod_lt_of_pos _ hNi, Int.emod_nonneg _ (by omega), Int.emod_lt_of_pos _ hNi, by show 0 ≤ x1 % 3; omega, by show x1 % 3 ≤ 2; omega, by show -8 ≤ x2 % 21 - 8; omega, by show x2 % 21 - 8 ≤ 12; omega⟩, blk_new_drew _ _ _, (Below.refl _ _).drew.alloc (Nat.le_refl _) _, Nat.le_refl _⟩
        case rest =>
          obtain ⟨ab, x, rfl, hx, hab, hbx, hle⟩ := hcut
          have hcp : x.lo ≤ wrap64 (x.lo + x1 / 3 % 6) ∧ wrap64 (x.lo + x1 / 3 % 6) ≤ 7 := by
            have := hx.l0; have := hx.l1
            rw [show wrap64 (x.lo + x1 / 3 % 6) = x.lo + x1 / 3 % 6 from IntWalk.wrap64_in _ (by omega)]
            omega
          have HX := Lib.hid hx
          have HC := Lib.hid hcp
          clear hx hcp d72
          have lab := hab.lt
          have p2 := hab.cell 2
          have p3 := hab.cell 3
          simp only [List.getElem?_toArray, List.getElem?_cons_zero, List.getElem?_cons_succ] at p2 p3
          have f3 := hab.frozen 3
          have hlb : b < wr.heap.size := by omega
          have r1 : wc.cell? ⟨b, off + (j + 1), none⟩ = some (.int .u8 x1) := (hbx.cell (p := ⟨b, off + (j + 1), none⟩) hlb).trans q1
          have r3 : wc.cell? ⟨b, off + (j + 3), none⟩ = some (.int .u8 x3) := (hbx.cell (p := ⟨b, off + (j + 3), none⟩) hlb).trans q3
          have j0 : j < n := by omega
          have j1 : j + 1 < n := by omega
          have j3 : (j : Int) + 1 < n := by omega
          have j5 : (0 : Int) ≤ (j : Int) + 1 := by omega
          have s1 : IntKind.i64.wrap ((j : Int) + 1) = (j : Int) + 1 := IntWalk.i64_in _ (by omega)
          have s3 : ((j : Int) + 1).toNat = j + 1 := by omega
          clear q0 q1 q2 q3
          go_wp2_with fail
          go_still_tail 12, (by kernel_rfl)
          change wpList _ _ _ _ _ wc.drew
          clear s1 s3
          go_upto_block 2 with fail
          have hab3 := (hab.set_ 3 (.int .i64 (wrap64 (x.lo + x1 / 3 % 6)))).drew
          have hbx3 : Below wr.heap.size wr (wc.setCell ⟨ab, 3, none⟩ (.int .i64 (wrap64 (x.lo + x1 / 3 % 6)))).drew := (hbx.setCell (p := ⟨ab, 3, none⟩) hle _).drew
          simp only [List.setIfInBounds_toArray, List.set_cons_succ, List.set_cons_zero] at hab3
          generalize (wc.setCell ⟨ab, 3, none⟩ (.int .i64 (wrap64 (x.lo + x1 / 3 % 6)))).drew = W3 at *
          generalize wrap64 (x.lo + x1 / 3 % 6) = cp at *
          clear p2 p3 f3 r1 r3 hbx hab
          have lab3 := hab3.lt
          go_cut [] (fun wx => ArcMade (ArcB N) wr (.pointer (some ⟨ab, 0, none⟩)) wx)
          case first =>
            have o2 := hab3.cell 2
            have o3 := hab3.cell 3
            have o4 := hab3.cell 4
            simp only [List.getElem?_toArray, List.getElem?_cons_zero, List.getElem?_cons_succ] at o2 o3 o4
            have g2 := hab3.frozen 2
            have g3 := hab3.frozen 3
            have g4 := hab3.frozen 4
            by_cases c0 : x3 % 8 = 0
            · have z0 : (x3 % 8 == 0) = true := by simpa using c0
              clear c0
              go_wp2_with fail
              go_meet
              refine ⟨ab, ⟨x.f, x.t, x.lo, 4611686018427387904, x.cost⟩, rfl, ⟨{ HX.out with }, by have := HX.out.l1; show x.lo ≤ 4611686018427387904; omega, .inr rfl⟩, ?_, hbx3.setCell (p := ⟨ab, 3, none⟩) hle _, hle⟩
              have := hab3.set_ 3 (.int .i64 4611686018427387904)
              simpa only [List.setIfInBounds_toArray, List.set_cons_succ, List.set_cons_zero] using this
            · have z0 : (x3 % 8 == 0) = false := by simpa using c0
              by_cases c1 : x3 % 8 = 1
              · have z1 : (x3 % 8 == 1) = true := by simpa using c1
                clear c0 c1
                go_wp2_with fail
                go_meet
                refine ⟨ab, ⟨x.f, x.t, 0, cp, x.cost⟩, rfl, ⟨{ HX.out with l0 := Int.le_refl _, l1 := by show (0 : Int) ≤ 2; decide }, by have := HX.out.l0; have := HC.out.1; show (0 : Int) ≤ cp; omega, .inl HC.out.2⟩, ?_, hbx3.setCell (p := ⟨ab, 2, none⟩) hle _, hle⟩
                have := hab3.set_ 2 (.int .i64 0)
                simpa only [List.setIfInBounds_toArray, List.set_cons_succ, List.set_cons_zero] using this
              · have z1 : (x3 % 8 == 1) = false := by simpa using c1
                by_cases c2 : x3 % 8 = 2
                · have z2 : (x3 % 8 == 2) = true := by simpa using c2
                  clear c0 c1 c2
                  go_wp2_with fail
                  go_meet
                  refine ⟨ab, ⟨x.f, x.t, x.lo, cp, 0⟩, rfl, ⟨{ HX.out with c0 := by show (-8 : Int) ≤ 0; decide, c1 := by show (0 : Int) ≤ 12; decide }, HC.out.1, .inl HC.out.2⟩, ?_, hbx3.setCell (p := ⟨ab, 4, none⟩) hle _, hle⟩
                  have := hab3.set_ 4 (.int .i64 0)
                  simpa only [List.setIfInBounds_toArray, List.set_cons_succ, List.set_cons_zero] using this
                · have z2 : (x3 % 8 == 2) = false := by simpa using c2
                  clear c0 c1 c2
                  go_wp2_with fail
                  go_meet
                  exact ⟨ab, ⟨x.f, x.t, x.lo, cp, x.cost⟩, rfl, ⟨{ HX.out with }, HC.out.1, .inl HC.out.2⟩, hab3, hbx3, hle⟩
          case rest =>
            clear hab3 hbx3 hle lab lab3
            obtain ⟨ab', y, hab', hyB, hab, hbx, hle⟩ := hcut
            injection hab' with hab'
            injection hab' with hab'
            injection hab' with hab'
            subst hab'
            have HYB := Lib.hid hyB
            clear hyB
            have p0 := hab.cell 0
            have p1 := hab.cell 1
            have p2 := hab.cell 2
            have p3 := hab.cell 3
            have p4 := hab.cell 4
            simp only [List.getElem?_toArray, List.getElem?_cons_zero, List.getElem?_cons_succ] at p0 p1 p2 p3 p4
            have lab := hab.lt
            have hown1 := own_below hown hbx
            have hbw1 := hbw.trans (hbx.mono hbw.size)
            have hsz1 := hbw1.size
            go_wp2_with (at_builtin; refine wpList_append_own _ rfl _ _ 27 rfl w.heap.size 42 i0 (.agg #[.int .i64 0, .int .i64 0, .int .i64 0, .int .i64 0, .int .i64 0]) 5 40 Tryz.underlying27 hi hz0 hz1 hz2 rfl (by decide) _ _ _ rfl (hown1.alloc _) ⟨wc.heap.size, 0, none⟩ 1 1 [.int .i64 y.f, .int .i64 y.t, .int .i64 y.lo, .int .i64 y.cap, .int .i64 y.cost] rfl rfl ?c1 ?c2 ?c3 ?c4 ?c5 ?_)
            case c2 => simp [Value.oneCell']
            case c3 => unfold maxLen; omega
            case c4 => omega
            case c5 => omega
            intro v' w2 hown' hgrow _
            go_wp2_with fail
            go_roundw
            case rel =>
              refine ⟨k + 1, j + 4, arcs ++ [y], by have := HJ.out; omega, by omega, by omega, by go_num, ?_, ?_, ?_⟩
              · simpa [arcCells, ArcV.cells, I] using hown'
              · intro z hz
                rcases List.mem_append.1 hz with hz | hz
                · exact HFT.out z hz
                · rw [List.mem_singleton.1 hz]; exact HYB.out
              · exact (hbw1.alloc (by omega) _).grown hgrow (by simp; omega) (fun j hj => (hown1.lt j hj).1)
            case measure => simp [intOf]; omega
      · have d72 : decide ((j : Int) < 72) = false := by simp; omega
        go_wp2_with fail
        go_ret
        obtain ⟨A', c', rfl⟩ := own_form hown
        first | exact ⟨A', k, c', arcs, rfl, hown, HFT.out, hk6, hbw⟩ | exact ⟨A', k, c', rfl, arcs, hown, HFT.out, hk6, hbw⟩
    · go_wp2_with fail
      go_ret
      obtain ⟨A', c', rfl⟩ := own_form hown
      first | exact ⟨A', k, c', arcs, rfl, hown, HFT.out, hk6, hbw⟩ | exact ⟨A', k, c', rfl, arcs, hown, HFT.out, hk6, hbw⟩

theorem infoN2 : (Tryz.prog.info? 2).map (fun i => (i.zero, i.size, i.bytes)) = some (some (.int .i64 0), 1, 8) := by kernel_rfl
theorem own_other {w : World} {base : Nat} {e : TypeId} {size n : Nat} {v : Value} {xs : List Value} (h : w.ownsRow base e size v n xs) {p : Addr} (hp : v.ownBlock ≠ some p.block) (u : Value) : (w.setCell p u).ownsRow base e size v n xs := by
  refine ⟨h.1, ?_⟩
  rcases h.2 with h1 | ⟨g, cap, cur, h1, h2, h3, h4⟩
  · exact .inl h1
  · exact .inr ⟨g, cap, cur, h1, h2, (Below.heap_setCell w p u g (by rintro rfl; exact hp (by rw [h1]; rfl))).trans h3, h4⟩

theorem blk_newN (w : World) (t : TypeId) (cs : Array Value) (k : Nat) (hk : w.heap.size = k) : Blk (w.alloc (.cells cs t)) k t cs := by
  subst hk; exact Blk.new w t cs

/-- supplies that are together nothing, and small -/
structure SupB (K : Int) (sup : List Int) : Prop where
  sum : sup.sum = 0
  b : ∀ y ∈ sup, -K ≤ y ∧ y ≤ K
theorem sum_set : ∀ (l : List Int) (k : Nat) (y x : Int), l[k]? = some y → (l.set k x).sum = l.sum - y + x
  | [], _, _, _, h => by simp at h
  | a :: l, 0, y, x, h => by simp at h; subst h; simp; omega
  | a :: l, k + 1, y, x, h => by
    simp at h
    have := sum_set l k y x h
    simp [this]; omega
theorem SupB.zero (n : Nat) : SupB 0 (List.replicate n 0) := by
  refine ⟨?_, fun y hy => ?_⟩
  · induction n with
    | zero => rfl
    | succ n ih => rw [List.replicate_succ, List.sum_cons, ih]; rfl
  · rw [List.eq_of_mem_replicate hy]; omega
theorem SupB.mono {K K' : Int} {sup : List Int} (h : SupB K sup) (hk : K ≤ K') : SupB K' sup := ⟨h.sum, fun y hy => by have := h.b y hy; omega⟩
theorem SupB.move {K : Int} {sup : List Int} (h : SupB K sup) (hK : 0 ≤ K ∧ K ≤ 100000) {nf nt : Nat} {v y1 y2 : Int} (hv : 0 ≤ v ∧ v ≤ 5) (h1 : sup[nf]? = some y1) (h2 : (sup.set nf (wrap64 (y1 + v)))[nt]? = some y2) :
    SupB (K + 5) ((sup.set nf (wrap64 (y1 + v))).set nt (wrap64 (y2 - v))) := by
  have b1 := h.b y1 (List.mem_of_getElem? h1)
  have e1 : wrap64 (y1 + v) = y1 + v := IntWalk.wrap64_in _ (by omega)
  rw [e1] at h2 ⊢
  have b2 : -K ≤ y2 ∧ y2 ≤ K + 5 := by
    rcases List.mem_or_eq_of_mem_set (List.mem_of_getElem? h2) with hm | hm
    · have := h.b y2 hm; omega
    · omega
  have e2 : wrap64 (y2 - v) = y2 - v := IntWalk.wrap64_in _ (by omega)
  rw [e2]
  refine ⟨?_, ?_⟩
  · rw [sum_set _ _ _ _ h2, sum_set _ _ _ _ h1, h.sum]; omega
  · intro y hy
    rcases List.mem_or_eq_of_mem_set hy with hm | hm
    · rcases List.mem_or_eq_of_mem_set hm with hm | hm
      · have := h.b y hm; omega
      · omega
    · omega

theorem madeNums (N : Nat) : madeCells #[.int .i64 0] N = ints (List.replicate N 0) := by
  apply Array.ext
  · simp [madeCells, ints]
  · intro j h1 h2
    simp [madeCells, ints, I, Nat.mod_one]
theorem makeNums (N : Nat) (hn : N ≤ 2000000000) (W : World) : (Instr.makeSlice 26 (.int .i64 (N : Int)) (.int .i64 (N : Int))).run Tryz.prog W =
    .ok (.slice (some ⟨W.heap.size, 0, none⟩) N N) (W.alloc (.cells (ints (List.replicate N 0)) 2)) := by
  obtain ⟨i3, hi3, hz30, hz31, hz32⟩ := info_parts infoN2
  have := run_make (P := Tryz.prog) W 26 2 i3 (.int .i64 0) Tryz.underlying26 hi3 hz30 .i64 .i64 (N : Int) (N : Int) (by omega) (by omega) (by rw [hz32]; omega) (by omega)
  rw [hz31, Int.toNat_natCast, Nat.mul_one] at this
  rw [← madeNums]
  exact this

/-- how many nodes -/
def nOf (ds : List Int) : Nat := match ds with | [] => 1 | d :: _ => 1 + (d % 7).toNat
theorem nOf_pos (ds : List Int) : 0 < nOf ds := by unfold nOf; split <;> omega
theorem nOf_le (ds : List Int) : nOf ds ≤ 7 := by unfold nOf; split <;> omega

/-- an instance that was laid in new memory -/
structure InstMid (n : Nat) (w : World) (ib sb m ca : Nat) (A : Option Addr) (sup : List Int) (arcs : List ArcV) (wx : World) : Prop where
  i : Blk wx ib 29 #[.slice (some ⟨sb, 0, none⟩) n n, .slice A m ca]
  s : Blk wx sb 2 (ints sup)
  sl : sup.length = n
  a : wx.ownsRow w.heap.size 42 5 (.slice A m ca) m (arcCells arcs)
  ab : ∀ x ∈ arcs, ArcB n x
  m18 : m ≤ 18
  b : Below w.heap.size w wx
  l1 : w.heap.size ≤ ib
  l2 : w.heap.size ≤ sb
def InstCut (n : Nat) (w : World) (s6 : Value) (wx : World) : Prop := ∃ ib sb m ca A sup arcs, s6 = .pointer (some ⟨ib, 0, none⟩) ∧ w.heap.size < ib ∧ Blk wx w.heap.size 29 #[.slice none 0 0, .slice none 0 0] ∧ InstMid n w ib sb m ca A sup arcs wx ∧ SupB 0 sup

section
variable {n : Nat} {w wx wy : World} {ib sb m ca : Nat} {A : Option Addr} {sup : List Int} {arcs : List ArcV}
theorem InstMid.size (h : InstMid n w ib sb m ca A sup arcs wx) : w.heap.size ≤ wx.heap.size := h.b.size
theorem InstMid.len (h : InstMid n w ib sb m ca A sup arcs wx) : arcs.length = m := by have := h.a.1; rw [arcCells_length] at this; omega
theorem InstMid.below (h : InstMid n w ib sb m ca A sup arcs wx) (hb : Below wx.heap.size wx wy) : InstMid n w ib sb m ca A sup arcs wy :=
  ⟨h.i.below hb h.i.lt, h.s.below hb h.s.lt, h.sl, own_below h.a hb, h.ab, h.m18, h.b.trans (hb.mono h.size), h.l1, h.l2⟩
theorem InstMid.set (h : InstMid n w ib sb m ca A sup arcs wx) (k : Nat) (v : Int) : InstMid n w ib sb m ca A (sup.set k v) arcs (wx.setCell ⟨sb, k, none⟩ (.int .i64 v)) := by
  refine ⟨h.i.far (p := ⟨sb, k, none⟩) (h.i.ne_ h.s (by decide)) _, ?_, by simpa using h.sl, own_other h.a (p := ⟨sb, k, none⟩) (own_blk_ne h.a h.s (by decide)) _, h.ab, h.m18, h.b.setCell (p := ⟨sb, k, none⟩) h.l2 _, h.l1, h.l2⟩
  rw [← ints_set]; exact h.s.set_ k _
end
theorem below_dN (w : World) (q : Nat) : Below w.heap.size w (w.drewN q) := ⟨rfl, rfl, rfl, Nat.le_refl _, fun _ _ => rfl⟩
theorem res_cells {W : World} {r : Nat} (h : Blk W r 29 #[.slice none 0 0, .slice none 0 0]) (u v : Value) :
    ((W.setCell ⟨r, 0, none⟩ u).setCell ⟨r, 1, none⟩ v).cell? ⟨r, 0, none⟩ = some u ∧ ((W.setCell ⟨r, 0, none⟩ u).setCell ⟨r, 1, none⟩ v).cell? ⟨r, 1, none⟩ = some v :=
  ⟨((h.set_ 0 u).set_ 1 v).cell 0, ((h.set_ 0 u).set_ 1 v).cell 1⟩
theorem InstMid.res {n : Nat} {w wx : World} {ib sb m ca : Nat} {A : Option Addr} {sup : List Int} {arcs : List ArcV} {c2 : Array Value} (h : InstMid n w ib sb m ca A sup arcs wx) (hib : w.heap.size < ib) (hres : Blk wx w.heap.size 29 c2) (k : Nat) (v : Value) :
    InstMid n w ib sb m ca A sup arcs (wx.setCell ⟨w.heap.size, k, none⟩ v) :=
  ⟨h.i.far (p := ⟨w.heap.size, k, none⟩) (show ib ≠ w.heap.size by omega) _, h.s.far (p := ⟨w.heap.size, k, none⟩) (h.s.ne_ hres (by decide)) _, h.sl, own_other h.a (p := ⟨w.heap.size, k, none⟩) (own_blk_ne h.a hres (by decide)) _, h.ab, h.m18, h.b.setCell (p := ⟨w.heap.size, k, none⟩) (Nat.le_refl _) _, h.l1, h.l2⟩
theorem inst_cut {N : Nat} {w X w1 F : World} {A' : Option Addr} {m ca ib sb : Nat} {arcs : List ArcV} (hX : Below w.heap.size w X) (hI : Blk X w.heap.size 29 #[.slice none 0 0, .slice none 0 0]) (hb1 : Below X.heap.size X w1)
    (hown : w1.ownsRow X.heap.size 42 5 (.slice A' m ca) m (arcCells arcs)) (hft : ∀ x ∈ arcs, ArcB N x) (hm18 : m ≤ 18) (hF : Blk F ib 29 #[.slice (some ⟨sb, 0, none⟩) N N, .slice A' m ca]) (hs : Blk F sb 2 (ints (List.replicate N 0))) (hk : Kept (fun b => b = ib) w1 F)
    (hlt : w.heap.size < ib) (hsb : w.heap.size ≤ sb) (hib : ib < X.heap.size ∨ w1.heap.size ≤ ib) : InstCut N w (.pointer (some ⟨ib, 0, none⟩)) F := by
  have hbw := hX.trans (hb1.mono hX.size)
  refine ⟨ib, sb, m, ca, A', _, arcs, rfl, hlt, (hI.below hb1 hI.lt).kept hk (by omega), ⟨hF, hs, by simp, own_mono (own_kept hown hk ?_) hX.size, hft, hm18, hbw.trans (hk.to_below hbw.size (fun k hk e => by omega)), by omega, hsb⟩, SupB.zero N⟩
  intro g hg e
  have := hown.lt g hg
  rcases hib with h | h <;> omega
theorem box_kept {X w1 : World} (hb : Below X.heap.size X w1) {ib : Nat} (h : Blk X ib 29 #[.slice none 0 0, .slice none 0 0]) :
    w1.cell? ⟨ib, 0, none⟩ = some (.slice none 0 0) ∧ w1.cell? ⟨ib, 1, none⟩ = some (.slice none 0 0) ∧ w1.frozen? ⟨ib, 0, none⟩ = false ∧ w1.frozen? ⟨ib, 1, none⟩ = false ∧ ib < w1.heap.size := by
  have h1 := h.below hb h.lt
  exact ⟨h1.cell 0, h1.cell 1, h1.frozen 0, h1.frozen 1, h1.lt⟩
/-- what Inst tells -/
def InstTells (n : Nat) (w : World) (e : Ending) (w' : World) : Prop := ∃ ib sb m ca A sup arcs, e = .returned (.agg #[.slice (some ⟨sb, 0, none⟩) n n, .slice A m ca]) ∧ InstMid n w ib sb m ca A sup arcs w' ∧ SupB 200 sup
set_option maxRecDepth 100000 in
set_option maxHeartbeats 4000000 in
theorem Inst_any (A D : Option Addr) (n c nd cd B : Nat) (cs ds : List Int) (w : World) (hr : Reads w B 1 A n (cs.map U)) (hy : Byt cs) (hd : Reads w B 1 D nd (ds.map U)) (hyd : Byt ds) (hB : B ≤ w.heap.size) (hn : n ≤ 9223372036854775807) (hnd : nd ≤ 9223372036854775807) :
    Calls Tryz.prog 29 #[.slice A n c, .slice D nd cd] w (InstTells (nOf ds) w) := by
  have hl : ds.length ≤ nd ∧ nd ≤ ds.length := by have := hd.1; simp at this; omega
  have hmk := makeNums (nOf ds) (by have := nOf_le ds; omega)
  have hN0 := nOf_pos ds
  have hN1 := nOf_le ds
  have HMK := Lib.hid hmk
  clear hmk
  go_enter Tryz.func29, Tryz.ntmps29
  go_upto_if 13 with fail
  go_cut [5] (fun s5 wx => s5 = .int .i64 (nOf ds) ∧ wx = w.alloc (.cells #[.slice none 0 0, .slice none 0 0] 29))
  case first =>
    by_cases h0 : 0 < nd
    · obtain ⟨b, off, u, rfl, hbB, hx, hcell⟩ := hd.at_ h0
      simp only [List.getElem?_map, Option.map_eq_some_iff] at hx
      obtain ⟨x, hx, rfl⟩ := hx
      obtain ⟨x1, x2⟩ := hyd.at_ hx
      have HX := Lib.hid hx
      clear hx
      unfold U at hcell
      have hbw : b < w.heap.size := by omega
      have hcell2 : w.cell? ⟨b, off, none⟩ = some (.int .u8 x) := hcell
      clear hcell
      go_wp2_with fail
      go_meet
      refine ⟨?_, rfl⟩
      have := HX.out
      cases ds with
      | nil => simp at this
      | cons d ds =>
        simp at this
        subst this
        simp [nOf]
        omega
    · go_wp2_with fail
      go_meet
      refine ⟨?_, rfl⟩
      cases ds with
      | nil => rfl
      | cons d ds => simp at hl; omega
  case rest =>
    obtain ⟨rfl, rfl⟩ := hcut
    generalize nOf ds = N at *
    have hmk := HMK.out
    have HB0 := Lib.hid (show ∀ o, Below w.heap.size w (w.alloc o).drew from fun o => ((Below.refl _ w).alloc (Nat.le_refl _) o).drew)
    go_wp2_with fail
    go_upto_region 4 with fail
    go_cut [6] (fun s6 wx => InstCut N w s6 wx)
    case first =>
      go_region_with (first
        | (go_at_call 47; refine (Arcs_any A n c B N cs _ (by first | exact hr.below ((HB0.out _).mono hB) | exact hr.below (((HB0.out _).mono hB).alloc (by simp; omega) _) | exact hr.below ((((HB0.out _).mono hB).alloc (by simp; omega) _).alloc (by simp; omega) _)) hy (by simp; omega) hn hN0 (by omega)).mono ?_; rintro e w1 ⟨A', m, ca, arcs, rfl, hown, hft, hm18, hb1⟩; have hsz1 := hb1.size; simp only [World.size_drew, World.size_alloc] at hsz1; (try have zz := box_kept hb1 (ib := w.heap.size + 1) (Blk.drew (blk_newN _ _ _ _ (World.size_alloc _ _)))); (try have zz := box_kept hb1 (ib := w.heap.size + 1) (Blk.drew ((blk_newN _ _ _ _ (World.size_alloc _ _)).alloc _))); (try have zz := box_kept hb1 (ib := w.heap.size + 1 + 1) (Blk.drew (blk_newN _ _ _ _ ((World.size_alloc _ _).trans (congrArg (· + 1) (World.size_alloc _ _))))))))
      all_goals go_wp2_with fail
      all_goals go_meet
      · exact inst_cut (((Below.refl _ w).alloc (Nat.le_refl _) _).alloc (by simp) _).drew ((Blk.new w 29 _).alloc _).drew hb1 hown hft hm18 (Blk.new w1 29 _) (((blk_newN _ _ _ _ (World.size_alloc _ _)).drew.below hb1 (by simp)).alloc _) ((Kept.refl _ w1).alloc _) (by omega) (by omega) (.inr (Nat.le_refl _))
      · refine inst_cut ((((Below.refl _ w).alloc (Nat.le_refl _) _).alloc (by simp) _).alloc (by simp; omega) _).drew (((Blk.new w 29 _).alloc _).alloc _).drew hb1 hown hft hm18 ?_ (((((blk_newN _ _ _ _ (World.size_alloc _ _)).alloc _).drew.below hb1 (by simp)).far (p := ⟨w.heap.size + 1 + 1, 0, none⟩) (by simp) _).far (p := ⟨w.heap.size + 1 + 1, 1, none⟩) (by simp) _) (((Kept.refl (fun b => b = w.heap.size + 1 + 1) w1).setCell (p := ⟨w.heap.size + 1 + 1, 0, none⟩) (fun _ => rfl) _).setCell (p := ⟨w.heap.size + 1 + 1, 1, none⟩) (fun _ => rfl) _) (by omega) (by omega) (.inl (by simp))
        have := (((blk_newN _ _ _ _ ((World.size_alloc _ _).trans (congrArg (· + 1) (World.size_alloc _ _)))).drew.below hb1 (by simp)).set_ 0 (.slice (some ⟨w.heap.size + 1, 0, none⟩) N N)).set_ 1 (.slice A' m ca)
        exact this
      · exact inst_cut ((Below.refl _ w).alloc (Nat.le_refl _) _).drew (Blk.new w 29 _).drew hb1 hown hft hm18 (blk_newN _ _ _ _ (World.size_alloc _ _)) ((Blk.new w1 2 _).alloc _) (((Kept.refl _ w1).alloc _).alloc _) (by omega) (by omega) (.inr (by omega))
      · exact inst_cut ((Below.refl _ w).alloc (Nat.le_refl _) _).drew (Blk.new w 29 _).drew hb1 hown hft hm18 ((Blk.new w1 29 _).alloc _) (blk_newN _ _ _ _ (World.size_alloc _ _)) (((Kept.refl _ w1).alloc _).alloc _) (by omega) (by omega) (.inr (by omega))
      · refine inst_cut ((((Below.refl _ w).alloc (Nat.le_refl _) _).alloc (by simp) _).alloc (by simp; omega) _).drew (((Blk.new w 29 _).alloc _).alloc _).drew hb1 hown hft hm18 ?_ ((((blk_newN _ _ _ _ ((World.size_alloc _ _).trans (congrArg (· + 1) (World.size_alloc _ _)))).drew.below hb1 (by simp)).far (p := ⟨w.heap.size + 1, 0, none⟩) (by simp) _).far (p := ⟨w.heap.size + 1, 1, none⟩) (by simp) _) (((Kept.refl (fun b => b = w.heap.size + 1) w1).setCell (p := ⟨w.heap.size + 1, 0, none⟩) (fun _ => rfl) _).setCell (p := ⟨w.heap.size + 1, 1, none⟩) (fun _ => rfl) _) (by omega) (by omega) (.inl (by simp))
        have := ((((blk_newN _ _ _ _ (World.size_alloc _ _)).alloc _).drew.below hb1 (by simp)).set_ 0 (.slice (some ⟨w.heap.size + 1 + 1, 0, none⟩) N N)).set_ 1 (.slice A' m ca)
        exact this
      · refine inst_cut (((Below.refl _ w).alloc (Nat.le_refl _) _).alloc (by simp) _).drew ((Blk.new w 29 _).alloc _).drew hb1 hown hft hm18 ?_ (blk_newN _ _ _ w1.heap.size (by simp [World.setCell])) ((((Kept.refl (fun b => b = w.heap.size + 1) w1).setCell (p := ⟨w.heap.size + 1, 0, none⟩) (fun _ => rfl) _).setCell (p := ⟨w.heap.size + 1, 1, none⟩) (fun _ => rfl) _).alloc _) (by omega) (by omega) (.inl (by simp))
        have := ((((blk_newN _ _ _ _ (World.size_alloc _ _)).drew.below hb1 (by simp)).set_ 0 (.slice (some ⟨w1.heap.size, 0, none⟩) N N)).set_ 1 (.slice A' m ca)).alloc (.cells (ints (List.replicate N 0)) 2)
        exact this
    case rest =>
      obtain ⟨ib, sb, m, ca, A', sup, arcs, rfl, hib, hres, hI, hS⟩ := hcut
      have hm18 := hI.m18
      have HFIT := Lib.hid hI.ab
      have HS := Lib.hid hS
      clear hS
      have q1 := hI.i.cell 1
      simp only [List.getElem?_toArray, List.getElem?_cons_zero, List.getElem?_cons_succ] at q1
      clear hmk
      go_wp2_with fail
      go_loopw [7] (fun i wr => ∃ (k : Nat) (sup : List Int), k ≤ m ∧ i = .int .i64 k ∧ Blk wr w.heap.size 29 #[.slice none 0 0, .slice none 0 0] ∧ InstMid N w ib sb m ca A' sup arcs wr ∧ Hid (SupB (5 * k) sup)) (fun i _ => m - (intOf i).toNat)
      case atStart => exact ⟨0, sup, Nat.zero_le _, rfl, hres, hI, HS⟩
      case round =>
        clear hres hI q1 HS
        obtain ⟨k, sup, hk, rfl, hres, hI, HS⟩ := hrel
        have q0 := hI.i.cell 0
        have q1 := hI.i.cell 1
        simp only [List.getElem?_toArray, List.getElem?_cons_zero, List.getElem?_cons_succ] at q0 q1
        have lib := hI.i.lt
        have lsb := hI.s.lt
        by_cases hlt : k < m
        · obtain ⟨x, hx⟩ : ∃ x, arcs[k]? = some x := ⟨_, List.getElem?_eq_getElem (by rw [hI.len]; exact hlt)⟩
          have hxB := HFIT.out x (List.mem_of_getElem? hx)
          obtain ⟨f1, f2, f3, f4⟩ : 0 ≤ x.f ∧ x.f < N ∧ 0 ≤ x.t ∧ x.t < N := ⟨hxB.f0, hxB.f1, hxB.t0, hxB.t1⟩
          have hlc : 0 ≤ x.lo ∧ x.lo ≤ 2 ∧ x.lo ≤ x.cap := ⟨hxB.l0, hxB.l1, hxB.k0⟩
          clear hxB
          obtain ⟨b, off, rfl, hb, e0, e1, e2, e3, e4⟩ := (Reads.of_own hI.a).arc hx
          obtain ⟨nf, hnf⟩ := Int.eq_ofNat_of_zero_le f1
          obtain ⟨nt, hnt⟩ := Int.eq_ofNat_of_zero_le f3
          rw [hnf] at e0 f2
          rw [hnt] at e1 f4
          have hfN : nf < N := by omega
          have htN : nt < N := by omega
          clear hnf hnt f1 f2 f3 f4 hx
          obtain ⟨xlo, hxlo⟩ : ∃ v, v = x.lo := ⟨_, rfl⟩
          obtain ⟨xcap, hxcap⟩ : ∃ v, v = x.cap := ⟨_, rfl⟩
          obtain ⟨xcost, hxcost⟩ : ∃ v, v = x.cost := ⟨_, rfl⟩
          rw [← hxlo] at e2 hlc
          rw [← hxcap] at e3 hlc
          have HLC := Lib.hid hlc
          clear hlc
          rw [← hxcost] at e4
          clear hxlo hxcap hxcost
          go_upto_if 44 with fail
          have hI1 := hI.below ((Below.refl _ wr).alloc (Nat.le_refl _) (.cells #[.int .i64 (nf : Int), .int .i64 (nt : Int), .int .i64 xlo, .int .i64 xcap, .int .i64 xcost] 42))
          have hres1 := hres.alloc (.cells #[.int .i64 (nf : Int), .int .i64 (nt : Int), .int .i64 xlo, .int .i64 xcap, .int .i64 xcost] 42)
          have hab : Blk (wr.alloc (.cells #[.int .i64 (nf : Int), .int .i64 (nt : Int), .int .i64 xlo, .int .i64 xcap, .int .i64 xcost] 42)) wr.heap.size 42 #[.int .i64 (nf : Int), .int .i64 (nt : Int), .int .i64 xlo, .int .i64 xcap, .int .i64 xcost] := Blk.new _ _ _
          generalize wr.alloc (.cells #[.int .i64 (nf : Int), .int .i64 (nt : Int), .int .i64 xlo, .int .i64 xcap, .int .i64 xcost] 42) = W at *
          clear e0 e1 e2 e3 e4 q0 q1 hres hI hb
          go_cut [9] (fun s9 wx => ∃ (v : Int) (q : Nat), s9 = .int .i64 v ∧ wx = W.drewN q ∧ 0 ≤ v ∧ v ≤ 5)
          case first =>
            by_cases hkd : k + 1 < nd
            · obtain ⟨b1, off1, u, rfl, hbB, hx, hcell⟩ := ((hd.more hB).below hI1.b).at_ hkd
              simp only [List.getElem?_map, Option.map_eq_some_iff] at hx
              obtain ⟨y, hx, rfl⟩ := hx
              obtain ⟨y1, y2⟩ := hyd.at_ hx
              clear hx
              unfold U at hcell
              have p2 := hab.cell 2
              have p3 := hab.cell 3
              simp only [List.getElem?_toArray, List.getElem?_cons_zero, List.getElem?_cons_succ] at p2 p3
              have j1 : decide ((k : Int) + 1 < nd) = true := by simp; omega
              have j3 : (k : Int) + 1 < nd := by omega
              have j5 : (0 : Int) ≤ (k : Int) + 1 := by omega
              have s1 : IntKind.i64.wrap ((k : Int) + 1) = (k : Int) + 1 := IntWalk.i64_in _ (by omega)
              have s3 : ((k : Int) + 1).toNat = k + 1 := by omega
              go_wp2_with fail
              go_quiet (fail)
              all_goals go_wp2_with fail
              all_goals go_meet
              all_goals
                have := HLC.out
                refine ⟨_, _, rfl, rfl, ?_, ?_⟩
              all_goals
                rw [IntWalk.wrap64_in (xlo + y % 4) (by omega)]
                omega
            · have j1 : decide ((k : Int) + 1 < nd) = false := by simp; omega
              go_wp2_with fail
              go_meet
              have := HLC.out
              exact ⟨_, 0, rfl, rfl, by omega, by omega⟩
          case rest =>
            obtain ⟨v, q, rfl, rfl, hv⟩ := hcut
            have HV := Lib.hid hv
            clear hv
            have hI2 : InstMid N w ib sb m ca (some ⟨b, off, none⟩) sup arcs (W.drewN q) := hI1.below (below_dN _ _)
            have hab2 := hab.drewN q
            have hres2 := hres1.drewN q
            generalize W.drewN q = W2 at *
            clear hI1 hab hres1
            obtain ⟨y1, hy1⟩ : ∃ y, sup[nf]? = some y := ⟨_, List.getElem?_eq_getElem (by rw [hI2.sl]; exact hfN)⟩
            have p0 := hab2.cell 0
            have p1 := hab2.cell 1
            have q0 := hI2.i.cell 0
            simp only [List.getElem?_toArray, List.getElem?_cons_zero, List.getElem?_cons_succ] at p0 p1 q0
            have r0 : W2.cell? ⟨sb, nf, none⟩ = some (.int .i64 y1) := (hI2.s.cell nf).trans (ints_at hy1)
            have g0 := hI2.s.frozen nf
            obtain ⟨y2, hy2⟩ : ∃ y, (sup.set nf (wrap64 (y1 + v)))[nt]? = some y := ⟨_, List.getElem?_eq_getElem (by rw [List.length_set, hI2.sl]; exact htN)⟩
            have hI3 := hI2.set nf (wrap64 (y1 + v))
            have r1 : (W2.setCell ⟨sb, nf, none⟩ (.int .i64 (wrap64 (y1 + v)))).cell? ⟨sb, nt, none⟩ = some (.int .i64 y2) := (hI3.s.cell nt).trans (ints_at hy2)
            have g1 := hI3.s.frozen nt
            have n1 : ¬ wr.heap.size = sb := by omega
            have n2 : ¬ sb = wr.heap.size := by omega
            have n3 : ¬ ib = sb := hI2.i.ne_ hI2.s (by decide)
            have n4 : ¬ sb = ib := fun e => n3 e.symm
            have n5 : w.heap.size ≠ sb := hres2.ne_ hI2.s (by decide)
            have hI4 := hI3.set nt (wrap64 (y2 - v))
            have hres4 := (hres2.far (p := ⟨sb, nf, none⟩) n5 (.int .i64 (wrap64 (y1 + v)))).far (p := ⟨sb, nt, none⟩) n5 (.int .i64 (wrap64 (y2 - v)))
            have HS4 := Lib.hid (HS.out.move (by have := hI4.m18; omega) HV.out hy1 hy2)
            have HI4 := Lib.hid (And.intro hI4 hres4)
            clear hI2 hI3 hI4 hab2 hres2 hres4 hy1 hy2
            go_wp2_with fail
            go_roundw
            case rel => exact ⟨k + 1, _, by omega, by go_num, HI4.out.2, HI4.out.1, Lib.hid (HS4.out.mono (by omega))⟩
            case measure => simp [intOf]; omega
        · have hkm : k = m := by omega
          clear hkm
          by_cases h1 : 1 < nd
          · have d1 : decide (1 < nd) = true := by simpa using h1
            obtain ⟨b1, off1, u, rfl, hbB, hx, hcell⟩ := ((hd.more hB).below hI.b).at_ (k := nd - 1) (by omega)
            obtain ⟨b2, off2, u2, hbe, hbB2, hx2, hcell2⟩ := ((hd.more hB).below hI.b).at_ (k := 1) (by omega)
            injection hbe with hbe
            injection hbe with hbe1 hbe2
            subst hbe1 hbe2
            simp only [List.getElem?_map, Option.map_eq_some_iff] at hx hx2
            obtain ⟨y, hx, rfl⟩ := hx
            obtain ⟨y2, hx2, rfl⟩ := hx2
            obtain ⟨ya, yb⟩ := hyd.at_ hx
            obtain ⟨yc, yd⟩ := hyd.at_ hx2
            clear hx hx2
            unfold U at hcell hcell2
            obtain ⟨nl, hnl⟩ : ∃ nl, nd = nl + 1 := ⟨nd - 1, by omega⟩
            subst hnl
            simp only [Nat.add_sub_cancel] at hcell
            by_cases h5 : y % 5 = 0
            · have z5 : (y % 5 == 0) = true := by simpa using h5
              clear h5
              obtain ⟨Nn, hNn⟩ : ∃ Nn, N = Nn + 1 := ⟨N - 1, by omega⟩
              subst hNn
              have q0 := hI.i.cell 0
              simp only [List.getElem?_toArray, List.getElem?_cons_zero, List.getElem?_cons_succ] at q0
              obtain ⟨a1, ha1⟩ : ∃ y, sup[0]? = some y := ⟨_, List.getElem?_eq_getElem (by rw [hI.sl]; omega)⟩
              have r0 : wr.cell? ⟨sb, 0, none⟩ = some (.int .i64 a1) := (hI.s.cell 0).trans (ints_at ha1)
              have t0 := hI.s.frozen 0
              have hI3 := hI.set 0 (wrap64 (a1 + y2 % 3))
              obtain ⟨a2, ha2⟩ : ∃ y, (sup.set 0 (wrap64 (a1 + y2 % 3)))[Nn]? = some y := ⟨_, List.getElem?_eq_getElem (by rw [List.length_set, hI.sl]; omega)⟩
              have r1 : (wr.setCell ⟨sb, 0, none⟩ (.int .i64 (wrap64 (a1 + y2 % 3)))).cell? ⟨sb, Nn, none⟩ = some (.int .i64 a2) := (hI3.s.cell Nn).trans (ints_at ha2)
              have t1 := hI3.s.frozen Nn
              have hI4 := hI3.set Nn (wrap64 (a2 - y2 % 3))
              have n3 : ¬ ib = sb := hI.i.ne_ hI.s (by decide)
              have n4 : ¬ sb = ib := fun e => n3 e.symm
              have n5 : w.heap.size ≠ sb := hres.ne_ hI.s (by decide)
              have n6 : ¬ sb = w.heap.size := fun e => n5 e.symm
              have hres4 := (hres.far (p := ⟨sb, 0, none⟩) n5 (.int .i64 (wrap64 (a1 + y2 % 3)))).far (p := ⟨sb, Nn, none⟩) n5 (.int .i64 (wrap64 (a2 - y2 % 3)))
              have ZC := Lib.hid (res_cells hres4 (.slice (some ⟨sb, 0, none⟩) (Nn + 1) (Nn + 1)) (.slice A' m ca))
              have g0 := hres4.cell 0
              have g1 := hres4.cell 1
              simp only [List.getElem?_toArray, List.getElem?_cons_zero, List.getElem?_cons_succ] at g0 g1
              have f0 := hres4.frozen 0
              have f1 := hres4.frozen 1
              have HS4 := Lib.hid (HS.out.move (by have := hI4.m18; omega) (by omega) ha1 ha2)
              have HI4 := Lib.hid (And.intro hI4 hres4)
              clear hI3 hI4 hres4 ha1 ha2
              go_wp2_with fail
              exact bodyPost_ret (v := .agg #[.slice (some ⟨sb, 0, none⟩) (Nn + 1) (Nn + 1), .slice A' m ca]) (by simp [results, Tryz.results29, go_sem, ZC.out.1, ZC.out.2]) rfl ⟨ib, sb, m, ca, A', _, arcs, rfl, (HI4.out.1.res hib HI4.out.2 0 _).res hib (HI4.out.2.set_ 0 _) 1 _, HS4.out.mono (by have := HI4.out.1.m18; omega)⟩
            · have z5 : (y % 5 == 0) = false := by simpa using h5
              clear h5
              have ZC := Lib.hid (res_cells hres (.slice (some ⟨sb, 0, none⟩) N N) (.slice A' m ca))
              have g0 := hres.cell 0
              have g1 := hres.cell 1
              simp only [List.getElem?_toArray, List.getElem?_cons_zero, List.getElem?_cons_succ] at g0 g1
              have f0 := hres.frozen 0
              have f1 := hres.frozen 1
              go_wp2_with fail
              exact bodyPost_ret (v := .agg #[.slice (some ⟨sb, 0, none⟩) N N, .slice A' m ca]) (by simp [results, Tryz.results29, go_sem, ZC.out.1, ZC.out.2]) rfl ⟨ib, sb, m, ca, A', _, arcs, rfl, (hI.res hib hres 0 _).res hib (hres.set_ 0 _) 1 _, HS.out.mono (by have := hI.m18; omega)⟩
          · have d1 : decide (1 < nd) = false := by simpa using h1
            have ZC := Lib.hid (res_cells hres (.slice (some ⟨sb, 0, none⟩) N N) (.slice A' m ca))
            have g0 := hres.cell 0
            have g1 := hres.cell 1
            simp only [List.getElem?_toArray, List.getElem?_cons_zero, List.getElem?_cons_succ] at g0 g1
            have f0 := hres.frozen 0
            have f1 := hres.frozen 1
            go_wp2_with fail
            exact bodyPost_ret (v := .agg #[.slice (some ⟨sb, 0, none⟩) N N, .slice A' m ca]) (by simp [results, Tryz.results29, go_sem, ZC.out.1, ZC.out.2]) rfl ⟨ib, sb, m, ca, A', _, arcs, rfl, (hI.res hib hres 0 _).res hib (hres.set_ 0 _) 1 _, HS.out.mono (by have := hI.m18; omega)⟩

end Go.Proofs.YtoagphighgejnaaGreatDoor
