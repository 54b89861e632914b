/- The makers of the laws: Flow (21), Pot (22), Marks (23). Conditions: none. -/
import Derived.Test.YtpfbgoogajgciaaGreatDoorL2
set_option linter.unusedSimpArgs false
set_option linter.unusedVariables false
namespace Go.Proofs.YtpfbgoogajgciaaGreatDoor
open Go.RowKit Go.Shelf

/-- numbers that were made anew -/
def NewNums (B : Nat) (T : TypeId) (f : Int → Value) (lo hi : Int) (m : Nat) (w : World) (e : Ending) (w' : World) : Prop :=
  ∃ (A : Option Addr) (c : Nat) (xs : List Int), e = .returned (.slice A xs.length c) ∧ w'.ownsRow B T 1 (.slice A xs.length c) xs.length (xs.map f) ∧ xs.length ≤ m ∧ (∀ x ∈ xs, lo ≤ x ∧ x ≤ hi) ∧ Below B w w'

set_option maxRecDepth 100000 in
set_option maxHeartbeats 4000000 in
theorem Flow_in (A1 A2 D : Option Addr) (n c1 m c2 nd cd N : Nat) (arcs : List ArcV) (ds : List Int) (w : World) (hr : Reads w w.heap.size 5 A2 m (arcCells arcs)) (hab : ∀ x ∈ arcs, ArcB N x) (hm : m ≤ 18)
    (hd : Reads w w.heap.size 1 D nd (ds.map U)) (hyd : Byt ds) (hnd : nd ≤ 9223372036854775807) :
    Calls Tryz.prog 21 #[.agg #[.slice A1 n c1, .slice A2 m c2], .slice D nd cd] w (NewNums w.heap.size 2 I 0 5 18 w) := by
  have hl : arcs.length ≤ m ∧ m ≤ arcs.length := by have := hr.1; rw [arcCells_length] at this; omega
  obtain ⟨i0, hi, hz0, hz1, hz2⟩ := info_parts info2
  have hbx : Blk (w.alloc (.cells #[.slice A1 n c1, .slice A2 m c2] 38)) w.heap.size 38 #[.slice A1 n c1, .slice A2 m c2] := Blk.new _ _ _
  have hb0 : Below w.heap.size w (w.alloc (.cells #[.slice A1 n c1, .slice A2 m c2] 38)) := (Below.refl _ w).alloc (Nat.le_refl _) _
  have hr0 := (hr.below hb0).more hb0.size
  have hd0 := (hd.below hb0).more hb0.size
  have HAB := Lib.hid hab
  clear hab
  go_enter Tryz.func21, Tryz.ntmps21
  go_wp2_with fail
  generalize w.alloc (.cells #[.slice A1 n c1, .slice A2 m c2] 38) = W at *
  have hsW : w.heap.size < W.heap.size := hbx.lt
  go_loopw [5, 6] (fun v i wr => ∃ (k : Nat) (xs : List Int), k ≤ m ∧ i = .int .i64 k ∧ Hid (xs.length = k) ∧ wr.ownsRow W.heap.size 2 1 v k (xs.map I) ∧ Hid (∀ x ∈ xs, 0 ≤ x ∧ x ≤ 5) ∧ Below W.heap.size W wr) (fun _ i _ => m - (intOf i).toNat)
  case atStart => exact ⟨0, [], Nat.zero_le _, rfl, Lib.hid rfl, World.ownsRow_nil _ _ _ _, Lib.hid (by simp), Below.refl _ _⟩
  case round =>
    obtain ⟨k, xs, hk, rfl, HK, hown, HX, hbw⟩ := hrel
    have q1 : wr.cell? ⟨w.heap.size, 1, none⟩ = some (.slice A2 m c2) := (hbw.cell (p := ⟨w.heap.size, 1, none⟩) hsW).trans (hbx.cell 1)
    have hsz := hbw.size
    have lbx : w.heap.size < wr.heap.size := by omega
    by_cases hlt : k < m
    · obtain ⟨x, hx⟩ : ∃ x, arcs[k]? = some x := ⟨_, List.getElem?_eq_getElem (by omega)⟩
      have hxB := HAB.out x (List.mem_of_getElem? hx)
      have hlc : 0 ≤ x.lo ∧ x.lo ≤ 2 ∧ x.lo ≤ x.cap := ⟨hxB.l0, hxB.l1, hxB.k0⟩
      obtain ⟨b, off, rfl, hb, e0, e1, e2, e3, e4⟩ := (hr0.below hbw).arc hx
      clear hxB hx
      obtain ⟨xf, xt, xlo, xcap, xcost⟩ := x
      simp only at e0 e1 e2 e3 e4 hlc
      have HLC := Lib.hid hlc
      clear hlc
      go_upto_if 27 with fail
      have hab : Blk (wr.alloc (.cells #[.int .i64 xf, .int .i64 xt, .int .i64 xlo, .int .i64 xcap, .int .i64 xcost] 58)) wr.heap.size 58 #[.int .i64 xf, .int .i64 xt, .int .i64 xlo, .int .i64 xcap, .int .i64 xcost] := Blk.new _ _ _
      have hb1 : Below wr.heap.size wr (wr.alloc (.cells #[.int .i64 xf, .int .i64 xt, .int .i64 xlo, .int .i64 xcap, .int .i64 xcost] 58)) := (Below.refl _ wr).alloc (Nat.le_refl _) _
      generalize wr.alloc (.cells #[.int .i64 xf, .int .i64 xt, .int .i64 xlo, .int .i64 xcap, .int .i64 xcost] 58) = W2 at *
      clear e0 e1 e2 e3 e4 q1
      go_cut [8] (fun s8 wx => ∃ (v : Int) (q : Nat), s8 = .int .i64 v ∧ wx = W2.drewN q ∧ 0 ≤ v ∧ v ≤ 5)
      case first =>
        by_cases hkd : k + 1 < nd
        · obtain ⟨b1, off1, u, rfl, hbB, hx, hcell⟩ := ((hd0.below hbw).more hsz |>.below hb1).at_ hkd
          simp only [List.getElem?_map, Option.map_eq_some_iff] at hx
          obtain ⟨y, hx, rfl⟩ := hx
          obtain ⟨y1, y2⟩ := hyd.at_ hx
          clear hx
          unfold U at hcell
          have p2 := hab.cell 2
          have p3 := hab.cell 3
          simp only [List.getElem?_toArray, List.getElem?_cons_zero, List.getElem?_cons_succ] at p2 p3
          have j1 : decide ((k : Int) + 1 < nd) = true := by simp; omega
          have j3 : (k : Int) + 1 < nd := by omega
          have j5 : (0 : Int) ≤ (k : Int) + 1 := by omega
          have s1 : IntKind.i64.wrap ((k : Int) + 1) = (k : Int) + 1 := IntWalk.i64_in _ (by omega)
          have s3 : ((k : Int) + 1).toNat = k + 1 := by omega
          go_wp2_with fail
          go_quiet (fail)
          all_goals go_wp2_with fail
          all_goals go_meet
          all_goals
            have := HLC.out
            refine ⟨_, _, rfl, rfl, ?_, ?_⟩
          all_goals
            rw [IntWalk.wrap64_in (xlo + y % 4) (by omega)]
            omega
        · have j1 : decide ((k : Int) + 1 < nd) = false := by simp; omega
          go_wp2_with fail
          go_meet
          have := HLC.out
          exact ⟨_, 0, rfl, rfl, by omega, by omega⟩
      case rest =>
        obtain ⟨v, q, rfl, rfl, hv⟩ := hcut
        have HV := Lib.hid hv
        clear hv
        have hb2 : Below wr.heap.size wr (W2.drewN q) := hb1.trans ((below_dN _ _).mono hb1.size)
        have hown1 := own_below hown hb2
        have hbw1 := hbw.trans (hb2.mono hsz)
        generalize W2.drewN q = W3 at *
        have hsz1 := hbw1.size
        go_wp2_with (at_builtin; refine wpList_append_own _ rfl _ _ 28 rfl W.heap.size 2 i0 (.int .i64 0) 1 8 Tryz.underlying28 hi hz0 hz1 hz2 rfl (by decide) _ _ _ rfl (hown1.alloc _) ⟨W3.heap.size, 0, none⟩ 1 1 [.int .i64 v] rfl rfl ?c1 ?c2 ?c3 ?c4 ?c5 ?_)
        case c1 => exact cell_one_new _ _ _
        case c2 => simp [Value.oneCell']
        case c3 => unfold maxLen; omega
        case c4 => omega
        case c5 => simp; omega
        intro v' w1 hown' hgrow _
        go_wp2_with fail
        go_roundw
        case rel =>
          refine ⟨k + 1, xs ++ [v], by omega, by go_num, Lib.hid (by have := HK.out; simp [this]), by simpa [I] using hown', Lib.hid ?_, ?_⟩
          · intro z hz
            rcases List.mem_append.1 hz with hz | hz
            · exact HX.out z hz
            · rw [List.mem_singleton.1 hz]; exact HV.out
          · exact (hbw1.alloc hsz1 _).grown hgrow (by simp; omega) (fun j hj => (hown1.lt j hj).1)
        case measure => simp [intOf]; omega
    · go_wp2_with fail
      go_ret
      obtain ⟨A', c', rfl⟩ := own_form hown
      obtain rfl := HK.out
      exact ⟨A', c', xs, rfl, own_mono hown hb0.size, by omega, HX.out, hb0.trans (hbw.mono hb0.size)⟩

set_option maxRecDepth 100000 in
set_option maxHeartbeats 4000000 in
theorem Pot_in (D : Option Addr) (nd cd N : Nat) (ds : List Int) (w : World) (hN : N ≤ 100) (hd : Reads w w.heap.size 1 D nd (ds.map U)) (hyd : Byt ds) (hnd : nd ≤ 9223372036854775807) :
    Calls Tryz.prog 22 #[.slice D nd cd, .int .i64 (N : Int)] w (NewNums w.heap.size 2 I (-8) 16 N w) := by
  obtain ⟨i0, hi, hz0, hz1, hz2⟩ := info_parts info2
  go_enter Tryz.func22, Tryz.ntmps22
  go_wp2_with fail
  go_loopw [5, 6] (fun v i wr => ∃ (k : Nat) (xs : List Int), k ≤ N ∧ i = .int .i64 k ∧ Hid (xs.length = k) ∧ wr.ownsRow w.heap.size 2 1 v k (xs.map I) ∧ Hid (∀ x ∈ xs, -8 ≤ x ∧ x ≤ 16) ∧ Below w.heap.size w wr) (fun _ i _ => N - (intOf i).toNat)
  case atStart => exact ⟨0, [], Nat.zero_le _, rfl, Lib.hid rfl, World.ownsRow_nil _ _ _ _, Lib.hid (by simp), Below.refl _ _⟩
  case round =>
    obtain ⟨k, xs, hk, rfl, HK, hown, HX, hbw⟩ := hrel
    have hsz := hbw.size
    by_cases hlt : k < N
    · go_upto_if 16 with fail
      go_cut [7] (fun s7 wx => ∃ (v : Int), s7 = .int .i64 v ∧ wx = wr ∧ -8 ≤ v ∧ v ≤ 16)
      case first =>
        by_cases hkd : k < nd
        · obtain ⟨b1, off1, u, rfl, hbB, hx, hcell⟩ := (hd.below hbw).at_ hkd
          simp only [List.getElem?_map, Option.map_eq_some_iff] at hx
          obtain ⟨y, hx, rfl⟩ := hx
          obtain ⟨y1, y2⟩ := hyd.at_ hx
          clear hx
          unfold U at hcell
          go_wp2_with fail
          go_meet
          refine ⟨_, rfl, rfl, ?_, ?_⟩
          all_goals
            skip
            omega
        · go_wp2_with fail
          go_meet
          exact ⟨_, rfl, rfl, by omega, by omega⟩
      case rest =>
        obtain ⟨v, rfl, rfl, hv⟩ := hcut
        have HV := Lib.hid hv
        clear hv
        go_wp2_with (at_builtin; refine wpList_append_own _ rfl _ _ 28 rfl w.heap.size 2 i0 (.int .i64 0) 1 8 Tryz.underlying28 hi hz0 hz1 hz2 rfl (by decide) _ _ _ rfl (hown.alloc _) ⟨wc.heap.size, 0, none⟩ 1 1 [.int .i64 v] rfl rfl ?c1 ?c2 ?c3 ?c4 ?c5 ?_)
        case c1 => exact cell_one_new _ _ _
        case c2 => simp [Value.oneCell']
        case c3 => unfold maxLen; omega
        case c4 => omega
        case c5 => simp; omega
        intro v' w1 hown' hgrow _
        go_wp2_with fail
        go_roundw
        case rel =>
          refine ⟨k + 1, xs ++ [v], by omega, by go_num, Lib.hid (by have := HK.out; simp [this]), by simpa [I] using hown', Lib.hid ?_, ?_⟩
          · intro z hz
            rcases List.mem_append.1 hz with hz | hz
            · exact HX.out z hz
            · rw [List.mem_singleton.1 hz]; exact HV.out
          · exact (hbw.alloc hsz _).grown hgrow (by simp; omega) (fun j hj => (hown.lt j hj).1)
        case measure => simp [intOf]; omega
    · go_wp2_with fail
      go_ret
      obtain ⟨A', c', rfl⟩ := own_form hown
      obtain rfl := HK.out
      exact ⟨A', c', xs, rfl, hown, by omega, HX.out, hbw⟩

theorem Bv_of (b : Bool) : Bv (if b then 1 else 0) = .bool b := by cases b <;> rfl

set_option maxRecDepth 100000 in
set_option maxHeartbeats 4000000 in
theorem Marks_in (D : Option Addr) (nd cd N : Nat) (ds : List Int) (w : World) (hN : N ≤ 100) (hd : Reads w w.heap.size 1 D nd (ds.map U)) (hyd : Byt ds) (hnd : nd ≤ 9223372036854775807) :
    Calls Tryz.prog 23 #[.slice D nd cd, .int .i64 (N : Int)] w (NewNums w.heap.size 4 Bv 0 1 N w) := by
  obtain ⟨i0, hi, hz0, hz1, hz2⟩ := info_parts info4
  go_enter Tryz.func23, Tryz.ntmps23
  go_wp2_with fail
  go_loopw [5, 6] (fun v i wr => ∃ (k : Nat) (xs : List Int), k ≤ N ∧ i = .int .i64 k ∧ Hid (xs.length = k) ∧ wr.ownsRow w.heap.size 4 1 v k (xs.map Bv) ∧ Hid (∀ x ∈ xs, 0 ≤ x ∧ x ≤ 1) ∧ Below w.heap.size w wr) (fun _ i _ => N - (intOf i).toNat)
  case atStart => exact ⟨0, [], Nat.zero_le _, rfl, Lib.hid rfl, World.ownsRow_nil _ _ _ _, Lib.hid (by simp), Below.refl _ _⟩
  case round =>
    obtain ⟨k, xs, hk, rfl, HK, hown, HX, hbw⟩ := hrel
    have hsz := hbw.size
    have hend : NewNums w.heap.size 4 Bv 0 1 N w (.returned u5) wr := by
      obtain ⟨A', c', rfl⟩ := own_form hown
      obtain rfl := HK.out
      exact ⟨A', c', xs, rfl, hown, by omega, HX.out, hbw⟩
    have HE := Lib.hid hend
    clear hend
    by_cases hlt : k < N
    · by_cases hkd : k < nd
      · obtain ⟨b1, off1, u, rfl, hbB, hx, hcell⟩ := (hd.below hbw).at_ hkd
        simp only [List.getElem?_map, Option.map_eq_some_iff] at hx
        obtain ⟨y, hx, rfl⟩ := hx
        obtain ⟨y1, y2⟩ := hyd.at_ hx
        clear hx
        unfold U at hcell
        go_wp2_with (at_builtin; refine wpList_append_own _ rfl _ _ 29 rfl w.heap.size 4 i0 (.bool false) 1 1 Tryz.underlying29 hi hz0 hz1 hz2 rfl (by decide) _ _ _ rfl (hown.alloc _) ⟨wr.heap.size, 0, none⟩ 1 1 [.bool (y % 3 == 0)] rfl rfl ?c1 ?c2 ?c3 ?c4 ?c5 ?_)
        case c1 => exact cell_one_new _ _ _
        case c2 => simp [Value.oneCell']
        case c3 => unfold maxLen; omega
        case c4 => omega
        case c5 => simp; omega
        intro v' w1 hown' hgrow _
        go_wp2_with fail
        go_roundw
        case rel =>
          refine ⟨k + 1, xs ++ [if (y % 3 == 0) then 1 else 0], by omega, by go_num, Lib.hid (by have := HK.out; simp [this]), by rw [List.map_append, List.map_singleton, Bv_of]; exact hown', Lib.hid ?_, ?_⟩
          · intro z hz
            rcases List.mem_append.1 hz with hz | hz
            · exact HX.out z hz
            · rw [List.mem_singleton.1 hz]; split <;> omega
          · exact (hbw.alloc hsz _).grown hgrow (by simp; omega) (fun j hj => (hown.lt j hj).1)
        case measure => simp [intOf]; omega
      · go_wp2_with fail
        go_ret
        exact HE.out
    · go_wp2_with fail
      go_ret
      exact HE.out
end Go.Proofs.YtpfbgoogajgciaaGreatDoor
