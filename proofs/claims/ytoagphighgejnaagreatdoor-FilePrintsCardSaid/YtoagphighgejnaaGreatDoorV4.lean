/- The document's answer: head (31). Conditions: none. -/
import Derived.Test.YtoagphighgejnaaGreatDoorJ13
import Derived.Test.YtoagphighgejnaaGreatDoorF2
import Derived.Lib.AppendIntMem
import Derived.Test.YtoagphighgejnaaGreatDoorJ7
set_option linter.unusedSimpArgs false
set_option linter.unusedVariables false
namespace Go.Proofs.YtoagphighgejnaaGreatDoor
open Go.RowKit Go.Shelf

theorem in_in (n lo hi : Int) (w : World) : Calls Tryz.prog 46 #[.int .i64 n, .int .i64 lo, .int .i64 hi] w fun e w' => e = .returned (.bool (decide (lo ≤ n ∧ n ≤ hi))) ∧ w = w' := by
  by_cases h1 : lo ≤ n
  · by_cases h2 : n ≤ hi
    · rw [decide_eq_true (And.intro h1 h2)]
      go_enter Tryz.func46, Tryz.ntmps46
      go_wp2_with fail
      go_ret
      exact ⟨rfl, rfl⟩
    · rw [decide_eq_false (fun h => h2 h.2)]
      have h2' : ¬ n ≤ hi := h2
      go_enter Tryz.func46, Tryz.ntmps46
      go_wp2_with fail
      go_ret
      exact ⟨rfl, rfl⟩
  · rw [decide_eq_false (fun h => h1 h.1)]
    go_enter Tryz.func46, Tryz.ntmps46
    go_wp2_with fail
    go_ret
    exact ⟨rfl, rfl⟩
/-- the cells of what was read, as the document's answer keeps it -/
def refC (r : RdV) (e : Int) (s a h : Value) : Array Value :=
  #[.bool r.max, s, a, .int .i64 (r.es.getD 0), .int .i64 (r.et.getD 0), .bool r.begun, .int .i64 r.sup.length, .int .i64 r.many, .bool (decide (¬ r.arcs = [])), h, .bool r.es.isSome, .bool r.et.isSome, .int .i64 e]
theorem cells13 {w : World} {b : Nat} {t : TypeId} {u0 u1 u2 u3 u4 u5 u6 u7 u8 u9 u10 u11 u12 : Value} (h : Blk w b t #[u0, u1, u2, u3, u4, u5, u6, u7, u8, u9, u10, u11, u12]) :
    w.cell? ⟨b, 0, none⟩ = some u0 ∧ w.cell? ⟨b, 1, none⟩ = some u1 ∧ w.cell? ⟨b, 2, none⟩ = some u2 ∧ w.cell? ⟨b, 3, none⟩ = some u3 ∧ w.cell? ⟨b, 4, none⟩ = some u4 ∧ w.cell? ⟨b, 5, none⟩ = some u5 ∧ w.cell? ⟨b, 6, none⟩ = some u6 ∧
    w.cell? ⟨b, 7, none⟩ = some u7 ∧ w.cell? ⟨b, 8, none⟩ = some u8 ∧ w.cell? ⟨b, 9, none⟩ = some u9 ∧ w.cell? ⟨b, 10, none⟩ = some u10 ∧ w.cell? ⟨b, 11, none⟩ = some u11 ∧ w.cell? ⟨b, 12, none⟩ = some u12 :=
  ⟨h.cell 0, h.cell 1, h.cell 2, h.cell 3, h.cell 4, h.cell 5, h.cell 6, h.cell 7, h.cell 8, h.cell 9, h.cell 10, h.cell 11, h.cell 12⟩
set_option maxHeartbeats 1600000 in
theorem fail_in (r : RdV) (k : Int) (S A H : Option Addr) (n c m c2 n3 c3 : Nat) (w : World) :
    Calls Tryz.prog 65 #[.agg (refC r 0 (.slice S n c) (.slice A m c2) (.slice H n3 c3)), .int .i64 k] w fun e w' => e = .returned (.agg (refC r k (.slice S n c) (.slice A m c2) (.slice H n3 c3))) ∧ Below w.heap.size w w' := by
  have HB := Lib.hid (fun o o' => ((Below.refl _ w).alloc (Nat.le_refl _) o).alloc (by simp) o')
  unfold refC
  obtain ⟨b1, hb1⟩ : ∃ b, b = r.max := ⟨_, rfl⟩
  obtain ⟨b2, hb2⟩ : ∃ b, b = r.begun := ⟨_, rfl⟩
  obtain ⟨b3, hb3⟩ : ∃ b, b = decide (¬ r.arcs = []) := ⟨_, rfl⟩
  obtain ⟨b4, hb4⟩ : ∃ b, b = r.es.isSome := ⟨_, rfl⟩
  obtain ⟨b5, hb5⟩ : ∃ b, b = r.et.isSome := ⟨_, rfl⟩
  obtain ⟨i1, hi1⟩ : ∃ b, b = r.es.getD 0 := ⟨_, rfl⟩
  obtain ⟨i2, hi2⟩ : ∃ b, b = r.et.getD 0 := ⟨_, rfl⟩
  obtain ⟨i3, hi3⟩ : ∃ b, b = r.many := ⟨_, rfl⟩
  obtain ⟨i4, hi4⟩ : ∃ b, b = r.sup.length := ⟨_, rfl⟩
  rw [← hb1, ← hb2, ← hb3, ← hb4, ← hb5, ← hi1, ← hi2, ← hi3, ← hi4]
  clear hb1 hb2 hb3 hb4 hb5 hi1 hi2 hi3 hi4
  go_enter Tryz.func65, Tryz.ntmps65
  go_wp2_with fail
  have hB := Blk.new (w.alloc (.cells #[.bool b1, .slice S n c, .slice A m c2, .int .i64 i1, .int .i64 i2, .bool b2, .int .i64 i4, .int .i64 i3, .bool b3, .slice H n3 c3, .bool b4, .bool b5, .int .i64 k] 88)) 88 #[.bool b1, .slice S n c, .slice A m c2, .int .i64 i1, .int .i64 i2, .bool b2, .int .i64 i4, .int .i64 i3, .bool b3, .slice H n3 c3, .bool b4, .bool b5, .int .i64 k]
  have hbb := HB.out (.cells #[.bool b1, .slice S n c, .slice A m c2, .int .i64 i1, .int .i64 i2, .bool b2, .int .i64 i4, .int .i64 i3, .bool b3, .slice H n3 c3, .bool b4, .bool b5, .int .i64 k] 88) (.cells #[.bool b1, .slice S n c, .slice A m c2, .int .i64 i1, .int .i64 i2, .bool b2, .int .i64 i4, .int .i64 i3, .bool b3, .slice H n3 c3, .bool b4, .bool b5, .int .i64 k] 88)
  simp only [World.size_alloc] at hB
  generalize (w.alloc (.cells #[.bool b1, .slice S n c, .slice A m c2, .int .i64 i1, .int .i64 i2, .bool b2, .int .i64 i4, .int .i64 i3, .bool b3, .slice H n3 c3, .bool b4, .bool b5, .int .i64 k] 88)).alloc (.cells #[.bool b1, .slice S n c, .slice A m c2, .int .i64 i1, .int .i64 i2, .bool b2, .int .i64 i4, .int .i64 i3, .bool b3, .slice H n3 c3, .bool b4, .bool b5, .int .i64 k] 88) = WF at *
  obtain ⟨d0, d1, d2, d3, d4, d5, d6, d7, d8, d9, d10, d11, d12⟩ := cells13 hB
  refine bodyPost_ret (v := .agg #[.bool b1, .slice S n c, .slice A m c2, .int .i64 i1, .int .i64 i2, .bool b2, .int .i64 i4, .int .i64 i3, .bool b3, .slice H n3 c3, .bool b4, .bool b5, .int .i64 k]) (by simp [results, Tryz.results65, go_sem, d0, d1, d2, d3, d4, d5, d6, d7, d8, d9, d10, d11, d12]) rfl ⟨rfl, hbb⟩

/-- the error of words that are to be numbers -/
def errL (ws : List (List UInt8)) : Int := if ws.any (fun x => decide ((numL x).2 = 10)) = true then 10 else if ws.any (fun x => decide ((numL x).2 = 11)) = true then 11 else 0
theorem errL_snoc (l : List (List UInt8)) (x : List UInt8) : errL (l ++ [x]) = if (numL x).2 = 10 ∨ ((numL x).2 = 11 ∧ errL l = 0) then (numL x).2 else errL l := by
  unfold errL
  rcases numL_err x with h | h | h <;> cases h1 : l.any (fun x => decide ((numL x).2 = 10)) <;> cases h2 : l.any (fun x => decide ((numL x).2 = 11)) <;> simp [h, h1, h2]
theorem errL_10 {ws : List (List UInt8)} : errL ws = 10 ↔ ∃ x ∈ ws, (numL x).2 = 10 := by
  unfold errL
  by_cases h : ws.any (fun x => decide ((numL x).2 = 10)) = true
  · rw [if_pos h]; simpa using h
  · rw [if_neg h]
    constructor
    · intro h2; split at h2 <;> cases h2
    · intro h2; exact absurd (by simpa using h2) h
theorem errL_0 {ws : List (List UInt8)} : errL ws = 0 ↔ ∀ x ∈ ws, (numL x).2 = 0 := by
  unfold errL
  by_cases h : ws.any (fun x => decide ((numL x).2 = 10)) = true
  · rw [if_pos h]
    constructor
    · intro h2; cases h2
    · intro h2
      obtain ⟨x, hx, h3⟩ := List.any_eq_true.1 h
      have := h2 x hx
      simp [this] at h3
  · rw [if_neg h]
    by_cases h1 : ws.any (fun x => decide ((numL x).2 = 11)) = true
    · rw [if_pos h1]
      constructor
      · intro h2; cases h2
      · intro h2
        obtain ⟨x, hx, h3⟩ := List.any_eq_true.1 h1
        have := h2 x hx
        simp [this] at h3
    · rw [if_neg h1]
      refine ⟨fun _ x hx => ?_, fun _ => rfl⟩
      rcases numL_err x with h3 | h3 | h3
      · exact h3
      · exact absurd (List.any_eq_true.2 ⟨x, hx, by simp [h3]⟩) h
      · exact absurd (List.any_eq_true.2 ⟨x, hx, by simp [h3]⟩) h1

/-- what nums tells -/
def NumsTell (w : World) (ws : List (List UInt8)) (e : Ending) (w' : World) : Prop := ∃ A n c, e = .returned (.tuple #[.slice A n c, .int .i64 (errL ws)]) ∧ n = ws.length ∧ w'.ownsRow w.heap.size 2 1 (.slice A n c) n (ws.map fun x => I (numL x).1) ∧ Below w.heap.size w w'
theorem cell_one_new (w : World) (t : TypeId) (u : Value) : ∀ j v, ([u] : List Value)[j]? = some v → (w.alloc (.cells #[u] t)).cell? ((⟨w.heap.size, 0, none⟩ : Addr).add j) = some v := by
  intro j v hv
  rw [add_lit, Nat.zero_add, (Blk.new w t #[u]).cell]
  rw [← hv, List.getElem?_toArray]
set_option maxRecDepth 100000 in
set_option maxHeartbeats 3200000 in
theorem nums_in (A : Option Addr) (n c : Nat) (ws : List (List UInt8)) (w : World) (hr : Reads w w.heap.size 1 A n (ws.map strV)) (hn : n ≤ 100000) (hw : ∀ x ∈ ws, x.length ≤ 1000000) :
    Calls Tryz.prog 80 #[.slice A n c] w (NumsTell w ws) := by
  have hl : ws.length ≤ n ∧ n ≤ ws.length := by have := hr.1; simp at this; omega
  have hinfo : (Tryz.prog.info? 2).map (fun i => (i.zero, i.size, i.bytes)) = some (some (.int .i64 0), 1, 8) := by kernel_rfl
  obtain ⟨i0, hi, hz0, hz1, hz2⟩ := info_parts hinfo
  have HR := Lib.hid hr
  have HW := Lib.hid hw
  clear hr hw hinfo
  go_enter Tryz.func80, Tryz.ntmps80
  go_wp2_with fail
  go_loopw [4, 5, 6] (fun v ev i wr => ∃ k : Nat, k ≤ n ∧ i = .int .i64 k ∧ ev = .int .i64 (errL (ws.take k)) ∧ wr.ownsRow w.heap.size 2 1 v k ((ws.take k).map fun x => I (numL x).1) ∧ Below w.heap.size w wr) (fun _ _ i _ => n - (intOf i).toNat)
  case atStart => exact ⟨0, Nat.zero_le _, rfl, rfl, World.ownsRow_nil _ _ _ _, Below.refl _ _⟩
  case round =>
    obtain ⟨k, hk, rfl, rfl, hown, hbw⟩ := hrel
    have hsz := hbw.size
    by_cases hlt : k < n
    · obtain ⟨b, off, u, rfl, hbB, hx, hcell⟩ := (HR.out.below hbw).at_ hlt
      simp only [List.getElem?_map, Option.map_eq_some_iff] at hx
      obtain ⟨x, hx, rfl⟩ := hx
      obtain ⟨X, hX⟩ : ∃ X : ByteArray, X = ⟨x.toArray⟩ := ⟨_, rfl⟩
      have hXl : X.data.toList = x := by rw [hX]
      have hXs : X.size ≤ 1000000 := by rw [hX]; show x.toArray.size ≤ _; have := HW.out x (List.mem_of_getElem? hx); simpa using this
      have hcell' : wr.cell? ⟨b, off + k, none⟩ = some (.string X) := by rw [hX]; exact hcell
      have HN := Lib.hid (rNumber_in X (by omega) wr)
      rw [hXl] at HN
      have htk : ws.take (k + 1) = ws.take k ++ [x] := by rw [List.take_add_one, hx]; rfl
      have hes := errL_snoc (ws.take k) x
      have hmap : (ws.take (k + 1)).map (fun x => I (numL x).1) = (ws.take k).map (fun x => I (numL x).1) ++ [.int .i64 (numL x).1] := by rw [htk, List.map_append]; rfl
      rw [← htk] at hes
      have HES := Lib.hid (And.intro hes hmap)
      have hne := numL_err x
      have HQ := Lib.hid (show ∃ q, q = numL x from ⟨_, rfl⟩)
      obtain ⟨q, hq⟩ := HQ.out
      rw [← hq] at HN HES hne
      obtain ⟨v, er⟩ := q
      simp only at HN HES hne
      generalize errL (ws.take k) = E at *
      generalize (ws.take k).map (fun x => I (numL x).1) = xs at *
      have lb : b < wr.heap.size := by omega
      clear hcell hX hXl hx htk hes hmap HQ hq
      go_wp2_with fail
      refine HN.out.mono ?_
      rintro e w1 ⟨rfl, rfl⟩
      go_wp2_with (at_builtin; refine wpList_append_own _ rfl _ _ 26 rfl w.heap.size 2 i0 (.int .i64 0) 1 8 Tryz.underlying26 hi hz0 hz1 hz2 rfl (by decide) _ _ _ rfl (hown.alloc _) ⟨w1.heap.size, 0, none⟩ 1 1 [.int .i64 v] rfl rfl ?c1 ?c2 ?c3 ?c4 ?c5 ?_)
      case c1 => exact cell_one_new _ _ _
      case c2 => simp [Value.oneCell']
      case c3 => unfold maxLen; omega
      case c4 => omega
      case c5 => simp; omega
      intro v' w2 hown' hgrow _
      have hb1 : Below w.heap.size w w2 := (hbw.alloc hsz _).grown hgrow (by simp; omega) (fun j hj => (hown.lt j hj).1)
      have HO := Lib.hid (And.intro hown' hb1)
      clear hown' hb1 hgrow hown
      rcases hne with hne | hne | hne
      · have HC := Lib.hid hne
        subst hne
        go_wp2_with fail
        go_roundw
        case rel =>
          refine ⟨k + 1, by omega, by go_num, by rw [HES.out.1]; simp [HC.out], ?_, HO.out.2⟩
          rw [HES.out.2]; exact HO.out.1
        case measure => simp [intOf]; omega
      · have HC := Lib.hid hne
        subst hne
        go_wp2_with fail
        go_roundw
        case rel =>
          refine ⟨k + 1, by omega, by go_num, by rw [HES.out.1]; simp [HC.out], ?_, HO.out.2⟩
          rw [HES.out.2]; exact HO.out.1
        case measure => simp [intOf]; omega
      · by_cases hE0 : E = 0
        · have HC := Lib.hid (And.intro hne hE0)
          subst hne
          subst hE0
          go_wp2_with fail
          go_roundw
          case rel =>
            refine ⟨k + 1, by omega, by go_num, by rw [HES.out.1]; simp [HC.out], ?_, HO.out.2⟩
            rw [HES.out.2]; exact HO.out.1
          case measure => simp [intOf]; omega
        · have HC := Lib.hid (And.intro hne hE0)
          subst hne
          go_wp2_with fail
          go_roundw
          case rel =>
            refine ⟨k + 1, by omega, by go_num, by rw [HES.out.1]; simp [HC.out], ?_, HO.out.2⟩
            rw [HES.out.2]; exact HO.out.1
          case measure => simp [intOf]; omega
    · have hkn : ws.take k = ws := List.take_of_length_le (by omega)
      rw [hkn] at hown ⊢
      obtain ⟨A', c', rfl⟩ := own_form hown
      have H : NumsTell w ws (.returned (.tuple #[.slice A' k c', .int .i64 (errL ws)])) wr := ⟨A', k, c', rfl, by omega, hown, hbw⟩
      have HH := Lib.hid H
      clear H hown hkn
      go_wp2_with fail
      refine bodyPost_ret (v := .tuple #[.slice A' k c', .int .i64 (errL ws)]) (by simp [results, Tryz.results80, go_sem]) rfl HH.out

theorem frozen13 {w : World} {b : Nat} {t : TypeId} {cs : Array Value} (h : Blk w b t cs) :
    w.frozen? ⟨b, 0, none⟩ = false ∧ w.frozen? ⟨b, 1, none⟩ = false ∧ w.frozen? ⟨b, 2, none⟩ = false ∧ w.frozen? ⟨b, 3, none⟩ = false ∧ w.frozen? ⟨b, 4, none⟩ = false ∧ w.frozen? ⟨b, 5, none⟩ = false ∧ w.frozen? ⟨b, 6, none⟩ = false ∧ w.frozen? ⟨b, 7, none⟩ = false ∧ w.frozen? ⟨b, 8, none⟩ = false ∧ w.frozen? ⟨b, 9, none⟩ = false ∧ w.frozen? ⟨b, 10, none⟩ = false ∧ w.frozen? ⟨b, 11, none⟩ = false ∧ w.frozen? ⟨b, 12, none⟩ = false := ⟨h.frozen 0, h.frozen 1, h.frozen 2, h.frozen 3, h.frozen 4, h.frozen 5, h.frozen 6, h.frozen 7, h.frozen 8, h.frozen 9, h.frozen 10, h.frozen 11, h.frozen 12⟩
def put13 (w : World) (b : Nat) (u0 u1 u2 u3 u4 u5 u6 u7 u8 u9 u10 u11 u12 : Value) : World := (((((((((((((w.setCell ⟨b, 0, none⟩ u0).setCell ⟨b, 1, none⟩ u1).setCell ⟨b, 2, none⟩ u2).setCell ⟨b, 3, none⟩ u3).setCell ⟨b, 4, none⟩ u4).setCell ⟨b, 5, none⟩ u5).setCell ⟨b, 6, none⟩ u6).setCell ⟨b, 7, none⟩ u7).setCell ⟨b, 8, none⟩ u8).setCell ⟨b, 9, none⟩ u9).setCell ⟨b, 10, none⟩ u10).setCell ⟨b, 11, none⟩ u11).setCell ⟨b, 12, none⟩ u12)
section
variable {w w' : World} {b g : Nat} {t : TypeId} {cs : Array Value} {S : Nat → Prop} {v0 v1 v2 v3 v4 v5 v6 v7 v8 v9 v10 v11 v12 : Value} (u0 u1 u2 u3 u4 u5 u6 u7 u8 u9 u10 u11 u12 : Value)
theorem Blk.put13 (h : Blk w b t #[v0, v1, v2, v3, v4, v5, v6, v7, v8, v9, v10, v11, v12]) : Blk (YtoagphighgejnaaGreatDoor.put13 w b u0 u1 u2 u3 u4 u5 u6 u7 u8 u9 u10 u11 u12) b t #[u0, u1, u2, u3, u4, u5, u6, u7, u8, u9, u10, u11, u12] := by
  have := (((((((((((((h.set_ 0 u0).set_ 1 u1).set_ 2 u2).set_ 3 u3).set_ 4 u4).set_ 5 u5).set_ 6 u6).set_ 7 u7).set_ 8 u8).set_ 9 u9).set_ 10 u10).set_ 11 u11).set_ 12 u12)
  simp only [List.setIfInBounds_toArray, List.set_cons_succ, List.set_cons_zero] at this
  exact this
theorem Kept.put13 (h : Kept S w w') (hp : b < w.heap.size → S b) : Kept S w (YtoagphighgejnaaGreatDoor.put13 w' b u0 u1 u2 u3 u4 u5 u6 u7 u8 u9 u10 u11 u12) := (((((((((((((h.setCell (p := ⟨b, 0, none⟩) hp u0).setCell (p := ⟨b, 1, none⟩) hp u1).setCell (p := ⟨b, 2, none⟩) hp u2).setCell (p := ⟨b, 3, none⟩) hp u3).setCell (p := ⟨b, 4, none⟩) hp u4).setCell (p := ⟨b, 5, none⟩) hp u5).setCell (p := ⟨b, 6, none⟩) hp u6).setCell (p := ⟨b, 7, none⟩) hp u7).setCell (p := ⟨b, 8, none⟩) hp u8).setCell (p := ⟨b, 9, none⟩) hp u9).setCell (p := ⟨b, 10, none⟩) hp u10).setCell (p := ⟨b, 11, none⟩) hp u11).setCell (p := ⟨b, 12, none⟩) hp u12)
theorem Blk.far13 (h : Blk w g t cs) (hne : g ≠ b) : Blk (YtoagphighgejnaaGreatDoor.put13 w b u0 u1 u2 u3 u4 u5 u6 u7 u8 u9 u10 u11 u12) g t cs := (((((((((((((h.far (p := ⟨b, 0, none⟩) hne u0).far (p := ⟨b, 1, none⟩) hne u1).far (p := ⟨b, 2, none⟩) hne u2).far (p := ⟨b, 3, none⟩) hne u3).far (p := ⟨b, 4, none⟩) hne u4).far (p := ⟨b, 5, none⟩) hne u5).far (p := ⟨b, 6, none⟩) hne u6).far (p := ⟨b, 7, none⟩) hne u7).far (p := ⟨b, 8, none⟩) hne u8).far (p := ⟨b, 9, none⟩) hne u9).far (p := ⟨b, 10, none⟩) hne u10).far (p := ⟨b, 11, none⟩) hne u11).far (p := ⟨b, 12, none⟩) hne u12)
end
theorem size13 (w : World) (b : Nat) (u0 u1 u2 u3 u4 u5 u6 u7 u8 u9 u10 u11 u12 : Value) : (put13 w b u0 u1 u2 u3 u4 u5 u6 u7 u8 u9 u10 u11 u12).heap.size = w.heap.size := by simp [put13, World.setCell]
theorem ret13 {fn : Func} {R : Ending → World → Prop} {a : Act} {W : World} {b : Nat} {u0 u1 u2 u3 u4 u5 u6 u7 u8 u9 u10 u11 u12 : Value} (hr : fn.results = #[.cell 4 88]) (h4 : a.tmps[4]?.getD undef = .pointer (some ⟨b, 0, none⟩)) (hd : a.defers = [])
    (hB : Blk W b 88 #[u0, u1, u2, u3, u4, u5, u6, u7, u8, u9, u10, u11, u12]) (h : R (.returned (.agg #[u0, u1, u2, u3, u4, u5, u6, u7, u8, u9, u10, u11, u12])) W) : bodyPost Tryz.prog fn R .ret a W := by
  obtain ⟨d0, d1, d2, d3, d4, d5, d6, d7, d8, d9, d10, d11, d12⟩ := cells13 hB
  refine bodyPost_ret (v := .agg #[u0, u1, u2, u3, u4, u5, u6, u7, u8, u9, u10, u11, u12]) ?_ hd h
  unfold results
  rw [hr]
  simp [go_sem, h4, d0, d1, d2, d3, d4, d5, d6, d7, d8, d9, d10, d11, d12]
/-- the thirteen cells, by their parts -/
abbrev pC (b1 b2 b3 b4 b5 : Bool) (i1 i2 i3 i4 e : Int) (S A H : Option Addr) (n c m c2 n3 c3 : Nat) : Array Value :=
  #[.bool b1, .slice S n c, .slice A m c2, .int .i64 i1, .int .i64 i2, .bool b2, .int .i64 i4, .int .i64 i3, .bool b3, .slice H n3 c3, .bool b4, .bool b5, .int .i64 e]
set_option maxHeartbeats 1600000 in
theorem fail_any (b1 b2 b3 b4 b5 : Bool) (i1 i2 i3 i4 k : Int) (S A H : Option Addr) (n c m c2 n3 c3 : Nat) (w : World) :
    Calls Tryz.prog 65 #[.agg (pC b1 b2 b3 b4 b5 i1 i2 i3 i4 0 S A H n c m c2 n3 c3), .int .i64 k] w fun e w' => e = .returned (.agg (pC b1 b2 b3 b4 b5 i1 i2 i3 i4 k S A H n c m c2 n3 c3)) ∧ Below w.heap.size w w' := by
  have HB := Lib.hid (fun o o' => ((Below.refl _ w).alloc (Nat.le_refl _) o).alloc (by simp) o')
  unfold pC
  go_enter Tryz.func65, Tryz.ntmps65
  go_wp2_with fail
  have hB := Blk.new (w.alloc (.cells (pC b1 b2 b3 b4 b5 i1 i2 i3 i4 k S A H n c m c2 n3 c3) 88)) 88 (pC b1 b2 b3 b4 b5 i1 i2 i3 i4 k S A H n c m c2 n3 c3)
  have hbb := HB.out (.cells (pC b1 b2 b3 b4 b5 i1 i2 i3 i4 k S A H n c m c2 n3 c3) 88) (.cells (pC b1 b2 b3 b4 b5 i1 i2 i3 i4 k S A H n c m c2 n3 c3) 88)
  simp only [World.size_alloc] at hB
  unfold pC at hB hbb
  exact ret13 rfl rfl rfl hB ⟨rfl, hbb⟩
/-- what the answer keeps lies so in memory -/
structure RefMid (B : Nat) (w : World) (r : RdV) (sb hb m c : Nat) (A : Option Addr) : Prop where
  s : Blk w sb 2 (ints r.sup)
  h : Blk w hb 4 (bools r.had)
  a : w.ownsRow B 42 5 (.slice A m c) m (arcCells r.arcs)
  sB : B ≤ sb
  hB : B ≤ hb
def RefS (B : Nat) (w : World) (r : RdV) (S A H : Option Addr) (n c m c2 n3 c3 : Nat) : Prop :=
  (r = rd0 ∧ S = none ∧ A = none ∧ H = none ∧ n = 0 ∧ c = 0 ∧ m = 0 ∧ c2 = 0 ∧ n3 = 0 ∧ c3 = 0) ∨
  (r.begun = true ∧ ∃ sb hb, S = some ⟨sb, 0, none⟩ ∧ H = some ⟨hb, 0, none⟩ ∧ n = r.sup.length ∧ c = r.sup.length ∧ n3 = r.sup.length ∧ c3 = r.sup.length ∧ RefMid B w r sb hb m c2 A)
abbrev Bs (B : Nat) (w : World) : Nat → Prop := fun k => B ≤ k ∧ ∀ t cs, Blk w k t cs → t = 2 ∨ t = 4 ∨ t = 42
/-- the value that keeps what was read -/
def refV (r : RdV) (e : Int) (S A H : Option Addr) (n c m c2 n3 c3 : Nat) : Value := .agg (pC r.max r.begun (decide (¬ r.arcs = [])) r.es.isSome r.et.isSome (r.es.getD 0) (r.et.getD 0) r.many r.sup.length e S A H n c m c2 n3 c3)
def RTells (B : Nat) (w : World) (q : Int × RdV) (e : Ending) (w' : World) : Prop :=
  Kept (Bs B w) w w' ∧ ∃ S A H n c m c2 n3 c3, e = .returned (refV q.2 q.1 S A H n c m c2 n3 c3) ∧ RefS B w' q.2 S A H n c m c2 n3 c3
theorem RefMid.on {B sb hb m c : Nat} {A : Option Addr} {w w' : World} {r : RdV} (h : RefMid B w r sb hb m c A) (hb' : Below w.heap.size w w') : RefMid B w' r sb hb m c A :=
  ⟨h.s.below hb' h.s.lt, h.h.below hb' h.h.lt, own_below h.a hb', h.sB, h.hB⟩
theorem RefS.on {B : Nat} {w w' : World} {r : RdV} {S A H : Option Addr} {n c m c2 n3 c3 : Nat} (h : RefS B w r S A H n c m c2 n3 c3) (hb : Below w.heap.size w w') : RefS B w' r S A H n c m c2 n3 c3 := by
  rcases h with h | ⟨h1, sb, hb1, h2, h3, h4, h5, h6, h7, h8⟩
  · exact .inl h
  · exact .inr ⟨h1, sb, hb1, h2, h3, h4, h5, h6, h7, h8.on hb⟩

theorem own_far13 {w : World} {b base : Nat} {e t : TypeId} {size n : Nat} {v : Value} {xs : List Value} (h : w.ownsRow base e size v n xs) {cs : Array Value} (hb : Blk w b t cs) (hne : e ≠ t) (u0 u1 u2 u3 u4 u5 u6 u7 u8 u9 u10 u11 u12 : Value) : (put13 w b u0 u1 u2 u3 u4 u5 u6 u7 u8 u9 u10 u11 u12).ownsRow base e size v n xs := by
  have h1 := own_off h (p := ⟨b, 0, none⟩) hb hne u0
  have b1 := hb.set_ 0 u0
  have h2 := own_off h1 (p := ⟨b, 1, none⟩) b1 hne u1
  have b2 := b1.set_ 1 u1
  have h3 := own_off h2 (p := ⟨b, 2, none⟩) b2 hne u2
  have b3 := b2.set_ 2 u2
  have h4 := own_off h3 (p := ⟨b, 3, none⟩) b3 hne u3
  have b4 := b3.set_ 3 u3
  have h5 := own_off h4 (p := ⟨b, 4, none⟩) b4 hne u4
  have b5 := b4.set_ 4 u4
  have h6 := own_off h5 (p := ⟨b, 5, none⟩) b5 hne u5
  have b6 := b5.set_ 5 u5
  have h7 := own_off h6 (p := ⟨b, 6, none⟩) b6 hne u6
  have b7 := b6.set_ 6 u6
  have h8 := own_off h7 (p := ⟨b, 7, none⟩) b7 hne u7
  have b8 := b7.set_ 7 u7
  have h9 := own_off h8 (p := ⟨b, 8, none⟩) b8 hne u8
  have b9 := b8.set_ 8 u8
  have h10 := own_off h9 (p := ⟨b, 9, none⟩) b9 hne u9
  have b10 := b9.set_ 9 u9
  have h11 := own_off h10 (p := ⟨b, 10, none⟩) b10 hne u10
  have b11 := b10.set_ 10 u10
  have h12 := own_off h11 (p := ⟨b, 11, none⟩) b11 hne u11
  have b12 := b11.set_ 11 u11
  have h13 := own_off h12 (p := ⟨b, 12, none⟩) b12 hne u12
  have b13 := b12.set_ 12 u12
  exact h13
theorem RefS.far13_ {B b : Nat} {w : World} {r : RdV} {S A H : Option Addr} {n c m c2 n3 c3 : Nat} (h : RefS B w r S A H n c m c2 n3 c3) {cs : Array Value} (hb : Blk w b 88 cs) (u0 u1 u2 u3 u4 u5 u6 u7 u8 u9 u10 u11 u12 : Value) : RefS B (put13 w b u0 u1 u2 u3 u4 u5 u6 u7 u8 u9 u10 u11 u12) r S A H n c m c2 n3 c3 := by
  rcases h with h | ⟨h1, sb, hb1, h2, h3, h4, h5, h6, h7, h8⟩
  · exact .inl h
  · exact .inr ⟨h1, sb, hb1, h2, h3, h4, h5, h6, h7, ⟨h8.s.far13 u0 u1 u2 u3 u4 u5 u6 u7 u8 u9 u10 u11 u12 (h8.s.ne_ hb (by decide)), h8.h.far13 u0 u1 u2 u3 u4 u5 u6 u7 u8 u9 u10 u11 u12 (h8.h.ne_ hb (by decide)), own_far13 h8.a hb (by decide) u0 u1 u2 u3 u4 u5 u6 u7 u8 u9 u10 u11 u12, h8.sB, h8.hB⟩⟩

theorem Reads.get {w : World} {B n wb wo k : Nat} {xs : List Value} {u : Value} (h : Reads w B 1 (some ⟨wb, wo, none⟩) n xs) (hu : xs[k]? = some u) : w.cell? ⟨wb, wo + k, none⟩ = some u := by
  have hk : k < n := by have := (List.getElem?_eq_some_iff.1 hu).1; have := h.1; omega
  obtain ⟨b, off, u', e, _, hx, hc⟩ := h.at_ hk
  injection e with e
  injection e with e1 e2
  subst e1 e2
  rw [hu] at hx
  rw [hc]; exact hx.symm
theorem Reads.lt_ {w : World} {B n wb wo : Nat} {xs : List Value} (h : Reads w B 1 (some ⟨wb, wo, none⟩) n xs) (hn : 0 < n) : wb < B := by
  obtain ⟨b, off, e, hb, _⟩ := h.2 hn
  injection e with e
  injection e with e1 e2
  subst e1
  exact hb
theorem Reads.tail_ {w : World} {B n wb wo : Nat} {xs : List Value} (h : Reads w B 1 (some ⟨wb, wo, none⟩) n xs) (k m : Nat) (hn : n = k + m) (hm : 0 < m) : Reads w B 1 (some ⟨wb, wo + k, none⟩) m (xs.drop k) := by
  refine ⟨by rw [List.length_drop, h.1]; omega, fun _ => ⟨wb, wo + k, rfl, h.lt_ (by omega), fun j u hu => ?_⟩⟩
  rw [List.getElem?_drop] at hu
  rw [Nat.add_assoc]
  exact h.get hu
theorem bs_of {B k : Nat} {w : World} {t : TypeId} {cs : Array Value} (hB : B ≤ k) (h : Blk w k t cs) (ht : t = 2 ∨ t = 4 ∨ t = 42) : Bs B w k := ⟨hB, fun t' cs' h' => by
  by_cases e : t' = t
  · rw [e]; exact ht
  · exact absurd rfl (h'.ne_ h e)⟩
theorem bs_own {B k size n : Nat} {w : World} {v : Value} {xs : List Value} (h : w.ownsRow B 42 size v n xs) (e : v.ownBlock = some k) : Bs B w k := ⟨(h.lt k e).1, fun t' cs' h' => by
  by_cases e' : t' = 42
  · exact .inr (.inr e')
  · exact absurd e (own_blk_ne h h' (fun x => e' x.symm))⟩
theorem err_11 {ws : List (List UInt8)} (h1 : ¬ errL ws = 10) (h0 : ¬ errL ws = 0) : errL ws = 11 := by
  unfold errL at *
  split at h1
  · exact absurd rfl h1
  · rename_i h; rw [if_neg h] at h0 ⊢
    split at h0
    · rename_i h2; rw [if_pos h2]
    · exact absurd rfl h0
theorem inW_of {x : List UInt8} {lo hi : Int} (h : (numL x).2 = 0) : inW x lo hi ↔ (lo ≤ (numL x).1 ∧ (numL x).1 ≤ hi) := by unfold inW; simp [h]
theorem below_dr {B : Nat} {a w : World} (h : Below B a w) (n : Nat) : Below B a (w.drewN n) := ⟨h.os, h.tape, h.output, h.size, h.block⟩
theorem RefS.drew_ {B : Nat} {w : World} {r : RdV} {S A H : Option Addr} {n c m c2 n3 c3 : Nat} (h : RefS B w r S A H n c m c2 n3 c3) : RefS B w.drew r S A H n c m c2 n3 c3 := h.on ((Below.refl _ _).drew)
theorem in_q {n lo hi : Int} {t : Bool} (h : decide (lo ≤ n ∧ n ≤ hi) = t) (w : World) (k : Nat) : Calls Tryz.prog 46 #[.int .i64 n, .int .i64 lo, .int .i64 hi] (w.drewN k) fun e w'' => e = .returned (.bool t) ∧ ∃ m, w'' = w.drewN m :=
  (in_in n lo hi (w.drewN k)).mono fun _ _ ⟨he, hw⟩ => ⟨by rw [he, h], k, hw.symm⟩
theorem ref_app {B sb hb m c c5 : Nat} {A A5 : Option Addr} {r : RdV} {W w5 : World} {y : ArcV} (h : RefMid B W r sb hb m c A) (hg : W.grownBy w5 (Value.slice A m c).ownBlock)
    (hown : w5.ownsRow B 42 5 (.slice A5 (m + 1) c5) (m + 1) (arcCells r.arcs ++ [.int .i64 y.f, .int .i64 y.t, .int .i64 y.lo, .int .i64 y.cap, .int .i64 y.cost])) :
    RefMid B w5 { r with arcs := r.arcs ++ [y] } sb hb (m + 1) c5 A5 ∧ Kept (fun k => some k = (Value.slice A m c).ownBlock) W w5 := by
  have s1 := h.s.grown hg (fun e => own_blk_ne h.a h.s (by decide) e.symm)
  have h1 := h.h.grown hg (fun e => own_blk_ne h.a h.h (by decide) e.symm)
  refine ⟨⟨s1, h1, ?_, h.sB, h.hB⟩, Kept.of_grown hg⟩
  simpa [arcCells, ArcV.cells, I] using hown
theorem bnd_in {w : List UInt8} {lo : Int} (h : (numL w).2 = 0) : bndW w lo ↔ ((numL w).1 = -1 ∨ (lo ≤ (numL w).1 ∧ (numL w).1 ≤ 2147483648)) := by unfold bndW; simp [h]
theorem Reads.head_ {w : World} {B n wb wo : Nat} {xs : List Value} (h : Reads w B 1 (some ⟨wb, wo, none⟩) n xs) (m : Nat) (hm : m ≤ n) (h0 : 0 < m) : Reads w B 1 (some ⟨wb, wo, none⟩) m (xs.take m) := by
  refine ⟨by rw [List.length_take, h.1]; omega, fun _ => ⟨wb, wo, rfl, h.lt_ (by omega), fun j u hu => ?_⟩⟩
  rw [List.getElem?_take] at hu
  split at hu
  · exact h.get hu
  · cases hu
theorem bools_no_str {w : World} {hb wb i : Nat} {l : List Bool} {s : ByteArray} (h : Blk w hb 4 (bools l)) (hc : w.cell? ⟨wb, i, none⟩ = some (.string s)) : ¬ wb = hb := by
  rintro rfl
  rw [h.cell] at hc
  unfold bools at hc
  rw [List.getElem?_toArray, List.getElem?_map] at hc
  cases h2 : l[i]? <;> rw [h2] at hc <;> cases hc
set_option maxRecDepth 100000 in
set_option maxHeartbeats 3200000 in
theorem rhead_len (B : Nat) (r : RdV) (S A H : Option Addr) (n c m c2 n3 c3 wb wo cc nn : Nat) (ws : List (List UInt8)) (w : World) (hS : RefS B w r S A H n c m c2 n3 c3) (hl : ¬ nn = 4) (hn : nn = ws.length) (hB : B ≤ w.heap.size) :
    Calls Tryz.prog 64 #[refV r 0 S A H n c m c2 n3 c3, .slice (some ⟨wb, wo, none⟩) nn cc] w (RTells B w (headE r ws)) := by
  obtain ⟨q, HE⟩ : ∃ q, QIs q (headE r ws) := ⟨_, rfl⟩
  rw [← HE]
  have hq : q = (10, r) := by
    have h : q = headE r ws := HE
    rw [h]; subst hn
    unfold headE; split
    · exact absurd rfl hl
    · rfl
  have HQ := Lib.hid (show QIs q (10, r) from hq)
  have hl' : ¬ (nn : Int) = 4 := by omega
  have HBAD := Lib.hid (fun (k : Int) (w' : World) (hq : q = (k, r)) (hk : Kept (Bs B w) w w') (hS : RefS B w' r S A H n c m c2 n3 c3) => show RTells B w q (.returned (refV r k S A H n c m c2 n3 c3)) w' from ⟨hk, S, A, H, n, c, m, c2, n3, c3, by rw [hq], by rw [hq]; exact hS⟩)
  unfold refV at HBAD ⊢
  obtain ⟨b1, hb1⟩ : ∃ b, b = r.max := ⟨_, rfl⟩
  obtain ⟨b2, hb2⟩ : ∃ b, b = r.begun := ⟨_, rfl⟩
  obtain ⟨b3, hb3⟩ : ∃ b, b = decide (¬ r.arcs = []) := ⟨_, rfl⟩
  obtain ⟨b4, hb4⟩ : ∃ b, b = r.es.isSome := ⟨_, rfl⟩
  obtain ⟨b5, hb5⟩ : ∃ b, b = r.et.isSome := ⟨_, rfl⟩
  obtain ⟨i1, hi1⟩ : ∃ b, b = r.es.getD 0 := ⟨_, rfl⟩
  obtain ⟨i2, hi2⟩ : ∃ b, b = r.et.getD 0 := ⟨_, rfl⟩
  obtain ⟨i3, hi3⟩ : ∃ b, b = r.many := ⟨_, rfl⟩
  obtain ⟨i4, hi4⟩ : ∃ b : Int, b = r.sup.length := ⟨_, rfl⟩
  rw [← hb1, ← hb2, ← hb3, ← hb4, ← hb5, ← hi1, ← hi2, ← hi3, ← hi4] at HBAD ⊢
  have HPT := Lib.hid (And.intro hb1 (And.intro hb2 (And.intro hb3 (And.intro hb4 (And.intro hb5 (And.intro hi1 (And.intro hi2 (And.intro hi3 hi4))))))))
  have hI0 := Blk.new w 88 (pC b1 b2 b3 b4 b5 i1 i2 i3 i4 0 S A H n c m c2 n3 c3)
  have hI1 := hI0.alloc (.cells #[.bool false, .slice none 0 0, .slice none 0 0, .int .i64 0, .int .i64 0, .bool false, .int .i64 0, .int .i64 0, .bool false, .slice none 0 0, .bool false, .bool false, .int .i64 0] 88)
  have hZ1 := Blk.new (w.alloc (.cells (pC b1 b2 b3 b4 b5 i1 i2 i3 i4 0 S A H n c m c2 n3 c3) 88)) 88 #[.bool false, .slice none 0 0, .slice none 0 0, .int .i64 0, .int .i64 0, .bool false, .int .i64 0, .int .i64 0, .bool false, .slice none 0 0, .bool false, .bool false, .int .i64 0]
  have hbI : Below w.heap.size w ((w.alloc (.cells (pC b1 b2 b3 b4 b5 i1 i2 i3 i4 0 S A H n c m c2 n3 c3) 88)).alloc (.cells #[.bool false, .slice none 0 0, .slice none 0 0, .int .i64 0, .int .i64 0, .bool false, .int .i64 0, .int .i64 0, .bool false, .slice none 0 0, .bool false, .bool false, .int .i64 0] 88)) := ((Below.refl _ w).alloc (Nat.le_refl _) _).alloc (by simp) _
  simp only [World.size_alloc] at hZ1
  unfold pC at HBAD hI1 hZ1 hbI ⊢
  have HI := Lib.hid (And.intro hI1 (And.intro hZ1 hbI))
  clear hb1 hb2 hb3 hb4 hb5 hi1 hi2 hi3 hi4 hI0 hI1 hZ1 hbI
  have HS := Lib.hid hS
  clear hS hl hn hq
  go_enter Tryz.func64, Tryz.ntmps64
  go_wp2_with fail
  generalize (w.alloc (.cells #[.bool b1, .slice S n c, .slice A m c2, .int .i64 i1, .int .i64 i2, .bool b2, .int .i64 i4, .int .i64 i3, .bool b3, .slice H n3 c3, .bool b4, .bool b5, .int .i64 0] 88)).alloc (.cells #[.bool false, .slice none 0 0, .slice none 0 0, .int .i64 0, .int .i64 0, .bool false, .int .i64 0, .int .i64 0, .bool false, .slice none 0 0, .bool false, .bool false, .int .i64 0] 88) = W0 at *
  refine (fail_any b1 b2 b3 b4 b5 i1 i2 i3 i4 10 S A H n c m c2 n3 c3 _).mono ?_
  rintro e wf ⟨rfl, hbf⟩
  have hzf := HI.out.2.1.below hbf HI.out.2.1.lt
  have hbw := HI.out.2.2.trans (hbf.mono HI.out.2.2.size)
  obtain ⟨z0, z1, z2, z3, z4, z5, z6, z7, z8, z9, z10, z11, z12⟩ := cells13 hzf
  obtain ⟨f0, f1, f2, f3, f4, f5, f6, f7, f8, f9, f10, f11, f12⟩ := frozen13 hzf
  have lz := hzf.lt
  have HZ := Lib.hid (And.intro hzf hbw)
  clear hzf hbw hbf
  unfold pC
  go_wp2_with fail
  refine ret13 (fn := Tryz.f64) rfl rfl rfl (HZ.out.1.put13 (.bool b1) (.slice S n c) (.slice A m c2) (.int .i64 i1) (.int .i64 i2) (.bool b2) (.int .i64 i4) (.int .i64 i3) (.bool b3) (.slice H n3 c3) (.bool b4) (.bool b5) (.int .i64 10)) (HBAD.out 10 _ HQ.out ((Kept.of_below HZ.out.2 (Bs B w)).put13 (.bool b1) (.slice S n c) (.slice A m c2) (.int .i64 i1) (.int .i64 i2) (.bool b2) (.int .i64 i4) (.int .i64 i3) (.bool b3) (.slice H n3 c3) (.bool b4) (.bool b5) (.int .i64 10) (fun h => absurd h (by omega))) ?_)
  exact (HS.out.on HZ.out.2).far13_ HZ.out.1 (.bool b1) (.slice S n c) (.slice A m c2) (.int .i64 i1) (.int .i64 i2) (.bool b2) (.int .i64 i4) (.int .i64 i3) (.bool b3) (.slice H n3 c3) (.bool b4) (.bool b5) (.int .i64 10)

set_option maxRecDepth 100000 in
set_option maxHeartbeats 3200000 in
theorem rhead_kind (B : Nat) (r : RdV) (S A H : Option Addr) (n c m c2 n3 c3 wb wo cc : Nat) (x k a b : List UInt8) (w : World) (hS : RefS B w r S A H n c m c2 n3 c3) (h1 : ¬ k = wMin ∧ ¬ k = wMax) (hW : Reads w w.heap.size 1 (some ⟨wb, wo, none⟩) 4 ([x, k, a, b].map strV)) (hcc : 4 ≤ cc) (hB : B ≤ w.heap.size) :
    Calls Tryz.prog 64 #[refV r 0 S A H n c m c2 n3 c3, .slice (some ⟨wb, wo, none⟩) 4 cc] w (RTells B w (headE r [x, k, a, b])) := by
  obtain ⟨q, HE⟩ : ∃ q, QIs q (headE r [x, k, a, b]) := ⟨_, rfl⟩
  rw [← HE]
  have hq : q = (10, r) := by
    have h : q = headE r [x, k, a, b] := HE
    rw [h]; unfold headE; simp only; rw [if_pos h1]
  have HQ := Lib.hid (show QIs q (10, r) from hq)
  obtain ⟨K, hK⟩ : ∃ K : ByteArray, K = ⟨k.toArray⟩ := ⟨_, rfl⟩
  have hKd : K.toList = k := by rw [Lib.toList_data, hK]
  have k1 : (K.toList == [109, 105, 110]) = false := by rw [hKd, beq_eq_false_iff_ne]; exact h1.1
  have k2 : (K.toList == [109, 97, 120]) = false := by rw [hKd, beq_eq_false_iff_ne]; exact h1.2
  have hc' : w.cell? ⟨wb, wo + 1, none⟩ = some (.string K) := by rw [hK]; exact hW.get (k := 1) rfl
  have lW := hW.lt_ (by decide)
  have HBAD := Lib.hid (fun (k : Int) (w' : World) (hq : q = (k, r)) (hk : Kept (Bs B w) w w') (hS : RefS B w' r S A H n c m c2 n3 c3) => show RTells B w q (.returned (refV r k S A H n c m c2 n3 c3)) w' from ⟨hk, S, A, H, n, c, m, c2, n3, c3, by rw [hq], by rw [hq]; exact hS⟩)
  unfold refV at HBAD ⊢
  obtain ⟨b1, hb1⟩ : ∃ b, b = r.max := ⟨_, rfl⟩
  obtain ⟨b2, hb2⟩ : ∃ b, b = r.begun := ⟨_, rfl⟩
  obtain ⟨b3, hb3⟩ : ∃ b, b = decide (¬ r.arcs = []) := ⟨_, rfl⟩
  obtain ⟨b4, hb4⟩ : ∃ b, b = r.es.isSome := ⟨_, rfl⟩
  obtain ⟨b5, hb5⟩ : ∃ b, b = r.et.isSome := ⟨_, rfl⟩
  obtain ⟨i1, hi1⟩ : ∃ b, b = r.es.getD 0 := ⟨_, rfl⟩
  obtain ⟨i2, hi2⟩ : ∃ b, b = r.et.getD 0 := ⟨_, rfl⟩
  obtain ⟨i3, hi3⟩ : ∃ b, b = r.many := ⟨_, rfl⟩
  obtain ⟨i4, hi4⟩ : ∃ b : Int, b = r.sup.length := ⟨_, rfl⟩
  rw [← hb1, ← hb2, ← hb3, ← hb4, ← hb5, ← hi1, ← hi2, ← hi3, ← hi4] at HBAD ⊢
  have HPT := Lib.hid (And.intro hb1 (And.intro hb2 (And.intro hb3 (And.intro hb4 (And.intro hb5 (And.intro hi1 (And.intro hi2 (And.intro hi3 hi4))))))))
  have hI0 := Blk.new w 88 (pC b1 b2 b3 b4 b5 i1 i2 i3 i4 0 S A H n c m c2 n3 c3)
  have hI1 := hI0.alloc (.cells #[.bool false, .slice none 0 0, .slice none 0 0, .int .i64 0, .int .i64 0, .bool false, .int .i64 0, .int .i64 0, .bool false, .slice none 0 0, .bool false, .bool false, .int .i64 0] 88)
  have hZ1 := Blk.new (w.alloc (.cells (pC b1 b2 b3 b4 b5 i1 i2 i3 i4 0 S A H n c m c2 n3 c3) 88)) 88 #[.bool false, .slice none 0 0, .slice none 0 0, .int .i64 0, .int .i64 0, .bool false, .int .i64 0, .int .i64 0, .bool false, .slice none 0 0, .bool false, .bool false, .int .i64 0]
  have hbI : Below w.heap.size w ((w.alloc (.cells (pC b1 b2 b3 b4 b5 i1 i2 i3 i4 0 S A H n c m c2 n3 c3) 88)).alloc (.cells #[.bool false, .slice none 0 0, .slice none 0 0, .int .i64 0, .int .i64 0, .bool false, .int .i64 0, .int .i64 0, .bool false, .slice none 0 0, .bool false, .bool false, .int .i64 0] 88)) := ((Below.refl _ w).alloc (Nat.le_refl _) _).alloc (by simp) _
  simp only [World.size_alloc] at hZ1
  unfold pC at HBAD hI1 hZ1 hbI ⊢
  have HI := Lib.hid (And.intro hI1 (And.intro hZ1 hbI))
  clear hb1 hb2 hb3 hb4 hb5 hi1 hi2 hi3 hi4 hI0 hI1 hZ1 hbI
  have hc1 := (HI.out.2.2.cell (p := ⟨wb, wo + 1, none⟩) lW).trans hc'
  have lW1 : wb < ((w.alloc (.cells #[.bool b1, .slice S n c, .slice A m c2, .int .i64 i1, .int .i64 i2, .bool b2, .int .i64 i4, .int .i64 i3, .bool b3, .slice H n3 c3, .bool b4, .bool b5, .int .i64 0] 88)).alloc (.cells #[.bool false, .slice none 0 0, .slice none 0 0, .int .i64 0, .int .i64 0, .bool false, .int .i64 0, .int .i64 0, .bool false, .slice none 0 0, .bool false, .bool false, .int .i64 0] 88)).heap.size := Nat.lt_of_lt_of_le lW HI.out.2.2.size
  have HS := Lib.hid hS
  clear hS hq hK hKd h1 hW
  go_enter Tryz.func64, Tryz.ntmps64
  go_wp2_with fail
  generalize (w.alloc (.cells #[.bool b1, .slice S n c, .slice A m c2, .int .i64 i1, .int .i64 i2, .bool b2, .int .i64 i4, .int .i64 i3, .bool b3, .slice H n3 c3, .bool b4, .bool b5, .int .i64 0] 88)).alloc (.cells #[.bool false, .slice none 0 0, .slice none 0 0, .int .i64 0, .int .i64 0, .bool false, .int .i64 0, .int .i64 0, .bool false, .slice none 0 0, .bool false, .bool false, .int .i64 0] 88) = W0 at *
  refine (fail_any b1 b2 b3 b4 b5 i1 i2 i3 i4 10 S A H n c m c2 n3 c3 _).mono ?_
  rintro e wf ⟨rfl, hbf⟩
  have hzf := HI.out.2.1.below hbf HI.out.2.1.lt
  have hbw := HI.out.2.2.trans (hbf.mono HI.out.2.2.size)
  obtain ⟨z0, z1, z2, z3, z4, z5, z6, z7, z8, z9, z10, z11, z12⟩ := cells13 hzf
  obtain ⟨f0, f1, f2, f3, f4, f5, f6, f7, f8, f9, f10, f11, f12⟩ := frozen13 hzf
  have lz := hzf.lt
  have HZ := Lib.hid (And.intro hzf hbw)
  clear hzf hbw hbf
  unfold pC
  go_wp2_with fail
  refine ret13 (fn := Tryz.f64) rfl rfl rfl (HZ.out.1.put13 (.bool b1) (.slice S n c) (.slice A m c2) (.int .i64 i1) (.int .i64 i2) (.bool b2) (.int .i64 i4) (.int .i64 i3) (.bool b3) (.slice H n3 c3) (.bool b4) (.bool b5) (.int .i64 10)) (HBAD.out 10 _ HQ.out ((Kept.of_below HZ.out.2 (Bs B w)).put13 (.bool b1) (.slice S n c) (.slice A m c2) (.int .i64 i1) (.int .i64 i2) (.bool b2) (.int .i64 i4) (.int .i64 i3) (.bool b3) (.slice H n3 c3) (.bool b4) (.bool b5) (.int .i64 10) (fun h => absurd h (by omega))) ?_)
  exact (HS.out.on HZ.out.2).far13_ HZ.out.1 (.bool b1) (.slice S n c) (.slice A m c2) (.int .i64 i1) (.int .i64 i2) (.bool b2) (.int .i64 i4) (.int .i64 i3) (.bool b3) (.slice H n3 c3) (.bool b4) (.bool b5) (.int .i64 10)
end Go.Proofs.YtoagphighgejnaaGreatDoor
