/- A frame, maps, the reader in memory. Conditions: none. -/
import Derived.Test.YtoagphighgejnaaGreatDoorH
import Derived.WalkSmall
import Derived.Deep.DeepCutAuto
import Derived.IntWalk
import Derived.Test.YtoagphighgejnaaGreatDoorFP2
import Derived.Deep.RegionHeld3
import Derived.Deep.RegionWith
import Derived.Lib.OthersKept
import Derived.Laws.EntriesVeiled
set_option linter.unusedSimpArgs false
set_option linter.unusedVariables false
namespace Go.Proofs.YtoagphighgejnaaGreatDoor
open Go.RowKit Go.Shelf

/-- what refuse panics with -/
def faultV (k : Int) : Value := .iface 71 (.agg #[.int .u16 k])
theorem refuse_no (k : Int) (w : World) : Calls Tryz.prog 42 #[.bool false, .int .u16 k] w fun e w' => e = .returned (.tuple #[]) ∧ w' = w := by
  go_enter Tryz.func42, Tryz.ntmps42
  go_wp2_with fail
  go_end0
  exact ⟨rfl, rfl⟩
theorem refuse_yes (k : Int) (w : World) : Calls Tryz.prog 42 #[.bool true, .int .u16 k] w fun e w' => e = .panicked [{ v := faultV k, recovered := false }] ∧ w' = w := by
  go_enter Tryz.func42, Tryz.ntmps42
  go_wp2_with fail
  simp [bodyPost, faultV]

theorem within_ok (v lo hi : Int) (w : World) (h0 : lo ≤ v) (h1 : v ≤ hi) : Calls Tryz.prog 74 #[.agg #[.int .i64 v, .bool false], .int .i64 lo, .int .i64 hi] w fun e w' => e = .returned (.int .i64 v) ∧ Below w.heap.size w w' := by
  have n0 : ¬ v < lo := by omega
  have n1 : ¬ hi < v := by omega
  have hb0 : Below w.heap.size w (w.alloc (.cells #[.int .i64 v, .bool false] 111)) := (Below.refl _ w).alloc (Nat.le_refl _) _
  go_enter Tryz.func74, Tryz.ntmps74
  go_wp2_with fail
  refine (refuse_no 11 _).mono ?_
  rintro e w1 ⟨rfl, rfl⟩
  go_wp2_with fail
  go_ret
  exact ⟨rfl, hb0⟩
theorem within_no (v lo hi : Int) (b : Bool) (w : World) (h : b = true ∨ v < lo ∨ hi < v) : Calls Tryz.prog 74 #[.agg #[.int .i64 v, .bool b], .int .i64 lo, .int .i64 hi] w fun e w' => e = .panicked [{ v := faultV 11, recovered := false }] ∧ Below w.heap.size w w' := by
  have hb0 : Below w.heap.size w (w.alloc (.cells #[.int .i64 v, .bool b] 111)) := (Below.refl _ w).alloc (Nat.le_refl _) _
  have key : ∀ W : World, Calls Tryz.prog 42 #[.bool true, .int .u16 11] W fun e w' => e = .panicked [{ v := faultV 11, recovered := false }] ∧ w' = W := refuse_yes 11
  cases b
  · by_cases n0 : v < lo
    · clear h
      go_enter Tryz.func74, Tryz.ntmps74
      go_wp2_with fail
      refine (key _).mono ?_
      rintro e w1 ⟨rfl, rfl⟩
      (first | go_wp2_with fail | skip); first | exact ⟨rfl, hb0⟩ | (simp [bodyPost]; exact hb0)
    · have n1 : hi < v := by simp at h; omega
      clear h
      go_enter Tryz.func74, Tryz.ntmps74
      go_wp2_with fail
      refine (key _).mono ?_
      rintro e w1 ⟨rfl, rfl⟩
      (first | go_wp2_with fail | skip); first | exact ⟨rfl, hb0⟩ | (simp [bodyPost]; exact hb0)
  · clear h
    go_enter Tryz.func74, Tryz.ntmps74
    go_wp2_with fail
    refine (key _).mono ?_
    rintro e w1 ⟨rfl, rfl⟩
    (first | go_wp2_with fail | skip); first | exact ⟨rfl, hb0⟩ | (simp [bodyPost]; exact hb0)

/-- a number, or a panic that tells it is too great -/
def NumOr (w : World) (ok : Prop) (v : Int) (e : Ending) (w' : World) : Prop := ((ok ∧ e = .returned (.int .i64 v)) ∨ (¬ ok ∧ e = .panicked [{ v := faultV 11, recovered := false }])) ∧ Below w.heap.size w w'
theorem within_or (v lo hi : Int) (b : Bool) (w : World) : Calls Tryz.prog 74 #[.agg #[.int .i64 v, .bool b], .int .i64 lo, .int .i64 hi] w (NumOr w (b = false ∧ lo ≤ v ∧ v ≤ hi) v) := by
  by_cases h : b = false ∧ lo ≤ v ∧ v ≤ hi
  · obtain ⟨rfl, h0, h1⟩ := h
    exact (within_ok v lo hi w h0 h1).mono fun e w' ⟨he, hb⟩ => ⟨.inl ⟨⟨rfl, h0, h1⟩, he⟩, hb⟩
  · exact (within_no v lo hi b w (by cases b <;> simp at h ⊢; omega)).mono fun e w' ⟨he, hb⟩ => ⟨.inr ⟨h, he⟩, hb⟩
theorem bound_inf (lo : Int) (w : World) : Calls Tryz.prog 77 #[.agg #[.int .i64 (-1), .bool false], .int .i64 lo] w fun e w' => e = .returned (.int .i64 4611686018427387904) ∧ Below w.heap.size w w' := by
  have hb0 : Below w.heap.size w (w.alloc (.cells #[.int .i64 (-1), .bool false] 111)) := (Below.refl _ w).alloc (Nat.le_refl _) _
  go_enter Tryz.func77, Tryz.ntmps77
  go_wp2_with fail
  go_ret
  exact ⟨rfl, hb0⟩
theorem bound_ok (v lo : Int) (w : World) (hv : ¬ v = -1) (h0 : lo ≤ v) (h1 : v ≤ 2147483648) : Calls Tryz.prog 77 #[.agg #[.int .i64 v, .bool false], .int .i64 lo] w fun e w' => e = .returned (.int .i64 v) ∧ Below w.heap.size w w' := by
  have hb0 : Below w.heap.size w (w.alloc (.cells #[.int .i64 v, .bool false] 111)) := (Below.refl _ w).alloc (Nat.le_refl _) _
  have hw := fun W => within_ok v lo 2147483648 W h0 h1
  go_enter Tryz.func77, Tryz.ntmps77
  go_wp2_with fail
  refine (hw _).mono ?_
  rintro e w1 ⟨rfl, hb1⟩
  go_wp2_with fail
  go_ret
  exact ⟨rfl, hb0.trans (hb1.mono hb0.size)⟩
theorem bound_no (v lo : Int) (b : Bool) (w : World) (h : b = true ∨ (¬ v = -1 ∧ (v < lo ∨ 2147483648 < v))) : Calls Tryz.prog 77 #[.agg #[.int .i64 v, .bool b], .int .i64 lo] w fun e w' => e = .panicked [{ v := faultV 11, recovered := false }] ∧ Below w.heap.size w w' := by
  have hb0 : Below w.heap.size w (w.alloc (.cells #[.int .i64 v, .bool b] 111)) := (Below.refl _ w).alloc (Nat.le_refl _) _
  have hw := fun W => within_no v lo 2147483648 b W (by rcases h with h | h; exact .inl h; exact .inr h.2)
  have HW := Lib.hid hw
  clear hw
  cases b
  · have hv : ¬ v = -1 := by simp at h; exact h.1
    clear h
    go_enter Tryz.func77, Tryz.ntmps77
    go_wp2_with fail
    refine (HW.out _).mono ?_
    rintro e w1 ⟨rfl, hb1⟩
    have hb2 := hb0.trans (hb1.mono hb0.size)
    (first | go_wp2_with fail | skip); first | exact ⟨rfl, hb2⟩ | (simp [bodyPost]; exact hb2)
  · clear h
    go_enter Tryz.func77, Tryz.ntmps77
    go_wp2_with fail
    refine (HW.out _).mono ?_
    rintro e w1 ⟨rfl, hb1⟩
    have hb2 := hb0.trans (hb1.mono hb0.size)
    (first | go_wp2_with fail | skip); first | exact ⟨rfl, hb2⟩ | (simp [bodyPost]; exact hb2)
theorem bound_or (v lo : Int) (b : Bool) (w : World) : Calls Tryz.prog 77 #[.agg #[.int .i64 v, .bool b], .int .i64 lo] w (NumOr w (b = false ∧ (v = -1 ∨ (lo ≤ v ∧ v ≤ 2147483648))) (if v = -1 then 4611686018427387904 else v)) := by
  by_cases h : b = false ∧ (v = -1 ∨ (lo ≤ v ∧ v ≤ 2147483648))
  · obtain ⟨rfl, h⟩ := h
    by_cases hv : v = -1
    · subst hv
      exact (bound_inf lo w).mono fun e w' ⟨he, hb⟩ => ⟨.inl ⟨⟨rfl, h⟩, he⟩, hb⟩
    · have h' := h.resolve_left hv
      rw [if_neg hv]
      exact (bound_ok v lo w hv h'.1 h'.2).mono fun e w' ⟨he, hb⟩ => ⟨.inl ⟨⟨rfl, h⟩, he⟩, hb⟩
  · exact (bound_no v lo b w (by cases b <;> simp at h ⊢; omega)).mono fun e w' ⟨he, hb⟩ => ⟨.inr ⟨h, he⟩, hb⟩

/-- the cells of a word's figure -/
def figC (x : List UInt8) : List Value := [.int .i64 (numL x).1, .bool (decide ((numL x).2 = 11))]
def figCells (ws : List (List UInt8)) : List Value := ws.flatMap figC
def figZ (m : Nat) : List Value := (List.replicate m [Value.int .i64 0, Value.bool false]).flatten
theorem figCells_length (ws : List (List UInt8)) : (figCells ws).length = 2 * ws.length := by
  induction ws with
  | nil => rfl
  | cons x ws ih => simp [figCells, figC] at ih ⊢; omega
theorem figZ_length (m : Nat) : (figZ m).length = 2 * m := by
  induction m with
  | zero => rfl
  | succ m ih => simp [figZ, List.replicate_succ] at ih ⊢; omega
theorem figZ_succ (m : Nat) : figZ (m + 1) = .int .i64 0 :: .bool false :: figZ m := by simp [figZ, List.replicate_succ]
theorem figCells_snoc (l : List (List UInt8)) (x : List UInt8) : figCells (l ++ [x]) = figCells l ++ figC x := by simp [figCells]
def figFill (ws : List (List UInt8)) (k n : Nat) : List Value := figCells (ws.take k) ++ figZ (n - k)
theorem fill_set (ws : List (List UInt8)) (k n : Nat) (x : List UInt8) (hx : ws[k]? = some x) (hk : k < n) (hn : ws.length = n) :
    ((figFill ws k n).set (2 * k) (.int .i64 (numL x).1)).set (2 * k + 1) (.bool (decide ((numL x).2 = 11))) = figFill ws (k + 1) n := by
  unfold figFill
  have hl : (figCells (ws.take k)).length = 2 * k := by rw [figCells_length, List.length_take]; omega
  have e1 : ws.take (k + 1) = ws.take k ++ [x] := by rw [List.take_add_one, hx]; rfl
  obtain ⟨m, hm⟩ : ∃ m, n - k = m + 1 := ⟨n - k - 1, by omega⟩
  have hm2 : n - (k + 1) = m := by omega
  rw [e1, hm, hm2, figZ_succ, figCells_snoc]
  rw [List.set_append_right _ _ (by omega), hl, Nat.sub_self, List.set_cons_zero, List.set_append_right _ _ (by omega), hl]
  rw [show 2 * k + 1 - 2 * k = 1 by omega, List.set_cons_succ, List.set_cons_zero]
  simp [figC]
theorem figZ_get : ∀ (n j : Nat), j < 2 * n → (figZ n)[j]? = some (if j % 2 = 0 then Value.int .i64 0 else Value.bool false)
  | 0, j, h => by omega
  | n + 1, 0, h => by rw [figZ_succ]; rfl
  | n + 1, 1, h => by rw [figZ_succ]; rfl
  | n + 1, j + 2, h => by
    rw [figZ_succ, List.getElem?_cons_succ, List.getElem?_cons_succ, figZ_get n j (by omega)]
    rw [show (j + 2) % 2 = j % 2 by omega]
theorem makeFigs (n : Nat) (hn : n ≤ 1000000) (W : World) : (Instr.makeSlice 108 (.int .i64 (n : Int)) (.int .i64 (n : Int))).run Tryz.prog W =
    .ok (.slice (some ⟨W.heap.size, 0, none⟩) n n) (W.alloc (.cells (figZ n).toArray 111)) := by
  have hinfo : (Tryz.prog.info? 111).map (fun i => (i.zero, i.size, i.bytes)) = some (some (.agg #[.int .i64 0, .bool false]), 2, 16) := by kernel_rfl
  obtain ⟨i3, hi3, hz30, hz31, hz32⟩ := info_parts hinfo
  have := run_make (P := Tryz.prog) W 108 111 i3 (.agg #[.int .i64 0, .bool false]) Tryz.underlying108 hi3 hz30 .i64 .i64 (n : Int) (n : Int) (by omega) (by omega) (by rw [hz32]; omega) (by omega)
  rw [hz31, Int.toNat_natCast] at this
  have e : madeCells #[.int .i64 0, .bool false] (n * 2) = (figZ n).toArray := by
    apply Array.ext
    · simp [madeCells, figZ_length]; omega
    · intro j h1 h2
      simp [madeCells] at h1 ⊢
      have h3 := figZ_get n j (by omega)
      rw [List.getElem?_eq_getElem (by rw [figZ_length]; omega)] at h3
      have h3 := Option.some.inj h3
      rw [h3]
      rcases Nat.mod_two_eq_zero_or_one j with h | h <;> simp [h]
  rw [← e]
  exact this

theorem numL_err (l : List UInt8) : (numL l).2 = 0 ∨ (numL l).2 = 10 ∨ (numL l).2 = 11 := by
  unfold numL; split
  · simp
  · split <;> simp
/-- what figures tells: the numbers of words, or that one has not the form -/
def FigTells (w : World) (ws : List (List UInt8)) (e : Ending) (w' : World) : Prop :=
  ((∀ x ∈ ws, (numL x).2 ≠ 10) ∧ ∃ fb, e = .returned (.slice (some ⟨fb, 0, none⟩) ws.length ws.length) ∧ Blk w' fb 111 (figCells ws).toArray ∧ w.heap.size ≤ fb ∧ Below w.heap.size w w') ∨
  ((∃ x ∈ ws, (numL x).2 = 10) ∧ e = .panicked [{ v := faultV 10, recovered := false }] ∧ Below w.heap.size w w')

set_option maxRecDepth 100000 in
set_option maxHeartbeats 3200000 in
theorem figures_in (A : Option Addr) (n c : Nat) (ws : List (List UInt8)) (w : World) (hE : Env w) (hr : Reads w w.heap.size 1 A n (ws.map strV)) (hn : n ≤ 100000) (hw : ∀ x ∈ ws, x.length ≤ 1000000) :
    Calls Tryz.prog 73 #[.slice A n c] w (FigTells w ws) := by
  have hl : ws.length ≤ n ∧ n ≤ ws.length := by have := hr.1; simp at this; omega
  have hmk := makeFigs n (by omega)
  have HR := Lib.hid hr
  have HW := Lib.hid hw
  clear hr hw
  obtain ⟨Z, hZ⟩ : ∃ Z : Array Value, Z = (figZ n).toArray := ⟨_, rfl⟩
  rw [← hZ] at hmk
  have HZ := Lib.hid hZ
  clear hZ
  go_enter Tryz.func73, Tryz.ntmps73
  go_wp2_with fail
  have hb0 : Below w.heap.size w (w.alloc (.cells Z 111)) := (Below.refl _ w).alloc (Nat.le_refl _) _
  have hB0 : Blk (w.alloc (.cells Z 111)) w.heap.size 111 (figFill ws 0 n).toArray := by
    have : figFill ws 0 n = figZ n := by simp [figFill, figCells]
    rw [this, ← HZ.out]; exact Blk.new w 111 _
  have HB0 := Lib.hid (And.intro hb0 hB0)
  clear hb0 hB0 hmk
  go_loopw [13] (fun i wr => ∃ k : Nat, k ≤ n ∧ i = .int .i64 k ∧ Hid (Blk wr w.heap.size 111 (figFill ws k n).toArray ∧ Below w.heap.size w wr ∧ ∀ x ∈ ws.take k, (numL x).2 ≠ 10)) (fun i _ => n - (intOf i).toNat)
  case atStart => exact ⟨0, Nat.zero_le _, rfl, Lib.hid ⟨HB0.out.2, HB0.out.1, by simp⟩⟩
  case round =>
    obtain ⟨k, hk, rfl, HS⟩ := hrel
    clear HB0
    by_cases hlt : k < n
    · obtain ⟨b, off, u, rfl, hbB, hx, hcell⟩ := (HR.out.below HS.out.2.1).at_ hlt
      simp only [List.getElem?_map, Option.map_eq_some_iff] at hx
      obtain ⟨x, hx, rfl⟩ := hx
      obtain ⟨X, hX⟩ : ∃ X : ByteArray, X = ⟨x.toArray⟩ := ⟨_, rfl⟩
      have hXl : X.data.toList = x := by rw [hX]
      have hXs : X.size ≤ 1000000 := by rw [hX]; show x.toArray.size ≤ _; have := HW.out x (List.mem_of_getElem? hx); simpa using this
      have hcell' : wr.cell? ⟨b, off + k, none⟩ = some (.string X) := by rw [hX]; exact hcell
      have HN := Lib.hid (fun W (hb : Below w.heap.size w W) => Number_in X (by omega) W (hE.on hb))
      rw [hXl] at HN
      have HX := Lib.hid hx
      have hne := numL_err x
      have lB := HS.out.1.lt
      have hsz := HS.out.2.1.size
      have lb : b < wr.heap.size := by omega
      have HF := Lib.hid (fill_set ws k n x hx hlt (by omega))
      clear hcell hX hXl hx
      have HNE := Lib.hid hne
      generalize hq : numL x = q at HN HF HNE
      have HQ := Lib.hid hq
      obtain ⟨v, er⟩ := q
      simp only at HN HF HNE
      clear hne hq
      go_wp2_with fail
      refine (HN.out _ HS.out.2.1).mono ?_
      rintro e w1 ⟨rfl, hb1⟩
      have hB1 := HS.out.1.below (hb1.mono (Nat.le_refl _)) lB
      have hb1' := HS.out.2.1.trans (hb1.mono hsz)
      have HS1 := Lib.hid (And.intro hB1 hb1')
      have lB1 : w.heap.size < w1.heap.size := Nat.lt_of_lt_of_le lB hb1.size
      clear hB1 hb1 hcell'
      by_cases h10 : er = 10
      · subst h10
        have hT : FigTells w ws (.panicked [{ v := faultV 10, recovered := false }]) w1 := .inr ⟨⟨x, List.mem_of_getElem? HX.out, by rw [HQ.out]⟩, rfl, HS1.out.2⟩
        have HT := Lib.hid hT
        clear hT
        go_wp2_with fail
        refine (refuse_yes 10 _).mono ?_
        rintro e w2 ⟨rfl, rfl⟩
        (first | go_wp2_with fail | skip); first | exact HT.out | (simp [bodyPost]; exact HT.out)
      · have hfl : (figFill ws k n).length = 2 * n := by
          unfold figFill; rw [List.length_append, figCells_length, figZ_length, List.length_take]; omega
        obtain ⟨u1, hu1⟩ : ∃ u, w1.cell? ⟨w.heap.size, k * 2, none⟩ = some u := ⟨_, (HS1.out.1.cell (k * 2)).trans (by rw [List.getElem?_toArray, List.getElem?_eq_getElem (by omega)])⟩
        obtain ⟨u2, hu2⟩ : ∃ u, w1.cell? ⟨w.heap.size, k * 2 + 1, none⟩ = some u := ⟨_, (HS1.out.1.cell (k * 2 + 1)).trans (by rw [List.getElem?_toArray, List.getElem?_eq_getElem (by omega)])⟩
        have g1 := HS1.out.1.frozen (k * 2)
        have g2 := HS1.out.1.frozen (k * 2 + 1)
        have h10' : (er == 10) = false := by simpa using h10
        go_wp2_with fail
        refine (refuse_no 10 _).mono ?_
        rintro e w2 ⟨rfl, rfl⟩
        go_wp2_with fail
        refine ⟨⟨k + 1, by omega, by go_num, Lib.hid ⟨?_, ?_, ?_⟩⟩, by simp [intOf]; omega⟩
        · have h1 := (HS1.out.1.set_ (k * 2) (.int .i64 v)).set_ (k * 2 + 1) (.bool (er == 11))
          rw [List.setIfInBounds_toArray, List.setIfInBounds_toArray] at h1
          have h2 := HF.out
          rw [Nat.mul_comm 2 k] at h2
          rw [← h2]
          exact h1
        · exact (HS1.out.2.setCell (p := ⟨w.heap.size, k * 2, none⟩) (Nat.le_refl _) _).setCell (p := ⟨w.heap.size, k * 2 + 1, none⟩) (Nat.le_refl _) _
        · intro y hy
          rw [List.take_add_one, HX.out] at hy
          rcases List.mem_append.1 hy with hy | hy
          · exact HS.out.2.2 y hy
          · obtain rfl : y = x := by simpa using hy
            rw [HQ.out]; exact h10
    · obtain rfl : k = n := by omega
      have hend : FigTells w ws (.returned (.slice (some ⟨w.heap.size, 0, none⟩) k k)) wr := by
        obtain ⟨h1, h2, h3⟩ := HS.out
        have e1 : ws.length = k := by omega
        refine .inl ⟨by rw [← List.take_of_length_le (i := k) (l := ws) (by omega)]; exact h3, w.heap.size, by rw [e1], ?_, Nat.le_refl _, h2⟩
        have e2 : figFill ws k k = figCells ws := by unfold figFill; rw [List.take_of_length_le (by omega), Nat.sub_self]; simp [figZ]
        rw [← e2]; exact h1
      have HEN := Lib.hid hend
      clear hend
      go_wp2_with fail
      go_ret
      exact HEN.out

/-- for a panic inside a region that draws its order: the region's walker is handed an empty one -/
theorem panic_out {X : Prop} (w : World) (h : X) (_ : wpAny Tryz.prog .gc #[] (fun _ _ _ => True) 0 #[] { tmps := #[], defers := [] } w) : X := h
set_option maxHeartbeats 1600000 in
theorem place_ok (rb n c : Nat) (A : Option Addr) (v : Int) (w : World) (hc : w.cell? ⟨rb, 1, none⟩ = some (.slice A n c)) (hlt : rb < w.heap.size) (h0 : 1 ≤ v) (h1 : v ≤ n) (hn : n ≤ 64) :
    Calls Tryz.prog 76 #[.pointer (some ⟨rb, 0, none⟩), .agg #[.int .i64 v, .bool false]] w fun e w' => e = .returned (.int .i64 (v - 1)) ∧ Below w.heap.size w w' := by
  have hb0 : Below w.heap.size w (w.alloc (.cells #[.int .i64 v, .bool false] 111)) := (Below.refl _ w).alloc (Nat.le_refl _) _
  have HW := Lib.hid (fun W => within_ok v 1 n W h0 h1)
  have hsub : IntKind.i64.wrap (v - 1) = v - 1 := IntWalk.i64_in _ (by omega)
  go_enter Tryz.func76, Tryz.ntmps76
  go_wp2_with fail
  go_region_with (go_at_call 74; refine (HW.out _).mono ?_; rintro e w1 ⟨rfl, hb1⟩)
  all_goals
    go_wp2_with fail
    go_ret
    exact ⟨rfl, hb0.drew.trans (hb1.mono hb0.size)⟩
set_option maxHeartbeats 1600000 in
theorem place_no (rb n c : Nat) (A : Option Addr) (v : Int) (b : Bool) (w : World) (hc : w.cell? ⟨rb, 1, none⟩ = some (.slice A n c)) (hlt : rb < w.heap.size) (h : b = true ∨ v < 1 ∨ n < v) :
    Calls Tryz.prog 76 #[.pointer (some ⟨rb, 0, none⟩), .agg #[.int .i64 v, .bool b]] w fun e w' => e = .panicked [{ v := faultV 11, recovered := false }] ∧ Below w.heap.size w w' := by
  have hb0 : Below w.heap.size w (w.alloc (.cells #[.int .i64 v, .bool b] 111)) := (Below.refl _ w).alloc (Nat.le_refl _) _
  have HW := Lib.hid (fun W => within_no v 1 n b W h)
  clear h
  go_enter Tryz.func76, Tryz.ntmps76
  go_wp2_with fail
  go_region_with (go_at_call 74; (refine (HW.out _).mono ?_; rintro e w1 ⟨rfl, hb1⟩; refine panic_out w ?_ ?_; (exact ⟨rfl, rfl, hb0.drew.trans (hb1.mono hb0.size)⟩)))
  all_goals exact trivial

structure Kept (S : Nat → Prop) (w w' : World) : Prop where
  os : w'.os = w.os
  tape : w'.tape = w.tape
  output : w'.output = w.output
  size : w.heap.size ≤ w'.heap.size
  block : ∀ k, k < w.heap.size → ¬ S k → w'.heap[k]? = w.heap[k]?

section
variable {S T : Nat → Prop} {w w1 w' : World}
theorem Kept.refl (S : Nat → Prop) (w : World) : Kept S w w := ⟨rfl, rfl, rfl, Nat.le_refl _, fun _ _ _ => rfl⟩
theorem Kept.trans (h : Kept S w w1) (k : Kept S w1 w') : Kept S w w' :=
  ⟨k.os.trans h.os, k.tape.trans h.tape, k.output.trans h.output, Nat.le_trans h.size k.size, fun i hi hs => (k.block i (Nat.lt_of_lt_of_le hi h.size) hs).trans (h.block i hi hs)⟩
theorem Kept.mono (h : Kept S w w') (hst : ∀ k, k < w.heap.size → S k → T k) : Kept T w w' :=
  ⟨h.os, h.tape, h.output, h.size, fun i hi hs => h.block i hi (fun hh => hs (hst i hi hh))⟩
theorem Kept.alloc (h : Kept S w w') (o : Obj) : Kept S w (w'.alloc o) :=
  ⟨h.os, h.tape, h.output, Nat.le_trans h.size (by simp), fun i hi hs => (Below.heap_alloc w' o i (Nat.lt_of_lt_of_le hi h.size)).trans (h.block i hi hs)⟩
theorem Kept.drew (h : Kept S w w') : Kept S w w'.drew := ⟨h.os, h.tape, h.output, h.size, h.block⟩
theorem Kept.drewN (h : Kept S w w') (n : Nat) : Kept S w (w'.drewN n) := ⟨h.os, h.tape, h.output, h.size, h.block⟩
theorem Kept.setCell (h : Kept S w w') {p : Addr} (hp : p.block < w.heap.size → S p.block) (u : Value) : Kept S w (w'.setCell p u) :=
  ⟨h.os, h.tape, h.output, by simpa [World.setCell] using h.size, fun i hi hs => (Below.heap_setCell w' p u i (by rintro rfl; exact hs (hp hi))).trans (h.block i hi hs)⟩
theorem Kept.of_below (h : Below w.heap.size w w') (S : Nat → Prop) : Kept S w w' := ⟨h.os, h.tape, h.output, h.size, fun i hi _ => h.block i hi⟩
theorem Kept.of_grown {row : Option Nat} (h : w.grownBy w' row) : Kept (fun k => some k = row) w w' := ⟨h.os, h.tape, h.output, h.size, fun i hi hs => h.block i hi hs⟩
theorem Kept.to_below (h : Kept S w w') {B : Nat} (hB : B ≤ w.heap.size) (hs : ∀ k, k < B → ¬ S k) : Below B w w' :=
  ⟨h.os, h.tape, h.output, h.size, fun i hi => h.block i (by omega) (hs i hi)⟩
theorem Blk.kept {g : Nat} {t : TypeId} {cs : Array Value} (h : Blk w g t cs) (hk : Kept S w w') (hg : ¬ S g) : Blk w' g t cs := (hk.block g h.lt hg).trans h
theorem Reads.kept {B size n : Nat} {A : Option Addr} {xs : List Value} (h : Reads w B size A n xs) (hk : Kept S w w') (hB : B ≤ w.heap.size) (hs : ∀ k, k < B → ¬ S k) : Reads w' B size A n xs :=
  h.below (hk.to_below hB hs)
theorem own_kept {base : Nat} {e : TypeId} {size n : Nat} {v : Value} {xs : List Value} (h : w.ownsRow base e size v n xs) (hk : Kept S w w') (hv : ∀ g, v.ownBlock = some g → ¬ S g) : w'.ownsRow base e size v n xs := by
  refine ⟨h.1, ?_⟩
  rcases h.2 with h1 | ⟨g, cap, cur, h1, h2, h3, h4⟩
  · exact .inl h1
  · exact .inr ⟨g, cap, cur, h1, h2, (hk.block g (Array.getElem?_eq_some_iff.1 h3).1 (hv g (by rw [h1]; rfl))).trans h3, h4⟩
end

/-- block r is a map with these entries -/
def MapB (w : World) (r : Nat) (es : Array MapEntry) (clock : Nat) : Prop := w.heap[r]? = some (.map es clock)
def setMap (w : World) (r : Nat) (es : Array MapEntry) (clock : Nat) : World := { w with heap := w.heap.setIfInBounds r (.map es clock) }
section
variable {w w' : World} {r : Nat} {es : Array MapEntry} {clock : Nat}
theorem MapB.lt (h : MapB w r es clock) : r < w.heap.size := (Array.getElem?_eq_some_iff.1 h).1
theorem MapB.new (w : World) : MapB (w.alloc (.map #[] 0)) w.heap.size #[] 0 := heap_alloc_new w _
theorem MapB.alloc (h : MapB w r es clock) (o : Obj) : MapB (w.alloc o) r es clock := (Below.heap_alloc w o r h.lt).trans h
theorem MapB.below {B : Nat} (h : MapB w r es clock) (hb : Below B w w') (hg : r < B) : MapB w' r es clock := (hb.block r hg).trans h
theorem MapB.kept {S : Nat → Prop} (h : MapB w r es clock) (hk : Kept S w w') (hg : ¬ S r) : MapB w' r es clock := (hk.block r h.lt hg).trans h
theorem MapB.set_ (h : MapB w r es clock) (es' : Array MapEntry) (c' : Nat) : MapB (setMap w r es' c') r es' c' := (MapKept.heap_set (w := w) h).1
theorem size_setMap (w : World) (r : Nat) (es : Array MapEntry) (c : Nat) : (setMap w r es c).heap.size = w.heap.size := by simp [setMap]
theorem Blk.setMap {g : Nat} {t : TypeId} {cs : Array Value} (h : Blk w g t cs) (hM : MapB w r es clock) (es' : Array MapEntry) (c' : Nat) : Blk (setMap w r es' c') g t cs := by
  have hne : g ≠ r := by rintro rfl; unfold Blk at h; unfold MapB at hM; rw [h] at hM; cases hM
  exact ((MapKept.heap_set (w := w) hM).2 g hne).trans h
theorem below_setMap {B : Nat} {w0 : World} (h : Below B w0 w) (hB : B ≤ r) (es' : Array MapEntry) (c' : Nat) : Below B w0 (setMap w r es' c') := by
  refine ⟨h.os, h.tape, h.output, by rw [size_setMap]; exact h.size, fun i hi => ?_⟩
  rw [← h.block i hi]
  simp only [YtoagphighgejnaaGreatDoor.setMap]
  rw [Array.getElem?_setIfInBounds, if_neg (by omega)]
theorem run_put {t kt et : TypeId} {s : ByteArray} {v : Value} (hm : Tryz.prog.underlying t = some (.map kt et)) (hk : Tryz.prog.underlying kt = some .string) (hb : MapB w r es clock) (hf : Instr.findNow .string (.string s) es.toList 0 = some none) :
    (Instr.mapUpdate t (.map (some r)) (.string s) v).run Tryz.prog w = .ok () (setMap w r (es.push { key := .string s, val := v, born := clock }) (clock + 1)) := by
  have hc : (Instr.checkKey false 10000 kt (.string s)).run Tryz.prog w = .ok () w := MapKept.run_checkKey (k := .string s) hk (by simp [MapKept.IsKey]) false 9999
  simp [Instr.mapUpdate, run_underlying hm, MapKept.run_getObj_map hb, hc, MapKept.run_findKey hk hf, MapKept.run_setObj_map _ hb, Result.andThen, setMap]
theorem run_look {t kt et : TypeId} {s : ByteArray} {i : Nat} {v : Value} (hm : Tryz.prog.underlying t = some (.map kt et)) (hk : Tryz.prog.underlying kt = some .string) (hb : MapB w r es clock) (hf : Instr.findNow .string (.string s) es.toList 0 = some (some (i, v))) :
    (Instr.lookup t (.map (some r)) (.string s) true).run Tryz.prog w = .ok (.tuple #[v, .bool true]) w := by
  have hc : ∀ b, (Instr.checkKey b 10000 kt (.string s)).run Tryz.prog w = .ok () w := fun b => MapKept.run_checkKey (k := .string s) hk (by simp [MapKept.IsKey]) b 9999
  simp [Instr.lookup, run_underlying hm, MapKept.run_getObj_map hb, hc, MapKept.run_findKey hk hf, Result.andThen]
theorem run_look_none {t kt et : TypeId} {s : ByteArray} {z : Value} (hm : Tryz.prog.underlying t = some (.map kt et)) (hk : Tryz.prog.underlying kt = some .string) (hz : ∀ w, (zeroValue et).run Tryz.prog w = .ok z w) (hb : MapB w r es clock) (hf : Instr.findNow .string (.string s) es.toList 0 = some none) :
    (Instr.lookup t (.map (some r)) (.string s) true).run Tryz.prog w = .ok (.tuple #[z, .bool false]) w := by
  have hc : ∀ b, (Instr.checkKey b 10000 kt (.string s)).run Tryz.prog w = .ok () w := fun b => MapKept.run_checkKey (k := .string s) hk (by simp [MapKept.IsKey]) b 9999
  simp [Instr.lookup, run_underlying hm, MapKept.run_getObj_map hb, hc, MapKept.run_findKey hk hf, hz, Result.andThen]
end

/-- the cells of marks -/
def Bv (x : Bool) : Value := .bool x
def bools (l : List Bool) : Array Value := (l.map Bv).toArray
theorem ints_at {l : List Int} {k : Nat} {x : Int} (h : l[k]? = some x) : (ints l)[k]? = some (.int .i64 x) := by simp [ints, h, I]
theorem ints_set (l : List Int) (k : Nat) (x : Int) : (ints l).setIfInBounds k (.int .i64 x) = ints (l.set k x) := by
  unfold ints; rw [List.setIfInBounds_toArray, List.map_set]; rfl
theorem bools_at {l : List Bool} {k : Nat} {x : Bool} (h : l[k]? = some x) : (bools l)[k]? = some (.bool x) := by simp [bools, h, Bv]
theorem bools_set (l : List Bool) (k : Nat) (x : Bool) : (bools l).setIfInBounds k (.bool x) = bools (l.set k x) := by
  unfold bools; rw [List.setIfInBounds_toArray, List.map_set]; rfl
def eS (x : Int) (b : Nat) : MapEntry := { key := .string ⟨#[115]⟩, val := .int .i64 x, born := b }
def eT (x : Int) (b : Nat) : MapEntry := { key := .string ⟨#[116]⟩, val := .int .i64 x, born := b }
/-- the map of the two ends -/
def EndsB (es et : Option Int) (ents : Array MapEntry) : Prop :=
  (es = none ∧ et = none ∧ ents = #[]) ∨ (∃ x b, es = some x ∧ et = none ∧ ents = #[eS x b]) ∨ (∃ y b, es = none ∧ et = some y ∧ ents = #[eT y b]) ∨
  (∃ x y b c, es = some x ∧ et = some y ∧ ents = #[eS x b, eT y c]) ∨ (∃ x y b c, es = some x ∧ et = some y ∧ ents = #[eT y b, eS x c])
variable {es et : Option Int} {ents : Array MapEntry} {B : Nat} {w w' : World} {rb : Nat} {r : RdV} {sb hb mb m c clk : Nat} {A : Option Addr}
theorem EndsB.find (h : EndsB es et ents) : (Instr.findNow .string (.string ⟨#[115]⟩) ents.toList 0 = some none ∧ es = none ∨ ∃ i x, es = some x ∧ Instr.findNow .string (.string ⟨#[115]⟩) ents.toList 0 = some (some (i, .int .i64 x))) ∧
    (Instr.findNow .string (.string ⟨#[116]⟩) ents.toList 0 = some none ∧ et = none ∨ ∃ i x, et = some x ∧ Instr.findNow .string (.string ⟨#[116]⟩) ents.toList 0 = some (some (i, .int .i64 x))) := by
  rcases h with ⟨rfl, rfl, rfl⟩ | ⟨x, b, rfl, rfl, rfl⟩ | ⟨x, b, rfl, rfl, rfl⟩ | ⟨x, y, b, c, rfl, rfl, rfl⟩ | ⟨x, y, b, c, rfl, rfl, rfl⟩
  · exact ⟨.inl ⟨rfl, rfl⟩, .inl ⟨rfl, rfl⟩⟩
  · exact ⟨.inr ⟨0, x, rfl, rfl⟩, .inl ⟨rfl, rfl⟩⟩
  · exact ⟨.inl ⟨rfl, rfl⟩, .inr ⟨0, x, rfl, rfl⟩⟩
  · exact ⟨.inr ⟨0, x, rfl, rfl⟩, .inr ⟨1, y, rfl, rfl⟩⟩
  · exact ⟨.inr ⟨1, x, rfl, rfl⟩, .inr ⟨0, y, rfl, rfl⟩⟩
theorem EndsB.size (h : EndsB es et ents) : ents.size < 2 ↔ ¬ (es.isSome = true ∧ et.isSome = true) := by
  rcases h with ⟨rfl, rfl, rfl⟩ | ⟨x, b, rfl, rfl, rfl⟩ | ⟨x, b, rfl, rfl, rfl⟩ | ⟨x, y, b, c, rfl, rfl, rfl⟩ | ⟨x, y, b, c, rfl, rfl, rfl⟩ <;> simp
theorem EndsB.putS (h : EndsB none et ents) (x : Int) (b : Nat) : EndsB (some x) et (ents.push (eS x b)) := by
  rcases h with ⟨_, rfl, rfl⟩ | ⟨x, b, h, _⟩ | ⟨y, c, _, rfl, rfl⟩ | ⟨x, y, b, c, h, _⟩ | ⟨x, y, b, c, h, _⟩
  · exact .inr (.inl ⟨x, b, rfl, rfl, rfl⟩)
  · cases h
  · exact .inr (.inr (.inr (.inr ⟨x, y, c, b, rfl, rfl, rfl⟩)))
  · cases h
  · cases h
theorem EndsB.putT (h : EndsB es none ents) (x : Int) (b : Nat) : EndsB es (some x) (ents.push (eT x b)) := by
  rcases h with ⟨rfl, _, rfl⟩ | ⟨y, c, rfl, _, rfl⟩ | ⟨y, c, _, h, _⟩ | ⟨x, y, b, c, _, h, _⟩ | ⟨x, y, b, c, _, h, _⟩
  · exact .inr (.inr (.inl ⟨x, b, rfl, rfl, rfl⟩))
  · exact .inr (.inr (.inr (.inl ⟨y, x, c, b, rfl, rfl, rfl⟩)))
  · cases h
  · cases h
  · cases h

/-- the reader's nine cells -/
def rdCells (r : RdV) (s a h m : Value) : Array Value := #[.bool r.max, s, a, .int .i64 0, .int .i64 0, .bool r.begun, .int .i64 r.many, h, m]
/-- a reader that has begun, in memory: its own block rb; the others lie from B on -/
structure RdMid (B : Nat) (w : World) (rb : Nat) (r : RdV) (sb hb mb m c clk : Nat) (A : Option Addr) (ents : Array MapEntry) : Prop where
  k : Blk w rb 77 (rdCells r (.slice (some ⟨sb, 0, none⟩) r.sup.length r.sup.length) (.slice A m c) (.slice (some ⟨hb, 0, none⟩) r.sup.length r.sup.length) (.map (some mb)))
  s : Blk w sb 2 (ints r.sup)
  h : Blk w hb 4 (bools r.had)
  a : w.ownsRow B 42 5 (.slice A m c) m (arcCells r.arcs)
  m : MapB w mb ents clk
  e : EndsB r.es r.et ents
  sB : B ≤ sb
  hB : B ≤ hb
  mB : B ≤ mb
def RdIn (B : Nat) (w : World) (rb : Nat) (r : RdV) : Prop :=
  (r = rd0 ∧ Blk w rb 77 (rdCells rd0 (.slice none 0 0) (.slice none 0 0) (.slice none 0 0) (.map none))) ∨
  (r.begun = true ∧ ∃ sb hb mb m c clk A ents, RdMid B w rb r sb hb mb m c clk A ents)
/-- what turns: the reader's own block, and what lies from B on -/
abbrev Rs (B rb : Nat) : Nat → Prop := fun k => k = rb ∨ B ≤ k
/-- how a line's reading ends -/
def Step (B rb : Nat) (w : World) (q : Int × RdV) (e : Ending) (w' : World) : Prop :=
  Kept (Rs B rb) w w' ∧ ((q.1 = 0 ∧ e = .returned (.tuple #[]) ∧ RdIn B w' rb q.2) ∨ (¬ q.1 = 0 ∧ e = .panicked [{ v := faultV q.1, recovered := false }]))
theorem RdIn.blk (h : RdIn B w rb r) : ∃ s a hh m, Blk w rb 77 (rdCells r s a hh m) := by
  rcases h with ⟨rfl, h⟩ | ⟨_, sb, hb, mb, m, c, clk, A, ents, h⟩
  · exact ⟨_, _, _, _, h⟩
  · exact ⟨_, _, _, _, h.k⟩
theorem RdMid.on (h : RdMid B w rb r sb hb mb m c clk A ents) (hb' : Below w.heap.size w w') : RdMid B w' rb r sb hb mb m c clk A ents :=
  ⟨h.k.below hb' h.k.lt, h.s.below hb' h.s.lt, h.h.below hb' h.h.lt, own_below h.a hb', h.m.below hb' h.m.lt, h.e, h.sB, h.hB, h.mB⟩
theorem RdIn.on (h : RdIn B w rb r) (hb' : Below w.heap.size w w') : RdIn B w' rb r := by
  rcases h with ⟨h0, h⟩ | ⟨hg, sb, hb, mb, m, c, clk, A, ents, h⟩
  · exact .inl ⟨h0, h.below hb' h.lt⟩
  · exact .inr ⟨hg, sb, hb, mb, m, c, clk, A, ents, h.on hb'⟩
/-- the nine cells of a reader -/
theorem Blk.nine {w : World} {g : Nat} {t : TypeId} {r : RdV} {s a h m : Value} (k : Blk w g t (rdCells r s a h m)) : w.cell? ⟨g, 0, none⟩ = some (.bool r.max) ∧ w.cell? ⟨g, 1, none⟩ = some s ∧ w.cell? ⟨g, 2, none⟩ = some a ∧ w.cell? ⟨g, 3, none⟩ = some (.int .i64 0) ∧
    w.cell? ⟨g, 4, none⟩ = some (.int .i64 0) ∧ w.cell? ⟨g, 5, none⟩ = some (.bool r.begun) ∧ w.cell? ⟨g, 6, none⟩ = some (.int .i64 r.many) ∧ w.cell? ⟨g, 7, none⟩ = some h ∧ w.cell? ⟨g, 8, none⟩ = some m :=
  ⟨(k.cell 0).trans rfl, (k.cell 1).trans rfl, (k.cell 2).trans rfl, (k.cell 3).trans rfl, (k.cell 4).trans rfl, (k.cell 5).trans rfl, (k.cell 6).trans rfl, (k.cell 7).trans rfl, (k.cell 8).trans rfl⟩

theorem Words_new (s : ByteArray) (hs : s.size < 4294967281) (w : World) (hE : Env w) :
    Calls Tryz.prog 41 #[.string s] w fun e w' => e = .returned (.slice (some ⟨w.heap.size, 0, none⟩) (cutL 32 s.data.toList).length (cutL 32 s.data.toList).length) ∧ Blk w' w.heap.size 9 ((cutL 32 s.data.toList).map strV).toArray ∧ Below w.heap.size w w' ∧ w'.heap.size = w.heap.size + 1 := by
  obtain ⟨m, hm⟩ := hE.max
  obtain ⟨L, hL⟩ : ∃ L, cutL 32 s.data.toList = L := ⟨_, rfl⟩
  rw [hL]
  have HL := Lib.hid hL
  clear hL
  go_enter Tryz.func41, Tryz.ntmps41
  go_wp2_with fail
  refine (Tryz.strings_Split s ⟨#[32]⟩ m w hs hm (by decide)).mono ?_
  rintro e w' ⟨rfl, rfl⟩
  have hcut : (Lib.splitB ⟨#[32]⟩ 0 (Lib.countB s ⟨#[32]⟩) s).map (·.data.toList) = L := by
    rw [Lib.splitB_data, ← HL.out]
    exact split_cut 32 s.data.toList.length s.data.toList (Nat.le_refl _)
  have hlen : (Lib.splitB ⟨#[32]⟩ 0 (Lib.countB s ⟨#[32]⟩) s).length = Lib.countB s ⟨#[32]⟩ + 1 := Lib.splitB_all ⟨#[32]⟩ (by decide) 0 _ s rfl
  rw [map_strV, hcut]
  have hlen2 : L.length = Lib.countB s ⟨#[32]⟩ + 1 := by rw [← hlen, ← hcut, List.length_map]
  rw [← hlen2]
  have HB := Lib.hid (Blk.new w 9 (L.map strV).toArray)
  clear hcut hlen hlen2 hm
  go_wp2_with fail
  go_ret
  exact ⟨rfl, HB.out, (Below.refl _ w).alloc (Nat.le_refl _) _, by simp⟩
/-- a part of words that lie in a block, from a word on -/
theorem Reads.part {w : World} {wb : Nat} {ws : List (List UInt8)} (h : Blk w wb 9 (ws.map strV).toArray) (k n : Nat) (hn : ws.length = k + n) : Reads w w.heap.size 1 (some ⟨wb, k, none⟩) n ((ws.drop k).map strV) := by
  refine ⟨by simp; omega, fun _ => ⟨wb, k, rfl, h.lt, fun j u hu => ?_⟩⟩
  rw [h.cell, List.getElem?_toArray]
  simp only [List.getElem?_map, List.getElem?_drop] at hu ⊢
  exact hu
end Go.Proofs.YtoagphighgejnaaGreatDoor
