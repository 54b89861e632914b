/- bitText (47), arcText (49), line at numbers (44), marks (46), places (48). Conditions: none. Printed by genQ7.py. -/
import Derived.Test.YtpfbgoogajgciaaDoorQ6
set_option linter.unusedSimpArgs false
set_option linter.unusedVariables false
namespace Go.Proofs.YtpfbgoogajgciaaDoor
open Go.RowKit Go.Shelf

theorem bitText_in (x : Int) (hx : x = 0 ∨ x = 1) (w : World) : Calls Tryd.prog 19 #[.bool (decide (x = 1))] w fun e w' => e = .returned (strV (Lib.itoa x)) ∧ Below w.heap.size w w' := by
  rcases hx with rfl | rfl
  · rw [show decide ((0 : Int) = 1) = false by decide]
    go_enter Tryd.func19, Tryd.ntmps19
    go_wp2
    go_ret
    exact ⟨congrArg Ending.returned (by rw [show Lib.itoa 0 = [48] by decide +kernel]; rfl), Below.refl _ _⟩
  · rw [show decide ((1 : Int) = 1) = true by decide]
    go_enter Tryd.func19, Tryd.ntmps19
    go_wp2
    go_ret
    exact ⟨congrArg Ending.returned (by rw [show Lib.itoa 1 = [49] by decide +kernel]; rfl), Below.refl _ _⟩
theorem arcText_in (x : Int) (h0 : -9223372036854775808 ≤ x) (h1 : x ≤ 9223372036854775807) (w : World) (hE : Env w) : Calls Tryd.prog 21 #[.int .i64 x] w fun e w' => e = .returned (strV (Lib.itoa x)) ∧ Below w.heap.size w w' := by
  go_enter Tryd.func21, Tryd.ntmps21
  go_wp2_with fail
  refine (Text_in x h0 h1 w hE).mono ?_
  rintro e w1 ⟨rfl, hb⟩
  go_wp2_with fail
  go_ret
  exact ⟨rfl, hb⟩
theorem mk0 (n : Nat) (hn : n ≤ 1000000) : ∃ cur : Array Value, cur.size = n + 1 ∧ ∀ W : World, (Instr.makeSlice 39 (.int .i64 0) (.int .i64 ((n : Int) + 1))).run Tryd.prog W = .ok (.slice (some ⟨W.heap.size, 0, none⟩) 0 (n + 1)) (W.alloc (.cells cur 9)) := by
  obtain ⟨i3, hi3, hz30, hz31, hz32⟩ := info_parts infoStr
  refine ⟨madeCells (Value.string ⟨#[]⟩).cells (n + 1), by simp [madeCells], fun W => ?_⟩
  have := run_make (P := Tryd.prog) W 39 9 i3 (.string ⟨#[]⟩) Tryd.underlying39 hi3 hz30 .i64 .i64 0 ((n : Int) + 1) (by omega) (by omega) (by rw [hz32]; omega) (by omega)
  simpa [hz31] using this
theorem join_all_le (name : List UInt8) (xs : List Int) (hx : ∀ x ∈ xs, -9223372036854775808 ≤ x ∧ x ≤ 9223372036854775807) : (Lib.join (name :: xs.map Lib.itoa) [32]).length ≤ name.length + 22 * xs.length := by
  rw [Lib.join_cons, List.length_append]
  have : ∀ l : List Int, (∀ x ∈ l, -9223372036854775808 ≤ x ∧ x ≤ 9223372036854775807) → (Lib.joinTail [32] (l.map Lib.itoa)).length ≤ 22 * l.length := by
    intro l hl
    induction l with
    | nil => simp [Lib.joinTail]
    | cons a l ih =>
      have h1 := ih (fun x hx => hl x (by simp [hx]))
      have h2 := Lib.itoa_length_le a (hl a (by simp)).1 (hl a (by simp)).2
      simp only [Lib.joinTail, List.map_cons, List.flatten_cons, List.length_append, List.length_cons, List.length_nil] at h1 ⊢
      omega
  have := this xs hx
  omega


set_option maxHeartbeats 1600000 in
set_option maxRecDepth 100000 in
theorem line44_in (name : ByteArray) (A : Option Addr) (n c B : Nat) (xs : List Int) (w : World) (hE : Env w) (hr : Reads w B 1 A n (xs.map I)) (hB : B ≤ w.heap.size) (hn : n ≤ 100000) (hnm : name.size ≤ 1000) (hx : ∀ x ∈ xs, -9223372036854775808 ≤ x ∧ x ≤ 9223372036854775807) :
    Calls Tryd.prog 16 #[.string name, .slice A n c, .func (.func 17) #[] #[]] w fun e w' => e = .returned (strV (Lib.join (name.data.toList :: xs.map Lib.itoa) [32] ++ [10])) ∧ Below w.heap.size w w' := by
  have hlen : xs.length = n := by have := hr.1; simpa using this
  have HX : Hid (∀ x ∈ xs, -9223372036854775808 ≤ x ∧ x ≤ 9223372036854775807) := Lib.hid hx
  have HX2 : Hid (∀ x ∈ xs, -9223372036854775808 ≤ x ∧ x ≤ 9223372036854775807) := Lib.hid (fun x hxx => by have := hx x hxx; omega)
  obtain ⟨cur, hcur, hmk⟩ := mk0 n (by omega)
  obtain ⟨i0, hi, hz0, hz1, hz2⟩ := info_parts infoStr
  have HI := Lib.hid hi
  have HZ0 := Lib.hid hz0
  have HZ1 := Lib.hid hz1
  have HZ2 := Lib.hid hz2
  have HR := Lib.hid hr
  clear hi hz0 hz1 hz2 hx hr
  have hown0 : (w.alloc (.cells cur 9)).ownsRow w.heap.size 9 1 (.slice (some ⟨w.heap.size, 0, none⟩) 0 (n + 1)) 0 [] := World.ownsRow_made w cur (n + 1) (Nat.le_refl _) (by unfold maxLen; omega) (by omega)
  have hb0 : Below w.heap.size w (w.alloc (.cells cur 9)) := (Below.refl _ w).alloc (Nat.le_refl _) _
  have HO1 := Lib.hid (hown0.alloc (.cells #[.string name] 9))
  have HO := Lib.hid hown0
  have B1 : Hid (0 + 1 ≤ maxLen) := Lib.hid (by unfold maxLen; omega)
  have B3 : Hid (w.heap.size ≤ ((w.alloc (.cells cur 9)).alloc (.cells #[.string name] 9)).heap.size) := Lib.hid (by simp; omega)
  have CN := Lib.hid (cell_one_new (w.alloc (.cells cur 9)) (.string name) 9)
  rw [World.size_alloc] at CN
  clear hown0 hcur
  go_enter Tryd.func16, Tryd.ntmps16
  go_wp2_with (at_builtin; refine wpList_append_own _ rfl _ _ 39 rfl w.heap.size 9 i0 (.string ⟨#[]⟩) 1 16 Tryd.underlying39 HI.out HZ0.out HZ1.out HZ2.out rfl (by decide) _ _ _ rfl HO1.out ⟨w.heap.size + 1, 0, none⟩ 1 1 [.string name] rfl rfl CN.out (by simp [Value.oneCell']) B1.out (by omega) B3.out ?_)
  intro v0 w1 hown1 hgrow _
  have hb1 : Below w.heap.size w w1 := ((hb0.alloc (by simp) (.cells #[.string name] 9)).grown hgrow (by simp; omega) (fun j hj => (HO.out.lt j hj).1))
  have hown1' : w1.ownsRow w.heap.size 9 1 v0 1 ((name.data.toList :: (xs.take 0).map Lib.itoa).map strV) := by
    rw [List.take_zero, List.map_nil, List.map_cons, List.map_nil, strV_data]; exact hown1
  clear hgrow hmk hb0 HO HO1 hown1
  obtain ⟨A0, cp0, rfl⟩ := own_form hown1'
  have HO1 := Lib.hid hown1'
  clear hown1'
  go_wp2_with fail
  go_loopw [7, 20] (fun l i wr => ∃ k : Nat, k ≤ n ∧ i = .int .i64 k ∧ wr.ownsRow w.heap.size 9 1 l (k + 1) ((name.data.toList :: (xs.take k).map Lib.itoa).map strV) ∧ Below w.heap.size w wr) (fun _ i _ => n - (Lib.intOf i).toNat)
  case atStart => exact ⟨0, Nat.zero_le _, rfl, HO1.out, hb1⟩
  case round =>
    obtain ⟨k, hk, rfl, hown, hbw⟩ := hrel
    have hE1 := hE.on hbw
    have HO := Lib.hid hown
    clear hown HO1
    obtain ⟨A', cp, rfl⟩ := own_form HO.out
    have hbs := hbw.size
    by_cases hlt : k < n
    · obtain ⟨b, off, u, rfl, -, hx, hcell⟩ := ((HR.out.more hB).below hbw).at_ hlt
      simp only [List.getElem?_map, Option.map_eq_some_iff] at hx
      obtain ⟨x, hx, rfl⟩ := hx
      have hxr := HX.out x (List.mem_of_getElem? hx)
      have HT : Hid (Calls Tryd.prog 17 #[.int .i64 x] wr fun e w' => e = .returned (strV (Lib.itoa x)) ∧ Below wr.heap.size wr w') := Lib.hid (Text_in x hxr.1 hxr.2 wr hE1)
      unfold I at hcell
      have HS : Hid ((xs.take (k + 1)).map Lib.itoa = (xs.take k).map Lib.itoa ++ [Lib.itoa x]) := Lib.hid (by rw [List.take_add_one, hx]; simp)
      obtain ⟨Xt, hXt⟩ : ∃ Xt : ByteArray, Xt = ⟨(Lib.itoa x).toArray⟩ := ⟨_, rfl⟩
      rw [show strV (Lib.itoa x) = .string Xt by rw [hXt]; rfl] at HT
      have HXT : Hid (strV (Lib.itoa x) = .string Xt) := Lib.hid (by rw [hXt]; rfl)
      clear hx hXt hxr
      go_wp2_with fail
      refine HT.out.mono ?_
      rintro e w2 ⟨rfl, hb2⟩
      have hbw2 := hbw.trans (hb2.mono hbw.size)
      have hown2 : (w2.alloc (.cells #[.string Xt] 9)).ownsRow w.heap.size 9 1 (.slice A' (k + 1) cp) (k + 1) _ := (own_below HO.out hb2).alloc _
      have B1 : Hid (k + 1 + 1 ≤ maxLen) := Lib.hid (by unfold maxLen; omega)
      have B2 : Hid ((k + 1 + 1) * 16 ≤ 140737488355328) := Lib.hid (by omega)
      have B3 : Hid (w.heap.size ≤ (w2.alloc (.cells #[.string Xt] 9)).heap.size) := Lib.hid (by have := hbw2.size; simp; omega)
      have HO2 := Lib.hid hown2
      clear hown2 hb2
      go_wp2_with (at_builtin; refine wpList_append_own _ rfl _ _ 39 rfl w.heap.size 9 i0 (.string ⟨#[]⟩) 1 16 Tryd.underlying39 HI.out HZ0.out HZ1.out HZ2.out rfl (by decide) _ _ _ rfl HO2.out ⟨w2.heap.size, 0, none⟩ 1 1 [.string Xt] rfl rfl (cell_one_new _ _ _) (by simp [Value.oneCell']) B1.out B2.out B3.out ?_)
      intro v' w3 hown' hgrow' _
      go_wp2_with fail
      refine ⟨⟨k + 1, by omega, rfl, ?_, ?_⟩, by simp [Lib.intOf]; omega⟩
      · rw [HS.out, ← List.cons_append, List.map_append, show List.map strV [Lib.itoa x] = [.string Xt] by rw [← HXT.out]; rfl]; simpa [List.map_take] using hown'
      · exact (hbw2.alloc hbw2.size _).grown hgrow' (by have := hbw2.size; simp; omega) (fun j hj => (HO.out.lt j hj).1)
    · obtain rfl : k = n := by omega
      have htk : xs.take k = xs := List.take_of_length_le (by omega)
      rw [htk] at HO
      have hjl := join_all_le name.data.toList xs HX2.out
      have hnl : name.data.toList.length = name.size := rfl
      have HJ := Lib.hid (Join_in A' (k + 1) cp (name.data.toList :: xs.map Lib.itoa) ⟨#[32]⟩ wr (by simp; omega) (own_cap HO.out) (Reads.of_own HO.out) (by omega) (by show (Lib.join _ [32]).length ≤ _; omega))
      rw [show (⟨#[32]⟩ : ByteArray).data.toList = [32] from rfl] at HJ
      obtain ⟨J, hJ⟩ : ∃ J : ByteArray, J = ⟨(Lib.join (name.data.toList :: xs.map Lib.itoa) [32]).toArray⟩ := ⟨_, rfl⟩
      have hJs : J.size ≤ 3000000 := by rw [hJ]; show (Lib.join (name.data.toList :: xs.map Lib.itoa) [32]).length ≤ _; omega
      have hJl : J.data.toList = Lib.join (name.data.toList :: xs.map Lib.itoa) [32] := by rw [hJ]
      rw [show strV (Lib.join (name.data.toList :: xs.map Lib.itoa) [32]) = .string J by rw [hJ]; rfl] at HJ
      have HJL := Lib.hid hJl
      clear hJ hJl hjl htk HO
      go_wp2_with fail
      refine HJ.out.mono ?_
      rintro e w2 ⟨rfl, hb2⟩
      go_wp2_with fail
      go_ret
      refine ⟨congrArg Ending.returned ?_, hbw.trans (hb2.mono hbw.size)⟩
      show Value.string (J ++ ⟨#[10]⟩) = _
      rw [← strV_data, ← HJL.out]
      refine congrArg strV ?_
      simp


set_option maxHeartbeats 1600000 in
set_option maxRecDepth 100000 in
theorem line46_in (name : ByteArray) (A : Option Addr) (n c B : Nat) (xs : List Int) (w : World) (hE : Env w) (hr : Reads w B 1 A n (xs.map Bv)) (hB : B ≤ w.heap.size) (hn : n ≤ 100000) (hnm : name.size ≤ 1000) (hx : ∀ x ∈ xs, x = 0 ∨ x = 1) :
    Calls Tryd.prog 18 #[.string name, .slice A n c, .func (.func 19) #[] #[]] w fun e w' => e = .returned (strV (Lib.join (name.data.toList :: xs.map Lib.itoa) [32] ++ [10])) ∧ Below w.heap.size w w' := by
  have hlen : xs.length = n := by have := hr.1; simpa using this
  have HX : Hid (∀ x ∈ xs, x = 0 ∨ x = 1) := Lib.hid hx
  have HX2 : Hid (∀ x ∈ xs, -9223372036854775808 ≤ x ∧ x ≤ 9223372036854775807) := Lib.hid (fun x hxx => by have := hx x hxx; omega)
  obtain ⟨cur, hcur, hmk⟩ := mk0 n (by omega)
  obtain ⟨i0, hi, hz0, hz1, hz2⟩ := info_parts infoStr
  have HI := Lib.hid hi
  have HZ0 := Lib.hid hz0
  have HZ1 := Lib.hid hz1
  have HZ2 := Lib.hid hz2
  have HR := Lib.hid hr
  clear hi hz0 hz1 hz2 hx hr
  have hown0 : (w.alloc (.cells cur 9)).ownsRow w.heap.size 9 1 (.slice (some ⟨w.heap.size, 0, none⟩) 0 (n + 1)) 0 [] := World.ownsRow_made w cur (n + 1) (Nat.le_refl _) (by unfold maxLen; omega) (by omega)
  have hb0 : Below w.heap.size w (w.alloc (.cells cur 9)) := (Below.refl _ w).alloc (Nat.le_refl _) _
  have HO1 := Lib.hid (hown0.alloc (.cells #[.string name] 9))
  have HO := Lib.hid hown0
  have B1 : Hid (0 + 1 ≤ maxLen) := Lib.hid (by unfold maxLen; omega)
  have B3 : Hid (w.heap.size ≤ ((w.alloc (.cells cur 9)).alloc (.cells #[.string name] 9)).heap.size) := Lib.hid (by simp; omega)
  have CN := Lib.hid (cell_one_new (w.alloc (.cells cur 9)) (.string name) 9)
  rw [World.size_alloc] at CN
  clear hown0 hcur
  go_enter Tryd.func18, Tryd.ntmps18
  go_wp2_with (at_builtin; refine wpList_append_own _ rfl _ _ 39 rfl w.heap.size 9 i0 (.string ⟨#[]⟩) 1 16 Tryd.underlying39 HI.out HZ0.out HZ1.out HZ2.out rfl (by decide) _ _ _ rfl HO1.out ⟨w.heap.size + 1, 0, none⟩ 1 1 [.string name] rfl rfl CN.out (by simp [Value.oneCell']) B1.out (by omega) B3.out ?_)
  intro v0 w1 hown1 hgrow _
  have hb1 : Below w.heap.size w w1 := ((hb0.alloc (by simp) (.cells #[.string name] 9)).grown hgrow (by simp; omega) (fun j hj => (HO.out.lt j hj).1))
  have hown1' : w1.ownsRow w.heap.size 9 1 v0 1 ((name.data.toList :: (xs.take 0).map Lib.itoa).map strV) := by
    rw [List.take_zero, List.map_nil, List.map_cons, List.map_nil, strV_data]; exact hown1
  clear hgrow hmk hb0 HO HO1 hown1
  obtain ⟨A0, cp0, rfl⟩ := own_form hown1'
  have HO1 := Lib.hid hown1'
  clear hown1'
  go_wp2_with fail
  go_loopw [7, 20] (fun l i wr => ∃ k : Nat, k ≤ n ∧ i = .int .i64 k ∧ wr.ownsRow w.heap.size 9 1 l (k + 1) ((name.data.toList :: (xs.take k).map Lib.itoa).map strV) ∧ Below w.heap.size w wr) (fun _ i _ => n - (Lib.intOf i).toNat)
  case atStart => exact ⟨0, Nat.zero_le _, rfl, HO1.out, hb1⟩
  case round =>
    obtain ⟨k, hk, rfl, hown, hbw⟩ := hrel
    have hE1 := hE.on hbw
    have HO := Lib.hid hown
    clear hown HO1
    obtain ⟨A', cp, rfl⟩ := own_form HO.out
    have hbs := hbw.size
    by_cases hlt : k < n
    · obtain ⟨b, off, u, rfl, -, hx, hcell⟩ := ((HR.out.more hB).below hbw).at_ hlt
      simp only [List.getElem?_map, Option.map_eq_some_iff] at hx
      obtain ⟨x, hx, rfl⟩ := hx
      have hxr := HX.out x (List.mem_of_getElem? hx)
      have HT : Hid (Calls Tryd.prog 19 #[.bool (decide (x = 1))] wr fun e w' => e = .returned (strV (Lib.itoa x)) ∧ Below wr.heap.size wr w') := Lib.hid (bitText_in x hxr wr)
      unfold Bv at hcell
      have HS : Hid ((xs.take (k + 1)).map Lib.itoa = (xs.take k).map Lib.itoa ++ [Lib.itoa x]) := Lib.hid (by rw [List.take_add_one, hx]; simp)
      obtain ⟨Xt, hXt⟩ : ∃ Xt : ByteArray, Xt = ⟨(Lib.itoa x).toArray⟩ := ⟨_, rfl⟩
      rw [show strV (Lib.itoa x) = .string Xt by rw [hXt]; rfl] at HT
      have HXT : Hid (strV (Lib.itoa x) = .string Xt) := Lib.hid (by rw [hXt]; rfl)
      clear hx hXt hxr
      go_wp2_with fail
      refine HT.out.mono ?_
      rintro e w2 ⟨rfl, hb2⟩
      have hbw2 := hbw.trans (hb2.mono hbw.size)
      have hown2 : (w2.alloc (.cells #[.string Xt] 9)).ownsRow w.heap.size 9 1 (.slice A' (k + 1) cp) (k + 1) _ := (own_below HO.out hb2).alloc _
      have B1 : Hid (k + 1 + 1 ≤ maxLen) := Lib.hid (by unfold maxLen; omega)
      have B2 : Hid ((k + 1 + 1) * 16 ≤ 140737488355328) := Lib.hid (by omega)
      have B3 : Hid (w.heap.size ≤ (w2.alloc (.cells #[.string Xt] 9)).heap.size) := Lib.hid (by have := hbw2.size; simp; omega)
      have HO2 := Lib.hid hown2
      clear hown2 hb2
      go_wp2_with (at_builtin; refine wpList_append_own _ rfl _ _ 39 rfl w.heap.size 9 i0 (.string ⟨#[]⟩) 1 16 Tryd.underlying39 HI.out HZ0.out HZ1.out HZ2.out rfl (by decide) _ _ _ rfl HO2.out ⟨w2.heap.size, 0, none⟩ 1 1 [.string Xt] rfl rfl (cell_one_new _ _ _) (by simp [Value.oneCell']) B1.out B2.out B3.out ?_)
      intro v' w3 hown' hgrow' _
      go_wp2_with fail
      refine ⟨⟨k + 1, by omega, rfl, ?_, ?_⟩, by simp [Lib.intOf]; omega⟩
      · rw [HS.out, ← List.cons_append, List.map_append, show List.map strV [Lib.itoa x] = [.string Xt] by rw [← HXT.out]; rfl]; simpa [List.map_take] using hown'
      · exact (hbw2.alloc hbw2.size _).grown hgrow' (by have := hbw2.size; simp; omega) (fun j hj => (HO.out.lt j hj).1)
    · obtain rfl : k = n := by omega
      have htk : xs.take k = xs := List.take_of_length_le (by omega)
      rw [htk] at HO
      have hjl := join_all_le name.data.toList xs HX2.out
      have hnl : name.data.toList.length = name.size := rfl
      have HJ := Lib.hid (Join_in A' (k + 1) cp (name.data.toList :: xs.map Lib.itoa) ⟨#[32]⟩ wr (by simp; omega) (own_cap HO.out) (Reads.of_own HO.out) (by omega) (by show (Lib.join _ [32]).length ≤ _; omega))
      rw [show (⟨#[32]⟩ : ByteArray).data.toList = [32] from rfl] at HJ
      obtain ⟨J, hJ⟩ : ∃ J : ByteArray, J = ⟨(Lib.join (name.data.toList :: xs.map Lib.itoa) [32]).toArray⟩ := ⟨_, rfl⟩
      have hJs : J.size ≤ 3000000 := by rw [hJ]; show (Lib.join (name.data.toList :: xs.map Lib.itoa) [32]).length ≤ _; omega
      have hJl : J.data.toList = Lib.join (name.data.toList :: xs.map Lib.itoa) [32] := by rw [hJ]
      rw [show strV (Lib.join (name.data.toList :: xs.map Lib.itoa) [32]) = .string J by rw [hJ]; rfl] at HJ
      have HJL := Lib.hid hJl
      clear hJ hJl hjl htk HO
      go_wp2_with fail
      refine HJ.out.mono ?_
      rintro e w2 ⟨rfl, hb2⟩
      go_wp2_with fail
      go_ret
      refine ⟨congrArg Ending.returned ?_, hbw.trans (hb2.mono hbw.size)⟩
      show Value.string (J ++ ⟨#[10]⟩) = _
      rw [← strV_data, ← HJL.out]
      refine congrArg strV ?_
      simp


set_option maxHeartbeats 1600000 in
set_option maxRecDepth 100000 in
theorem line48_in (name : ByteArray) (A : Option Addr) (n c B : Nat) (xs : List Int) (w : World) (hE : Env w) (hr : Reads w B 1 A n (xs.map I)) (hB : B ≤ w.heap.size) (hn : n ≤ 100000) (hnm : name.size ≤ 1000) (hx : ∀ x ∈ xs, -9223372036854775808 ≤ x ∧ x ≤ 9223372036854775807) :
    Calls Tryd.prog 20 #[.string name, .slice A n c, .func (.func 21) #[] #[]] w fun e w' => e = .returned (strV (Lib.join (name.data.toList :: xs.map Lib.itoa) [32] ++ [10])) ∧ Below w.heap.size w w' := by
  have hlen : xs.length = n := by have := hr.1; simpa using this
  have HX : Hid (∀ x ∈ xs, -9223372036854775808 ≤ x ∧ x ≤ 9223372036854775807) := Lib.hid hx
  have HX2 : Hid (∀ x ∈ xs, -9223372036854775808 ≤ x ∧ x ≤ 9223372036854775807) := Lib.hid (fun x hxx => by have := hx x hxx; omega)
  obtain ⟨cur, hcur, hmk⟩ := mk0 n (by omega)
  obtain ⟨i0, hi, hz0, hz1, hz2⟩ := info_parts infoStr
  have HI := Lib.hid hi
  have HZ0 := Lib.hid hz0
  have HZ1 := Lib.hid hz1
  have HZ2 := Lib.hid hz2
  have HR := Lib.hid hr
  clear hi hz0 hz1 hz2 hx hr
  have hown0 : (w.alloc (.cells cur 9)).ownsRow w.heap.size 9 1 (.slice (some ⟨w.heap.size, 0, none⟩) 0 (n + 1)) 0 [] := World.ownsRow_made w cur (n + 1) (Nat.le_refl _) (by unfold maxLen; omega) (by omega)
  have hb0 : Below w.heap.size w (w.alloc (.cells cur 9)) := (Below.refl _ w).alloc (Nat.le_refl _) _
  have HO1 := Lib.hid (hown0.alloc (.cells #[.string name] 9))
  have HO := Lib.hid hown0
  have B1 : Hid (0 + 1 ≤ maxLen) := Lib.hid (by unfold maxLen; omega)
  have B3 : Hid (w.heap.size ≤ ((w.alloc (.cells cur 9)).alloc (.cells #[.string name] 9)).heap.size) := Lib.hid (by simp; omega)
  have CN := Lib.hid (cell_one_new (w.alloc (.cells cur 9)) (.string name) 9)
  rw [World.size_alloc] at CN
  clear hown0 hcur
  go_enter Tryd.func20, Tryd.ntmps20
  go_wp2_with (at_builtin; refine wpList_append_own _ rfl _ _ 39 rfl w.heap.size 9 i0 (.string ⟨#[]⟩) 1 16 Tryd.underlying39 HI.out HZ0.out HZ1.out HZ2.out rfl (by decide) _ _ _ rfl HO1.out ⟨w.heap.size + 1, 0, none⟩ 1 1 [.string name] rfl rfl CN.out (by simp [Value.oneCell']) B1.out (by omega) B3.out ?_)
  intro v0 w1 hown1 hgrow _
  have hb1 : Below w.heap.size w w1 := ((hb0.alloc (by simp) (.cells #[.string name] 9)).grown hgrow (by simp; omega) (fun j hj => (HO.out.lt j hj).1))
  have hown1' : w1.ownsRow w.heap.size 9 1 v0 1 ((name.data.toList :: (xs.take 0).map Lib.itoa).map strV) := by
    rw [List.take_zero, List.map_nil, List.map_cons, List.map_nil, strV_data]; exact hown1
  clear hgrow hmk hb0 HO HO1 hown1
  obtain ⟨A0, cp0, rfl⟩ := own_form hown1'
  have HO1 := Lib.hid hown1'
  clear hown1'
  go_wp2_with fail
  go_loopw [7, 20] (fun l i wr => ∃ k : Nat, k ≤ n ∧ i = .int .i64 k ∧ wr.ownsRow w.heap.size 9 1 l (k + 1) ((name.data.toList :: (xs.take k).map Lib.itoa).map strV) ∧ Below w.heap.size w wr) (fun _ i _ => n - (Lib.intOf i).toNat)
  case atStart => exact ⟨0, Nat.zero_le _, rfl, HO1.out, hb1⟩
  case round =>
    obtain ⟨k, hk, rfl, hown, hbw⟩ := hrel
    have hE1 := hE.on hbw
    have HO := Lib.hid hown
    clear hown HO1
    obtain ⟨A', cp, rfl⟩ := own_form HO.out
    have hbs := hbw.size
    by_cases hlt : k < n
    · obtain ⟨b, off, u, rfl, -, hx, hcell⟩ := ((HR.out.more hB).below hbw).at_ hlt
      simp only [List.getElem?_map, Option.map_eq_some_iff] at hx
      obtain ⟨x, hx, rfl⟩ := hx
      have hxr := HX.out x (List.mem_of_getElem? hx)
      have HT : Hid (Calls Tryd.prog 21 #[.int .i64 x] wr fun e w' => e = .returned (strV (Lib.itoa x)) ∧ Below wr.heap.size wr w') := Lib.hid (arcText_in x hxr.1 hxr.2 wr hE1)
      unfold I at hcell
      have HS : Hid ((xs.take (k + 1)).map Lib.itoa = (xs.take k).map Lib.itoa ++ [Lib.itoa x]) := Lib.hid (by rw [List.take_add_one, hx]; simp)
      obtain ⟨Xt, hXt⟩ : ∃ Xt : ByteArray, Xt = ⟨(Lib.itoa x).toArray⟩ := ⟨_, rfl⟩
      rw [show strV (Lib.itoa x) = .string Xt by rw [hXt]; rfl] at HT
      have HXT : Hid (strV (Lib.itoa x) = .string Xt) := Lib.hid (by rw [hXt]; rfl)
      clear hx hXt hxr
      go_wp2_with fail
      refine HT.out.mono ?_
      rintro e w2 ⟨rfl, hb2⟩
      have hbw2 := hbw.trans (hb2.mono hbw.size)
      have hown2 : (w2.alloc (.cells #[.string Xt] 9)).ownsRow w.heap.size 9 1 (.slice A' (k + 1) cp) (k + 1) _ := (own_below HO.out hb2).alloc _
      have B1 : Hid (k + 1 + 1 ≤ maxLen) := Lib.hid (by unfold maxLen; omega)
      have B2 : Hid ((k + 1 + 1) * 16 ≤ 140737488355328) := Lib.hid (by omega)
      have B3 : Hid (w.heap.size ≤ (w2.alloc (.cells #[.string Xt] 9)).heap.size) := Lib.hid (by have := hbw2.size; simp; omega)
      have HO2 := Lib.hid hown2
      clear hown2 hb2
      go_wp2_with (at_builtin; refine wpList_append_own _ rfl _ _ 39 rfl w.heap.size 9 i0 (.string ⟨#[]⟩) 1 16 Tryd.underlying39 HI.out HZ0.out HZ1.out HZ2.out rfl (by decide) _ _ _ rfl HO2.out ⟨w2.heap.size, 0, none⟩ 1 1 [.string Xt] rfl rfl (cell_one_new _ _ _) (by simp [Value.oneCell']) B1.out B2.out B3.out ?_)
      intro v' w3 hown' hgrow' _
      go_wp2_with fail
      refine ⟨⟨k + 1, by omega, rfl, ?_, ?_⟩, by simp [Lib.intOf]; omega⟩
      · rw [HS.out, ← List.cons_append, List.map_append, show List.map strV [Lib.itoa x] = [.string Xt] by rw [← HXT.out]; rfl]; simpa [List.map_take] using hown'
      · exact (hbw2.alloc hbw2.size _).grown hgrow' (by have := hbw2.size; simp; omega) (fun j hj => (HO.out.lt j hj).1)
    · obtain rfl : k = n := by omega
      have htk : xs.take k = xs := List.take_of_length_le (by omega)
      rw [htk] at HO
      have hjl := join_all_le name.data.toList xs HX2.out
      have hnl : name.data.toList.length = name.size := rfl
      have HJ := Lib.hid (Join_in A' (k + 1) cp (name.data.toList :: xs.map Lib.itoa) ⟨#[32]⟩ wr (by simp; omega) (own_cap HO.out) (Reads.of_own HO.out) (by omega) (by show (Lib.join _ [32]).length ≤ _; omega))
      rw [show (⟨#[32]⟩ : ByteArray).data.toList = [32] from rfl] at HJ
      obtain ⟨J, hJ⟩ : ∃ J : ByteArray, J = ⟨(Lib.join (name.data.toList :: xs.map Lib.itoa) [32]).toArray⟩ := ⟨_, rfl⟩
      have hJs : J.size ≤ 3000000 := by rw [hJ]; show (Lib.join (name.data.toList :: xs.map Lib.itoa) [32]).length ≤ _; omega
      have hJl : J.data.toList = Lib.join (name.data.toList :: xs.map Lib.itoa) [32] := by rw [hJ]
      rw [show strV (Lib.join (name.data.toList :: xs.map Lib.itoa) [32]) = .string J by rw [hJ]; rfl] at HJ
      have HJL := Lib.hid hJl
      clear hJ hJl hjl htk HO
      go_wp2_with fail
      refine HJ.out.mono ?_
      rintro e w2 ⟨rfl, hb2⟩
      go_wp2_with fail
      go_ret
      refine ⟨congrArg Ending.returned ?_, hbw.trans (hb2.mono hbw.size)⟩
      show Value.string (J ++ ⟨#[10]⟩) = _
      rw [← strV_data, ← HJL.out]
      refine congrArg strV ?_
      simp

end Go.Proofs.YtpfbgoogajgciaaDoor
