/- For every input the law PaperParses returns true and leaves its arguments as they were. Conditions: the row's own; the card ties the listed variables to the program's text. -/
import Derived.Test.YtpfbgoogajgciaaGreatDoorF11
import Derived.Test.YtpfbgoogajgciaaGreatDoorApp
import Derived.Deep.RegionLaw
import Derived.Deep.DeepCutAuto
import Derived.Deep.RegionWith
import Derived.IntWalk
import Derived.Test.YtpfbgoogajgciaaGreatDoorN10
import Derived.Test.YtpfbgoogajgciaaGreatDoorK2
import Derived.Test.YtpfbgoogajgciaaGreatDoorRC
set_option linter.unusedSimpArgs false
set_option linter.unusedVariables false
namespace Go.Proofs.YtpfbgoogajgciaaGreatDoor
section
open Go.RowKit Go.Shelf

theorem take_snoc' {α : Type} (xs : List α) (k : Nat) (x : α) (h : xs[k]? = some x) : xs.take (k + 1) = xs.take k ++ [x] := by
  rw [List.take_add_one, h]; rfl
/-- while a list is put -/
structure PutM (w : World) (cs : Value → Array Value) (E : TypeId) (f : Int → Value) (xs : List Int) (kk : Nat) (v : Value) (wr : World) : Prop where
  b : Blk wr w.heap.size 32 (cs v)
  r : Blk wr (w.heap.size + 1) 32 #[.int .i64 0, .slice none 0 0, .slice none 0 0, .slice none 0 0, .slice none 0 0]
  o : wr.ownsRow (w.heap.size + 1 + 1) E 1 v kk ((xs.take kk).map f)
  l : Below w.heap.size w wr
theorem blk_newN' (w : World) (t : TypeId) (cs : Array Value) (k : Nat) (hk : w.heap.size = k) : Blk (w.alloc (.cells cs t)) k t cs := by
  subst hk; exact Blk.new w t cs

theorem ow_put5' {w : World} {b B T n : Nat} {v : Value} {l : List Value} (h : w.ownsRow B T 1 v n l) (hb : b < B) (v0 v1 v2 v3 v4 : Value) : (put5 w b v0 v1 v2 v3 v4).ownsRow B T 1 v n l :=
  own_far (p := ⟨b, 4, none⟩) (own_far (p := ⟨b, 3, none⟩) (own_far (p := ⟨b, 2, none⟩) (own_far (p := ⟨b, 1, none⟩) (own_far (p := ⟨b, 0, none⟩) h hb v0) hb v1) hb v2) hb v3) hb v4


set_option maxRecDepth 100000 in
set_option maxHeartbeats 3200000 in
theorem put_flow (kd : Int) (P2 : Option Addr) (m2 k2 : Nat) (P3 : Option Addr) (m3 k3 : Nat) (P4 : Option Addr) (m4 k4 : Nat) (A : Option Addr) (n c : Nat) (xs : List Int) (w : World) (hr : Reads w w.heap.size 1 A n (xs.map I)) (hn : n ≤ 100000) :
    Calls Tryz.prog 37 #[.agg #[.int .i64 kd, .slice none 0 0, .slice P2 m2 k2, .slice P3 m3 k3, .slice P4 m4 k4], .string ⟨#[102, 108, 111, 119]⟩, .slice A n c] w fun e w' => ∃ B cp, e = .returned (.agg #[.int .i64 kd, .slice B n cp, .slice P2 m2 k2, .slice P3 m3 k3, .slice P4 m4 k4]) ∧ w'.ownsRow w.heap.size 2 1 (.slice B n cp) n (xs.map I) ∧ Below w.heap.size w w' := by
  have hl : xs.length ≤ n ∧ n ≤ xs.length := by have := hr.1; simp at this; omega
  obtain ⟨i0, hi, hz0, hz1, hz2⟩ := info_parts info2
  have HR := Lib.hid hr
  clear hr
  go_enter Tryz.func37, Tryz.ntmps37
  go_wp2_with fail
  have hM : PutM w (fun v => #[.int .i64 kd, v, .slice P2 m2 k2, .slice P3 m3 k3, .slice P4 m4 k4]) 2 I xs 0 (.slice none 0 0) ((w.alloc (.cells #[.int .i64 kd, .slice none 0 0, .slice P2 m2 k2, .slice P3 m3 k3, .slice P4 m4 k4] 32)).alloc (.cells #[.int .i64 0, .slice none 0 0, .slice none 0 0, .slice none 0 0, .slice none 0 0] 32)) :=
    ⟨(Blk.new w 32 _).alloc _, blk_newN' _ _ _ _ (by simp), World.ownsRow_nil _ _ _ _, ((Below.refl _ w).alloc (Nat.le_refl _) _).alloc (by simp) _⟩
  generalize (w.alloc (.cells #[.int .i64 kd, .slice none 0 0, .slice P2 m2 k2, .slice P3 m3 k3, .slice P4 m4 k4] 32)).alloc (.cells #[.int .i64 0, .slice none 0 0, .slice none 0 0, .slice none 0 0, .slice none 0 0] 32) = W at *
  go_loopw [7] (fun i wr => ∃ (kk : Nat) (v : Value), kk ≤ n ∧ i = .int .i64 kk ∧ PutM w (fun v => #[.int .i64 kd, v, .slice P2 m2 k2, .slice P3 m3 k3, .slice P4 m4 k4]) 2 I xs kk v wr) (fun i _ => n - (intOf i).toNat)
  case atStart => exact ⟨0, _, Nat.zero_le _, rfl, hM⟩
  case round =>
    obtain ⟨kk, v, hk, rfl, hS⟩ := hrel
    clear hM
    obtain ⟨A4, c4, rfl⟩ := own_form hS.o
    obtain ⟨⟨q0, q1, q2, q3, q4⟩, g0, g1, g2, g3, g4⟩ := hS.b.five
    have lB := hS.b.lt
    have lR := hS.r.lt
    have HS := Lib.hid hS
    clear hS
    by_cases hlt : kk < n
    · obtain ⟨b, off, u, rfl, hbB, hx, hcell⟩ := ((HR.out.below HS.out.l).more HS.out.l.size).at_ hlt
      simp only [List.getElem?_map, Option.map_eq_some_iff] at hx
      obtain ⟨x, hx, rfl⟩ := hx
      have HT := Lib.hid (take_snoc' xs kk x hx)
      clear hx
      unfold I at hcell
      go_wp2_with fail
      go_region_law
        (refine step_append_any _ (by rfl) (.tmp 27) (.tmp 32) 28 (by rfl) (w.heap.size + 1 + 1) 2 i0 (.int .i64 0) 1 8 Tryz.underlying28 hi hz0 hz1 hz2 rfl (by decide) (.slice A4 kk c4) kk ((xs.take kk).map I) (by rfl) ((own_below HS.out.o (Below.refl _ _).drew).alloc _) (wr.heap.size + 1) (some ⟨wr.heap.size, 0, none⟩) 1 1 [.int .i64 x] (by rfl) (reads_new wr.drew 2 [.int .i64 x]) (by simp [Value.oneCell']) (by unfold maxLen; omega) (by omega) (by simp; omega) ?_; intro v' w5 hown5 hgrow5 hat5; obtain ⟨A5, c5, rfl⟩ := own_form hown5; have hB5 := (HS.out.b.drew.alloc (.cells #[.int .i64 x] 2)).grown hgrow5 (fun e => by have := (HS.out.o.lt _ e.symm).1; omega); obtain ⟨⟨s0, s1, s2, s3, s4⟩, t0, t1, t2, t3, t4⟩ := hB5.five)
      all_goals
        go_wp2_with fail
        go_roundw
        case rel =>
          have hR5 := (HS.out.r.drew.alloc (.cells #[.int .i64 x] 2)).grown hgrow5 (fun e => by have := (HS.out.o.lt _ e.symm).1; omega)
          have hL5 := (HS.out.l.drew.alloc (Nat.le_trans HS.out.l.size (Nat.le_refl _)) (.cells #[.int .i64 x] 2)).grown hgrow5 (by have := HS.out.l.size; simp; omega) (fun k hk => by have := (HS.out.o.lt k hk).1; omega)
          refine ⟨kk + 1, .slice A5 (kk + 1) c5, by omega, by go_num, hB5.set_ 1 _, hR5.far (p := ⟨w.heap.size, 1, none⟩) (by show w.heap.size + 1 ≠ w.heap.size; omega) _, ?_, hL5.setCell (p := ⟨w.heap.size, 1, none⟩) (Nat.le_refl _) _⟩
          refine own_far (p := ⟨w.heap.size, 1, none⟩) ?_ (by show w.heap.size < _; omega) _
          rw [HT.out, List.map_append]
          exact hown5
        case measure => simp [intOf]; omega
    · obtain rfl : kk = n := by omega
      obtain ⟨⟨o0, o1, o2, o3, o4⟩, e0, e1, e2, e3, e4⟩ := HS.out.r.five
      go_wp2_with fail
      have hF := HS.out.r.put5 (.int .i64 kd) (.slice A4 kk c4) (.slice P2 m2 k2) (.slice P3 m3 k3) (.slice P4 m4 k4)
      have hO := ow_put5' HS.out.o (show w.heap.size + 1 < w.heap.size + 1 + 1 by omega) (.int .i64 kd) (.slice A4 kk c4) (.slice P2 m2 k2) (.slice P3 m3 k3) (.slice P4 m4 k4)
      have hL := below_put5 HS.out.l (show w.heap.size ≤ w.heap.size + 1 by omega) (.int .i64 kd) (.slice A4 kk c4) (.slice P2 m2 k2) (.slice P3 m3 k3) (.slice P4 m4 k4)
      change bodyPost _ _ _ _ _ (put5 wr (w.heap.size + 1) (.int .i64 kd) (.slice A4 kk c4) (.slice P2 m2 k2) (.slice P3 m3 k3) (.slice P4 m4 k4))
      generalize put5 wr (w.heap.size + 1) (.int .i64 kd) (.slice A4 kk c4) (.slice P2 m2 k2) (.slice P3 m3 k3) (.slice P4 m4 k4) = WF at hF hO hL ⊢
      obtain ⟨⟨d0, d1, d2, d3, d4⟩, -⟩ := hF.five
      rw [List.take_of_length_le (by omega)] at hO
      exact bodyPost_ret (v := .agg #[.int .i64 kd, .slice A4 kk c4, .slice P2 m2 k2, .slice P3 m3 k3, .slice P4 m4 k4]) (by simp [results, Tryz.results37, go_sem, d0, d1, d2, d3, d4]) rfl ⟨A4, c4, rfl, own_mono hO (by omega), hL⟩


set_option maxRecDepth 100000 in
set_option maxHeartbeats 3200000 in
theorem put_pot (kd : Int) (P1 : Option Addr) (m1 k1 : Nat) (P3 : Option Addr) (m3 k3 : Nat) (P4 : Option Addr) (m4 k4 : Nat) (A : Option Addr) (n c : Nat) (xs : List Int) (w : World) (hr : Reads w w.heap.size 1 A n (xs.map I)) (hn : n ≤ 100000) :
    Calls Tryz.prog 37 #[.agg #[.int .i64 kd, .slice P1 m1 k1, .slice none 0 0, .slice P3 m3 k3, .slice P4 m4 k4], .string ⟨#[112, 111, 116]⟩, .slice A n c] w fun e w' => ∃ B cp, e = .returned (.agg #[.int .i64 kd, .slice P1 m1 k1, .slice B n cp, .slice P3 m3 k3, .slice P4 m4 k4]) ∧ w'.ownsRow w.heap.size 2 1 (.slice B n cp) n (xs.map I) ∧ Below w.heap.size w w' := by
  have hl : xs.length ≤ n ∧ n ≤ xs.length := by have := hr.1; simp at this; omega
  obtain ⟨i0, hi, hz0, hz1, hz2⟩ := info_parts info2
  have HR := Lib.hid hr
  clear hr
  go_enter Tryz.func37, Tryz.ntmps37
  go_wp2_with fail
  have hM : PutM w (fun v => #[.int .i64 kd, .slice P1 m1 k1, v, .slice P3 m3 k3, .slice P4 m4 k4]) 2 I xs 0 (.slice none 0 0) ((w.alloc (.cells #[.int .i64 kd, .slice P1 m1 k1, .slice none 0 0, .slice P3 m3 k3, .slice P4 m4 k4] 32)).alloc (.cells #[.int .i64 0, .slice none 0 0, .slice none 0 0, .slice none 0 0, .slice none 0 0] 32)) :=
    ⟨(Blk.new w 32 _).alloc _, blk_newN' _ _ _ _ (by simp), World.ownsRow_nil _ _ _ _, ((Below.refl _ w).alloc (Nat.le_refl _) _).alloc (by simp) _⟩
  generalize (w.alloc (.cells #[.int .i64 kd, .slice P1 m1 k1, .slice none 0 0, .slice P3 m3 k3, .slice P4 m4 k4] 32)).alloc (.cells #[.int .i64 0, .slice none 0 0, .slice none 0 0, .slice none 0 0, .slice none 0 0] 32) = W at *
  go_loopw [7] (fun i wr => ∃ (kk : Nat) (v : Value), kk ≤ n ∧ i = .int .i64 kk ∧ PutM w (fun v => #[.int .i64 kd, .slice P1 m1 k1, v, .slice P3 m3 k3, .slice P4 m4 k4]) 2 I xs kk v wr) (fun i _ => n - (intOf i).toNat)
  case atStart => exact ⟨0, _, Nat.zero_le _, rfl, hM⟩
  case round =>
    obtain ⟨kk, v, hk, rfl, hS⟩ := hrel
    clear hM
    obtain ⟨A4, c4, rfl⟩ := own_form hS.o
    obtain ⟨⟨q0, q1, q2, q3, q4⟩, g0, g1, g2, g3, g4⟩ := hS.b.five
    have lB := hS.b.lt
    have lR := hS.r.lt
    have HS := Lib.hid hS
    clear hS
    by_cases hlt : kk < n
    · obtain ⟨b, off, u, rfl, hbB, hx, hcell⟩ := ((HR.out.below HS.out.l).more HS.out.l.size).at_ hlt
      simp only [List.getElem?_map, Option.map_eq_some_iff] at hx
      obtain ⟨x, hx, rfl⟩ := hx
      have HT := Lib.hid (take_snoc' xs kk x hx)
      clear hx
      unfold I at hcell
      go_wp2_with fail
      go_region_law
        (refine step_append_any _ (by rfl) (.tmp 38) (.tmp 43) 28 (by rfl) (w.heap.size + 1 + 1) 2 i0 (.int .i64 0) 1 8 Tryz.underlying28 hi hz0 hz1 hz2 rfl (by decide) (.slice A4 kk c4) kk ((xs.take kk).map I) (by rfl) ((own_below HS.out.o (Below.refl _ _).drew).alloc _) (wr.heap.size + 1) (some ⟨wr.heap.size, 0, none⟩) 1 1 [.int .i64 x] (by rfl) (reads_new wr.drew 2 [.int .i64 x]) (by simp [Value.oneCell']) (by unfold maxLen; omega) (by omega) (by simp; omega) ?_; intro v' w5 hown5 hgrow5 hat5; obtain ⟨A5, c5, rfl⟩ := own_form hown5; have hB5 := (HS.out.b.drew.alloc (.cells #[.int .i64 x] 2)).grown hgrow5 (fun e => by have := (HS.out.o.lt _ e.symm).1; omega); obtain ⟨⟨s0, s1, s2, s3, s4⟩, t0, t1, t2, t3, t4⟩ := hB5.five)
      all_goals
        go_wp2_with fail
        go_roundw
        case rel =>
          have hR5 := (HS.out.r.drew.alloc (.cells #[.int .i64 x] 2)).grown hgrow5 (fun e => by have := (HS.out.o.lt _ e.symm).1; omega)
          have hL5 := (HS.out.l.drew.alloc (Nat.le_trans HS.out.l.size (Nat.le_refl _)) (.cells #[.int .i64 x] 2)).grown hgrow5 (by have := HS.out.l.size; simp; omega) (fun k hk => by have := (HS.out.o.lt k hk).1; omega)
          refine ⟨kk + 1, .slice A5 (kk + 1) c5, by omega, by go_num, hB5.set_ 2 _, hR5.far (p := ⟨w.heap.size, 2, none⟩) (by show w.heap.size + 1 ≠ w.heap.size; omega) _, ?_, hL5.setCell (p := ⟨w.heap.size, 2, none⟩) (Nat.le_refl _) _⟩
          refine own_far (p := ⟨w.heap.size, 2, none⟩) ?_ (by show w.heap.size < _; omega) _
          rw [HT.out, List.map_append]
          exact hown5
        case measure => simp [intOf]; omega
    · obtain rfl : kk = n := by omega
      obtain ⟨⟨o0, o1, o2, o3, o4⟩, e0, e1, e2, e3, e4⟩ := HS.out.r.five
      go_wp2_with fail
      have hF := HS.out.r.put5 (.int .i64 kd) (.slice P1 m1 k1) (.slice A4 kk c4) (.slice P3 m3 k3) (.slice P4 m4 k4)
      have hO := ow_put5' HS.out.o (show w.heap.size + 1 < w.heap.size + 1 + 1 by omega) (.int .i64 kd) (.slice P1 m1 k1) (.slice A4 kk c4) (.slice P3 m3 k3) (.slice P4 m4 k4)
      have hL := below_put5 HS.out.l (show w.heap.size ≤ w.heap.size + 1 by omega) (.int .i64 kd) (.slice P1 m1 k1) (.slice A4 kk c4) (.slice P3 m3 k3) (.slice P4 m4 k4)
      change bodyPost _ _ _ _ _ (put5 wr (w.heap.size + 1) (.int .i64 kd) (.slice P1 m1 k1) (.slice A4 kk c4) (.slice P3 m3 k3) (.slice P4 m4 k4))
      generalize put5 wr (w.heap.size + 1) (.int .i64 kd) (.slice P1 m1 k1) (.slice A4 kk c4) (.slice P3 m3 k3) (.slice P4 m4 k4) = WF at hF hO hL ⊢
      obtain ⟨⟨d0, d1, d2, d3, d4⟩, -⟩ := hF.five
      rw [List.take_of_length_le (by omega)] at hO
      exact bodyPost_ret (v := .agg #[.int .i64 kd, .slice P1 m1 k1, .slice A4 kk c4, .slice P3 m3 k3, .slice P4 m4 k4]) (by simp [results, Tryz.results37, go_sem, d0, d1, d2, d3, d4]) rfl ⟨A4, c4, rfl, own_mono hO (by omega), hL⟩


set_option maxRecDepth 100000 in
set_option maxHeartbeats 3200000 in
theorem put_side (kd : Int) (P1 : Option Addr) (m1 k1 : Nat) (P2 : Option Addr) (m2 k2 : Nat) (P4 : Option Addr) (m4 k4 : Nat) (A : Option Addr) (n c : Nat) (xs : List Int) (w : World) (hr : Reads w w.heap.size 1 A n (xs.map I)) (hn : n ≤ 100000) :
    Calls Tryz.prog 37 #[.agg #[.int .i64 kd, .slice P1 m1 k1, .slice P2 m2 k2, .slice none 0 0, .slice P4 m4 k4], .string ⟨#[115, 105, 100, 101]⟩, .slice A n c] w fun e w' => ∃ B cp, e = .returned (.agg #[.int .i64 kd, .slice P1 m1 k1, .slice P2 m2 k2, .slice B n cp, .slice P4 m4 k4]) ∧ w'.ownsRow w.heap.size 4 1 (.slice B n cp) n (xs.map Bv) ∧ Below w.heap.size w w' := by
  have hl : xs.length ≤ n ∧ n ≤ xs.length := by have := hr.1; simp at this; omega
  obtain ⟨i0, hi, hz0, hz1, hz2⟩ := info_parts info4
  have HR := Lib.hid hr
  clear hr
  go_enter Tryz.func37, Tryz.ntmps37
  go_wp2_with fail
  have hM : PutM w (fun v => #[.int .i64 kd, .slice P1 m1 k1, .slice P2 m2 k2, v, .slice P4 m4 k4]) 4 Bv xs 0 (.slice none 0 0) ((w.alloc (.cells #[.int .i64 kd, .slice P1 m1 k1, .slice P2 m2 k2, .slice none 0 0, .slice P4 m4 k4] 32)).alloc (.cells #[.int .i64 0, .slice none 0 0, .slice none 0 0, .slice none 0 0, .slice none 0 0] 32)) :=
    ⟨(Blk.new w 32 _).alloc _, blk_newN' _ _ _ _ (by simp), World.ownsRow_nil _ _ _ _, ((Below.refl _ w).alloc (Nat.le_refl _) _).alloc (by simp) _⟩
  generalize (w.alloc (.cells #[.int .i64 kd, .slice P1 m1 k1, .slice P2 m2 k2, .slice none 0 0, .slice P4 m4 k4] 32)).alloc (.cells #[.int .i64 0, .slice none 0 0, .slice none 0 0, .slice none 0 0, .slice none 0 0] 32) = W at *
  go_loopw [7] (fun i wr => ∃ (kk : Nat) (v : Value), kk ≤ n ∧ i = .int .i64 kk ∧ PutM w (fun v => #[.int .i64 kd, .slice P1 m1 k1, .slice P2 m2 k2, v, .slice P4 m4 k4]) 4 Bv xs kk v wr) (fun i _ => n - (intOf i).toNat)
  case atStart => exact ⟨0, _, Nat.zero_le _, rfl, hM⟩
  case round =>
    obtain ⟨kk, v, hk, rfl, hS⟩ := hrel
    clear hM
    obtain ⟨A4, c4, rfl⟩ := own_form hS.o
    obtain ⟨⟨q0, q1, q2, q3, q4⟩, g0, g1, g2, g3, g4⟩ := hS.b.five
    have lB := hS.b.lt
    have lR := hS.r.lt
    have HS := Lib.hid hS
    clear hS
    by_cases hlt : kk < n
    · obtain ⟨b, off, u, rfl, hbB, hx, hcell⟩ := ((HR.out.below HS.out.l).more HS.out.l.size).at_ hlt
      simp only [List.getElem?_map, Option.map_eq_some_iff] at hx
      obtain ⟨x, hx, rfl⟩ := hx
      have HT := Lib.hid (take_snoc' xs kk x hx)
      clear hx
      unfold I at hcell
      go_wp2_with fail
      go_region_law
        (refine step_append_any _ (by rfl) (.tmp 49) (.tmp 55) 29 (by rfl) (w.heap.size + 1 + 1) 4 i0 (.bool false) 1 1 Tryz.underlying29 hi hz0 hz1 hz2 rfl (by decide) (.slice A4 kk c4) kk ((xs.take kk).map Bv) (by rfl) ((own_below HS.out.o (Below.refl _ _).drew).alloc _) (wr.heap.size + 1) (some ⟨wr.heap.size, 0, none⟩) 1 1 [.bool (x == 1)] (by rfl) (reads_new wr.drew 4 [.bool (x == 1)]) (by simp [Value.oneCell']) (by unfold maxLen; omega) (by omega) (by simp; omega) ?_; intro v' w5 hown5 hgrow5 hat5; obtain ⟨A5, c5, rfl⟩ := own_form hown5; have hB5 := (HS.out.b.drew.alloc (.cells #[.bool (x == 1)] 4)).grown hgrow5 (fun e => by have := (HS.out.o.lt _ e.symm).1; omega); obtain ⟨⟨s0, s1, s2, s3, s4⟩, t0, t1, t2, t3, t4⟩ := hB5.five)
      all_goals
        go_wp2_with fail
        go_roundw
        case rel =>
          have hR5 := (HS.out.r.drew.alloc (.cells #[.bool (x == 1)] 4)).grown hgrow5 (fun e => by have := (HS.out.o.lt _ e.symm).1; omega)
          have hL5 := (HS.out.l.drew.alloc (Nat.le_trans HS.out.l.size (Nat.le_refl _)) (.cells #[.bool (x == 1)] 4)).grown hgrow5 (by have := HS.out.l.size; simp; omega) (fun k hk => by have := (HS.out.o.lt k hk).1; omega)
          refine ⟨kk + 1, .slice A5 (kk + 1) c5, by omega, by go_num, hB5.set_ 3 _, hR5.far (p := ⟨w.heap.size, 3, none⟩) (by show w.heap.size + 1 ≠ w.heap.size; omega) _, ?_, hL5.setCell (p := ⟨w.heap.size, 3, none⟩) (Nat.le_refl _) _⟩
          refine own_far (p := ⟨w.heap.size, 3, none⟩) ?_ (by show w.heap.size < _; omega) _
          rw [HT.out, List.map_append]
          exact hown5
        case measure => simp [intOf]; omega
    · obtain rfl : kk = n := by omega
      obtain ⟨⟨o0, o1, o2, o3, o4⟩, e0, e1, e2, e3, e4⟩ := HS.out.r.five
      go_wp2_with fail
      have hF := HS.out.r.put5 (.int .i64 kd) (.slice P1 m1 k1) (.slice P2 m2 k2) (.slice A4 kk c4) (.slice P4 m4 k4)
      have hO := ow_put5' HS.out.o (show w.heap.size + 1 < w.heap.size + 1 + 1 by omega) (.int .i64 kd) (.slice P1 m1 k1) (.slice P2 m2 k2) (.slice A4 kk c4) (.slice P4 m4 k4)
      have hL := below_put5 HS.out.l (show w.heap.size ≤ w.heap.size + 1 by omega) (.int .i64 kd) (.slice P1 m1 k1) (.slice P2 m2 k2) (.slice A4 kk c4) (.slice P4 m4 k4)
      change bodyPost _ _ _ _ _ (put5 wr (w.heap.size + 1) (.int .i64 kd) (.slice P1 m1 k1) (.slice P2 m2 k2) (.slice A4 kk c4) (.slice P4 m4 k4))
      generalize put5 wr (w.heap.size + 1) (.int .i64 kd) (.slice P1 m1 k1) (.slice P2 m2 k2) (.slice A4 kk c4) (.slice P4 m4 k4) = WF at hF hO hL ⊢
      obtain ⟨⟨d0, d1, d2, d3, d4⟩, -⟩ := hF.five
      rw [List.take_of_length_le (by omega)] at hO
      exact bodyPost_ret (v := .agg #[.int .i64 kd, .slice P1 m1 k1, .slice P2 m2 k2, .slice A4 kk c4, .slice P4 m4 k4]) (by simp [results, Tryz.results37, go_sem, d0, d1, d2, d3, d4]) rfl ⟨A4, c4, rfl, own_mono hO (by omega), hL⟩


set_option maxRecDepth 100000 in
set_option maxHeartbeats 3200000 in
theorem put_cycle (kd : Int) (P1 : Option Addr) (m1 k1 : Nat) (P2 : Option Addr) (m2 k2 : Nat) (P3 : Option Addr) (m3 k3 : Nat) (A : Option Addr) (n c : Nat) (xs : List Int) (w : World) (hr : Reads w w.heap.size 1 A n (xs.map I)) (hn : n ≤ 100000) :
    Calls Tryz.prog 37 #[.agg #[.int .i64 kd, .slice P1 m1 k1, .slice P2 m2 k2, .slice P3 m3 k3, .slice none 0 0], .string ⟨#[99, 121, 99, 108, 101]⟩, .slice A n c] w fun e w' => ∃ B cp, e = .returned (.agg #[.int .i64 kd, .slice P1 m1 k1, .slice P2 m2 k2, .slice P3 m3 k3, .slice B n cp]) ∧ w'.ownsRow w.heap.size 3 1 (.slice B n cp) n (xs.map I) ∧ Below w.heap.size w w' := by
  have hl : xs.length ≤ n ∧ n ≤ xs.length := by have := hr.1; simp at this; omega
  obtain ⟨i0, hi, hz0, hz1, hz2⟩ := info_parts info3
  have HR := Lib.hid hr
  clear hr
  go_enter Tryz.func37, Tryz.ntmps37
  go_wp2_with fail
  have hM : PutM w (fun v => #[.int .i64 kd, .slice P1 m1 k1, .slice P2 m2 k2, .slice P3 m3 k3, v]) 3 I xs 0 (.slice none 0 0) ((w.alloc (.cells #[.int .i64 kd, .slice P1 m1 k1, .slice P2 m2 k2, .slice P3 m3 k3, .slice none 0 0] 32)).alloc (.cells #[.int .i64 0, .slice none 0 0, .slice none 0 0, .slice none 0 0, .slice none 0 0] 32)) :=
    ⟨(Blk.new w 32 _).alloc _, blk_newN' _ _ _ _ (by simp), World.ownsRow_nil _ _ _ _, ((Below.refl _ w).alloc (Nat.le_refl _) _).alloc (by simp) _⟩
  generalize (w.alloc (.cells #[.int .i64 kd, .slice P1 m1 k1, .slice P2 m2 k2, .slice P3 m3 k3, .slice none 0 0] 32)).alloc (.cells #[.int .i64 0, .slice none 0 0, .slice none 0 0, .slice none 0 0, .slice none 0 0] 32) = W at *
  go_loopw [7] (fun i wr => ∃ (kk : Nat) (v : Value), kk ≤ n ∧ i = .int .i64 kk ∧ PutM w (fun v => #[.int .i64 kd, .slice P1 m1 k1, .slice P2 m2 k2, .slice P3 m3 k3, v]) 3 I xs kk v wr) (fun i _ => n - (intOf i).toNat)
  case atStart => exact ⟨0, _, Nat.zero_le _, rfl, hM⟩
  case round =>
    obtain ⟨kk, v, hk, rfl, hS⟩ := hrel
    clear hM
    obtain ⟨A4, c4, rfl⟩ := own_form hS.o
    obtain ⟨⟨q0, q1, q2, q3, q4⟩, g0, g1, g2, g3, g4⟩ := hS.b.five
    have lB := hS.b.lt
    have lR := hS.r.lt
    have HS := Lib.hid hS
    clear hS
    by_cases hlt : kk < n
    · obtain ⟨b, off, u, rfl, hbB, hx, hcell⟩ := ((HR.out.below HS.out.l).more HS.out.l.size).at_ hlt
      simp only [List.getElem?_map, Option.map_eq_some_iff] at hx
      obtain ⟨x, hx, rfl⟩ := hx
      have HT := Lib.hid (take_snoc' xs kk x hx)
      clear hx
      unfold I at hcell
      go_wp2_with fail
      go_region_law
        (refine step_append_any _ (by rfl) (.tmp 16) (.tmp 21) 30 (by rfl) (w.heap.size + 1 + 1) 3 i0 (.int .i64 0) 1 8 Tryz.underlying30 hi hz0 hz1 hz2 rfl (by decide) (.slice A4 kk c4) kk ((xs.take kk).map I) (by rfl) ((own_below HS.out.o (Below.refl _ _).drew).alloc _) (wr.heap.size + 1) (some ⟨wr.heap.size, 0, none⟩) 1 1 [.int .i64 x] (by rfl) (reads_new wr.drew 3 [.int .i64 x]) (by simp [Value.oneCell']) (by unfold maxLen; omega) (by omega) (by simp; omega) ?_; intro v' w5 hown5 hgrow5 hat5; obtain ⟨A5, c5, rfl⟩ := own_form hown5; have hB5 := (HS.out.b.drew.alloc (.cells #[.int .i64 x] 3)).grown hgrow5 (fun e => by have := (HS.out.o.lt _ e.symm).1; omega); obtain ⟨⟨s0, s1, s2, s3, s4⟩, t0, t1, t2, t3, t4⟩ := hB5.five)
      all_goals
        go_wp2_with fail
        go_roundw
        case rel =>
          have hR5 := (HS.out.r.drew.alloc (.cells #[.int .i64 x] 3)).grown hgrow5 (fun e => by have := (HS.out.o.lt _ e.symm).1; omega)
          have hL5 := (HS.out.l.drew.alloc (Nat.le_trans HS.out.l.size (Nat.le_refl _)) (.cells #[.int .i64 x] 3)).grown hgrow5 (by have := HS.out.l.size; simp; omega) (fun k hk => by have := (HS.out.o.lt k hk).1; omega)
          refine ⟨kk + 1, .slice A5 (kk + 1) c5, by omega, by go_num, hB5.set_ 4 _, hR5.far (p := ⟨w.heap.size, 4, none⟩) (by show w.heap.size + 1 ≠ w.heap.size; omega) _, ?_, hL5.setCell (p := ⟨w.heap.size, 4, none⟩) (Nat.le_refl _) _⟩
          refine own_far (p := ⟨w.heap.size, 4, none⟩) ?_ (by show w.heap.size < _; omega) _
          rw [HT.out, List.map_append]
          exact hown5
        case measure => simp [intOf]; omega
    · obtain rfl : kk = n := by omega
      obtain ⟨⟨o0, o1, o2, o3, o4⟩, e0, e1, e2, e3, e4⟩ := HS.out.r.five
      go_wp2_with fail
      have hF := HS.out.r.put5 (.int .i64 kd) (.slice P1 m1 k1) (.slice P2 m2 k2) (.slice P3 m3 k3) (.slice A4 kk c4)
      have hO := ow_put5' HS.out.o (show w.heap.size + 1 < w.heap.size + 1 + 1 by omega) (.int .i64 kd) (.slice P1 m1 k1) (.slice P2 m2 k2) (.slice P3 m3 k3) (.slice A4 kk c4)
      have hL := below_put5 HS.out.l (show w.heap.size ≤ w.heap.size + 1 by omega) (.int .i64 kd) (.slice P1 m1 k1) (.slice P2 m2 k2) (.slice P3 m3 k3) (.slice A4 kk c4)
      change bodyPost _ _ _ _ _ (put5 wr (w.heap.size + 1) (.int .i64 kd) (.slice P1 m1 k1) (.slice P2 m2 k2) (.slice P3 m3 k3) (.slice A4 kk c4))
      generalize put5 wr (w.heap.size + 1) (.int .i64 kd) (.slice P1 m1 k1) (.slice P2 m2 k2) (.slice P3 m3 k3) (.slice A4 kk c4) = WF at hF hO hL ⊢
      obtain ⟨⟨d0, d1, d2, d3, d4⟩, -⟩ := hF.five
      rw [List.take_of_length_le (by omega)] at hO
      exact bodyPost_ret (v := .agg #[.int .i64 kd, .slice P1 m1 k1, .slice P2 m2 k2, .slice P3 m3 k3, .slice A4 kk c4]) (by simp [results, Tryz.results37, go_sem, d0, d1, d2, d3, d4]) rfl ⟨A4, c4, rfl, own_mono hO (by omega), hL⟩

def Fld.val : Fld → Value → Value → Value → Value → Value
  | .flow, v, _, _, _ => v
  | .pot, _, v, _, _ => v
  | .side, _, _, v, _ => v
  | .cycle, _, _, _, v => v
theorem read_in (f : Fld) (t : List UInt8) (hsz : t.length ≤ 60000) (w : World) :
    Calls Tryz.prog 36 #[.string ⟨t.toArray⟩, strV f.name] w fun e w' => ∃ B m cp, e = .returned (.tuple #[.slice B m cp, .int .i64 (listL f.turn f.name (cutL 32 t)).2]) ∧ m = (listL f.turn f.name (cutL 32 t)).1.length ∧ w'.ownsRow w.heap.size 2 1 (.slice B m cp) m ((listL f.turn f.name (cutL 32 t)).1.map I) ∧ Below w.heap.size w w' := by
  cases f
  · exact read_flow ⟨t.toArray⟩ (by show t.toArray.size ≤ _; simpa using hsz) w
  · exact read_pot ⟨t.toArray⟩ (by show t.toArray.size ≤ _; simpa using hsz) w
  · exact read_side ⟨t.toArray⟩ (by show t.toArray.size ≤ _; simpa using hsz) w
  · exact read_cycle ⟨t.toArray⟩ (by show t.toArray.size ≤ _; simpa using hsz) w
/-- a list that is handed out, and does not lie in block cb -/
def FldF (cb : Nat) (w : World) (v : Value) (l : List Value) : Prop := ∃ A n cp, v = .slice A n cp ∧ n = l.length ∧ n ≤ cp ∧ Reads w w.heap.size 1 A n l ∧ ∀ a : Addr, A = some a → cb < a.block
theorem FldF.fld {cb : Nat} {w : World} {v : Value} {l : List Value} (h : FldF cb w v l) : FldR w v l := by
  obtain ⟨A, n, cp, h1, h2, h3, h4, -⟩ := h
  exact ⟨A, n, cp, h1, h2, h3, h4⟩
theorem FldF.nil {cb : Nat} {w : World} : FldF cb w (.slice none 0 0) [] := ⟨none, 0, 0, rfl, rfl, Nat.le_refl _, Reads.none_, by simp⟩
theorem FldF.below {cb : Nat} {w w' : World} {v : Value} {l : List Value} (h : FldF cb w v l) (hb : Below w.heap.size w w') : FldF cb w' v l := by
  obtain ⟨A, n, cp, h1, h2, h3, h4, h5⟩ := h
  exact ⟨A, n, cp, h1, h2, h3, (h4.below hb).more hb.size, h5⟩
theorem FldF.set {cb q i : Nat} {w : World} {v : Value} {l : List Value} (h : FldF cb w v l) (hq : q ≤ cb) (u : Value) : FldF cb (w.setCell ⟨q, i, none⟩ u) v l := by
  obtain ⟨A, n, cp, h1, h2, h3, h4, h5⟩ := h
  refine ⟨A, n, cp, h1, h2, h3, ⟨h4.1, fun hn => ?_⟩, h5⟩
  obtain ⟨b, off, e, hb, hc⟩ := h4.2 hn
  have hne : cb < b := h5 _ e
  exact ⟨b, off, e, by simpa [World.setCell] using hb, fun j x hx => (World.cell?_setCell_other w ⟨q, i, none⟩ ⟨b, off + j, none⟩ u (fun e' => by injection e' with e1; omega)).trans (hc j x hx)⟩
theorem FldF.put5 {cb q : Nat} {w : World} {v : Value} {l : List Value} (h : FldF cb w v l) (hq : q ≤ cb) (v0 v1 v2 v3 v4 : Value) : FldF cb (put5 w q v0 v1 v2 v3 v4) v l := ((((h.set hq v0).set hq v1).set hq v2).set hq v3).set hq v4
theorem FldF.of_own {w : World} {cb B T n cp : Nat} {A : Option Addr} {l : List Value} (h : w.ownsRow B T 1 (.slice A n cp) n l) (hB : cb < B) : FldF cb w (.slice A n cp) l :=
  ⟨A, n, cp, rfl, by have := h.1; omega, own_cap h, Reads.of_own h, fun a ha => by
    rcases h.2 with ⟨h1, -⟩ | ⟨g, cap, cur, h1, h2, -⟩
    · injection h1 with h1; rw [h1] at ha; cases ha
    · injection h1 with h1; rw [h1] at ha; injection ha with ha; rw [← ha]; show cb < g; omega⟩
def CertF (cb : Nat) (w : World) (c : CertV) (v1 v2 v3 v4 : Value) : Prop := ∀ g : Fld, FldF cb w (g.val v1 v2 v3 v4) ((c.get g).map g.enc)
theorem CertF.cr {cb : Nat} {w : World} {c : CertV} {v1 v2 v3 v4 : Value} (h : CertF cb w c v1 v2 v3 v4) : CertR w c v1 v2 v3 v4 := ⟨(h .flow).fld, (h .pot).fld, (h .side).fld, (h .cycle).fld⟩
theorem get_put (c : CertV) (f : Fld) (l : List Int) : (c.put f l).get f = l := by cases f <;> rfl
theorem get_put_ne (c : CertV) (f g : Fld) (l : List Int) (h : g ≠ f) : (c.put f l).get g = c.get g := by cases f <;> cases g <;> first | rfl | exact absurd rfl h
theorem put_in (f : Fld) (c : CertV) (v1 v2 v3 v4 : Value) (A : Option Addr) (n cp : Nat) (xs : List Int) (w : World) (hC : CertR w c v1 v2 v3 v4) (hnil : f.val v1 v2 v3 v4 = .slice none 0 0) (hr : Reads w w.heap.size 1 A n (xs.map I)) (hn : n ≤ 100000) :
    Calls Tryz.prog 37 #[.agg #[.int .i64 c.kind, v1, v2, v3, v4], strV f.name, .slice A n cp] w fun e w' => ∃ u1 u2 u3 u4, e = .returned (.agg #[.int .i64 c.kind, u1, u2, u3, u4]) ∧ (∃ B k T, f.val u1 u2 u3 u4 = .slice B n k ∧ w'.ownsRow w.heap.size T 1 (.slice B n k) n (xs.map f.enc)) ∧ (∀ g, g ≠ f → g.val u1 u2 u3 u4 = g.val v1 v2 v3 v4) ∧ Below w.heap.size w w' := by
  cases f
  · simp only [Fld.val] at hnil
    subst hnil
    obtain ⟨A2, c2, rfl, -, -⟩ := hC.pot.open_
    obtain ⟨A3, c3, rfl, -, -⟩ := hC.side.open_
    obtain ⟨A4, c4, rfl, -, -⟩ := hC.cycle.open_
    refine (put_flow c.kind A2 _ c2 A3 _ c3 A4 _ c4 A n cp xs w hr hn).mono ?_
    rintro e w' ⟨B, k, rfl, ho, hb⟩
    exact ⟨_, _, _, _, rfl, ⟨B, k, _, rfl, ho⟩, fun g hg => by cases g <;> first | rfl | exact absurd rfl hg, hb⟩
  · simp only [Fld.val] at hnil
    subst hnil
    obtain ⟨A1, c1, rfl, -, -⟩ := hC.flow.open_
    obtain ⟨A3, c3, rfl, -, -⟩ := hC.side.open_
    obtain ⟨A4, c4, rfl, -, -⟩ := hC.cycle.open_
    refine (put_pot c.kind A1 _ c1 A3 _ c3 A4 _ c4 A n cp xs w hr hn).mono ?_
    rintro e w' ⟨B, k, rfl, ho, hb⟩
    exact ⟨_, _, _, _, rfl, ⟨B, k, _, rfl, ho⟩, fun g hg => by cases g <;> first | rfl | exact absurd rfl hg, hb⟩
  · simp only [Fld.val] at hnil
    subst hnil
    obtain ⟨A1, c1, rfl, -, -⟩ := hC.flow.open_
    obtain ⟨A2, c2, rfl, -, -⟩ := hC.pot.open_
    obtain ⟨A4, c4, rfl, -, -⟩ := hC.cycle.open_
    refine (put_side c.kind A1 _ c1 A2 _ c2 A4 _ c4 A n cp xs w hr hn).mono ?_
    rintro e w' ⟨B, k, rfl, ho, hb⟩
    exact ⟨_, _, _, _, rfl, ⟨B, k, _, rfl, ho⟩, fun g hg => by cases g <;> first | rfl | exact absurd rfl hg, hb⟩
  · simp only [Fld.val] at hnil
    subst hnil
    obtain ⟨A1, c1, rfl, -, -⟩ := hC.flow.open_
    obtain ⟨A2, c2, rfl, -, -⟩ := hC.pot.open_
    obtain ⟨A3, c3, rfl, -, -⟩ := hC.side.open_
    refine (put_cycle c.kind A1 _ c1 A2 _ c2 A3 _ c3 A n cp xs w hr hn).mono ?_
    rintro e w' ⟨B, k, rfl, ho, hb⟩
    exact ⟨_, _, _, _, rfl, ⟨B, k, _, rfl, ho⟩, fun g hg => by cases g <;> first | rfl | exact absurd rfl hg, hb⟩
theorem list_len (turn : List UInt8 → Int × Int) (nm : List UInt8) (ws : List (List UInt8)) : (listL turn nm ws).1.length ≤ ws.length := by
  unfold listL
  repeat' split
  all_goals simp
theorem put_kind (c : CertV) (f : Fld) (l : List Int) : (c.put f l).kind = c.kind := by cases f <;> rfl
/-- each field is asked for once -/
theorem want_once {t : List UInt8} {k : Int} {fs : List Fld} (h : wantF t = some (k, fs)) (j : Nat) (f : Fld) (hf : fs[j]? = some f) : ∀ g ∈ fs.drop (j + 1), g ≠ f := by
  have H : fs = [.flow, .pot] ∨ fs = [.side] ∨ fs = [.flow, .cycle] := by
    unfold wantF at h
    split at h
    · simp at h; simp [h.2]
    · split at h
      · simp at h; simp [h.2]
      · split at h
        · simp at h; simp [h.2]
        · simp at h
  rcases H with rfl | rfl | rfl <;> rcases j with _ | _ | j <;> simp at hf <;> subst hf <;> simp
theorem go_step {f : Fld} {fs : List Fld} {t : List UInt8} {ts : List (List UInt8)} {c : CertV} {k : Nat} (h : (listL f.turn f.name (cutL 32 t)).2 = 0) : goL (f :: fs) c k (t :: ts) = goL fs (c.put f (listL f.turn f.name (cutL 32 t)).1) (k + 1) ts := by
  simp only [goL]; rw [if_neg (by simpa using h)]
theorem go_stop {f : Fld} {fs : List Fld} {t : List UInt8} {ts : List (List UInt8)} {c : CertV} {k : Nat} (h : (listL f.turn f.name (cutL 32 t)).2 ≠ 0) : goL (f :: fs) c k (t :: ts) = (cert0, (listL f.turn f.name (cutL 32 t)).2, (k : Int) + 2) := by
  simp only [goL]; rw [if_pos h]

/-- while the document's answer reads lines -/
structure RP (cb : Nat) (W3 : World) (fs : List Fld) (ts : List (List UInt8)) (R : CertV × Int × Int) (j : Nat) (c : CertV) (v1 v2 v3 v4 : Value) (wr : World) : Prop where
  b : Blk wr cb 32 #[.int .i64 c.kind, v1, v2, v3, v4]
  cf : CertF cb wr c v1 v2 v3 v4
  nil : ∀ f ∈ fs.drop j, f.val v1 v2 v3 v4 = .slice none 0 0
  go : R = goL (fs.drop j) c j (ts.drop j)
  l : Below cb W3 wr
theorem rp_put {cb : Nat} {w w4 w5 : World} {f : Fld} {cc : CertV} {v1 v2 v3 v4 z1 z2 z3 z4 : Value} {xs : List Int} {n : Nat} (h : CertF cb w cc v1 v2 v3 v4) (hb4 : Below w.heap.size w w4) (hb5 : Below w4.heap.size w4 w5)
    (hz : ∃ B k T, f.val z1 z2 z3 z4 = .slice B n k ∧ w5.ownsRow w4.heap.size T 1 (.slice B n k) n (xs.map f.enc)) (hk : ∀ g, g ≠ f → g.val z1 z2 z3 z4 = g.val v1 v2 v3 v4) (hlt : cb < w4.heap.size) : CertF cb w5 (cc.put f xs) z1 z2 z3 z4 := by
  intro g
  by_cases hg : g = f
  · subst hg
    obtain ⟨B, k, T, e, ho⟩ := hz
    rw [e, get_put]
    exact FldF.of_own ho hlt
  · rw [hk g hg, get_put_ne _ _ _ _ hg]
    exact ((h g).below hb4).below hb5
theorem drop_at {α : Type} {l : List α} {j : Nat} {x : α} (h : l[j]? = some x) : l.drop j = x :: l.drop (j + 1) := by
  obtain ⟨hj, rfl⟩ := List.getElem?_eq_some_iff.1 h
  exact List.drop_eq_getElem_cons hj

set_option maxRecDepth 100000 in
set_option maxHeartbeats 6400000 in
theorem rParse_in (s : ByteArray) (hsz : s.size ≤ 60000) (w : World) :
    Calls Tryz.prog 19 #[.string s] w fun e w' => ∃ v1 v2 v3 v4, e = .returned (.tuple #[.agg #[.int .i64 (parseL s.data.toList).1.kind, v1, v2, v3, v4], .int .i64 (parseL s.data.toList).2.1, .int .i64 (parseL s.data.toList).2.2]) ∧ CertR w' (parseL s.data.toList).1 v1 v2 v3 v4 ∧ Below w.heap.size w w' := by
  have hP : parseL s.data.toList = parseT (linesL s.data.toList) := by unfold parseL; rw [if_neg (by show ¬ 60000 < s.size; omega)]
  have hLn := rLines_in s (by omega)
  have hwl : ∀ t ∈ linesL s.data.toList, t.length ≤ 60000 := fun t ht => Nat.le_trans (lines_len _ t ht) hsz
  have hll : (linesL s.data.toList).length ≤ 60001 := Nat.le_trans (lines_many _) (by show s.size + 1 ≤ 60001; omega)
  generalize linesL s.data.toList = L at hP hLn hwl hll
  generalize parseL s.data.toList = R at hP ⊢
  have HP := Lib.hid hP
  have HW := Lib.hid hwl
  clear hP hwl
  go_enter Tryz.func19, Tryz.ntmps19
  go_wp2_with fail
  refine (hLn _).mono ?_
  rintro e w1 ⟨A, m, c, rfl, hm, hmc, hR, hb1⟩
  have kp0 : Blk (w.alloc (.cells #[.int .i64 0, .slice none 0 0, .slice none 0 0, .slice none 0 0, .slice none 0 0] 32)) w.heap.size 32 #[.int .i64 0, .slice none 0 0, .slice none 0 0, .slice none 0 0, .slice none 0 0] := Blk.new w 32 _
  have kp := kp0.below hb1 (by simp)
  have hb1' : Below w.heap.size w w1 := ((Below.refl _ w).alloc (Nat.le_refl _) (.cells #[.int .i64 0, .slice none 0 0, .slice none 0 0, .slice none 0 0, .slice none 0 0] 32)).trans (hb1.mono (by simp))
  have hs1 : w.heap.size < w1.heap.size := kp.lt
  obtain ⟨⟨q0, q1, q2, q3, q4⟩, f0, f1, f2, f3, f4⟩ := kp.five
  have HK := Lib.hid kp
  clear kp0 hb1 hLn kp
  cases L with
  | nil =>
    obtain rfl : m = 0 := hm
    go_wp2_with fail
    have hBz := HK.out.put5 (.int .i64 0) (.slice none 0 0) (.slice none 0 0) (.slice none 0 0) (.slice none 0 0)
    have hbF := below_put5 hb1' (Nat.le_refl w.heap.size) (.int .i64 0) (.slice none 0 0) (.slice none 0 0) (.slice none 0 0) (.slice none 0 0)
    change bodyPost _ _ _ _ _ (put5 w1 w.heap.size (.int .i64 0) (.slice none 0 0) (.slice none 0 0) (.slice none 0 0) (.slice none 0 0))
    generalize put5 w1 w.heap.size (.int .i64 0) (.slice none 0 0) (.slice none 0 0) (.slice none 0 0) (.slice none 0 0) = WF at hBz hbF ⊢
    obtain ⟨⟨d0, d1, d2, d3, d4⟩, -⟩ := hBz.five
    have hRR : R = (cert0, 36, 0) := HP.out
    refine bodyPost_ret (v := .tuple #[.agg #[.int .i64 0, .slice none 0 0, .slice none 0 0, .slice none 0 0, .slice none 0 0], .int .i64 (36), .int .i64 (0)]) (by simp [results, Tryz.results19, go_sem, d0, d1, d2, d3, d4]) rfl ?_
    rw [hRR]
    exact ⟨_, _, _, _, rfl, cert0R _, hbF⟩
  | cons t ts =>
    obtain ⟨M, rfl⟩ : ∃ M, m = M + 1 := ⟨ts.length, by simpa using hm⟩
    have hts : ts.length ≤ M ∧ M ≤ ts.length := by simp at hm; omega
    have hM : M ≤ 60000 := by simp at hll; omega
    have HL := Lib.hid hR
    obtain ⟨b, off, rfl, hbb, hcells⟩ := hR.2 (by omega)
    have hc0 : w1.cell? ⟨b, off, none⟩ = some (.string ⟨t.toArray⟩) := by have := hcells 0 _ rfl; rwa [Nat.add_zero] at this
    obtain ⟨X, hX⟩ : ∃ X : ByteArray, X = ⟨t.toArray⟩ := ⟨_, rfl⟩
    rw [← hX] at hc0
    clear hcells hR hm hll
    have hXl : X.data.toList = t := by rw [hX]
    rw [← hXl] at HP
    have HXL := Lib.hid hXl
    clear hX hXl
    go_wp2_with fail
    refine (rlines_in X _).mono ?_
    rintro e w2 ⟨A2, n, cp, k, rfl, hb2, hcase⟩
    have hb2' := hb1'.trans (hb2.mono hb1'.size)
    have hs2 : w.heap.size < w2.heap.size := Nat.lt_of_lt_of_le hs1 hb2.size
    have kp2 := HK.out.below hb2 hs1
    have HL2 := Lib.hid (HL.out.below hb2 |>.more hb2.size)
    clear q0 q1 q2 q3 q4 f0 f1 f2 f3 f4 HK HL hb2 hc0
    obtain ⟨⟨q0, q1, q2, q3, q4⟩, f0, f1, f2, f3, f4⟩ := kp2.five
    have HK := Lib.hid kp2
    clear kp2
    rcases hcase with ⟨hw0, rfl⟩ | ⟨fs, hw0, hk1, hk3, hn, hn1, hn2, hWt⟩
    · have hRR0 : R = (cert0, 36, 1) := by rw [HP.out, parseT, hw0]
      have HRR := Lib.hid hRR0
      clear hw0 hRR0 HP
      go_wp2_with fail
      have hBz := HK.out.put5 (.int .i64 0) (.slice none 0 0) (.slice none 0 0) (.slice none 0 0) (.slice none 0 0)
      have hbF := below_put5 hb2' (Nat.le_refl w.heap.size) (.int .i64 0) (.slice none 0 0) (.slice none 0 0) (.slice none 0 0) (.slice none 0 0)
      change bodyPost _ _ _ _ _ (put5 w2 w.heap.size (.int .i64 0) (.slice none 0 0) (.slice none 0 0) (.slice none 0 0) (.slice none 0 0))
      generalize put5 w2 w.heap.size (.int .i64 0) (.slice none 0 0) (.slice none 0 0) (.slice none 0 0) (.slice none 0 0) = WF at hBz hbF ⊢
      obtain ⟨⟨d0, d1, d2, d3, d4⟩, -⟩ := hBz.five
      have hRR : R = (cert0, 36, 1) := HRR.out
      refine bodyPost_ret (v := .tuple #[.agg #[.int .i64 0, .slice none 0 0, .slice none 0 0, .slice none 0 0, .slice none 0 0], .int .i64 (36), .int .i64 (1)]) (by simp [results, Tryz.results19, go_sem, d0, d1, d2, d3, d4]) rfl ?_
      rw [hRR]
      exact ⟨_, _, _, _, rfl, cert0R _, hbF⟩
    · have hRR0 : R = goL fs ⟨k, [], [], [], []⟩ 0 ts := by rw [HP.out, parseT, hw0]
      have HRR := Lib.hid hRR0
      have HON := Lib.hid (want_once hw0)
      have HWT := Lib.hid hWt
      have hk0 : (k == 0) = false := by simp; omega
      have hfl : fs.length ≤ n ∧ n ≤ fs.length := by omega
      clear hw0 hRR0 HP hWt hn
      go_wp2_with fail
      have hbA : Below w2.heap.size w2 (w2.alloc (.cells #[.int .i64 k, .slice none 0 0, .slice none 0 0, .slice none 0 0, .slice none 0 0] 32)) := (Below.refl _ w2).alloc (Nat.le_refl _) _
      have hS0 : RP w2.heap.size (w2.alloc (.cells #[.int .i64 k, .slice none 0 0, .slice none 0 0, .slice none 0 0, .slice none 0 0] 32)) fs ts R 0 ⟨k, [], [], [], []⟩ (.slice none 0 0) (.slice none 0 0) (.slice none 0 0) (.slice none 0 0) (w2.alloc (.cells #[.int .i64 k, .slice none 0 0, .slice none 0 0, .slice none 0 0, .slice none 0 0] 32)) :=
        ⟨Blk.new w2 32 _, fun g => by cases g <;> exact FldF.nil, fun f _ => by cases f <;> rfl, by rw [HRR.out]; rfl, Below.refl _ _⟩
      have HK3 := Lib.hid (HK.out.below hbA hs2)
      have HL3 := Lib.hid (HL2.out.below hbA)
      have HWT3 := Lib.hid (HWT.out.below hbA)
      have hb3' := hb2'.trans (hbA.mono hb2'.size)
      have HS0 := Lib.hid hS0
      clear q0 q1 q2 q3 q4 f0 f1 f2 f3 f4 HK HL2 HWT hS0 HRR hk0 hk1 hk3
      generalize w2.alloc (.cells #[.int .i64 k, .slice none 0 0, .slice none 0 0, .slice none 0 0, .slice none 0 0] 32) = W3 at *
      generalize w2.heap.size = cb at *
      go_loopw [9] (fun i wr => ∃ (j : Nat) (c : CertV) (v1 v2 v3 v4 : Value), j ≤ n ∧ j ≤ M ∧ i = .int .i64 ((j : Int) + 1) ∧ RP cb W3 fs ts R j c v1 v2 v3 v4 wr) (fun i _ => (M + 2) - (intOf i).toNat)
      case atStart => exact ⟨0, _, _, _, _, _, Nat.zero_le _, Nat.zero_le _, rfl, HS0.out⟩
      case round =>
        obtain ⟨j, cc, v1, v2, v3, v4, hjn, hjM, rfl, hS⟩ := hrel
        clear HS0
        obtain ⟨A1, c1, rfl, -, -⟩ := hS.cf.cr.flow.open_
        obtain ⟨A2', c2, rfl, -, -⟩ := hS.cf.cr.pot.open_
        obtain ⟨A3, c3, rfl, -, -⟩ := hS.cf.cr.side.open_
        obtain ⟨A4, c4, rfl, -, -⟩ := hS.cf.cr.cycle.open_
        obtain ⟨⟨p0, p1, p2, p3, p4⟩, g0, g1, g2, g3, g4⟩ := hS.b.five
        have lB := hS.b.lt
        have kr := HK3.out.below hS.l hs2
        obtain ⟨⟨q0, q1, q2, q3, q4⟩, f0, f1, f2, f3, f4⟩ := kr.five
        have lR := kr.lt
        have HKr := Lib.hid kr
        have hbr : Below w.heap.size w wr := hb3'.trans (hS.l.mono (Nat.le_of_lt hs2))
        have hLr := HL3.out.below hS.l
        have hWr := HWT3.out.below hS.l
        have HS := Lib.hid hS
        clear hS kr
        by_cases hlt : j < M
        · obtain ⟨t', ht'⟩ : ∃ t', ts[j]? = some t' := ⟨_, List.getElem?_eq_getElem (by omega)⟩
          by_cases hj : j < n
          · obtain ⟨f, hf⟩ : ∃ f, fs[j]? = some f := ⟨_, List.getElem?_eq_getElem (by omega)⟩
            obtain ⟨b', off', hbo, hbb', hcl⟩ := hLr.2 (by omega)
            injection hbo with hbo
            injection hbo with hbo1 hbo2
            subst hbo1 hbo2
            have hc1 : wr.cell? ⟨b, off + (j + 1), none⟩ = some (.string ⟨t'.toArray⟩) := hcl (j + 1) _ (by simp [ht', strV])
            obtain ⟨b2, off2, rfl, hbb2, hcl2⟩ := hWr.2 (by omega)
            have hc2 : wr.cell? ⟨b2, off2 + j, none⟩ = some (strV f.name) := hcl2 j _ (by simp [hf])
            have HRD := Lib.hid (fun W => read_in f t' (HW.out t' (by simp [List.mem_of_getElem? ht'])) W)
            have HPT := Lib.hid (fun v1 v2 v3 v4 A n cp xs W => put_in f cc v1 v2 v3 v4 A n cp xs W)
            have HG1 : Hid ((listL f.turn f.name (cutL 32 t')).2 = 0 → goL (fs.drop j) cc j (ts.drop j) = goL (fs.drop (j + 1)) (cc.put f (listL f.turn f.name (cutL 32 t')).1) (j + 1) (ts.drop (j + 1))) := Lib.hid (fun h => by rw [drop_at hf, drop_at ht', go_step h])
            have HG2 : Hid ((listL f.turn f.name (cutL 32 t')).2 ≠ 0 → goL (fs.drop j) cc j (ts.drop j) = (cert0, (listL f.turn f.name (cutL 32 t')).2, (j : Int) + 1 + 1)) := Lib.hid (fun h => by rw [drop_at hf, drop_at ht', go_stop h, Int.add_assoc]; rfl)
            have hll := list_len f.turn f.name (cutL 32 t')
            have hcm := cut_many 32 t'
            have htl := HW.out t' (by simp [List.mem_of_getElem? ht'])
            have HNF := Lib.hid (HS.out.nil f (by rw [drop_at hf]; simp))
            have HND : Hid (∀ g ∈ fs.drop (j + 1), g ≠ f ∧ g ∈ fs.drop j) := Lib.hid (fun g hg => ⟨HON.out j f hf g hg, by rw [drop_at hf]; simp [hg]⟩)
            generalize listL f.turn f.name (cutL 32 t') = Q at HRD HG1 HG2 hll
            obtain ⟨xs, e4⟩ := Q
            simp only at HRD HG1 HG2 hll
            have hxl : xs.length ≤ 100000 := by omega
            obtain ⟨Y, hY⟩ : ∃ Y : ByteArray, Y = ⟨t'.toArray⟩ := ⟨_, rfl⟩
            obtain ⟨Z, hZ⟩ : ∃ Z : ByteArray, strV f.name = .string Z := ⟨_, rfl⟩
            rw [← hY] at hc1 HRD
            rw [hZ] at hc2 HRD HPT
            clear hY hZ hcl hcl2 hll hcm htl hf ht' hLr hWr
            have i1 : ((j : Int) + 1).toNat = j + 1 := by omega
            have i2 : ¬ (j : Int) + 1 > n := by omega
            have i3 : IntKind.i64.wrap ((j : Int) + 1 - 1) = (j : Int) := by rw [show (j : Int) + 1 - 1 = j by omega]; exact IntWalk.i64_in _ (by omega)
            have i4 : (0 : Int) ≤ (j : Int) + 1 := by omega
            have i8 : IntKind.i64.wrap (j : Int) = (j : Int) := IntWalk.i64_in _ (by omega)
            have i5 : (j : Int) + 1 < (M : Int) + 1 := by omega
            have i6 : (j : Int) < n := by omega
            have i7 : j + 1 < M + 1 := by omega
            have lb1 : b < wr.heap.size := by omega
            have lb2 : b2 < wr.heap.size := by omega
            go_upto_region 15 with fail
            go_cut [10, 11] (fun s10 s11 wx => ∃ B cp4, s10 = .slice B xs.length cp4 ∧ s11 = .int .i64 e4 ∧ Below wr.heap.size wr wx ∧ wx.ownsRow wr.heap.size 2 1 (.slice B xs.length cp4) xs.length (xs.map I))
            case first =>
              go_region_law (first | (go_simp; go_at_call 36; refine (HRD.out _).mono ?_; rintro e w4 ⟨B, m4, cp4, rfl, hm4, ho4, hb4⟩))
              all_goals
                subst hm4
                go_wp2_with fail
                go_meet
                exact ⟨B, cp4, rfl, rfl, (Below.refl _ wr).drew.trans hb4, ho4⟩
            case rest =>
              obtain ⟨B, cp4, rfl, rfl, hb4', ho4'⟩ := hcut
              clear HRD
              have r0 := (hb4'.cell (p := ⟨cb, 0, none⟩) lB).trans p0
              have r1 := (hb4'.cell (p := ⟨cb, 1, none⟩) lB).trans p1
              have r2 := (hb4'.cell (p := ⟨cb, 2, none⟩) lB).trans p2
              have r3 := (hb4'.cell (p := ⟨cb, 3, none⟩) lB).trans p3
              have r4 := (hb4'.cell (p := ⟨cb, 4, none⟩) lB).trans p4
              have k2 : wc.cell? ⟨b2, off2 + j, none⟩ = some (.string Z) := (hb4'.cell (p := ⟨b2, off2 + j, none⟩) (by show b2 < wr.heap.size; omega)).trans hc2
              have s0 := (hb4'.cell (p := ⟨w.heap.size, 0, none⟩) lR).trans q0
              have s1 := (hb4'.cell (p := ⟨w.heap.size, 1, none⟩) lR).trans q1
              have s2 := (hb4'.cell (p := ⟨w.heap.size, 2, none⟩) lR).trans q2
              have s3 := (hb4'.cell (p := ⟨w.heap.size, 3, none⟩) lR).trans q3
              have s4 := (hb4'.cell (p := ⟨w.heap.size, 4, none⟩) lR).trans q4
              have y0 := (hb4'.frozen (p := ⟨w.heap.size, 0, none⟩) lR).trans f0
              have y1 := (hb4'.frozen (p := ⟨w.heap.size, 1, none⟩) lR).trans f1
              have y2 := (hb4'.frozen (p := ⟨w.heap.size, 2, none⟩) lR).trans f2
              have y3 := (hb4'.frozen (p := ⟨w.heap.size, 3, none⟩) lR).trans f3
              have y4 := (hb4'.frozen (p := ⟨w.heap.size, 4, none⟩) lR).trans f4
              have lB4 := Nat.lt_of_lt_of_le lB hb4'.size
              have lR4 := Nat.lt_of_lt_of_le lR hb4'.size
              have l24 : b2 < wc.heap.size := by have := hb4'.size; omega
              have HB4 := Lib.hid (And.intro hb4' ho4')
              clear hb4' ho4' p0 p1 p2 p3 p4 g0 g1 g2 g3 g4 q0 q1 q2 q3 q4 f0 f1 f2 f3 f4 hc1 hc2
              by_cases hz : e4 = 0
              · subst hz
                have HGO := Lib.hid (HG1.out rfl)
                clear HG1 HG2 s0 s1 s2 s3 s4 y0 y1 y2 y3 y4
                go_wp2_with fail
                go_region_law (first | (go_simp; go_at_call 37; refine (HPT.out _ _ _ _ B xs.length cp4 xs _ (by exact (HS.out.cf.cr.below HB4.out.1).below (Below.refl _ _).drew) HNF.out (by exact Reads.of_own HB4.out.2) hxl).mono ?_; rintro e w5 ⟨z1, z2, z3, z4, rfl, hz5, hkeep, hb5⟩; have hb45 : Below wc.heap.size wc w5 := (Below.refl _ wc).drew.trans hb5; obtain ⟨⟨b0, b1, b2', b3, b4⟩, x0, x1, x2, x3, x4⟩ := ((HS.out.b.below HB4.out.1 lB).below hb45 lB4).five; have lB5 := Nat.lt_of_lt_of_le lB4 hb45.size; have HZ5 := Lib.hid (And.intro hz5 (And.intro hkeep hb45)); have hcf : CertF cb w5 (cc.put f xs) z1 z2 z3 z4 := rp_put HS.out.cf HB4.out.1 hb45 hz5 hkeep lB4; obtain ⟨D1, e1, rfl, -, -⟩ := hcf.cr.flow.open_; obtain ⟨D2, e2, rfl, -, -⟩ := hcf.cr.pot.open_; obtain ⟨D3, e3, rfl, -, -⟩ := hcf.cr.side.open_; obtain ⟨D4, e4, rfl, -, -⟩ := hcf.cr.cycle.open_; have HCF := Lib.hid hcf; clear hz5 hkeep hb5 hcf))
                all_goals
                  go_wp2_with fail
                  go_roundw
                  case rel =>
                    have hb05 : Below cb W3 w5 := (HS.out.l.trans (HB4.out.1.mono (Nat.le_of_lt lB))).trans (HZ5.out.2.2.mono (Nat.le_of_lt lB4))
                    refine ⟨j + 1, cc.put f xs, .slice D1 (cc.put f xs).flow.length e1, .slice D2 (cc.put f xs).pot.length e2, .slice D3 (cc.put f xs).side.length e3, .slice D4 (cc.put f xs).cycle.length e4, by omega, by omega, by go_num, ?_⟩
                    refine ⟨?_, fun g => (HCF.out g).put5 (Nat.le_refl _) (.int .i64 cc.kind) _ _ _ _, ?_, (HS.out.go.trans HGO.out), below_put5 hb05 (Nat.le_refl _) _ _ _ _ _⟩
                    · rw [put_kind]
                      exact ((HS.out.b.below HB4.out.1 lB).below HZ5.out.2.2 lB4).put5 _ _ _ _ _
                    · intro g hg
                      rw [HZ5.out.2.1 g (HND.out g hg).1]
                      exact HS.out.nil g (HND.out g hg).2
                  case measure => simp [intOf]; omega
              · have HGO := Lib.hid (HG2.out hz)
                clear HG1 HG2
                go_wp2_with fail
                have hBz := (HKr.out.below HB4.out.1 lR).put5 (.int .i64 0) (.slice none 0 0) (.slice none 0 0) (.slice none 0 0) (.slice none 0 0)
                have hbF := below_put5 (hbr.trans (HB4.out.1.mono hbr.size)) (Nat.le_refl w.heap.size) (.int .i64 0) (.slice none 0 0) (.slice none 0 0) (.slice none 0 0) (.slice none 0 0)
                change bodyPost _ _ _ _ _ (put5 wc w.heap.size (.int .i64 0) (.slice none 0 0) (.slice none 0 0) (.slice none 0 0) (.slice none 0 0))
                generalize put5 wc w.heap.size (.int .i64 0) (.slice none 0 0) (.slice none 0 0) (.slice none 0 0) (.slice none 0 0) = WF at hBz hbF ⊢
                obtain ⟨⟨d0, d1, d2, d3, d4⟩, -⟩ := hBz.five
                have hRR : R = (cert0, e4, (j : Int) + 1 + 1) := HS.out.go.trans HGO.out
                refine bodyPost_ret (v := .tuple #[.agg #[.int .i64 0, .slice none 0 0, .slice none 0 0, .slice none 0 0, .slice none 0 0], .int .i64 (e4), .int .i64 ((j : Int) + 1 + 1)]) (by simp [results, Tryz.results19, go_sem, d0, d1, d2, d3, d4]) rfl ?_
                rw [hRR]
                exact ⟨_, _, _, _, rfl, cert0R _, hbF⟩
          · obtain rfl : j = n := by omega
            have HGO : Hid (goL (fs.drop j) cc j (ts.drop j) = (cert0, 10, (j : Int) + 1 + 1)) := Lib.hid (by rw [drop_at ht', List.drop_of_length_le (by omega), Int.add_assoc]; rfl)
            have i2 : (j : Int) + 1 > j := by omega
            clear ht'
            go_wp2_with fail
            have hBz := HKr.out.put5 (.int .i64 0) (.slice none 0 0) (.slice none 0 0) (.slice none 0 0) (.slice none 0 0)
            have hbF := below_put5 hbr (Nat.le_refl w.heap.size) (.int .i64 0) (.slice none 0 0) (.slice none 0 0) (.slice none 0 0) (.slice none 0 0)
            change bodyPost _ _ _ _ _ (put5 wr w.heap.size (.int .i64 0) (.slice none 0 0) (.slice none 0 0) (.slice none 0 0) (.slice none 0 0))
            generalize put5 wr w.heap.size (.int .i64 0) (.slice none 0 0) (.slice none 0 0) (.slice none 0 0) (.slice none 0 0) = WF at hBz hbF ⊢
            obtain ⟨⟨d0, d1, d2, d3, d4⟩, -⟩ := hBz.five
            have hRR : R = (cert0, 10, (j : Int) + 1 + 1) := HS.out.go.trans HGO.out
            refine bodyPost_ret (v := .tuple #[.agg #[.int .i64 0, .slice none 0 0, .slice none 0 0, .slice none 0 0, .slice none 0 0], .int .i64 (10), .int .i64 ((j : Int) + 1 + 1)]) (by simp [results, Tryz.results19, go_sem, d0, d1, d2, d3, d4]) rfl ?_
            rw [hRR]
            exact ⟨_, _, _, _, rfl, cert0R _, hbF⟩
        · obtain rfl : j = M := by omega
          by_cases hj : j < n
          · obtain ⟨f, hf⟩ : ∃ f, fs[j]? = some f := ⟨_, List.getElem?_eq_getElem (by omega)⟩
            have HGO : Hid (goL (fs.drop j) cc j (ts.drop j) = (cert0, 10, (j : Int) + 1)) := Lib.hid (by rw [drop_at hf, List.drop_of_length_le (l := ts) (by omega)]; rfl)
            clear hf
            have i2 : (j : Int) + 1 ≤ n := by omega
            go_wp2_with fail
            have hBz := HKr.out.put5 (.int .i64 0) (.slice none 0 0) (.slice none 0 0) (.slice none 0 0) (.slice none 0 0)
            have hbF := below_put5 hbr (Nat.le_refl w.heap.size) (.int .i64 0) (.slice none 0 0) (.slice none 0 0) (.slice none 0 0) (.slice none 0 0)
            change bodyPost _ _ _ _ _ (put5 wr w.heap.size (.int .i64 0) (.slice none 0 0) (.slice none 0 0) (.slice none 0 0) (.slice none 0 0))
            generalize put5 wr w.heap.size (.int .i64 0) (.slice none 0 0) (.slice none 0 0) (.slice none 0 0) (.slice none 0 0) = WF at hBz hbF ⊢
            obtain ⟨⟨d0, d1, d2, d3, d4⟩, -⟩ := hBz.five
            have hRR : R = (cert0, 10, (j : Int) + 1) := HS.out.go.trans HGO.out
            refine bodyPost_ret (v := .tuple #[.agg #[.int .i64 0, .slice none 0 0, .slice none 0 0, .slice none 0 0, .slice none 0 0], .int .i64 (10), .int .i64 ((j : Int) + 1)]) (by simp [results, Tryz.results19, go_sem, d0, d1, d2, d3, d4]) rfl ?_
            rw [hRR]
            exact ⟨_, _, _, _, rfl, cert0R _, hbF⟩
          · obtain rfl : j = n := by omega
            have HGO : Hid (goL (fs.drop j) cc j (ts.drop j) = (cc, 0, 0)) := Lib.hid (by rw [List.drop_of_length_le (by omega), List.drop_of_length_le (l := ts) (by omega)]; rfl)
            have i2 : ¬ (j : Int) + 1 ≤ j := by omega
            go_wp2_with fail
            have hBz := HKr.out.put5 (.int .i64 cc.kind) (.slice A1 cc.flow.length c1) (.slice A2' cc.pot.length c2) (.slice A3 cc.side.length c3) (.slice A4 cc.cycle.length c4)
            have hbF := below_put5 hbr (Nat.le_refl w.heap.size) (.int .i64 cc.kind) (.slice A1 cc.flow.length c1) (.slice A2' cc.pot.length c2) (.slice A3 cc.side.length c3) (.slice A4 cc.cycle.length c4)
            change bodyPost _ _ _ _ _ (put5 wr w.heap.size (.int .i64 cc.kind) (.slice A1 cc.flow.length c1) (.slice A2' cc.pot.length c2) (.slice A3 cc.side.length c3) (.slice A4 cc.cycle.length c4))
            have hcF : CertR (put5 wr w.heap.size (.int .i64 cc.kind) (.slice A1 cc.flow.length c1) (.slice A2' cc.pot.length c2) (.slice A3 cc.side.length c3) (.slice A4 cc.cycle.length c4)) cc _ _ _ _ := CertF.cr (cb := cb) (fun g => (HS.out.cf g).put5 (Nat.le_of_lt hs2) _ _ _ _ _)
            generalize put5 wr w.heap.size (.int .i64 cc.kind) (.slice A1 cc.flow.length c1) (.slice A2' cc.pot.length c2) (.slice A3 cc.side.length c3) (.slice A4 cc.cycle.length c4) = WF at hBz hbF hcF ⊢
            obtain ⟨⟨d0, d1, d2, d3, d4⟩, -⟩ := hBz.five
            have hRR : R = (cc, 0, 0) := HS.out.go.trans HGO.out
            refine bodyPost_ret (v := .tuple #[.agg #[.int .i64 cc.kind, .slice A1 cc.flow.length c1, .slice A2' cc.pot.length c2, .slice A3 cc.side.length c3, .slice A4 cc.cycle.length c4], .int .i64 0, .int .i64 0]) (by simp [results, Tryz.results19, go_sem, d0, d1, d2, d3, d4]) rfl ?_
            rw [hRR]
            exact ⟨_, _, _, _, rfl, hcF, hbF⟩

theorem go_err (fs : List Fld) : ∀ (c : CertV) (k : Nat) (ts : List (List UInt8)), 0 ≤ (goL fs c k ts).2.1 ∧ (goL fs c k ts).2.1 ≤ 36 := by
  have hl : ∀ (f : Fld) (ws : List (List UInt8)), 0 ≤ (listL f.turn f.name ws).2 ∧ (listL f.turn f.name ws).2 ≤ 36 := by
    intro f ws
    unfold listL
    repeat' split
    all_goals simp
  induction fs with
  | nil =>
    intro c k ts
    cases ts <;> simp [goL]
  | cons f fs ih =>
    intro c k ts
    cases ts with
    | nil => simp [goL]
    | cons t ts =>
      simp only [goL]
      split
      · exact hl f _
      · exact ih _ _ _
theorem parse_err (s : List UInt8) : 0 ≤ (parseL s).2.1 ∧ (parseL s).2.1 ≤ 36 := by
  unfold parseL
  split
  · simp
  · cases linesL s with
    | nil => simp [parseT]
    | cons t ts =>
      simp only [parseT]
      split
      · simp
      · exact go_err _ _ _ _
theorem go_side (fs : List Fld) : ∀ (c : CertV) (k : Nat) (ts : List (List UInt8)), (∀ x ∈ c.side, x = 0 ∨ x = 1) → ∀ x ∈ (goL fs c k ts).1.side, x = 0 ∨ x = 1 := by
  induction fs with
  | nil =>
    intro c k ts h
    cases ts with
    | nil => simpa [goL] using h
    | cons t ts => simp [goL, cert0]
  | cons f fs ih =>
    intro c k ts h
    cases ts with
    | nil => simp [goL, cert0]
    | cons t ts =>
      simp only [goL]
      split
      · simp [cert0]
      · refine ih _ _ _ ?_
        cases f with
        | side =>
          intro x hx
          have hx : x ∈ (listL bitL Fld.side.name (cutL 32 t)).1 := hx
          unfold listL at hx
          split at hx
          · simp at hx
          · split at hx
            · simp at hx
            · split at hx
              · simp at hx
              · split at hx
                · simp at hx
                · simp only [List.map_map, List.mem_map, Function.comp] at hx
                  obtain ⟨w, -, rfl⟩ := hx
                  unfold bitL
                  split
                  · simp
                  · split <;> simp
        | flow => exact h
        | pot => exact h
        | cycle => exact h
theorem parse_side (s : List UInt8) : ∀ x ∈ (parseL s).1.side, x = 0 ∨ x = 1 := by
  unfold parseL
  split
  · simp [cert0]
  · cases linesL s with
    | nil => simp [parseT, cert0]
    | cons t ts =>
      simp only [parseT]
      split
      · simp [cert0]
      · exact go_side _ _ _ _ (by simp)
theorem go_lens (fs : List Fld) (K : Nat) : ∀ (c : CertV) (k : Nat) (ts : List (List UInt8)), (∀ g, (c.get g).length ≤ K + 1) → (∀ t ∈ ts, t.length ≤ K) → ∀ g, ((goL fs c k ts).1.get g).length ≤ K + 1 := by
  induction fs with
  | nil =>
    intro c k ts h _ g
    cases ts with
    | nil => simpa [goL] using h g
    | cons t ts => cases g <;> simp [goL, cert0, CertV.get]
  | cons f fs ih =>
    intro c k ts h ht g
    cases ts with
    | nil => cases g <;> simp [goL, cert0, CertV.get]
    | cons t ts =>
      simp only [goL]
      split
      · cases g <;> simp [cert0, CertV.get]
      · refine ih _ _ _ ?_ (fun x hx => ht x (by simp [hx])) g
        intro g'
        by_cases e : g' = f
        · subst e
          rw [get_put]
          have := list_len g'.turn g'.name (cutL 32 t)
          have := cut_many 32 t
          have := ht t (by simp)
          omega
        · rw [get_put_ne _ _ _ _ e]; exact h g'
theorem parse_lens (s : List UInt8) (hs : s.length ≤ 60000) : ∀ g, ((parseL s).1.get g).length ≤ 60001 := by
  unfold parseL
  rw [if_neg (by omega)]
  have hwl : ∀ t ∈ linesL s, t.length ≤ 60000 := fun t ht => Nat.le_trans (lines_len _ t ht) hs
  revert hwl
  cases linesL s with
  | nil => intro _ g; cases g <;> simp [parseT, cert0, CertV.get]
  | cons t ts =>
    intro hwl g
    simp only [parseT]
    split
    · cases g <;> simp [cert0, CertV.get]
    · exact go_lens _ 60000 _ _ _ (fun g => by cases g <;> simp [CertV.get]) (fun x hx => hwl x (by simp [hx])) g

set_option maxHeartbeats 1600000 in
theorem parses_in (s : ByteArray) (hsz : s.size ≤ 2000) (w : World) (hE : Env w) :
    Calls Tryz.prog 7 #[.string s] w fun e w' => e = .returned (.bool true) ∧ Below w.heap.size w w' := by
  have HQ := Lib.hid (fun W (hb : Below w.heap.size w W) => Parse_in s (by omega) W (hE.on hb))
  have HR := Lib.hid (fun W => rParse_in s (by omega) W)
  have HS := Lib.hid (parse_side s.data.toList)
  have HN := Lib.hid (parse_lens s.data.toList (by show s.size ≤ _; omega))
  have he := parse_err s.data.toList
  generalize parseL s.data.toList = P at HQ HR HS HN he
  obtain ⟨c, e1, at1⟩ := P
  simp only at HQ HR HS HN he
  obtain ⟨he0, he1⟩ := he
  go_enter Tryz.func7, Tryz.ntmps7
  go_wp2_with fail
  refine (HQ.out _ (Below.refl _ w)).mono ?_
  rintro e w2 ⟨u1, u2, u3, u4, rfl, hB, hb2⟩
  obtain ⟨A1, c1, rfl, -, -⟩ := hB.flow.open_
  obtain ⟨A2, c2, rfl, -, -⟩ := hB.pot.open_
  obtain ⟨A3, c3, rfl, -, -⟩ := hB.side.open_
  obtain ⟨A4, c4, rfl, -, -⟩ := hB.cycle.open_
  have hb4 : Below w2.heap.size w2 (w2.alloc (.cells #[.int .i64 c.kind, .slice A1 c.flow.length c1, .slice A2 c.pot.length c2, .slice A3 c.side.length c3, .slice A4 c.cycle.length c4] 32)) := (Below.refl _ w2).alloc (Nat.le_refl _) _
  have hb5 := hb2.trans (hb4.mono hb2.size)
  have kb := Blk.new w2 32 #[.int .i64 c.kind, .slice A1 c.flow.length c1, .slice A2 c.pot.length c2, .slice A3 c.side.length c3, .slice A4 c.cycle.length c4]
  have hB' := hB.below hb4
  have HK := Lib.hid (And.intro kb hB')
  have hlt : w2.heap.size < (w2.alloc (.cells #[.int .i64 c.kind, .slice A1 c.flow.length c1, .slice A2 c.pot.length c2, .slice A3 c.side.length c3, .slice A4 c.cycle.length c4] 32)).heap.size := by simp
  clear hB hB' kb
  go_wp2_with fail
  refine (HR.out _).mono ?_
  rintro e w3 ⟨x1, x2, x3, x4, rfl, hD, hb6⟩
  obtain ⟨B1, d1, rfl, -, -⟩ := hD.flow.open_
  obtain ⟨B2, d2, rfl, -, -⟩ := hD.pot.open_
  obtain ⟨B3, d3, rfl, -, -⟩ := hD.side.open_
  obtain ⟨B4, d4, rfl, -, -⟩ := hD.cycle.open_
  have kb3 := HK.out.1.below hb6 hlt
  have hC3 := HK.out.2.below hb6
  have hb7 := hb5.trans (hb6.mono hb5.size)
  have hb8 : Below w3.heap.size w3 (w3.alloc (.cells #[.int .i64 c.kind, .slice B1 c.flow.length d1, .slice B2 c.pot.length d2, .slice B3 c.side.length d3, .slice B4 c.cycle.length d4] 32)) := (Below.refl _ w3).alloc (Nat.le_refl _) _
  have kb4 := kb3.below hb8 kb3.lt
  have kd4 := Blk.new w3 32 #[.int .i64 c.kind, .slice B1 c.flow.length d1, .slice B2 c.pot.length d2, .slice B3 c.side.length d3, .slice B4 c.cycle.length d4]
  obtain ⟨⟨q0, q1, q2, q3, q4⟩, -⟩ := kb4.five
  obtain ⟨⟨r0, r1, r2, r3, r4⟩, -⟩ := kd4.five
  have hC4 := hC3.below hb8
  have hD4 := hD.below hb8
  have hb9 := hb7.trans (hb8.mono hb7.size)
  have l3 := kb3.lt
  have HC4 := Lib.hid (And.intro hC4 hD4)
  clear kb3 kb4 kd4 hC3 hC4 hD4 hD HK
  go_wp2_with fail
  refine (Same_eq c _ _ _ _ _ _ _ _ _ HC4.out.1 HC4.out.2 HS.out (Nat.le_trans (HN.out .flow) (by omega)) (Nat.le_trans (HN.out .pot) (by omega)) (Nat.le_trans (HN.out .side) (by omega)) (Nat.le_trans (HN.out .cycle) (by omega))).mono ?_
  rintro e w5 ⟨rfl, hb10⟩
  have hz : IntKind.i64.wrap e1 = e1 := IntWalk.i64_in _ (by omega)
  go_wp2
  go_ret
  exact ⟨rfl, hb9.trans (hb10.mono hb9.size)⟩

theorem head_cells : ∀ J : Fin 4, ∃ Y : ByteArray, (#[Value.string ⟨#[98, 101, 115, 116, 10]⟩, Value.string ⟨#[99, 117, 116, 10, 115, 105, 100, 101, 32, 49, 32]⟩, Value.string ⟨#[114, 97, 121, 10, 102, 108, 111, 119, 32, 49, 10]⟩, Value.string ⟨#[98, 101, 115, 116, 10, 102, 108, 111, 119, 32, 49, 10, 112, 111, 116, 32]⟩] : Array Value)[J.val]? = some (.string Y) ∧ Y.size ≤ 20 := by
  intro J
  match J with
  | 0 => exact ⟨_, rfl, by decide⟩
  | 1 => exact ⟨_, rfl, by decide⟩
  | 2 => exact ⟨_, rfl, by decide⟩
  | 3 => exact ⟨_, rfl, by decide⟩

set_option maxRecDepth 100000 in
set_option maxHeartbeats 3200000 in
theorem PaperParses_in (s : ByteArray) (A : Option Addr) (na ca : Nat) (xa : List Int) (kd : Int) (w : World) (hE : Env w)
    (ha : Reads w w.heap.size 1 A na (xa.map U)) (hya : Byt xa) (hna : na ≤ 9223372036854775807) (hk : 0 ≤ kd ∧ kd ≤ 255) (hsz : s.size ≤ 140737488355328) :
    Calls Tryz.prog 3 #[.string s, .slice A na ca, .int .u8 kd] w fun e w' => e = .returned (.bool true) ∧ Below w.heap.size w w' := by
  obtain ⟨hk0, hk1⟩ := hk
  have HA := Lib.hid (And.intro ha hya)
  clear ha hya
  go_enter Tryz.func3, Tryz.ntmps3
  by_cases hs : s.size ≤ 200
  · have hs' : ¬ 200 < s.size := by omega
    go_wp2_with fail
    refine (pknown_in w hE).mono ?_
    rintro e w1 ⟨rfl, hb1⟩
    have hb2 : Below w1.heap.size w1 (w1.alloc (.cells #[.string ⟨#[98, 101, 115, 116, 10]⟩, .string ⟨#[99, 117, 116, 10, 115, 105, 100, 101, 32, 49, 32]⟩, .string ⟨#[114, 97, 121, 10, 102, 108, 111, 119, 32, 49, 10]⟩, .string ⟨#[98, 101, 115, 116, 10, 102, 108, 111, 119, 32, 49, 10, 112, 111, 116, 32]⟩] 9)) := (Below.refl _ w1).alloc (Nat.le_refl _) _
    have kb := Blk.new w1 9 #[.string ⟨#[98, 101, 115, 116, 10]⟩, .string ⟨#[99, 117, 116, 10, 115, 105, 100, 101, 32, 49, 32]⟩, .string ⟨#[114, 97, 121, 10, 102, 108, 111, 119, 32, 49, 10]⟩, .string ⟨#[98, 101, 115, 116, 10, 102, 108, 111, 119, 32, 49, 10, 112, 111, 116, 32]⟩]
    obtain ⟨J, hJ⟩ : ∃ J : Fin 4, kd % 4 = (J.val : Int) := ⟨⟨(kd % 4).toNat, by omega⟩, by show kd % 4 = ((kd % 4).toNat : Int); omega⟩
    obtain ⟨Y, hY, hYs⟩ := head_cells J
    have hc : (w1.alloc (.cells #[.string ⟨#[98, 101, 115, 116, 10]⟩, .string ⟨#[99, 117, 116, 10, 115, 105, 100, 101, 32, 49, 32]⟩, .string ⟨#[114, 97, 121, 10, 102, 108, 111, 119, 32, 49, 10]⟩, .string ⟨#[98, 101, 115, 116, 10, 102, 108, 111, 119, 32, 49, 10, 112, 111, 116, 32]⟩] 9)).cell? ⟨w1.heap.size, J.val, none⟩ = some (.string Y) := (kb.cell J.val).trans hY
    have hb3 := hb1.trans (hb2.mono hb1.size)
    have hJ4 : J.val < 4 := J.isLt
    generalize J.val = jj at hJ hc hJ4
    have hJ5 : (jj : Int) < 4 := by omega
    have hz1 : ¬ 9223372036854775807 < Y.size + s.size := by omega
    clear hY kb
    go_upto_region 4 with fail
    generalize w1.alloc (.cells #[.string ⟨#[98, 101, 115, 116, 10]⟩, .string ⟨#[99, 117, 116, 10, 115, 105, 100, 101, 32, 49, 32]⟩, .string ⟨#[114, 97, 121, 10, 102, 108, 111, 119, 32, 49, 10]⟩, .string ⟨#[98, 101, 115, 116, 10, 102, 108, 111, 119, 32, 49, 10, 112, 111, 116, 32]⟩] 9) = W at *
    clear hc hb2
    go_wp2_with fail
    refine (parses_in s (by omega) _ (hE.on hb3)).mono ?_
    rintro e w4 ⟨rfl, hb4⟩
    have hb4' := hb3.trans (hb4.mono hb3.size)
    go_wp2_with fail
    refine (Source_in A na ca xa _ ((HA.out.1.below hb4').more hb4'.size) HA.out.2 hna).mono ?_
    rintro e w5 ⟨S, rfl, hS, hb5⟩
    have hb5' := hb4'.trans (hb5.mono hb4'.size)
    go_wp2_with fail
    refine (parses_in S (by omega) _ (hE.on hb5')).mono ?_
    rintro e w6 ⟨rfl, hb6⟩
    have hb6' := hb5'.trans (hb6.mono hb5'.size)
    go_wp2_with fail
    refine (parses_in (Y ++ s) (by rw [ByteArray.size_append]; omega) _ (hE.on hb6')).mono ?_
    rintro e w7 ⟨rfl, hb7⟩
    have hb7' := hb6'.trans (hb7.mono hb6'.size)
    go_wp2_with fail
    refine (Source_in A na ca xa _ ((HA.out.1.below hb7').more hb7'.size) HA.out.2 hna).mono ?_
    rintro e w8 ⟨S2, rfl, hS2, hb8⟩
    have hb8' := hb7'.trans (hb8.mono hb7'.size)
    have hz2 : ¬ 9223372036854775807 < Y.size + S2.size := by omega
    go_wp2_with fail
    refine (parses_in (Y ++ S2) (by rw [ByteArray.size_append]; omega) _ (hE.on hb8')).mono ?_
    rintro e w9 ⟨rfl, hb9⟩
    have hb9' := hb8'.trans (hb9.mono hb8'.size)
    go_wp2_with fail
    refine (Near_in A na ca xa _ ((HA.out.1.below hb9').more hb9'.size) HA.out.2 hna).mono ?_
    rintro e w10 ⟨S3, rfl, hS3, hb10⟩
    have hb10' := hb9'.trans (hb10.mono hb9'.size)
    have hz3 : ¬ 9223372036854775807 < Y.size + S3.size := by omega
    go_wp2_with fail
    refine (parses_in (Y ++ S3) (by rw [ByteArray.size_append]; omega) _ (hE.on hb10')).mono ?_
    rintro e w11 ⟨rfl, hb11⟩
    have hb11' := hb10'.trans (hb11.mono hb10'.size)
    go_wp2_with fail
    go_ret
    exact ⟨rfl, hb11'⟩
  · have hs' : 200 < s.size := by omega
    go_wp2_with fail
    refine (pknown_in w hE).mono ?_
    rintro e w3 ⟨rfl, hb3⟩
    go_wp2_with fail
    go_ret
    exact ⟨rfl, hb3⟩
end
section
open Go.ChangeShapes Go.WideShapes Go.ChangeAt Go.RowKit
open Go.ChangeMaps (open_string shut_string)

set_option maxRecDepth 100000 in
theorem paperParses_lifted (os : Os) (started : os.Started) (H : Type) (enc : TypeId × Value → H) (F : Stop.Interp) :
    ReturnsInHanded {} Tryz.checked os 3 .any ((OpenSpec.ofChange Rows.paperParsesSpec).preRow enc Tryz.prog Tryz.f3 Rows.paperParsesRow.domain false Rows.paperParsesRow.laid) (((OpenSpec.ofChange Rows.paperParsesSpec).at F).post enc Tryz.prog Tryz.f3 false true false false) := by
  have hx : DataW.whole enc Tryz.prog ((World.laidAll Tryz.prog os laid7).forCall (fun _ _ => 0) ⟨#[], #[.string ⟨#[]⟩, .slice none 0 0, .int .u8 0], []⟩).memory Tryz.f3.params.toList Rows.paperParsesSpec.vars false (#[.string ⟨#[]⟩, .slice none 0 0, .int .u8 0] : Array Value).toList 8 = some ([.lit (.string []), .nil, .lit (.int .u8 0)], [], []) := by kernel_rfl
  refine returnsInHanded_of_row (C := Tryz.checked) (s := (OpenSpec.ofChange Rows.paperParsesSpec)) own started (by kernel_rfl) Tryz.func3
    (witness7 (enc := enc) os #[.string ⟨#[]⟩, .slice none 0 0, .int .u8 0] (by kernel_rfl) (OpenSpec.preRow_of_cond 8 hx (by kernel_rfl) (fun k hk => by cases hk) (by kernel_rfl) (met7 os _))) ?_
  intro W base args ds gs before hval0 hW _ hcond hsz0 hL hSh _
  have hsz : (DataW.weightsEach Tryz.prog (Tryz.f3.params.toList ++ Rows.paperParsesSpec.plain.varTypes Tryz.prog) (ds ++ gs)).all (· ≤ reachBytes) = true := hsz0
  clear hsz0
  have hval : ∀ (j : Nat) t v, Tryz.f3.params[j]? = some t → args[j]? = some v → Value.okWide Tryz.prog W .any base t v := hval0
  have hW' := hW
  have hlt : ∀ p ∈ before, p.block < W.heap.size := fun p hp => hW'.lt p hp
  obtain ⟨p, q, hA0, hV, rfl, _, _⟩ := hW
  have hA : DataW.TrodAll enc Tryz.prog W 0 (fun _ => true) true Tryz.f3.params.toList args.toList ds p := hA0
  rw [Tryz.params3] at hA hval hsz
  have hA1 := hA
  obtain ⟨v0, v1, v2, d0, d1, d2, p0, p1, p2, rfl, rfl, rfl, h0, h1, h2⟩ := trodAll_three hA
  obtain ⟨rfl, rfl⟩ := trodVars_none hV
  obtain ⟨s0, rfl, rfl, rfl, w0⟩ := open_string Tryz.underlying9 (hval 0 9 v0 rfl rfl) h0
  have l0 : s0.size ≤ 140737488355328 := by
    have h1 := sized_string hsz (j := 0) (t := 9) rfl rfl
    have h2 := reachBytes_lt
    have e1 : s0.size = s0.data.size := rfl
    have e2 : s0.data.toList.length = s0.data.size := Array.length_toList
    have e3 : (2 : Nat) ^ 47 = 140737488355328 := by decide
    omega
  obtain ⟨A1, m1, k1, y1, rfl, r1, b1, l1⟩ := open_nums Tryz.underlying22 Tryz.underlying5 cells5 (hval 1 22 v1 rfl rfl) h1
  obtain ⟨x2, rfl, rfl, rfl, w2⟩ := open_int Tryz.underlying5 (hval 2 5 v2 rfl rfl) h2
  clear hA0 hval0
  simp only [List.append_nil] at hW' hlt
  have hE : Env W := env_of hL hSh
  refine (PaperParses_in s0 A1 m1 k1 y1 x2 W hE r1 (fun x hx => wf_u8 (b1 x hx)) l1 (wf_u8 w2) l0).mono fun e W' ⟨he, hb⟩ => ?_
  subst he
  exact ⟨_, rfl, post_of_below (pa := _) (pv := []) hW' (fun _ _ _ => trodAll_mk1 (shut_bool Tryz.underlying4 true)) (fun sp hsp => trodAll_stay laidOut hb (by decide +kernel) hA1 (fun p hp => hlt p (by simpa using hp)) (fun p hp => hsp p (by simpa using hp))) (fun _ _ => rfl) (by simp) hb (ok_one (by kernel_rfl) rfl (okWide_bool_mk Tryz.underlying4 true))⟩

theorem paperParses_said : Rows.PaperParsesSaid :=
  OpenClaim.holds_of_cond 3 Tryz.f3 rfl rfl rfl rfl rfl rfl rfl ⟨rfl, rfl, rfl, rfl, rfl⟩ rfl rfl rfl rfl rfl (by kernel_rfl) Tryz.func3 (by kernel_rfl)
    (of_decide_eq_true (by kernel_rfl)) (by unfold Func.isWrapper; first | (rw [if_pos (by decide +kernel)]; kernel_rfl) | (rw [if_neg (by decide +kernel)]; exact ⟨rfl, rfl⟩))
    (fun os started H enc _ F => by rw [OpenClaim.pre_eq_preRow]; exact paperParses_lifted os started H enc F)

theorem paperParses_plain (f : FuncId) (fn : Func) (hf : Tryz.pinned.checked.prog.funcNamed "quittance/quittancelaw14.PaperParses" = some f) (hfn : Tryz.pinned.checked.prog.funcs[f]? = some fn) :
    true = Tryz.pinned.checked.prog.looks [] ∧ ∀ (j : Nat) t, fn.params[j]? = some t → Tryz.pinned.checked.prog.wantsStandIn t = false := by
  obtain rfl : f = 3 := Option.some.inj ((show Tryz.prog.funcNamed "quittance/quittancelaw14.PaperParses" = some 3 by kernel_rfl).symm.trans hf) |>.symm
  obtain rfl : fn = Tryz.f3 := (Option.some.inj (Tryz.func3.symm.trans hfn)).symm
  refine ⟨by kernel_rfl, fun j t ht => ?_⟩
  rw [Tryz.params3] at ht
  have hm : t ∈ [9, 22, 5] := by simpa using Array.mem_of_getElem? ht
  have hall : ([9, 22, 5].all fun u => !Tryz.prog.wantsStandIn u) = true := by kernel_rfl
  exact (show Tryz.prog.wantsStandIn t = false by simpa using List.all_eq_true.1 hall t hm)

theorem paperParses_card : Rows.PaperParsesCardSaid :=
  Claim7.holds_tied_plain_at .later [] _ _ _ _ paperParses_said (fun _ h => by cases h) (by kernel_rfl) (fun _ h => by cases h) paperParses_row_tie rfl ⟨rfl, rfl⟩ (by kernel_rfl) rfl paperParses_plain (by kernel_rfl)
end
end Go.Proofs.YtpfbgoogajgciaaGreatDoor
