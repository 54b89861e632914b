/- empty (43), Plain (26). Conditions: none. -/
import Derived.Test.YtpfbgoogajgciaaDoorQ5
set_option linter.unusedSimpArgs false
set_option linter.unusedVariables false
namespace Go.Proofs.YtpfbgoogajgciaaDoor
open Go.RowKit Go.Shelf

set_option maxHeartbeats 1600000 in
theorem empty_in (A : Option Addr) (n c B : Nat) (xs : List Int) (w : World) (hr : Reads w B 1 A n (xs.map I)) (hn : n ≤ 1000000) :
    Calls Tryd.prog 15 #[.slice A n c] w fun e w' => e = .returned (.int .i64 (xs.count 0 : Nat)) ∧ ∃ q, w' = w.drewN q := by
  have hlen : xs.length = n := by have := hr.1; simpa using this
  go_enter Tryd.func15, Tryd.ntmps15
  go_wp2_with fail
  go_loopw [3, 8] (fun m i wr => ∃ k : Nat, k ≤ n ∧ i = .int .i64 k ∧ m = .int .i64 ((xs.take k).count 0 : Nat) ∧ ∃ q, wr = w.drewN q) (fun _ i _ => n - (Lib.intOf i).toNat)
  case atStart => exact ⟨0, Nat.zero_le _, rfl, rfl, 0, rfl⟩
  case round =>
    obtain ⟨k, hk, rfl, rfl, q, rfl⟩ := hrel
    have hcnt : (xs.take k).count 0 ≤ 1000000 := by
      have h1 := List.count_le_length (a := (0 : Int)) (l := xs.take k)
      rw [List.length_take] at h1; omega
    by_cases hlt : k < n
    · obtain ⟨b, off, u, rfl, -, hx, hcell⟩ := hr.at_ hlt
      simp only [List.getElem?_map, Option.map_eq_some_iff] at hx
      obtain ⟨x, hx, rfl⟩ := hx
      unfold I at hcell
      have hstep : (xs.take (k + 1)).count 0 = (xs.take k).count 0 + (if x = 0 then 1 else 0) := by
        rw [List.take_add_one, hx]; simp [List.count_append, List.count_singleton]
      have HST := Lib.hid hstep
      clear hstep hx
      generalize (xs.take k).count 0 = z at *
      by_cases hb : x = 0
      · rw [if_pos hb] at HST
        subst hb
        go_wp2
        refine ⟨⟨k + 1, by omega, rfl, ?_, q, rfl⟩, by simp [Lib.intOf]; omega⟩
        rw [HST.out]; simp
      · rw [if_neg hb] at HST
        have hb' : (x == 0) = false := by simpa using hb
        go_wp2
        refine ⟨⟨k + 1, by omega, rfl, ?_, q, rfl⟩, by simp [Lib.intOf]; omega⟩
        rw [HST.out]; simp
    · have hall : xs.take k = xs := List.take_of_length_le (by omega)
      rw [hall]
      obtain ⟨z, hz⟩ : ∃ z, xs.count 0 = z := ⟨_, rfl⟩
      rw [hz]
      have HZ := Lib.hid hz
      clear hz hall hcnt
      go_wp2
      go_ret
      exact ⟨by rw [HZ.out]; rfl, q, rfl⟩

theorem reads_new (w : World) (t : TypeId) (l : List Value) : Reads (w.alloc (.cells l.toArray t)) (w.heap.size + 1) 1 (some ⟨w.heap.size, 0, none⟩) l.length l :=
  ⟨by omega, fun _ => ⟨w.heap.size, 0, rfl, by omega, fun j u hu => by rw [(Blk.new w t l.toArray).cell, Nat.zero_add, List.getElem?_toArray]; exact hu⟩⟩

def plainN (k : Int) (n1 n2 n3 n4 : Nat) : Bool :=
  if k = 1 then decide (n3 = 0) && decide (n4 = 0)
  else if k = 2 then decide (n1 = 0) && (decide (n2 = 0) && decide (n4 = 0))
  else if k = 3 then decide (n2 = 0) && decide (n3 = 0)
  else false
theorem cnt2 (a b : Nat) : ((([(a : Int), (b : Int)].count 0 : Nat) : Int) == 2) = (decide (a = 0) && decide (b = 0)) := by
  by_cases ha : a = 0 <;> by_cases hb : b = 0 <;> simp [ha, hb, List.count_cons]
theorem cnt3 (a b c : Nat) : ((([(a : Int), (b : Int), (c : Int)].count 0 : Nat) : Int) == 3) = (decide (a = 0) && (decide (b = 0) && decide (c = 0))) := by
  by_cases ha : a = 0 <;> by_cases hb : b = 0 <;> by_cases hc : c = 0 <;> simp [ha, hb, hc, List.count_cons]

set_option maxHeartbeats 1600000 in
set_option maxRecDepth 100000 in
theorem Plain_in (k : Int) (A1 A2 A3 A4 : Option Addr) (n1 n2 n3 n4 c1 c2 c3 c4 : Nat) (w : World) (h1 : n1 ≤ 1000000000) (h2 : n2 ≤ 1000000000) (h3 : n3 ≤ 1000000000) (h4 : n4 ≤ 1000000000) :
    Calls Tryd.prog 8 #[.agg #[.int .i64 k, .slice A1 n1 c1, .slice A2 n2 c2, .slice A3 n3 c3, .slice A4 n4 c4]] w fun e w' => e = .returned (.bool (plainN k n1 n2 n3 n4)) ∧ Below w.heap.size w w' := by
  have kb := (Blk.new w 31 #[.int .i64 k, .slice A1 n1 c1, .slice A2 n2 c2, .slice A3 n3 c3, .slice A4 n4 c4]).five
  obtain ⟨⟨q0, q1, q2, q3, q4⟩, -⟩ := kb
  have hb0 : Below w.heap.size w (w.alloc (.cells #[.int .i64 k, .slice A1 n1 c1, .slice A2 n2 c2, .slice A3 n3 c3, .slice A4 n4 c4] 31)) := (Below.refl _ w).alloc (Nat.le_refl _) _
  by_cases hk1 : k = 1
  · subst hk1
    have hR := reads_new (w.alloc (.cells #[.int .i64 1, .slice A1 n1 c1, .slice A2 n2 c2, .slice A3 n3 c3, .slice A4 n4 c4] 31)) 3 [.int .i64 n3, .int .i64 n4]
    rw [show ([.int .i64 n3, .int .i64 n4] : List Value) = ([(n3 : Int), (n4 : Int)] : List Int).map I from rfl] at hR
    rw [World.size_alloc] at hR
    have hC := empty_in (some ⟨w.heap.size + 1, 0, none⟩) 2 2 _ [(n3 : Int), (n4 : Int)] _ hR (by omega)
    clear hR
    have hb1 := hb0.alloc (Below.size hb0) (.cells #[.int .i64 n3, .int .i64 n4] 3)
    have hcn := cnt2 n3 n4
    generalize ([(n3 : Int), (n4 : Int)] : List Int).count 0 = z at hC hcn
    have HC := Lib.hid hC
    have HCN := Lib.hid hcn
    clear hC hcn
    go_enter Tryd.func8, Tryd.ntmps8
    go_wp2_with fail
    refine HC.out.mono ?_
    rintro e w1 ⟨rfl, q, rfl⟩
    go_wp2_with fail
    go_ret
    exact ⟨(show Ending.returned (.bool ((z : Int) == 2)) = _ from ret_bool (by rw [HCN.out]; rfl)), hb1.trans ((below_drewN _ q).mono hb1.size)⟩
  by_cases hk2 : k = 2
  · subst hk2
    have hR := reads_new (w.alloc (.cells #[.int .i64 2, .slice A1 n1 c1, .slice A2 n2 c2, .slice A3 n3 c3, .slice A4 n4 c4] 31)) 3 [.int .i64 n1, .int .i64 n2, .int .i64 n4]
    rw [show ([.int .i64 n1, .int .i64 n2, .int .i64 n4] : List Value) = ([(n1 : Int), (n2 : Int), (n4 : Int)] : List Int).map I from rfl] at hR
    rw [World.size_alloc] at hR
    have hC := empty_in (some ⟨w.heap.size + 1, 0, none⟩) 3 3 _ [(n1 : Int), (n2 : Int), (n4 : Int)] _ hR (by omega)
    clear hR
    have hb1 := hb0.alloc (Below.size hb0) (.cells #[.int .i64 n1, .int .i64 n2, .int .i64 n4] 3)
    have hcn := cnt3 n1 n2 n4
    generalize ([(n1 : Int), (n2 : Int), (n4 : Int)] : List Int).count 0 = z at hC hcn
    have HC := Lib.hid hC
    have HCN := Lib.hid hcn
    clear hC hcn
    go_enter Tryd.func8, Tryd.ntmps8
    go_wp2_with fail
    refine HC.out.mono ?_
    rintro e w1 ⟨rfl, q, rfl⟩
    go_wp2_with fail
    go_ret
    exact ⟨(show Ending.returned (.bool ((z : Int) == 3)) = _ from ret_bool (by rw [HCN.out]; rfl)), hb1.trans ((below_drewN _ q).mono hb1.size)⟩
  by_cases hk3 : k = 3
  · subst hk3
    have hR := reads_new (w.alloc (.cells #[.int .i64 3, .slice A1 n1 c1, .slice A2 n2 c2, .slice A3 n3 c3, .slice A4 n4 c4] 31)) 3 [.int .i64 n2, .int .i64 n3]
    rw [show ([.int .i64 n2, .int .i64 n3] : List Value) = ([(n2 : Int), (n3 : Int)] : List Int).map I from rfl] at hR
    rw [World.size_alloc] at hR
    have hC := empty_in (some ⟨w.heap.size + 1, 0, none⟩) 2 2 _ [(n2 : Int), (n3 : Int)] _ hR (by omega)
    clear hR
    have hb1 := hb0.alloc (Below.size hb0) (.cells #[.int .i64 n2, .int .i64 n3] 3)
    have hcn := cnt2 n2 n3
    generalize ([(n2 : Int), (n3 : Int)] : List Int).count 0 = z at hC hcn
    have HC := Lib.hid hC
    have HCN := Lib.hid hcn
    clear hC hcn
    go_enter Tryd.func8, Tryd.ntmps8
    go_wp2_with fail
    refine HC.out.mono ?_
    rintro e w1 ⟨rfl, q, rfl⟩
    go_wp2_with fail
    go_ret
    exact ⟨(show Ending.returned (.bool ((z : Int) == 2)) = _ from ret_bool (by rw [HCN.out]; rfl)), hb1.trans ((below_drewN _ q).mono hb1.size)⟩
  have e1 : (k == 1) = false := by simpa using hk1
  have e2 : (k == 2) = false := by simpa using hk2
  have e3 : (k == 3) = false := by simpa using hk3
  have HPN : Hid (plainN k n1 n2 n3 n4 = false) := Lib.hid (by unfold plainN; rw [if_neg hk1, if_neg hk2, if_neg hk3])
  clear hk1 hk2 hk3
  go_enter Tryd.func8, Tryd.ntmps8
  go_wp2_with fail
  go_ret
  exact ⟨by rw [HPN.out]; rfl, hb0⟩
end Go.Proofs.YtpfbgoogajgciaaDoor
