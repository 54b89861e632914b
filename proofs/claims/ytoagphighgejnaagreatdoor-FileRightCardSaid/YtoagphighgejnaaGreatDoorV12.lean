/- The document's Same of two problems that are the same (29, 19, 11). Conditions: none. -/
import Derived.Test.YtoagphighgejnaaGreatDoorV11
set_option linter.unusedSimpArgs false
set_option linter.unusedVariables false
namespace Go.Proofs.YtoagphighgejnaaGreatDoor
open Go.RowKit Go.Shelf

set_option maxHeartbeats 1600000 in
set_option maxRecDepth 100000 in
theorem Nums_eq (A1 A2 : Option Addr) (n c1 c2 : Nat) (xs : List Int) (w : World) (h1 : Reads w w.heap.size 1 A1 n (xs.map I)) (h2 : Reads w w.heap.size 1 A2 n (xs.map I)) (hn : n ≤ 1000000) :
    Calls Tryz.prog 61 #[.slice A1 n c1, .slice A2 n c2] w fun e w' => e = .returned (.bool true) ∧ ∃ q, w' = w.drewN q := by
  have hl : xs.length = n := by have := h1.1; simpa using this
  have H := Lib.hid (And.intro h1 h2)
  clear h1 h2
  go_enter Tryz.func61, Tryz.ntmps61
  go_wp2_with fail
  go_loopw [5] (fun i wr => ∃ k : Nat, k ≤ n ∧ i = .int .i64 k ∧ ∃ q, wr = w.drewN q) (fun i _ => n - (intOf i).toNat)
  case atStart => exact ⟨0, Nat.zero_le _, rfl, 0, rfl⟩
  case round =>
    obtain ⟨k, hk, rfl, qd, rfl⟩ := hrel
    by_cases hlt : k < n
    · obtain ⟨b, off, u, rfl, hb, hx, hc⟩ := H.out.1.at_ hlt
      obtain ⟨b', off', u', rfl, hb', hx', hc'⟩ := H.out.2.at_ hlt
      rw [hx] at hx'
      cases hx'
      simp only [List.getElem?_map, Option.map_eq_some_iff] at hx
      obtain ⟨x, -, rfl⟩ := hx
      unfold I at hc hc'
      have hk1 : IntKind.i64.wrap ((k : Int) + 1) = (k : Int) + 1 := IntWalk.i64_in _ (by omega)
      have hxx : (x != x) = false := by simp
      have hc_ : (w.drewN qd).cell? ⟨b, off + k, none⟩ = some (.int .i64 x) := hc
      have hc2_ : (w.drewN qd).cell? ⟨b', off' + k, none⟩ = some (.int .i64 x) := hc'
      clear hl
      go_wp2_with fail
      go_quiet (fail)
      go_wp2_with fail
      go_roundw
      case rel => exact ⟨k + 1, by omega, by go_num, _, rfl⟩
      case measure => simp [intOf]; omega
    · obtain rfl : k = n := by omega
      clear hl
      go_wp2_with fail
      go_ret
      exact ⟨rfl, _, rfl⟩
theorem cell_drN {w W : World} {a : Addr} {v : Value} {q : Nat} (hW : w.drewN q = W) (h : w.cell? a = some v) : W.cell? a = some v := by subst hW; exact h
theorem below_drN (w : World) (q : Nat) : Below w.heap.size w (w.drewN q) := ⟨rfl, rfl, rfl, Nat.le_refl _, fun _ _ => rfl⟩
set_option maxHeartbeats 3200000 in
set_option maxRecDepth 100000 in
theorem Same3_eq (S1 S2 A1 A2 : Option Addr) (n m c1 c2 d1 d2 : Nat) (sup : List Int) (arcs : List ArcV) (w : World) (h1 : Reads w w.heap.size 1 S1 n (sup.map I)) (h2 : Reads w w.heap.size 1 S2 n (sup.map I)) (k1 : Reads w w.heap.size 5 A1 m (arcCells arcs)) (k2 : Reads w w.heap.size 5 A2 m (arcCells arcs)) (hn : n ≤ 1000000) (hm : m ≤ 1000000) :
    Calls Tryz.prog 44 #[.agg #[.slice S1 n c1, .slice A1 m d1], .agg #[.slice S2 n c2, .slice A2 m d2]] w fun e w' => e = .returned (.bool true) ∧ Below w.heap.size w w' := by
  have hb0 : Below w.heap.size w ((w.alloc (.cells #[.slice S1 n c1, .slice A1 m d1] 29)).alloc (.cells #[.slice S2 n c2, .slice A2 m d2] 29)) := ((Below.refl _ w).alloc (Nat.le_refl _) _).alloc (by simp) _
  have kA := (Blk.new w 29 #[.slice S1 n c1, .slice A1 m d1]).alloc (.cells #[.slice S2 n c2, .slice A2 m d2] 29)
  have kB := Blk.new (w.alloc (.cells #[.slice S1 n c1, .slice A1 m d1] 29)) 29 #[.slice S2 n c2, .slice A2 m d2]
  rw [World.size_alloc] at kB
  have HN := Lib.hid (Nums_eq S1 S2 n c1 c2 sup _ ((h1.below hb0).more hb0.size) ((h2.below hb0).more hb0.size) hn)
  have hl : arcs.length = m := by have := k1.1; rw [arcCells_length] at this; omega
  have HK := Lib.hid (And.intro (k1.below hb0) (And.intro (k2.below hb0) hl))
  have HB := Lib.hid (And.intro kA (And.intro kB hb0))
  have hmm : ((m : Int) != (m : Int)) = false := by simp
  clear h1 h2 k1 k2 hb0 kA kB hl
  go_enter Tryz.func44, Tryz.ntmps44
  have p0 := HB.out.1.cell 0
  have p1 := HB.out.1.cell 1
  have q0 := HB.out.2.1.cell 0
  have q1 := HB.out.2.1.cell 1
  simp only [List.getElem?_toArray, List.getElem?_cons_zero, List.getElem?_cons_succ] at p0 p1 q0 q1
  go_wp2_with fail
  generalize (w.alloc (.cells #[.slice S1 n c1, .slice A1 m d1] 29)).alloc (.cells #[.slice S2 n c2, .slice A2 m d2] 29) = W0 at *
  refine HN.out.mono ?_
  rintro e w1 ⟨rfl, qa, rfl⟩
  clear HN
  go_wp2_with fail
  go_loopw [5] (fun i wr => ∃ k : Nat, k ≤ m ∧ i = .int .i64 k ∧ ∃ q, wr = W0.drewN q) (fun i _ => m - (intOf i).toNat)
  case atStart => exact ⟨0, Nat.zero_le _, rfl, _, rfl⟩
  case round =>
    obtain ⟨k, hk, rfl, qd, rfl⟩ := hrel
    by_cases hlt : k < m
    · obtain ⟨a, ha⟩ : ∃ a, arcs[k]? = some a := ⟨_, List.getElem?_eq_getElem (by have := HK.out.2.2; omega)⟩
      obtain ⟨b, off, rfl, hb, x0, x1, x2, x3, x4⟩ := HK.out.1.arc ha
      obtain ⟨b', off', rfl, hb', y0, y1, y2, y3, y4⟩ := HK.out.2.1.arc ha
      have hk1 : IntKind.i64.wrap ((k : Int) + 1) = (k : Int) + 1 := IntWalk.i64_in _ (by omega)
      clear ha
      generalize hW : W0.drewN qd = W1
      have HW := Lib.hid hW
      have P0 := cell_drN hW p0
      have P1 := cell_drN hW p1
      have Q0 := cell_drN hW q0
      have Q1 := cell_drN hW q1
      have X0 := cell_drN hW x0
      have X1 := cell_drN hW x1
      have X2 := cell_drN hW x2
      have X3 := cell_drN hW x3
      have X4 := cell_drN hW x4
      have Y0 := cell_drN hW y0
      have Y1 := cell_drN hW y1
      have Y2 := cell_drN hW y2
      have Y3 := cell_drN hW y3
      have Y4 := cell_drN hW y4
      clear hW x0 x1 x2 x3 x4 y0 y1 y2 y3 y4
      go_wp2_with fail
      go_quiet (fail)
      go_wp2_with fail
      go_roundw
      case rel => exact ⟨k + 1, by omega, by go_num, qd + nq, by rw [← HW.out]; exact World.drewN_drewN _ _ _⟩
      case measure => simp [intOf]; omega
    · obtain rfl : k = m := by omega
      go_wp2_with fail
      go_ret
      exact ⟨rfl, HB.out.2.2.trans ((below_drN W0 qd).mono HB.out.2.2.size)⟩
/-- problems that are short -/
structure Short (p : ProbV) : Prop where
  n : p.sup.length ≤ 64
  m : p.arcs.length ≤ 256
set_option maxHeartbeats 3200000 in
set_option maxRecDepth 100000 in
theorem Same_eq (p : ProbV) (u v : Value) (w : World) (hu : ProbIs w p u) (hv : ProbIs w p v) (hp : Short p) :
    Calls Tryz.prog 21 #[u, v] w fun e w' => e = .returned (.bool true) ∧ Below w.heap.size w w' := by
  obtain ⟨S1, n1, c1, A1, m1, d1, rfl, hn1, hm1, -, -, r1, k1⟩ := hu
  obtain ⟨S2, n2, c2, A2, m2, d2, rfl, hn2, hm2, -, -, r2, k2⟩ := hv
  have e1 : n2 = n1 := by rw [hn1, hn2]
  have e2 : m2 = m1 := by rw [hm1, hm2]
  subst e1 e2
  have hn : n2 ≤ 1000000 := by have := hp.n; omega
  have hm : m2 ≤ 1000000 := by have := hp.m; omega
  clear hn1 hn2 hm1 hm2 hp
  have HS := Lib.hid (fun (W : World) (hb : Below w.heap.size w W) => Same3_eq S1 S2 A1 A2 n2 m2 c1 c2 d1 d2 p.sup p.arcs W ((r1.below hb).more hb.size) ((r2.below hb).more hb.size) ((k1.below hb).more hb.size) ((k2.below hb).more hb.size) hn hm)
  obtain ⟨mx, hmx⟩ : ∃ x, x = p.max := ⟨_, rfl⟩
  obtain ⟨s, hs⟩ : ∃ x, x = p.s := ⟨_, rfl⟩
  obtain ⟨t, ht⟩ : ∃ x, x = p.t := ⟨_, rfl⟩
  rw [← hmx, ← hs, ← ht]
  have hss : (s == s) = true := by simp
  have htt : (t == t) = true := by simp
  have hmm : (mx == mx) = true := by simp
  clear hmx hs ht r1 r2 k1 k2
  unfold probV
  have kA := (Blk.new w 31 #[.bool mx, .slice S1 n2 c1, .slice A1 m2 d1, .int .i64 s, .int .i64 t]).alloc (.cells #[.bool mx, .slice S2 n2 c2, .slice A2 m2 d2, .int .i64 s, .int .i64 t] 31)
  have kB := Blk.new (w.alloc (.cells #[.bool mx, .slice S1 n2 c1, .slice A1 m2 d1, .int .i64 s, .int .i64 t] 31)) 31 #[.bool mx, .slice S2 n2 c2, .slice A2 m2 d2, .int .i64 s, .int .i64 t]
  rw [World.size_alloc] at kB
  have hb0 : Below w.heap.size w ((w.alloc (.cells #[.bool mx, .slice S1 n2 c1, .slice A1 m2 d1, .int .i64 s, .int .i64 t] 31)).alloc (.cells #[.bool mx, .slice S2 n2 c2, .slice A2 m2 d2, .int .i64 s, .int .i64 t] 31)) := ((Below.refl _ w).alloc (Nat.le_refl _) _).alloc (by simp) _
  have HB := Lib.hid hb0
  obtain ⟨⟨q0, q1, q2, q3, q4⟩, -⟩ := kA.five
  obtain ⟨⟨p0, p1, p2, p3, p4⟩, -⟩ := kB.five
  clear kA kB hb0
  go_enter Tryz.func21, Tryz.ntmps21
  go_wp2_with fail
  generalize (w.alloc (.cells #[.bool mx, .slice S1 n2 c1, .slice A1 m2 d1, .int .i64 s, .int .i64 t] 31)).alloc (.cells #[.bool mx, .slice S2 n2 c2, .slice A2 m2 d2, .int .i64 s, .int .i64 t] 31) = W0 at *
  refine (HS.out _ HB.out).mono ?_
  rintro e w1 ⟨rfl, hb1⟩
  have HB1 := Lib.hid (HB.out.trans (hb1.mono HB.out.size))
  clear hb1
  go_wp2_with fail
  go_ret
  exact ⟨rfl, HB1.out⟩
end Go.Proofs.YtoagphighgejnaaGreatDoor
