/- The document's answer: Same (18) of certificates that are the same, nums (40). Conditions: none. -/
import Derived.Test.YtpfbgoogajgciaaGreatDoorF6
set_option linter.unusedSimpArgs false
set_option linter.unusedVariables false
namespace Go.Proofs.YtpfbgoogajgciaaGreatDoor
open Go.RowKit Go.Shelf

set_option maxHeartbeats 3200000 in
set_option maxRecDepth 100000 in
theorem Same_eq (c : CertV) (v1 v2 v3 v4 u1 u2 u3 u4 : Value) (w : World) (hA : CertR w c v1 v2 v3 v4) (hB : CertR w c u1 u2 u3 u4) (hs : ∀ x ∈ c.side, x = 0 ∨ x = 1) (n1 : c.flow.length ≤ 1000000) (n2 : c.pot.length ≤ 1000000) (n3 : c.side.length ≤ 1000000) (n4 : c.cycle.length ≤ 1000000) :
    Calls Tryz.prog 18 #[.agg #[.int .i64 c.kind, v1, v2, v3, v4], .agg #[.int .i64 c.kind, u1, u2, u3, u4]] w fun e w' => e = .returned (.bool true) ∧ Below w.heap.size w w' := by
  obtain ⟨A1, c1, rfl, -, r1⟩ := hA.flow.open_
  obtain ⟨A2, c2, rfl, -, r2⟩ := hA.pot.open_
  obtain ⟨A3, c3, rfl, -, r3⟩ := hA.side.open_
  obtain ⟨A4, c4, rfl, -, r4⟩ := hA.cycle.open_
  obtain ⟨B1, d1, rfl, -, t1⟩ := hB.flow.open_
  obtain ⟨B2, d2, rfl, -, t2⟩ := hB.pot.open_
  obtain ⟨B3, d3, rfl, -, t3⟩ := hB.side.open_
  obtain ⟨B4, d4, rfl, -, t4⟩ := hB.cycle.open_
  have HC1 : Hid (∀ W, Below w.heap.size w W → Calls Tryz.prog 32 #[.slice A1 c.flow.length c1, .slice B1 c.flow.length d1] W fun e w' => e = .returned (.bool true) ∧ ∃ q, w' = W.drewN q) :=
    Lib.hid (fun W hb => by have := same32_in A1 B1 _ c1 _ d1 _ _ _ _ W (r1.below hb) (t1.below hb) (by omega) (fun _ _ => trivial) (fun _ _ => trivial); simpa using this)
  have HC2 : Hid (∀ W, Below w.heap.size w W → Calls Tryz.prog 32 #[.slice A2 c.pot.length c2, .slice B2 c.pot.length d2] W fun e w' => e = .returned (.bool true) ∧ ∃ q, w' = W.drewN q) :=
    Lib.hid (fun W hb => by have := same32_in A2 B2 _ c2 _ d2 _ _ _ _ W (r2.below hb) (t2.below hb) (by omega) (fun _ _ => trivial) (fun _ _ => trivial); simpa using this)
  have HC3 : Hid (∀ W, Below w.heap.size w W → Calls Tryz.prog 33 #[.slice A3 c.side.length c3, .slice B3 c.side.length d3] W fun e w' => e = .returned (.bool true) ∧ ∃ q, w' = W.drewN q) :=
    Lib.hid (fun W hb => by have := same33_in A3 B3 _ c3 _ d3 _ _ _ _ W (r3.below hb) (t3.below hb) (by omega) hs hs; simpa using this)
  have HC4 : Hid (∀ W, Below w.heap.size w W → Calls Tryz.prog 34 #[.slice A4 c.cycle.length c4, .slice B4 c.cycle.length d4] W fun e w' => e = .returned (.bool true) ∧ ∃ q, w' = W.drewN q) :=
    Lib.hid (fun W hb => by have := same34_in A4 B4 _ c4 _ d4 _ _ _ _ W (r4.below hb) (t4.below hb) (by omega) (fun _ _ => trivial) (fun _ _ => trivial); simpa using this)
  generalize c.kind = k
  have kA := (Blk.new w 32 #[.int .i64 k, .slice A1 c.flow.length c1, .slice A2 c.pot.length c2, .slice A3 c.side.length c3, .slice A4 c.cycle.length c4]).alloc (.cells #[.int .i64 k, .slice B1 c.flow.length d1, .slice B2 c.pot.length d2, .slice B3 c.side.length d3, .slice B4 c.cycle.length d4] 32)
  have kB := Blk.new (w.alloc (.cells #[.int .i64 k, .slice A1 c.flow.length c1, .slice A2 c.pot.length c2, .slice A3 c.side.length c3, .slice A4 c.cycle.length c4] 32)) 32 #[.int .i64 k, .slice B1 c.flow.length d1, .slice B2 c.pot.length d2, .slice B3 c.side.length d3, .slice B4 c.cycle.length d4]
  rw [World.size_alloc] at kB
  have hb0 : Below w.heap.size w ((w.alloc (.cells #[.int .i64 k, .slice A1 c.flow.length c1, .slice A2 c.pot.length c2, .slice A3 c.side.length c3, .slice A4 c.cycle.length c4] 32)).alloc (.cells #[.int .i64 k, .slice B1 c.flow.length d1, .slice B2 c.pot.length d2, .slice B3 c.side.length d3, .slice B4 c.cycle.length d4] 32)) := ((Below.refl _ w).alloc (Nat.le_refl _) _).alloc (by simp) _
  obtain ⟨⟨q0, q1, q2, q3, q4⟩, -⟩ := kA.five
  obtain ⟨⟨p0, p1, p2, p3, p4⟩, -⟩ := kB.five
  clear kA kB r1 r2 r3 r4 t1 t2 t3 t4 hA hB hs
  have hkk : (k == k) = true := by simp
  go_enter Tryz.func18, Tryz.ntmps18
  go_wp2_with fail
  generalize ((w.alloc (.cells #[.int .i64 k, .slice A1 c.flow.length c1, .slice A2 c.pot.length c2, .slice A3 c.side.length c3, .slice A4 c.cycle.length c4] 32)).alloc (.cells #[.int .i64 k, .slice B1 c.flow.length d1, .slice B2 c.pot.length d2, .slice B3 c.side.length d3, .slice B4 c.cycle.length d4] 32)) = W0 at q0 q1 q2 q3 q4 p0 p1 p2 p3 p4 hb0 ⊢
  refine (HC1.out W0 hb0).mono ?_
  rintro e wa ⟨rfl, qa, rfl⟩
  go_wp2_with fail
  refine (HC2.out _ (hb0.trans ((below_drewN W0 qa).mono hb0.size))).mono ?_
  rintro e wb ⟨rfl, qb, rfl⟩
  go_wp2_with fail
  refine (HC3.out _ (hb0.trans ((below_drewN W0 (qa + qb)).mono hb0.size))).mono ?_
  rintro e wc ⟨rfl, qc, rfl⟩
  go_wp2_with fail
  refine (HC4.out _ (hb0.trans ((below_drewN W0 (qa + qb + qc)).mono hb0.size))).mono ?_
  rintro e wd ⟨rfl, qd, rfl⟩
  go_wp2_with fail
  go_ret
  exact ⟨rfl, hb0.trans ((below_drewN W0 (qa + qb + qc + qd)).mono hb0.size)⟩

theorem join_snoc (name : List UInt8) (l : List (List UInt8)) (x : List UInt8) : Lib.join (name :: (l ++ [x])) [32] = Lib.join (name :: l) [32] ++ [32] ++ x := by
  rw [Lib.join_cons, Lib.join_cons]; simp [Lib.joinTail]
set_option maxHeartbeats 1600000 in
set_option maxRecDepth 100000 in
theorem nums_in (name : ByteArray) (A : Option Addr) (n c B : Nat) (xs : List Int) (w : World) (hr : Reads w B 1 A n (xs.map I)) (hn : n ≤ 100000) (hnm : name.size ≤ 1000) (hx : ∀ x ∈ xs, -9223372036854775808 ≤ x ∧ x ≤ 9223372036854775807) :
    Calls Tryz.prog 40 #[.string name, .slice A n c] w fun e w' => e = .returned (strV (Lib.join (name.data.toList :: xs.map Lib.itoa) [32] ++ [10])) ∧ ∃ q, w' = w.drewN q := by
  have hlen : xs.length = n := by have := hr.1; simpa using this
  have hnl : name.data.toList.length = name.size := rfl
  have HLE : Hid (∀ k, (Lib.join (name.data.toList :: (xs.take k).map Lib.itoa) [32]).length ≤ 2300000) := Lib.hid (fun k => by
    have h1 := join_all_le name.data.toList (xs.take k) (fun x hxx => hx x (List.mem_of_mem_take hxx))
    have h2 : (xs.take k).length ≤ n := by rw [List.length_take]; omega
    omega)
  have HX := Lib.hid hx
  clear hx
  go_enter Tryz.func40, Tryz.ntmps40
  go_wp2_with fail
  go_loopw [5, 6] (fun t i wr => ∃ (k : Nat) (T : ByteArray), k ≤ n ∧ i = .int .i64 k ∧ t = .string T ∧ T.data.toList = Lib.join (name.data.toList :: (xs.take k).map Lib.itoa) [32] ∧ ∃ q, wr = w.drewN q) (fun _ i _ => n - (Lib.intOf i).toNat)
  case atStart => exact ⟨0, name, Nat.zero_le _, rfl, rfl, by rw [List.take_zero, List.map_nil, Lib.join_cons]; simp [Lib.joinTail], 0, rfl⟩
  case round =>
    obtain ⟨k, T, hk, rfl, rfl, hT, q, rfl⟩ := hrel
    have hTs : T.size ≤ 2300000 := by have := HLE.out k; rw [← hT] at this; exact this
    have HT := Lib.hid hT
    clear hT
    by_cases hlt : k < n
    · obtain ⟨b, off, u, rfl, -, hx, hcell⟩ := hr.at_ hlt
      simp only [List.getElem?_map, Option.map_eq_some_iff] at hx
      obtain ⟨x, hx, rfl⟩ := hx
      have hxr := HX.out x (List.mem_of_getElem? hx)
      have hil := Lib.itoa_length_le x hxr.1 hxr.2
      unfold I at hcell
      have HS : Hid ((xs.take (k + 1)).map Lib.itoa = (xs.take k).map Lib.itoa ++ [Lib.itoa x]) := Lib.hid (by rw [List.take_add_one, hx]; simp)
      obtain ⟨Y, hY⟩ : ∃ Y : ByteArray, strV (Lib.itoa x) = .string Y := ⟨⟨_⟩, rfl⟩
      have hYl : Y.data.toList = Lib.itoa x := strV_inj ((strV_data Y).trans hY.symm)
      have hYs : Y.size ≤ 21 := by have : Y.data.toList.length = Y.size := rfl; rw [hYl] at this; omega
      have HC := Lib.hid (rText_in x hxr.1 hxr.2 (w.drewN q))
      rw [hY] at HC
      have HYL := Lib.hid hYl
      clear hx hxr hil hY hYl
      go_wp2_with fail
      refine HC.out.mono ?_
      rintro e w2 ⟨rfl, q2, rfl⟩
      go_wp2_with fail
      refine ⟨⟨k + 1, _, by omega, rfl, rfl, ?_, q + q2, rfl⟩, by simp [Lib.intOf]; omega⟩
      rw [HS.out, join_snoc, ← HT.out, ← HYL.out]
      simp
    · have hall : xs.take k = xs := List.take_of_length_le (by omega)
      rw [hall] at HT
      clear hall
      go_wp2_with fail
      go_ret
      refine ⟨congrArg Ending.returned ?_, q, rfl⟩
      show Value.string (T ++ ⟨#[10]⟩) = _
      rw [← HT.out, ← strV_data]
      refine congrArg strV ?_
      simp
end Go.Proofs.YtpfbgoogajgciaaGreatDoor
