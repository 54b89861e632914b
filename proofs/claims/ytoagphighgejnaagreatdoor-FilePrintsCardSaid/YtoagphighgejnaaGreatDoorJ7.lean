/- file: problem (24). Conditions: none. -/
import Derived.Test.YtoagphighgejnaaGreatDoorJ6
import Derived.Test.YtoagphighgejnaaGreatDoorFP2
set_option linter.unusedSimpArgs false
set_option linter.unusedVariables false
namespace Go.Proofs.YtoagphighgejnaaGreatDoor
open Go.RowKit Go.Shelf

theorem refuse_or (b : Bool) (k : Int) (w : World) : Calls Tryz.prog 42 #[.bool b, .int .u16 k] w fun e w' => w = w' ∧ ((b = true ∧ e = .panicked [{ v := faultV k, recovered := false }]) ∨ (b = false ∧ e = .returned (.tuple #[]))) := by
  cases b
  · exact (refuse_no k w).mono fun e w' ⟨h1, h2⟩ => ⟨h2.symm, .inr ⟨rfl, h1⟩⟩
  · exact (refuse_yes k w).mono fun e w' ⟨h1, h2⟩ => ⟨h2.symm, .inl ⟨rfl, h1⟩⟩
theorem refuse_go (k : Int) (w : World) : Calls Tryz.prog 42 #[.bool false, .int .u16 k] w fun e w' => w = w' ∧ e = .returned (.tuple #[]) := (refuse_no k w).mono fun e w' ⟨h1, h2⟩ => ⟨h2.symm, h1⟩
theorem step_bad {B rb : Nat} {w w' : World} {q : Int × RdV} {k : Int} (hk : Kept (Rs B rb) w w') (hq : q.1 = k) (h0 : ¬ k = 0) : Step B rb w q (.panicked [{ v := faultV k, recovered := false }]) w' := by
  subst hq; exact ⟨hk, .inr ⟨h0, rfl⟩⟩
theorem step_good {B rb : Nat} {w w' : World} {q : Int × RdV} {r : RdV} (hk : Kept (Rs B rb) w w') (hq : q = (0, r)) (h : RdIn B w' rb r) : Step B rb w q (.returned (.tuple #[])) w' := by
  subst hq; exact ⟨hk, .inl ⟨rfl, rfl, h⟩⟩

theorem panic_end {fn : Func} {R : Ending → World → Prop} {a : Act} {w : World} {c : List PanicEntry} (hd : a.defers = []) (h : R (.panicked c) w) : bodyPost Tryz.prog fn R (.panic c) a w := ⟨hd, h⟩
theorem makeInts (n : Nat) (hn : n ≤ 64) (W : World) : (Instr.makeSlice 26 (.int .i64 (n : Int)) (.int .i64 (n : Int))).run Tryz.prog W =
    .ok (.slice (some ⟨W.heap.size, 0, none⟩) n n) (W.alloc (.cells (ints (List.replicate n 0)) 2)) := by
  have hinfo : (Tryz.prog.info? 2).map (fun i => (i.zero, i.size, i.bytes)) = some (some (.int .i64 0), 1, 8) := by kernel_rfl
  obtain ⟨i3, hi3, hz30, hz31, hz32⟩ := info_parts hinfo
  have := run_make (P := Tryz.prog) W 26 2 i3 (.int .i64 0) Tryz.underlying26 hi3 hz30 .i64 .i64 (n : Int) (n : Int) (by omega) (by omega) (by rw [hz32]; omega) (by omega)
  rw [hz31, Int.toNat_natCast] at this
  have e : madeCells #[.int .i64 0] (n * 1) = ints (List.replicate n 0) := by
    apply Array.ext
    · simp [madeCells, ints]
    · intro j h1 h2; simp [madeCells, ints, I, Nat.mod_one]
  rw [← e]
  exact this
theorem makeBools (n : Nat) (hn : n ≤ 64) (W : World) : (Instr.makeSlice 74 (.int .i64 (n : Int)) (.int .i64 (n : Int))).run Tryz.prog W =
    .ok (.slice (some ⟨W.heap.size, 0, none⟩) n n) (W.alloc (.cells (bools (List.replicate n false)) 4)) := by
  have hinfo : (Tryz.prog.info? 4).map (fun i => (i.zero, i.size, i.bytes)) = some (some (.bool false), 1, 1) := by kernel_rfl
  obtain ⟨i3, hi3, hz30, hz31, hz32⟩ := info_parts hinfo
  have := run_make (P := Tryz.prog) W 74 4 i3 (.bool false) Tryz.underlying74 hi3 hz30 .i64 .i64 (n : Int) (n : Int) (by omega) (by omega) (by rw [hz32]; omega) (by omega)
  rw [hz31, Int.toNat_natCast] at this
  have e : madeCells #[.bool false] (n * 1) = bools (List.replicate n false) := by
    apply Array.ext
    · simp [madeCells, bools]
    · intro j h1 h2; simp [madeCells, bools, Bv, Nat.mod_one]
  rw [← e]
  exact this
theorem figC2 (a b : List UInt8) : (figCells [a, b]).toArray = #[.int .i64 (numL a).1, .bool (decide ((numL a).2 = 11)), .int .i64 (numL b).1, .bool (decide ((numL b).2 = 11))] := rfl
theorem in_of {w : List UInt8} {lo hi : Int} : (decide ((numL w).2 = 11) = false ∧ lo ≤ (numL w).1 ∧ (numL w).1 ≤ hi) → ¬ badW w → inW w lo hi := by
  rintro ⟨h1, h2, h3⟩ h4
  have := numL_err w
  simp only [decide_eq_false_iff_not] at h1
  unfold badW at h4
  exact ⟨by omega, h2, h3⟩
theorem not_in {w : List UInt8} {lo hi : Int} : ¬ (decide ((numL w).2 = 11) = false ∧ lo ≤ (numL w).1 ∧ (numL w).1 ≤ hi) → ¬ inW w lo hi := by
  rintro h ⟨h1, h2, h3⟩
  exact h ⟨by simp [h1], h2, h3⟩

theorem MapB.far {w : World} {r : Nat} {es : Array MapEntry} {clock : Nat} (h : MapB w r es clock) {p : Addr} (hp : r ≠ p.block) (u : Value) : MapB (w.setCell p u) r es clock := (Below.heap_setCell w p u r hp).trans h
/-- the panic first -/
theorem within_pan (v lo hi : Int) (b : Bool) (w : World) : Calls Tryz.prog 74 #[.agg #[.int .i64 v, .bool b], .int .i64 lo, .int .i64 hi] w fun e w' =>
    ((¬ (b = false ∧ lo ≤ v ∧ v ≤ hi) ∧ e = .panicked [{ v := faultV 11, recovered := false }]) ∨ ((b = false ∧ lo ≤ v ∧ v ≤ hi) ∧ e = .returned (.int .i64 v))) ∧ Below w.heap.size w w' :=
  (within_or v lo hi b w).mono fun e w' ⟨h, hb⟩ => ⟨h.symm, hb⟩
theorem figures_pan {A : Option Addr} {n c : Nat} {ws : List (List UInt8)} {w : World} (h : Calls Tryz.prog 73 #[.slice A n c] w (FigTells w ws)) : Calls Tryz.prog 73 #[.slice A n c] w fun e w' =>
    ((∃ x ∈ ws, (numL x).2 = 10) ∧ e = .panicked [{ v := faultV 10, recovered := false }] ∧ Below w.heap.size w w') ∨
    ((∀ x ∈ ws, (numL x).2 ≠ 10) ∧ ∃ fb, e = .returned (.slice (some ⟨fb, 0, none⟩) ws.length ws.length) ∧ Blk w' fb 111 (figCells ws).toArray ∧ w.heap.size ≤ fb ∧ Below w.heap.size w w') :=
  h.mono fun e w' h => h.symm
/-- an equation that no tactic sees -/
def QIs (q p : Int × RdV) : Prop := q = p
set_option maxRecDepth 100000 in
theorem problem_len (B rb n : Nat) (r : RdV) (wb : Nat) (ws : List (List UInt8)) (w : World) (hl : ¬ n = 4) (hn : n = ws.length) :
    Calls Tryz.prog 56 #[.pointer (some ⟨rb, 0, none⟩), .slice (some ⟨wb, 0, none⟩) n n] w (Step B rb w (headE r ws)) := by
  have he : (headE r ws).1 = 10 := by
    subst hn
    unfold headE; split
    · exact absurd rfl hl
    · rfl
  have H := Lib.hid (step_bad (Kept.refl (Rs B rb) w) he (by decide))
  have hl' : ¬ (n : Int) = 4 := by omega
  clear hn he hl
  go_enter Tryz.func56, Tryz.ntmps56
  go_wp2_with fail
  refine (refuse_or _ _ _).mono ?_
  rintro e _ ⟨rfl, (⟨hq, rfl⟩ | ⟨hq, rfl⟩)⟩
  · exact panic_end rfl H.out
  · exact absurd hq (by simp [hl'])
theorem problem_bad (B rb : Nat) (r : RdV) (wb : Nat) (x k a b : List UInt8) (w : World) (h1 : ¬ k = wMin ∧ ¬ k = wMax) (hW : Blk w wb 9 ([x, k, a, b].map strV).toArray) :
    Calls Tryz.prog 56 #[.pointer (some ⟨rb, 0, none⟩), .slice (some ⟨wb, 0, none⟩) 4 4] w (Step B rb w (headE r [x, k, a, b])) := by
  have hc := hW.cell 1
  simp only [List.map_cons, List.map_nil, List.getElem?_toArray, List.getElem?_cons_zero, List.getElem?_cons_succ] at hc
  obtain ⟨K, hK⟩ : ∃ K : ByteArray, K = ⟨k.toArray⟩ := ⟨_, rfl⟩
  have hKd : K.toList = k := by rw [Lib.toList_data, hK]
  have hc' : w.cell? ⟨wb, 1, none⟩ = some (.string K) := by rw [hK]; exact hc
  have k1 : (K.toList == [109, 105, 110]) = false := by rw [hKd, beq_eq_false_iff_ne]; exact h1.1
  have k2 : (K.toList == [109, 97, 120]) = false := by rw [hKd, beq_eq_false_iff_ne]; exact h1.2
  have H : Step B rb w (headE r [x, k, a, b]) (.panicked [{ v := faultV 10, recovered := false }]) w := by
    refine step_bad (Kept.refl _ _) ?_ (by decide)
    unfold headE; simp only; rw [if_pos h1]
  have H := Lib.hid H
  have lW := hW.lt
  clear hc hW hK hKd h1
  go_enter Tryz.func56, Tryz.ntmps56
  go_wp2_with fail
  refine (refuse_go _ _).mono ?_
  rintro e _ ⟨rfl, rfl⟩
  go_wp2_with fail
  refine (refuse_or _ _ _).mono ?_
  rintro e _ ⟨rfl, (⟨hq, rfl⟩ | ⟨hq, rfl⟩)⟩
  · exact panic_end rfl H.out
  · exact absurd hq (by simp)
set_option maxRecDepth 100000 in
set_option maxHeartbeats 3200000 in
theorem problem_min (B rb : Nat) (r : RdV) (wb : Nat) (x a b : List UInt8) (w : World) (hE : Env w) (hR : RdIn B w rb r) (hO : RdOk r) (hW : Blk w wb 9 ([x, wMin, a, b].map strV).toArray) (hlen : ∀ y ∈ [x, wMin, a, b], y.length ≤ 60000) (hB : B ≤ w.heap.size) :
    Calls Tryz.prog 56 #[.pointer (some ⟨rb, 0, none⟩), .slice (some ⟨wb, 0, none⟩) 4 4] w (Step B rb w (headE r [x, wMin, a, b])) := by
  have hc := hW.cell 1
  simp only [List.map_cons, List.map_nil, List.getElem?_toArray, List.getElem?_cons_zero, List.getElem?_cons_succ] at hc
  have hc' : w.cell? ⟨wb, 1, none⟩ = some (.string ⟨#[109, 105, 110]⟩) := hc
  have HW := Lib.hid hW
  have lW := hW.lt
  have hrd := Reads.part hW 2 2 rfl
  have HF := Lib.hid (figures_pan (figures_in (some ⟨wb, 2, none⟩) 2 2 [a, b] w hE hrd (by decide) (fun y hy => Nat.le_trans (hlen y (by simp at hy ⊢; rcases hy with rfl | rfl <;> simp)) (by decide))))
  have HR := Lib.hid hR
  have HO := Lib.hid hO
  obtain ⟨q, HE⟩ : ∃ q, QIs q (headE r [x, wMin, a, b]) := ⟨_, rfl⟩
  rw [← HE]
  clear hc hW hR hO hlen hrd hE
  go_enter Tryz.func56, Tryz.ntmps56
  go_wp2_with fail
  refine (refuse_go _ _).mono ?_
  rintro e _ ⟨rfl, rfl⟩
  go_wp2_with fail
  refine (refuse_or _ _ _).mono ?_
  rintro e _ ⟨rfl, (⟨hq, rfl⟩ | ⟨hq, rfl⟩)⟩
  · exact absurd hq (by simp)
  go_wp2_with fail
  refine HF.out.mono ?_
  rintro e w1 (⟨⟨y, hy, hy0⟩, rfl, hb1⟩ | ⟨hok, fb, rfl, hfb, hfs, hb1⟩)
  · have h2 : badW a ∨ badW b := by
      simp only [List.mem_cons, List.not_mem_nil, or_false] at hy
      rcases hy with rfl | rfl
      · exact .inl hy0
      · exact .inr hy0
    have he : q = headE r [x, wMin, a, b] := HE
    unfold headE at he; simp only at he
    rw [if_neg (by decide), if_pos h2] at he
    exact panic_end rfl (step_bad (Kept.of_below hb1 _) (by rw [he]) (by decide))
  have h2 : ¬ (badW a ∨ badW b) := by rw [not_or]; exact ⟨hok a (by simp), hok b (by simp)⟩
  have h2' := not_or.1 h2
  clear hok
  have HR1 := Lib.hid (HR.out.on hb1)
  obtain ⟨v1, v2, v3, v4, hbr⟩ := HR1.out.blk
  obtain ⟨-, -, -, -, -, c5, -⟩ := hbr.nine
  have lr := hbr.lt
  have HB1 := Lib.hid hbr
  rw [figC2] at hfb
  have d0 := hfb.cell 0
  have d1 := hfb.cell 1
  have d2 := hfb.cell 2
  have d3 := hfb.cell 3
  simp only [List.getElem?_toArray, List.getElem?_cons_zero, List.getElem?_cons_succ] at d0 d1 d2 d3
  have lf := hfb.lt
  have HFB := Lib.hid hfb
  clear hbr hfb
  go_wp2_with fail
  refine (refuse_or _ _ _).mono ?_
  rintro e _ ⟨rfl, (⟨hq, rfl⟩ | ⟨hq, rfl⟩)⟩
  · have he : q = headE r [x, wMin, a, b] := HE
    unfold headE at he; simp only at he
    rw [if_neg (by decide), if_neg h2, if_pos hq] at he
    exact panic_end rfl (step_bad (Kept.of_below hb1 _) (by rw [he]) (by decide))
  have h3 : ¬ r.begun = true := by simp [hq]
  have hr0 := HO.out.none_ hq
  go_wp2_with fail
  refine (within_pan _ _ _ _ _).mono ?_
  rintro e w2 ⟨(⟨hi, rfl⟩ | ⟨hi, rfl⟩), hb2⟩
  · have he : q = headE r [x, wMin, a, b] := HE
    unfold headE at he; simp only at he
    rw [if_neg (by decide), if_neg h2, if_neg h3, if_pos (not_in hi)] at he
    exact panic_end rfl (step_bad (Kept.of_below (hb1.trans (hb2.mono hb1.size)) _) (by rw [he]) (by decide))
  have hin := in_of hi h2'.1
  obtain ⟨N, hN⟩ : ∃ N : Nat, (numL a).1 = N := ⟨(numL a).1.toNat, by have := hin.2; omega⟩
  have hN0 : 1 ≤ N ∧ N ≤ 64 := by have := hin.2; omega
  rw [hN]
  have hmi := makeInts N hN0.2
  have hmb := makeBools N hN0.2
  have lr2 := Nat.lt_of_lt_of_le lr hb2.size
  have lf2 := Nat.lt_of_lt_of_le lf hb2.size
  have hB1' : Blk w1 rb 77 (rdCells rd0 (.slice none 0 0) (.slice none 0 0) (.slice none 0 0) (.map none)) := by
    rcases HR1.out with ⟨_, hk⟩ | ⟨hbg, _⟩
    · exact hk
    · rw [hq] at hbg; cases hbg
  have hB2 := hB1'.below hb2 lr
  have d2' := (hb2.cell (p := ⟨fb, 2, none⟩) lf).trans d2
  have d3' := (hb2.cell (p := ⟨fb, 3, none⟩) lf).trans d3
  have c6 := hB2.cell 6
  have hc2 : w2.cell? ⟨wb, 1, none⟩ = some (.string ⟨#[109, 105, 110]⟩) := (hb2.cell (p := ⟨wb, 1, none⟩) (Nat.lt_of_lt_of_le lW hb1.size)).trans ((hb1.cell (p := ⟨wb, 1, none⟩) lW).trans hc')
  have hB2' := Lib.hid hB2
  have HHI := Lib.hid hi
  clear hi c5 d0 d1 d2 d3 hB2 hc'
  go_wp2_with fail
  refine (within_pan _ _ _ _ _).mono ?_
  rintro e w3 ⟨(⟨hi, rfl⟩ | ⟨hi, rfl⟩), hb3⟩
  · have he : q = headE r [x, wMin, a, b] := HE
    unfold headE at he; simp only at he
    rw [if_neg (by decide), if_neg h2, if_neg h3, if_neg (by simpa using hin), if_pos (not_in hi)] at he
    exact panic_end rfl (step_bad (Kept.of_below ((hb1.trans (hb2.mono hb1.size)).trans (hb3.mono (Nat.le_trans hb1.size hb2.size))) _) (by rw [he]) (by decide))
  have hin2 := in_of hi h2'.2
  have lr3 := Nat.lt_of_lt_of_le lr2 hb3.size
  have hc3 : w3.cell? ⟨wb, 1, none⟩ = some (.string ⟨#[109, 105, 110]⟩) := (hb3.cell (p := ⟨wb, 1, none⟩) (Nat.lt_of_lt_of_le (Nat.lt_of_lt_of_le lW hb1.size) hb2.size)).trans hc2
  have hB3 := hB2'.out.below hb3 lr2
  have hne : ¬ wb = rb := Blk.ne_ (HW.out.below hb1 HW.out.lt) HB1.out (by decide)
  have HB3 := Lib.hid hB3
  have HHI2 := Lib.hid hi
  have g : ∀ i, w3.frozen? ⟨rb, i, none⟩ = false := fun i => hB3.frozen i
  have hex : ∀ i, i < 9 → ∃ u, w3.cell? ⟨rb, i, none⟩ = some u := fun i hi => ⟨_, (hB3.cell i).trans (by rw [Array.getElem?_eq_getElem (by simpa [rdCells] using hi)])⟩
  obtain ⟨u0, e0⟩ := hex 0 (by omega)
  obtain ⟨u1, e1⟩ := hex 1 (by omega)
  obtain ⟨u5, e5⟩ := hex 5 (by omega)
  obtain ⟨u6, e6⟩ := hex 6 (by omega)
  obtain ⟨u7, e7⟩ := hex 7 (by omega)
  obtain ⟨u8, e8⟩ := hex 8 (by omega)
  clear hi hc2 d2' d3' hB3 hex c6
  go_wp2_with fail
  have K1 := ((((HB3.out.set_ 6 (.int .i64 (numL b).1)).set_ 5 (.bool true)).set_ 0 (.bool false)).set_ 1 (.slice (some ⟨w3.heap.size, 0, none⟩) N N)).set_ 7 (.slice (some ⟨w3.heap.size + 1, 0, none⟩) N N)
  have k1 : Kept (Rs B rb) w w3 := Kept.of_below ((hb1.trans (hb2.mono hb1.size)).trans (hb3.mono (Nat.le_trans hb1.size hb2.size))) _
  have k2 := ((((k1.setCell (p := ⟨rb, 6, none⟩) (fun _ => .inl rfl) (.int .i64 (numL b).1)).setCell (p := ⟨rb, 5, none⟩) (fun _ => .inl rfl) (.bool true)).setCell (p := ⟨rb, 0, none⟩) (fun _ => .inl rfl) (.bool false)).setCell (p := ⟨rb, 1, none⟩) (fun _ => .inl rfl) (.slice (some ⟨w3.heap.size, 0, none⟩) N N)).setCell (p := ⟨rb, 7, none⟩) (fun _ => .inl rfl) (.slice (some ⟨w3.heap.size + 1, 0, none⟩) N N)
  have hsz3 : w.heap.size ≤ w3.heap.size := k1.size
  generalize hW4 : ((((w3.setCell ⟨rb, 6, none⟩ (.int .i64 (numL b).1)).setCell ⟨rb, 5, none⟩ (.bool true)).setCell ⟨rb, 0, none⟩ (.bool false)).setCell ⟨rb, 1, none⟩ (.slice (some ⟨w3.heap.size, 0, none⟩) N N)).setCell ⟨rb, 7, none⟩ (.slice (some ⟨w3.heap.size + 1, 0, none⟩) N N) = W4 at K1 k2 ⊢
  have hs4 : W4.heap.size = w3.heap.size := by rw [← hW4]; simp [World.setCell]
  have s1 := Blk.new W4 2 (ints (List.replicate N 0))
  have s2 := s1.alloc (.cells (bools (List.replicate N false)) 4)
  have t1 := Blk.new (W4.alloc (.cells (ints (List.replicate N 0)) 2)) 4 (bools (List.replicate N false))
  have K2 := (K1.alloc (.cells (ints (List.replicate N 0)) 2)).alloc (.cells (bools (List.replicate N false)) 4)
  have k3 := (k2.alloc (.cells (ints (List.replicate N 0)) 2)).alloc (.cells (bools (List.replicate N false)) 4)
  rw [World.size_alloc, hs4] at t1
  rw [hs4] at s2
  have hs5 : ((W4.alloc (.cells (ints (List.replicate N 0)) 2)).alloc (.cells (bools (List.replicate N false)) 4)).heap.size = w3.heap.size + 2 := by simp [hs4]
  clear s1 K1 k2 hW4 hmi hmb e0 e1 e5 e6 e7 g
  generalize (W4.alloc (.cells (ints (List.replicate N 0)) 2)).alloc (.cells (bools (List.replicate N false)) 4) = W5 at *
  rw [run_makeMap]
  have m1 := MapB.new W5
  have s3 := s2.alloc (.map #[] 0)
  have t2 := t1.alloc (.map #[] 0)
  have K3 := K2.alloc (.map #[] 0)
  have k4 := k3.alloc (.map #[] 0)
  have hs6 : (W5.alloc (.map #[] 0)).heap.size = w3.heap.size + 3 := by simp [hs5]
  rw [hs5] at m1
  have hr5 : rb < (W5.alloc (.map #[] 0)).heap.size := by omega
  have g8 := K3.frozen 8
  have c8 : ∃ u, (W5.alloc (.map #[] 0)).cell? ⟨rb, 8, none⟩ = some u := ⟨_, (K3.cell 8).trans (by rw [Array.getElem?_eq_getElem (by simp [rdCells])])⟩
  obtain ⟨u8', c8⟩ := c8
  clear e8 k3 K2 t1 s2
  generalize W5.alloc (.map #[] 0) = W6 at *
  rw [hs5]
  have he : q = headE r [x, wMin, a, b] := HE
  unfold headE at he; simp only at he
  rw [if_neg (by decide), if_neg h2, if_neg h3, if_neg (by simpa using hin), if_neg (by simpa using hin2)] at he
  have hfin : Step B rb w q (.returned (.tuple #[])) (W6.setCell ⟨rb, 8, none⟩ (.map (some (w3.heap.size + 2)))) := by
    refine step_good (k4.setCell (p := ⟨rb, 8, none⟩) (fun _ => .inl rfl) _) he (.inr ⟨rfl, w3.heap.size, w3.heap.size + 1, w3.heap.size + 2, 0, 0, 0, none, #[], ?_⟩)
    rw [hr0, hN]
    have K4 := K3.set_ 8 (.map (some (w3.heap.size + 2)))
    refine ⟨?_, ?_, ?_, ⟨rfl, .inl ⟨rfl, rfl⟩⟩, ?_, .inl ⟨rfl, rfl, rfl⟩, by omega, by omega, by omega⟩
    · have hw : decide (wMin = wMax) = false := by decide
      rw [hw]; simpa [rdCells, rd0] using K4
    · exact s3.far (by show _ ≠ rb; omega) _
    · exact t2.far (by show _ ≠ rb; omega) _
    · exact m1.far (by show _ ≠ rb; omega) _
  have HFin := Lib.hid hfin
  clear hfin he K3 s3 t2 k4 m1
  go_wp2_with fail
  go_end0
  exact HFin.out
set_option maxRecDepth 100000 in
set_option maxHeartbeats 3200000 in
theorem problem_max (B rb : Nat) (r : RdV) (wb : Nat) (x a b : List UInt8) (w : World) (hE : Env w) (hR : RdIn B w rb r) (hO : RdOk r) (hW : Blk w wb 9 ([x, wMax, a, b].map strV).toArray) (hlen : ∀ y ∈ [x, wMax, a, b], y.length ≤ 60000) (hB : B ≤ w.heap.size) :
    Calls Tryz.prog 56 #[.pointer (some ⟨rb, 0, none⟩), .slice (some ⟨wb, 0, none⟩) 4 4] w (Step B rb w (headE r [x, wMax, a, b])) := by
  have hc := hW.cell 1
  simp only [List.map_cons, List.map_nil, List.getElem?_toArray, List.getElem?_cons_zero, List.getElem?_cons_succ] at hc
  have hc' : w.cell? ⟨wb, 1, none⟩ = some (.string ⟨#[109, 97, 120]⟩) := hc
  have HW := Lib.hid hW
  have lW := hW.lt
  have hrd := Reads.part hW 2 2 rfl
  have HF := Lib.hid (figures_pan (figures_in (some ⟨wb, 2, none⟩) 2 2 [a, b] w hE hrd (by decide) (fun y hy => Nat.le_trans (hlen y (by simp at hy ⊢; rcases hy with rfl | rfl <;> simp)) (by decide))))
  have HR := Lib.hid hR
  have HO := Lib.hid hO
  obtain ⟨q, HE⟩ : ∃ q, QIs q (headE r [x, wMax, a, b]) := ⟨_, rfl⟩
  rw [← HE]
  clear hc hW hR hO hlen hrd hE
  go_enter Tryz.func56, Tryz.ntmps56
  go_wp2_with fail
  refine (refuse_go _ _).mono ?_
  rintro e _ ⟨rfl, rfl⟩
  go_wp2_with fail
  refine (refuse_or _ _ _).mono ?_
  rintro e _ ⟨rfl, (⟨hq, rfl⟩ | ⟨hq, rfl⟩)⟩
  · exact absurd hq (by simp)
  go_wp2_with fail
  refine HF.out.mono ?_
  rintro e w1 (⟨⟨y, hy, hy0⟩, rfl, hb1⟩ | ⟨hok, fb, rfl, hfb, hfs, hb1⟩)
  · have h2 : badW a ∨ badW b := by
      simp only [List.mem_cons, List.not_mem_nil, or_false] at hy
      rcases hy with rfl | rfl
      · exact .inl hy0
      · exact .inr hy0
    have he : q = headE r [x, wMax, a, b] := HE
    unfold headE at he; simp only at he
    rw [if_neg (by decide), if_pos h2] at he
    exact panic_end rfl (step_bad (Kept.of_below hb1 _) (by rw [he]) (by decide))
  have h2 : ¬ (badW a ∨ badW b) := by rw [not_or]; exact ⟨hok a (by simp), hok b (by simp)⟩
  have h2' := not_or.1 h2
  clear hok
  have HR1 := Lib.hid (HR.out.on hb1)
  obtain ⟨v1, v2, v3, v4, hbr⟩ := HR1.out.blk
  obtain ⟨-, -, -, -, -, c5, -⟩ := hbr.nine
  have lr := hbr.lt
  have HB1 := Lib.hid hbr
  rw [figC2] at hfb
  have d0 := hfb.cell 0
  have d1 := hfb.cell 1
  have d2 := hfb.cell 2
  have d3 := hfb.cell 3
  simp only [List.getElem?_toArray, List.getElem?_cons_zero, List.getElem?_cons_succ] at d0 d1 d2 d3
  have lf := hfb.lt
  have HFB := Lib.hid hfb
  clear hbr hfb
  go_wp2_with fail
  refine (refuse_or _ _ _).mono ?_
  rintro e _ ⟨rfl, (⟨hq, rfl⟩ | ⟨hq, rfl⟩)⟩
  · have he : q = headE r [x, wMax, a, b] := HE
    unfold headE at he; simp only at he
    rw [if_neg (by decide), if_neg h2, if_pos hq] at he
    exact panic_end rfl (step_bad (Kept.of_below hb1 _) (by rw [he]) (by decide))
  have h3 : ¬ r.begun = true := by simp [hq]
  have hr0 := HO.out.none_ hq
  go_wp2_with fail
  refine (within_pan _ _ _ _ _).mono ?_
  rintro e w2 ⟨(⟨hi, rfl⟩ | ⟨hi, rfl⟩), hb2⟩
  · have he : q = headE r [x, wMax, a, b] := HE
    unfold headE at he; simp only at he
    rw [if_neg (by decide), if_neg h2, if_neg h3, if_pos (not_in hi)] at he
    exact panic_end rfl (step_bad (Kept.of_below (hb1.trans (hb2.mono hb1.size)) _) (by rw [he]) (by decide))
  have hin := in_of hi h2'.1
  obtain ⟨N, hN⟩ : ∃ N : Nat, (numL a).1 = N := ⟨(numL a).1.toNat, by have := hin.2; omega⟩
  have hN0 : 1 ≤ N ∧ N ≤ 64 := by have := hin.2; omega
  rw [hN]
  have hmi := makeInts N hN0.2
  have hmb := makeBools N hN0.2
  have lr2 := Nat.lt_of_lt_of_le lr hb2.size
  have lf2 := Nat.lt_of_lt_of_le lf hb2.size
  have hB1' : Blk w1 rb 77 (rdCells rd0 (.slice none 0 0) (.slice none 0 0) (.slice none 0 0) (.map none)) := by
    rcases HR1.out with ⟨_, hk⟩ | ⟨hbg, _⟩
    · exact hk
    · rw [hq] at hbg; cases hbg
  have hB2 := hB1'.below hb2 lr
  have d2' := (hb2.cell (p := ⟨fb, 2, none⟩) lf).trans d2
  have d3' := (hb2.cell (p := ⟨fb, 3, none⟩) lf).trans d3
  have c6 := hB2.cell 6
  have hc2 : w2.cell? ⟨wb, 1, none⟩ = some (.string ⟨#[109, 97, 120]⟩) := (hb2.cell (p := ⟨wb, 1, none⟩) (Nat.lt_of_lt_of_le lW hb1.size)).trans ((hb1.cell (p := ⟨wb, 1, none⟩) lW).trans hc')
  have hB2' := Lib.hid hB2
  have HHI := Lib.hid hi
  clear hi c5 d0 d1 d2 d3 hB2 hc'
  go_wp2_with fail
  refine (within_pan _ _ _ _ _).mono ?_
  rintro e w3 ⟨(⟨hi, rfl⟩ | ⟨hi, rfl⟩), hb3⟩
  · have he : q = headE r [x, wMax, a, b] := HE
    unfold headE at he; simp only at he
    rw [if_neg (by decide), if_neg h2, if_neg h3, if_neg (by simpa using hin), if_pos (not_in hi)] at he
    exact panic_end rfl (step_bad (Kept.of_below ((hb1.trans (hb2.mono hb1.size)).trans (hb3.mono (Nat.le_trans hb1.size hb2.size))) _) (by rw [he]) (by decide))
  have hin2 := in_of hi h2'.2
  have lr3 := Nat.lt_of_lt_of_le lr2 hb3.size
  have hc3 : w3.cell? ⟨wb, 1, none⟩ = some (.string ⟨#[109, 97, 120]⟩) := (hb3.cell (p := ⟨wb, 1, none⟩) (Nat.lt_of_lt_of_le (Nat.lt_of_lt_of_le lW hb1.size) hb2.size)).trans hc2
  have hB3 := hB2'.out.below hb3 lr2
  have hne : ¬ wb = rb := Blk.ne_ (HW.out.below hb1 HW.out.lt) HB1.out (by decide)
  have HB3 := Lib.hid hB3
  have HHI2 := Lib.hid hi
  have g : ∀ i, w3.frozen? ⟨rb, i, none⟩ = false := fun i => hB3.frozen i
  have hex : ∀ i, i < 9 → ∃ u, w3.cell? ⟨rb, i, none⟩ = some u := fun i hi => ⟨_, (hB3.cell i).trans (by rw [Array.getElem?_eq_getElem (by simpa [rdCells] using hi)])⟩
  obtain ⟨u0, e0⟩ := hex 0 (by omega)
  obtain ⟨u1, e1⟩ := hex 1 (by omega)
  obtain ⟨u5, e5⟩ := hex 5 (by omega)
  obtain ⟨u6, e6⟩ := hex 6 (by omega)
  obtain ⟨u7, e7⟩ := hex 7 (by omega)
  obtain ⟨u8, e8⟩ := hex 8 (by omega)
  clear hi hc2 d2' d3' hB3 hex c6
  go_wp2_with fail
  have K1 := ((((HB3.out.set_ 6 (.int .i64 (numL b).1)).set_ 5 (.bool true)).set_ 0 (.bool true)).set_ 1 (.slice (some ⟨w3.heap.size, 0, none⟩) N N)).set_ 7 (.slice (some ⟨w3.heap.size + 1, 0, none⟩) N N)
  have k1 : Kept (Rs B rb) w w3 := Kept.of_below ((hb1.trans (hb2.mono hb1.size)).trans (hb3.mono (Nat.le_trans hb1.size hb2.size))) _
  have k2 := ((((k1.setCell (p := ⟨rb, 6, none⟩) (fun _ => .inl rfl) (.int .i64 (numL b).1)).setCell (p := ⟨rb, 5, none⟩) (fun _ => .inl rfl) (.bool true)).setCell (p := ⟨rb, 0, none⟩) (fun _ => .inl rfl) (.bool true)).setCell (p := ⟨rb, 1, none⟩) (fun _ => .inl rfl) (.slice (some ⟨w3.heap.size, 0, none⟩) N N)).setCell (p := ⟨rb, 7, none⟩) (fun _ => .inl rfl) (.slice (some ⟨w3.heap.size + 1, 0, none⟩) N N)
  have hsz3 : w.heap.size ≤ w3.heap.size := k1.size
  generalize hW4 : ((((w3.setCell ⟨rb, 6, none⟩ (.int .i64 (numL b).1)).setCell ⟨rb, 5, none⟩ (.bool true)).setCell ⟨rb, 0, none⟩ (.bool true)).setCell ⟨rb, 1, none⟩ (.slice (some ⟨w3.heap.size, 0, none⟩) N N)).setCell ⟨rb, 7, none⟩ (.slice (some ⟨w3.heap.size + 1, 0, none⟩) N N) = W4 at K1 k2 ⊢
  have hs4 : W4.heap.size = w3.heap.size := by rw [← hW4]; simp [World.setCell]
  have s1 := Blk.new W4 2 (ints (List.replicate N 0))
  have s2 := s1.alloc (.cells (bools (List.replicate N false)) 4)
  have t1 := Blk.new (W4.alloc (.cells (ints (List.replicate N 0)) 2)) 4 (bools (List.replicate N false))
  have K2 := (K1.alloc (.cells (ints (List.replicate N 0)) 2)).alloc (.cells (bools (List.replicate N false)) 4)
  have k3 := (k2.alloc (.cells (ints (List.replicate N 0)) 2)).alloc (.cells (bools (List.replicate N false)) 4)
  rw [World.size_alloc, hs4] at t1
  rw [hs4] at s2
  have hs5 : ((W4.alloc (.cells (ints (List.replicate N 0)) 2)).alloc (.cells (bools (List.replicate N false)) 4)).heap.size = w3.heap.size + 2 := by simp [hs4]
  clear s1 K1 k2 hW4 hmi hmb e0 e1 e5 e6 e7 g
  generalize (W4.alloc (.cells (ints (List.replicate N 0)) 2)).alloc (.cells (bools (List.replicate N false)) 4) = W5 at *
  rw [run_makeMap]
  have m1 := MapB.new W5
  have s3 := s2.alloc (.map #[] 0)
  have t2 := t1.alloc (.map #[] 0)
  have K3 := K2.alloc (.map #[] 0)
  have k4 := k3.alloc (.map #[] 0)
  have hs6 : (W5.alloc (.map #[] 0)).heap.size = w3.heap.size + 3 := by simp [hs5]
  rw [hs5] at m1
  have hr5 : rb < (W5.alloc (.map #[] 0)).heap.size := by omega
  have g8 := K3.frozen 8
  have c8 : ∃ u, (W5.alloc (.map #[] 0)).cell? ⟨rb, 8, none⟩ = some u := ⟨_, (K3.cell 8).trans (by rw [Array.getElem?_eq_getElem (by simp [rdCells])])⟩
  obtain ⟨u8', c8⟩ := c8
  clear e8 k3 K2 t1 s2
  generalize W5.alloc (.map #[] 0) = W6 at *
  rw [hs5]
  have he : q = headE r [x, wMax, a, b] := HE
  unfold headE at he; simp only at he
  rw [if_neg (by decide), if_neg h2, if_neg h3, if_neg (by simpa using hin), if_neg (by simpa using hin2)] at he
  have hfin : Step B rb w q (.returned (.tuple #[])) (W6.setCell ⟨rb, 8, none⟩ (.map (some (w3.heap.size + 2)))) := by
    refine step_good (k4.setCell (p := ⟨rb, 8, none⟩) (fun _ => .inl rfl) _) he (.inr ⟨rfl, w3.heap.size, w3.heap.size + 1, w3.heap.size + 2, 0, 0, 0, none, #[], ?_⟩)
    rw [hr0, hN]
    have K4 := K3.set_ 8 (.map (some (w3.heap.size + 2)))
    refine ⟨?_, ?_, ?_, ⟨rfl, .inl ⟨rfl, rfl⟩⟩, ?_, .inl ⟨rfl, rfl, rfl⟩, by omega, by omega, by omega⟩
    · simpa [rdCells, rd0] using K4
    · exact s3.far (by show _ ≠ rb; omega) _
    · exact t2.far (by show _ ≠ rb; omega) _
    · exact m1.far (by show _ ≠ rb; omega) _
  have HFin := Lib.hid hfin
  clear hfin he K3 s3 t2 k4 m1
  go_wp2_with fail
  go_end0
  exact HFin.out
theorem problem_any (B rb n : Nat) (r : RdV) (wb : Nat) (ws : List (List UInt8)) (w : World) (hE : Env w) (hR : RdIn B w rb r) (hO : RdOk r) (hW : Blk w wb 9 (ws.map strV).toArray) (hn : n = ws.length) (hlen : ∀ y ∈ ws, y.length ≤ 60000) (hB : B ≤ w.heap.size) :
    Calls Tryz.prog 56 #[.pointer (some ⟨rb, 0, none⟩), .slice (some ⟨wb, 0, none⟩) n n] w (Step B rb w (headE r ws)) := by
  by_cases hl : n = 4
  · subst hl
    match ws, hn with
    | [x, k, a, b], _ =>
      by_cases h1 : k = wMin
      · subst h1; exact problem_min B rb r wb x a b w hE hR hO hW hlen hB
      · by_cases h2 : k = wMax
        · subst h2; exact problem_max B rb r wb x a b w hE hR hO hW hlen hB
        · exact problem_bad B rb r wb x k a b w ⟨h1, h2⟩ hW
  · exact problem_len B rb n r wb ws w hl hn
end Go.Proofs.YtoagphighgejnaaGreatDoor
