/- file: end (38). Conditions: none. -/
import Derived.Test.YtoagphighgejnaaGreatDoorJ7
set_option linter.unusedSimpArgs false
set_option linter.unusedVariables false
namespace Go.Proofs.YtoagphighgejnaaGreatDoor
open Go.RowKit Go.Shelf

theorem Kept.setMap {S : Nat → Prop} {w w' : World} {r : Nat} {es : Array MapEntry} {clock : Nat} (h : Kept S w w') (hM : MapB w' r es clock) (hr : r < w.heap.size → S r) (es' : Array MapEntry) (c' : Nat) : Kept S w (setMap w' r es' c') :=
  ⟨h.os, h.tape, h.output, by rw [size_setMap]; exact h.size, fun i hi hs => ((MapKept.heap_set (w := w') hM).2 i (by rintro rfl; exact hs (hr hi))).trans (h.block i hi hs)⟩
theorem own_setMap {w : World} {base : Nat} {e : TypeId} {size n : Nat} {v : Value} {xs : List Value} {r : Nat} {es : Array MapEntry} {clock : Nat} (h : w.ownsRow base e size v n xs) (hM : MapB w r es clock) (es' : Array MapEntry) (c' : Nat) : (setMap w r es' c').ownsRow base e size v n xs := by
  refine ⟨h.1, ?_⟩
  rcases h.2 with h1 | ⟨g, cap, cur, h1, h2, h3, h4⟩
  · exact .inl h1
  · refine .inr ⟨g, cap, cur, h1, h2, ?_, h4⟩
    have hne : g ≠ r := by rintro rfl; unfold MapB at hM; rw [h3] at hM; cases hM
    exact ((MapKept.heap_set (w := w) hM).2 g hne).trans h3
theorem own_off {w : World} {base : Nat} {e : TypeId} {size n : Nat} {v : Value} {xs : List Value} (h : w.ownsRow base e size v n xs) {p : Addr} {t : TypeId} {cs : Array Value} (hb : Blk w p.block t cs) (hne : e ≠ t) (u : Value) : (w.setCell p u).ownsRow base e size v n xs := by
  refine ⟨h.1, ?_⟩
  rcases h.2 with h1 | ⟨g, cap, cur, h1, h2, h3, h4⟩
  · exact .inl h1
  · refine .inr ⟨g, cap, cur, h1, h2, ?_, h4⟩
    exact (Below.heap_setCell w p u g (Blk.ne_ (t := e) h3 hb hne)).trans h3
theorem MapB.ne {w : World} {r g : Nat} {es : Array MapEntry} {clock : Nat} {t : TypeId} {cs : Array Value} (hM : MapB w r es clock) (h : Blk w g t cs) : r ≠ g := by
  rintro rfl; unfold Blk at h; unfold MapB at hM; rw [h] at hM; cases hM
theorem zero3 (w : World) : (zeroValue 3).run Tryz.prog w = .ok (.int .i64 0) w := by kernel_rfl
theorem arcs_len {B m c : Nat} {A : Option Addr} {w : World} {l : List ArcV} (h : w.ownsRow B 42 5 (.slice A m c) m (arcCells l)) : m = l.length := by
  have := h.1; rw [arcCells_length] at this; omega
/-- a node's place, the panic first -/
theorem place_pan (rb n c : Nat) (A : Option Addr) (v : Int) (b : Bool) (w : World) (hc : w.cell? ⟨rb, 1, none⟩ = some (.slice A n c)) (hlt : rb < w.heap.size) (hn : n ≤ 64) :
    Calls Tryz.prog 76 #[.pointer (some ⟨rb, 0, none⟩), .agg #[.int .i64 v, .bool b]] w fun e w' =>
      ((¬ (b = false ∧ 1 ≤ v ∧ v ≤ n) ∧ e = .panicked [{ v := faultV 11, recovered := false }]) ∨ ((b = false ∧ 1 ≤ v ∧ v ≤ n) ∧ e = .returned (.int .i64 (v - 1)))) ∧ Below w.heap.size w w' := by
  by_cases h : b = false ∧ 1 ≤ v ∧ v ≤ n
  · obtain ⟨rfl, h0, h1⟩ := h
    exact (place_ok rb n c A v w hc hlt h0 h1 hn).mono fun e w' ⟨he, hb⟩ => ⟨.inr ⟨⟨rfl, h0, h1⟩, he⟩, hb⟩
  · exact (place_no rb n c A v b w hc hlt (by cases b <;> simp at h ⊢; omega)).mono fun e w' ⟨he, hb⟩ => ⟨.inl ⟨h, he⟩, hb⟩
theorem figC1 (a : List UInt8) : (figCells [a]).toArray = #[.int .i64 (numL a).1, .bool (decide ((numL a).2 = 11))] := rfl

set_option maxRecDepth 100000 in
theorem end_bad (B rb : Nat) (r : RdV) (x a l : List UInt8) (w : World) (h1 : ¬ l = [115] ∧ ¬ l = [116]) :
    Calls Tryz.prog 75 #[.pointer (some ⟨rb, 0, none⟩), .string ⟨a.toArray⟩, .string ⟨l.toArray⟩] w (Step B rb w (endE r [x, a, l])) := by
  have H : Step B rb w (endE r [x, a, l]) (.panicked [{ v := faultV 10, recovered := false }]) w := by
    refine step_bad (Kept.refl _ _) ?_ (by decide)
    unfold endE; simp only; rw [if_pos h1]
  have H := Lib.hid H
  obtain ⟨K, hK⟩ : ∃ K : ByteArray, K = ⟨l.toArray⟩ := ⟨_, rfl⟩
  have hKd : K.toList = l := by rw [Lib.toList_data, hK]
  rw [← hK]
  have k1 : (K.toList == [115]) = false := by rw [hKd, beq_eq_false_iff_ne]; exact h1.1
  have k2 : (K.toList == [116]) = false := by rw [hKd, beq_eq_false_iff_ne]; exact h1.2
  obtain ⟨X, hX⟩ : ∃ X : ByteArray, X = ⟨a.toArray⟩ := ⟨_, rfl⟩
  rw [← hX]
  obtain ⟨q, HE⟩ : ∃ q, QIs q (endE r [x, a, l]) := ⟨_, rfl⟩
  unfold QIs at HE
  rw [← HE] at H ⊢
  clear hK hKd h1 hX HE
  go_enter Tryz.func75, Tryz.ntmps75
  go_wp2_with fail
  refine (refuse_or _ _ _).mono ?_
  rintro e _ ⟨rfl, (⟨hq, rfl⟩ | ⟨hq, rfl⟩)⟩
  · exact panic_end rfl H.out
  · exact absurd hq (by simp)
set_option maxRecDepth 100000 in
set_option maxHeartbeats 3200000 in
theorem end_s (B rb : Nat) (r : RdV) (x a : List UInt8) (w : World) (hE : Env w) (hbg : r.begun = true) (hR : RdIn B w rb r) (hO : RdOk r) (hlen : a.length ≤ 60000) (hB : B ≤ w.heap.size) (hrB : rb < B) :
    Calls Tryz.prog 75 #[.pointer (some ⟨rb, 0, none⟩), .string ⟨a.toArray⟩, .string ⟨#[115]⟩] w (Step B rb w (endE r [x, a, [115]])) := by
  obtain ⟨sb, hb, mb, m, c, clk, A, ents, hM⟩ : ∃ sb hb mb m c clk A ents, RdMid B w rb r sb hb mb m c clk A ents := by
    rcases hR with ⟨rfl, _⟩ | ⟨_, h⟩
    · cases hbg
    · exact h
  have hb0 : Below w.heap.size w (w.alloc (.cells #[strV a] 9)) := (Below.refl _ w).alloc (Nat.le_refl _) _
  have hW0 : Blk (w.alloc (.cells #[strV a] 9)) w.heap.size 9 ([a].map strV).toArray := Blk.new w 9 #[strV a]
  have hrd := Reads.part hW0 0 1 rfl
  have HF := Lib.hid (figures_pan (figures_in (some ⟨w.heap.size, 0, none⟩) 1 1 [a] _ (hE.on hb0) hrd (by decide) (fun y hy => by simp at hy; subst hy; omega)))
  have hM0 := Lib.hid (hM.on hb0)
  have HO := Lib.hid hO
  obtain ⟨q, HE⟩ : ∃ q, QIs q (endE r [x, a, [115]]) := ⟨_, rfl⟩
  have k0 : Kept (Rs B rb) w (w.alloc (.cells #[strV a] 9)) := Kept.of_below hb0 _
  have HK0 := Lib.hid k0
  rw [← HE]
  unfold strV at HF hM0 HK0 hb0
  have hsz0 : w.heap.size < (w.alloc (.cells #[.string ⟨a.toArray⟩] 9)).heap.size := by simp
  clear hR hO hlen hrd hE hW0 hM k0
  go_enter Tryz.func75, Tryz.ntmps75
  go_wp2_with fail
  refine (refuse_or _ _ _).mono ?_
  rintro e _ ⟨rfl, (⟨hq, rfl⟩ | ⟨hq, rfl⟩)⟩
  · exact absurd hq (by simp)
  go_wp2_with fail
  generalize w.alloc (.cells #[.string ⟨a.toArray⟩] 9) = W0 at *
  refine HF.out.mono ?_
  rintro e w1 (⟨⟨y, hy, hy0⟩, rfl, hb1⟩ | ⟨hok, fb, rfl, hfb, hfs, hb1⟩)
  · have h2 : badW a := by
      simp only [List.mem_cons, List.not_mem_nil, or_false] at hy
      subst hy; exact hy0
    have he : q = endE r [x, a, [115]] := HE
    unfold endE at he; simp only at he
    rw [if_neg (by decide), if_pos h2] at he
    exact panic_end rfl (step_bad (HK0.out.trans (Kept.of_below hb1 _)) (by rw [he]) (by decide))
  have h2 : ¬ badW a := hok a (by simp)
  have k1 := HK0.out.trans (Kept.of_below hb1 (Rs B rb))
  have hM1 := hM0.out.on hb1
  obtain ⟨c0, c1, c2, c3, c4, c5, c6, c7, c8⟩ := hM1.k.nine
  have lr := hM1.k.lt
  have hml := arcs_len hM1.a
  rw [figC1] at hfb
  have d0 := hfb.cell 0
  have d1 := hfb.cell 1
  simp only [List.getElem?_toArray, List.getElem?_cons_zero, List.getElem?_cons_succ] at d0 d1
  have lf := hfb.lt
  have HM1 := Lib.hid hM1
  have HK1 := Lib.hid k1
  have HML := Lib.hid hml
  have HH2 := Lib.hid h2
  clear hfb hok hM1 hM0 HK0 k1 c0 c3 c4 c5 c6 c7 c8 hml h2 HF
  go_wp2_with fail
  refine (refuse_or _ _ _).mono ?_
  rintro e _ ⟨rfl, (⟨hq, rfl⟩ | ⟨hq, rfl⟩)⟩
  · have h3 : ¬ r.arcs = [] := by
      intro h0
      have := HML.out
      rw [h0] at this
      subst this
      simp at hq
    have he : q = endE r [x, a, [115]] := HE
    unfold endE at he; simp only at he
    rw [if_neg (by decide), if_neg HH2.out, if_pos h3] at he
    exact panic_end rfl (step_bad HK1.out (by rw [he]) (by decide))
  have h3 : r.arcs = [] := by
    have := HML.out
    cases hra : r.arcs with
    | nil => rfl
    | cons y ys => rw [hra] at this; subst this; simp at hq
  have H3 := Lib.hid h3
  have hn64 := HO.out.n64
  clear h3 hq
  go_wp2_with fail
  refine (place_pan _ _ _ _ _ _ _ c1 lr hn64).mono ?_
  rintro e w2 ⟨(⟨hi, rfl⟩ | ⟨hi, rfl⟩), hb2⟩
  · have he : q = endE r [x, a, [115]] := HE
    unfold endE at he; simp only at he
    rw [if_neg (by decide), if_neg HH2.out, if_neg (by simpa using H3.out), if_pos (not_in hi)] at he
    exact panic_end rfl (step_bad (HK1.out.trans (Kept.of_below hb2 _)) (by rw [he]) (by decide))
  have hin := in_of hi HH2.out
  obtain ⟨p1, p2⟩ := place_lt hin
  obtain ⟨N, hN⟩ : ∃ N : Nat, N = placeW a := ⟨_, rfl⟩
  rw [← hN] at p1 p2
  rw [p2]
  have HIN := Lib.hid hin
  have HI := Lib.hid hi
  have hM2 := HM1.out.on hb2
  have k2 := HK1.out.trans (Kept.of_below hb2 (Rs B rb))
  obtain ⟨c0, c1', c2', c3, c4, c5, c6, c7, c8⟩ := hM2.k.nine
  have lr2 := hM2.k.lt
  have hlh := HO.out.lens
  obtain ⟨hv, hhv⟩ : ∃ hv, r.had[N]? = some hv := ⟨_, List.getElem?_eq_getElem (by omega)⟩
  have hcell := (hM2.h.cell N).trans (bools_at hhv)
  have hfr := hM2.h.frozen N
  have lh := hM2.h.lt
  have lm := hM2.m.lt
  have HM2 := Lib.hid hM2
  have HK2 := Lib.hid k2
  have HV := Lib.hid hhv
  have HP := Lib.hid p2
  have HNN := Lib.hid hN
  have hfin : ∀ v, hv = v → ¬ v = false ∨ (RdV.es r).isSome = true → q.1 = 13 := by
    intro v hvv hc
    have he : q = endE r [x, a, [115]] := HE
    unfold endE at he; simp only at he
    rw [if_neg (by decide), if_neg HH2.out, if_neg (by simpa using H3.out), if_neg (by simpa using HIN.out), if_pos (by
      rcases hc with hc | hc
      · right; rw [← HNN.out, HV.out, hvv]; cases v <;> simp at hc ⊢
      · left; unfold endOf; rw [if_pos rfl]; exact hc)] at he
    rw [he]
  have HFI := Lib.hid hfin
  clear hi hin c1 c2 d0 d1 c0 c3 c4 c5 c6 hM2 k2 HM1 HK1 p2 hN hhv hfin
  have hfind := HM2.out.e.find.1
  rcases hfind with ⟨hf, hes⟩ | ⟨i, y, hes, hf⟩
  · have hlk := run_look_none Tryz.underlying75 Tryz.underlying9 zero3 HM2.out.m hf
    have HES := Lib.hid hes
    have HFD := Lib.hid hf
    clear hf hes
    go_wp2_with fail
    refine (refuse_or _ _ _).mono ?_
    rintro e _ ⟨rfl, (⟨hq, rfl⟩ | ⟨hq, rfl⟩)⟩
    · exact panic_end rfl (step_bad HK2.out (HFI.out true hq (.inl (by decide))) (by decide))
    subst hq
    have hne1 : ¬ rb = hb := Blk.ne_ HM2.out.k HM2.out.h (by decide)
    have hne2 : ¬ hb = rb := fun e => hne1 e.symm
    have hne3 : sb ≠ hb := Blk.ne_ HM2.out.s HM2.out.h (by decide)
    have hne4 := HM2.out.m.ne HM2.out.h
    have hne5 := HM2.out.m.ne HM2.out.k
    have HNE := Lib.hid (And.intro hne3 (And.intro hne4 hne5))
    clear hne3 hne4 hne5
    go_wp2_with fail
    have K1 := HM2.out.k.far (p := ⟨hb, N, none⟩) hne1 (.bool true)
    have S1 := HM2.out.s.far (p := ⟨hb, N, none⟩) HNE.out.1 (.bool true)
    have D1 := HM2.out.h.set_ N (.bool true)
    rw [bools_set] at D1
    have A1 := own_off HM2.out.a (p := ⟨hb, N, none⟩) HM2.out.h (by decide) (.bool true)
    have M1 := HM2.out.m.far (p := ⟨hb, N, none⟩) HNE.out.2.1 (.bool true)
    have q1 := HK2.out.setCell (p := ⟨hb, N, none⟩) (fun _ => .inr HM2.out.hB) (.bool true)
    generalize w2.setCell ⟨hb, N, none⟩ (.bool true) = W3 at K1 S1 D1 A1 M1 q1 ⊢
    rw [run_put Tryz.underlying75 Tryz.underlying9 M1 HFD.out]
    have he : q = endE r [x, a, [115]] := HE
    unfold endE at he; simp only at he
    have hnh : ¬ ((endOf r [115]).isSome = true ∨ r.had[placeW a]? = some true) := by
      rintro (h | h)
      · unfold endOf at h; rw [if_pos rfl, HES.out] at h; cases h
      · rw [← HNN.out, HV.out] at h; cases h
    rw [if_neg (by decide), if_neg HH2.out, if_neg (by simpa using H3.out), if_neg (by simpa using HIN.out), if_neg hnh] at he
    have hfin : Step B rb w q (.returned (.tuple #[])) (YtoagphighgejnaaGreatDoor.setMap W3 mb (ents.push { key := .string ⟨#[115]⟩, val := .int .i64 N, born := clk }) (clk + 1)) := by
      refine step_good (q1.setMap M1 (fun _ => .inr HM2.out.mB) _ _) he (.inr ⟨hbg, sb, hb, mb, m, c, clk + 1, A, ents.push { key := .string ⟨#[115]⟩, val := .int .i64 N, born := clk }, ?_⟩)
      refine ⟨?_, S1.setMap M1 _ _, ?_, own_setMap A1 M1 _ _, M1.set_ _ _, ?_, HM2.out.sB, HM2.out.hB, HM2.out.mB⟩
      · exact K1.setMap M1 _ _
      · simp only; rw [← HNN.out]; exact D1.setMap M1 _ _
      · have hEN := HM2.out.e
        rw [HES.out] at hEN
        rw [HP.out]
        exact EndsB.putS hEN N clk
    have HFin := Lib.hid hfin
    clear hfin he K1 S1 D1 A1 M1 q1
    go_wp2_with fail
    go_end0
    exact HFin.out
  · have hlk := run_look Tryz.underlying75 Tryz.underlying9 HM2.out.m hf
    have HES := Lib.hid hes
    clear hf hes
    go_wp2_with fail
    refine (refuse_or _ _ _).mono ?_
    rintro e _ ⟨rfl, (⟨hq, rfl⟩ | ⟨hq, rfl⟩)⟩
    · exact panic_end rfl (step_bad HK2.out (HFI.out hv rfl (.inr (by rw [HES.out]; rfl))) (by decide))
    · exact absurd hq (by simp)
set_option maxRecDepth 100000 in
set_option maxHeartbeats 3200000 in
theorem end_t (B rb : Nat) (r : RdV) (x a : List UInt8) (w : World) (hE : Env w) (hbg : r.begun = true) (hR : RdIn B w rb r) (hO : RdOk r) (hlen : a.length ≤ 60000) (hB : B ≤ w.heap.size) (hrB : rb < B) :
    Calls Tryz.prog 75 #[.pointer (some ⟨rb, 0, none⟩), .string ⟨a.toArray⟩, .string ⟨#[116]⟩] w (Step B rb w (endE r [x, a, [116]])) := by
  obtain ⟨sb, hb, mb, m, c, clk, A, ents, hM⟩ : ∃ sb hb mb m c clk A ents, RdMid B w rb r sb hb mb m c clk A ents := by
    rcases hR with ⟨rfl, _⟩ | ⟨_, h⟩
    · cases hbg
    · exact h
  have hb0 : Below w.heap.size w (w.alloc (.cells #[strV a] 9)) := (Below.refl _ w).alloc (Nat.le_refl _) _
  have hW0 : Blk (w.alloc (.cells #[strV a] 9)) w.heap.size 9 ([a].map strV).toArray := Blk.new w 9 #[strV a]
  have hrd := Reads.part hW0 0 1 rfl
  have HF := Lib.hid (figures_pan (figures_in (some ⟨w.heap.size, 0, none⟩) 1 1 [a] _ (hE.on hb0) hrd (by decide) (fun y hy => by simp at hy; subst hy; omega)))
  have hM0 := Lib.hid (hM.on hb0)
  have HO := Lib.hid hO
  obtain ⟨q, HE⟩ : ∃ q, QIs q (endE r [x, a, [116]]) := ⟨_, rfl⟩
  have k0 : Kept (Rs B rb) w (w.alloc (.cells #[strV a] 9)) := Kept.of_below hb0 _
  have HK0 := Lib.hid k0
  rw [← HE]
  unfold strV at HF hM0 HK0 hb0
  have hsz0 : w.heap.size < (w.alloc (.cells #[.string ⟨a.toArray⟩] 9)).heap.size := by simp
  clear hR hO hlen hrd hE hW0 hM k0
  go_enter Tryz.func75, Tryz.ntmps75
  go_wp2_with fail
  refine (refuse_or _ _ _).mono ?_
  rintro e _ ⟨rfl, (⟨hq, rfl⟩ | ⟨hq, rfl⟩)⟩
  · exact absurd hq (by simp)
  go_wp2_with fail
  generalize w.alloc (.cells #[.string ⟨a.toArray⟩] 9) = W0 at *
  refine HF.out.mono ?_
  rintro e w1 (⟨⟨y, hy, hy0⟩, rfl, hb1⟩ | ⟨hok, fb, rfl, hfb, hfs, hb1⟩)
  · have h2 : badW a := by
      simp only [List.mem_cons, List.not_mem_nil, or_false] at hy
      subst hy; exact hy0
    have he : q = endE r [x, a, [116]] := HE
    unfold endE at he; simp only at he
    rw [if_neg (by decide), if_pos h2] at he
    exact panic_end rfl (step_bad (HK0.out.trans (Kept.of_below hb1 _)) (by rw [he]) (by decide))
  have h2 : ¬ badW a := hok a (by simp)
  have k1 := HK0.out.trans (Kept.of_below hb1 (Rs B rb))
  have hM1 := hM0.out.on hb1
  obtain ⟨c0, c1, c2, c3, c4, c5, c6, c7, c8⟩ := hM1.k.nine
  have lr := hM1.k.lt
  have hml := arcs_len hM1.a
  rw [figC1] at hfb
  have d0 := hfb.cell 0
  have d1 := hfb.cell 1
  simp only [List.getElem?_toArray, List.getElem?_cons_zero, List.getElem?_cons_succ] at d0 d1
  have lf := hfb.lt
  have HM1 := Lib.hid hM1
  have HK1 := Lib.hid k1
  have HML := Lib.hid hml
  have HH2 := Lib.hid h2
  clear hfb hok hM1 hM0 HK0 k1 c0 c3 c4 c5 c6 c7 c8 hml h2 HF
  go_wp2_with fail
  refine (refuse_or _ _ _).mono ?_
  rintro e _ ⟨rfl, (⟨hq, rfl⟩ | ⟨hq, rfl⟩)⟩
  · have h3 : ¬ r.arcs = [] := by
      intro h0
      have := HML.out
      rw [h0] at this
      subst this
      simp at hq
    have he : q = endE r [x, a, [116]] := HE
    unfold endE at he; simp only at he
    rw [if_neg (by decide), if_neg HH2.out, if_pos h3] at he
    exact panic_end rfl (step_bad HK1.out (by rw [he]) (by decide))
  have h3 : r.arcs = [] := by
    have := HML.out
    cases hra : r.arcs with
    | nil => rfl
    | cons y ys => rw [hra] at this; subst this; simp at hq
  have H3 := Lib.hid h3
  have hn64 := HO.out.n64
  clear h3 hq
  go_wp2_with fail
  refine (place_pan _ _ _ _ _ _ _ c1 lr hn64).mono ?_
  rintro e w2 ⟨(⟨hi, rfl⟩ | ⟨hi, rfl⟩), hb2⟩
  · have he : q = endE r [x, a, [116]] := HE
    unfold endE at he; simp only at he
    rw [if_neg (by decide), if_neg HH2.out, if_neg (by simpa using H3.out), if_pos (not_in hi)] at he
    exact panic_end rfl (step_bad (HK1.out.trans (Kept.of_below hb2 _)) (by rw [he]) (by decide))
  have hin := in_of hi HH2.out
  obtain ⟨p1, p2⟩ := place_lt hin
  obtain ⟨N, hN⟩ : ∃ N : Nat, N = placeW a := ⟨_, rfl⟩
  rw [← hN] at p1 p2
  rw [p2]
  have HIN := Lib.hid hin
  have HI := Lib.hid hi
  have hM2 := HM1.out.on hb2
  have k2 := HK1.out.trans (Kept.of_below hb2 (Rs B rb))
  obtain ⟨c0, c1', c2', c3, c4, c5, c6, c7, c8⟩ := hM2.k.nine
  have lr2 := hM2.k.lt
  have hlh := HO.out.lens
  obtain ⟨hv, hhv⟩ : ∃ hv, r.had[N]? = some hv := ⟨_, List.getElem?_eq_getElem (by omega)⟩
  have hcell := (hM2.h.cell N).trans (bools_at hhv)
  have hfr := hM2.h.frozen N
  have lh := hM2.h.lt
  have lm := hM2.m.lt
  have HM2 := Lib.hid hM2
  have HK2 := Lib.hid k2
  have HV := Lib.hid hhv
  have HP := Lib.hid p2
  have HNN := Lib.hid hN
  have hfin : ∀ v, hv = v → ¬ v = false ∨ (RdV.et r).isSome = true → q.1 = 13 := by
    intro v hvv hc
    have he : q = endE r [x, a, [116]] := HE
    unfold endE at he; simp only at he
    rw [if_neg (by decide), if_neg HH2.out, if_neg (by simpa using H3.out), if_neg (by simpa using HIN.out), if_pos (by
      rcases hc with hc | hc
      · right; rw [← HNN.out, HV.out, hvv]; cases v <;> simp at hc ⊢
      · left; unfold endOf; rw [if_neg (by decide)]; exact hc)] at he
    rw [he]
  have HFI := Lib.hid hfin
  clear hi hin c1 c2 d0 d1 c0 c3 c4 c5 c6 hM2 k2 HM1 HK1 p2 hN hhv hfin
  have hfind := HM2.out.e.find.2
  rcases hfind with ⟨hf, hes⟩ | ⟨i, y, hes, hf⟩
  · have hlk := run_look_none Tryz.underlying75 Tryz.underlying9 zero3 HM2.out.m hf
    have HES := Lib.hid hes
    have HFD := Lib.hid hf
    clear hf hes
    go_wp2_with fail
    refine (refuse_or _ _ _).mono ?_
    rintro e _ ⟨rfl, (⟨hq, rfl⟩ | ⟨hq, rfl⟩)⟩
    · exact panic_end rfl (step_bad HK2.out (HFI.out true hq (.inl (by decide))) (by decide))
    subst hq
    have hne1 : ¬ rb = hb := Blk.ne_ HM2.out.k HM2.out.h (by decide)
    have hne2 : ¬ hb = rb := fun e => hne1 e.symm
    have hne3 : sb ≠ hb := Blk.ne_ HM2.out.s HM2.out.h (by decide)
    have hne4 := HM2.out.m.ne HM2.out.h
    have hne5 := HM2.out.m.ne HM2.out.k
    have HNE := Lib.hid (And.intro hne3 (And.intro hne4 hne5))
    clear hne3 hne4 hne5
    go_wp2_with fail
    have K1 := HM2.out.k.far (p := ⟨hb, N, none⟩) hne1 (.bool true)
    have S1 := HM2.out.s.far (p := ⟨hb, N, none⟩) HNE.out.1 (.bool true)
    have D1 := HM2.out.h.set_ N (.bool true)
    rw [bools_set] at D1
    have A1 := own_off HM2.out.a (p := ⟨hb, N, none⟩) HM2.out.h (by decide) (.bool true)
    have M1 := HM2.out.m.far (p := ⟨hb, N, none⟩) HNE.out.2.1 (.bool true)
    have q1 := HK2.out.setCell (p := ⟨hb, N, none⟩) (fun _ => .inr HM2.out.hB) (.bool true)
    generalize w2.setCell ⟨hb, N, none⟩ (.bool true) = W3 at K1 S1 D1 A1 M1 q1 ⊢
    rw [run_put Tryz.underlying75 Tryz.underlying9 M1 HFD.out]
    have he : q = endE r [x, a, [116]] := HE
    unfold endE at he; simp only at he
    have hnh : ¬ ((endOf r [116]).isSome = true ∨ r.had[placeW a]? = some true) := by
      rintro (h | h)
      · unfold endOf at h; rw [if_neg (by decide), HES.out] at h; cases h
      · rw [← HNN.out, HV.out] at h; cases h
    rw [if_neg (by decide), if_neg HH2.out, if_neg (by simpa using H3.out), if_neg (by simpa using HIN.out), if_neg hnh] at he
    have hfin : Step B rb w q (.returned (.tuple #[])) (YtoagphighgejnaaGreatDoor.setMap W3 mb (ents.push { key := .string ⟨#[116]⟩, val := .int .i64 N, born := clk }) (clk + 1)) := by
      refine step_good (q1.setMap M1 (fun _ => .inr HM2.out.mB) _ _) he (.inr ⟨hbg, sb, hb, mb, m, c, clk + 1, A, ents.push { key := .string ⟨#[116]⟩, val := .int .i64 N, born := clk }, ?_⟩)
      refine ⟨?_, S1.setMap M1 _ _, ?_, own_setMap A1 M1 _ _, M1.set_ _ _, ?_, HM2.out.sB, HM2.out.hB, HM2.out.mB⟩
      · exact K1.setMap M1 _ _
      · simp only; rw [← HNN.out]; exact D1.setMap M1 _ _
      · have hEN := HM2.out.e
        rw [HES.out] at hEN
        rw [HP.out]
        exact EndsB.putT hEN N clk
    have HFin := Lib.hid hfin
    clear hfin he K1 S1 D1 A1 M1 q1
    go_wp2_with fail
    go_end0
    exact HFin.out
  · have hlk := run_look Tryz.underlying75 Tryz.underlying9 HM2.out.m hf
    have HES := Lib.hid hes
    clear hf hes
    go_wp2_with fail
    refine (refuse_or _ _ _).mono ?_
    rintro e _ ⟨rfl, (⟨hq, rfl⟩ | ⟨hq, rfl⟩)⟩
    · exact panic_end rfl (step_bad HK2.out (HFI.out hv rfl (.inr (by rw [HES.out]; rfl))) (by decide))
    · exact absurd hq (by simp)
theorem end_any (B rb : Nat) (r : RdV) (x a l : List UInt8) (w : World) (hE : Env w) (hbg : r.begun = true) (hR : RdIn B w rb r) (hO : RdOk r) (hlen : a.length ≤ 60000) (hB : B ≤ w.heap.size) (hrB : rb < B) :
    Calls Tryz.prog 75 #[.pointer (some ⟨rb, 0, none⟩), .string ⟨a.toArray⟩, .string ⟨l.toArray⟩] w (Step B rb w (endE r [x, a, l])) := by
  by_cases h1 : l = [115]
  · subst h1; exact end_s B rb r x a w hE hbg hR hO hlen hB hrB
  · by_cases h2 : l = [116]
    · subst h2; exact end_t B rb r x a w hE hbg hR hO hlen hB hrB
    · exact end_bad B rb r x a l w ⟨h1, h2⟩
end Go.Proofs.YtoagphighgejnaaGreatDoor
