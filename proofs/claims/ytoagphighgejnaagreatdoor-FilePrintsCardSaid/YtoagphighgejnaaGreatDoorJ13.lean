/- file: finish (18). Conditions: none. -/
import Derived.Test.YtoagphighgejnaaGreatDoorJ12
import Derived.StillTailTactics
set_option linter.unusedSimpArgs false
set_option linter.unusedVariables false
namespace Go.Proofs.YtoagphighgejnaaGreatDoor
open Go.RowKit Go.Shelf

/-- a step's goal, boxed: a guard that is off must not let it be reckoned through -/
structure StBox (p : Prop) : Prop where
  out : p
theorem stbox_step {P : Program} {ops : Array Oper} {w : World} {Q : Act → Prop} {a : Act} {o : Oper} {rest : List Oper}
    (h : ∀ K : Act → Prop, (∀ a, StBox (wpStill P ops w Q rest a) → K a) → if Region.wanted o (yielded ops a.tmps) then o.still P a w K else K (a.put o.dst undef)) : StBox (wpStill P ops w Q (o :: rest) a) :=
  ⟨wpStill_step (fun K hK => h K (fun a hb => hK a hb.out))⟩
theorem stbox_nil {P : Program} {ops : Array Oper} {w : World} {Q : Act → Prop} {a : Act} (h : Q a) : StBox (wpStill P ops w Q [] a) := ⟨h⟩
/-- a problem as a value -/
def probV (mx : Bool) (S : Option Addr) (n c : Nat) (A : Option Addr) (m c2 : Nat) (s t : Int) : Value := .agg #[.bool mx, .slice S n c, .slice A m c2, .int .i64 s, .int .i64 t]
/-- the value is this problem, in memory -/
def ProbIs (w : World) (p : ProbV) (v : Value) : Prop := ∃ S n c A m c2, v = probV p.max S n c A m c2 p.s p.t ∧ n = p.sup.length ∧ m = p.arcs.length ∧ n ≤ c ∧ m ≤ c2 ∧ Reads w w.heap.size 1 S n (p.sup.map I) ∧ Reads w w.heap.size 5 A m (arcCells p.arcs)
/-- what lies from B on -/
def FromB (B : Nat) (A : Option Addr) : Prop := ∀ b off, A = some ⟨b, off, none⟩ → B ≤ b
theorem own_from {B e size n m c : Nat} {A : Option Addr} {w : World} {xs : List Value} (h : w.ownsRow B e size (.slice A m c) n xs) : FromB B A := by
  intro b off hA
  rcases h.2 with ⟨h1, _⟩ | ⟨g, cap, cur, h1, h2, _⟩
  · injection h1 with h1; rw [h1] at hA; cases hA
  · injection h1 with h1; rw [h1] at hA
    injection hA with hA
    injection hA with hA
    omega
theorem Reads.stay {w w' : World} {B B0 size n : Nat} {A : Option Addr} {xs : List Value} (h : Reads w B size A n xs) (hf : FromB B0 A) (hk : ∀ b i, B0 ≤ b → w'.cell? ⟨b, i, none⟩ = w.cell? ⟨b, i, none⟩) : Reads w' B size A n xs :=
  ⟨h.1, fun hn => by
    obtain ⟨b, off, e, hb, hc⟩ := h.2 hn
    exact ⟨b, off, e, hb, fun j u hu => (hk _ _ (hf b off e)).trans (hc j u hu)⟩⟩
/-- the value is this problem, in memory from B on -/
def ProbAt (B : Nat) (w : World) (p : ProbV) (v : Value) : Prop := ∃ S n c A m c2, v = probV p.max S n c A m c2 p.s p.t ∧ n = p.sup.length ∧ m = p.arcs.length ∧ n ≤ c ∧ m ≤ c2 ∧ Reads w w.heap.size 1 S n (p.sup.map I) ∧ Reads w w.heap.size 5 A m (arcCells p.arcs) ∧ FromB B S ∧ FromB B A
/-- what finish tells -/
def FinTells (B rb : Nat) (w : World) (q : ProbV × Int) (e : Ending) (w' : World) : Prop :=
  Kept (Rs B rb) w w' ∧ ((q.2 = 0 ∧ ∃ v, e = .returned v ∧ ProbAt B w' q.1 v) ∨ (¬ q.2 = 0 ∧ e = .panicked [{ v := faultV q.2, recovered := false }]))
theorem fin_bad {B rb : Nat} {w w' : World} {q : ProbV × Int} {k : Int} (hk : Kept (Rs B rb) w w') (hq : q.2 = k) (h0 : ¬ k = 0) : FinTells B rb w q (.panicked [{ v := faultV k, recovered := false }]) w' := by
  subst hq; exact ⟨hk, .inr ⟨h0, rfl⟩⟩
def FIs (q p : ProbV × Int) : Prop := q = p
/-- a reader whose ends are laid -/
structure FinMid (B : Nat) (w : World) (rb : Nat) (r : RdV) (s t : Int) (sb hb mb m c : Nat) (A : Option Addr) : Prop where
  k : Blk w rb 77 #[.bool r.max, .slice (some ⟨sb, 0, none⟩) r.sup.length r.sup.length, .slice A m c, .int .i64 s, .int .i64 t, .bool r.begun, .int .i64 r.many, .slice (some ⟨hb, 0, none⟩) r.sup.length r.sup.length, .map (some mb)]
  s : Blk w sb 2 (ints r.sup)
  a : w.ownsRow B 42 5 (.slice A m c) m (arcCells r.arcs)
theorem FinMid.on {B rb sb hb mb m c : Nat} {w w' : World} {r : RdV} {s t : Int} {A : Option Addr} (h : FinMid B w rb r s t sb hb mb m c A) (hb' : Below w.heap.size w w') : FinMid B w' rb r s t sb hb mb m c A :=
  ⟨h.k.below hb' h.k.lt, h.s.below hb' h.s.lt, own_below h.a hb'⟩
theorem run_look1 {t kt et : TypeId} {w : World} {r : Nat} {es : Array MapEntry} {clock : Nat} {s : ByteArray} {i : Nat} {v : Value} (hm : Tryz.prog.underlying t = some (.map kt et)) (hk : Tryz.prog.underlying kt = some .string) (hb : MapB w r es clock) (hf : Instr.findNow .string (.string s) es.toList 0 = some (some (i, v))) :
    (Instr.lookup t (.map (some r)) (.string s) false).run Tryz.prog w = .ok v w := by
  have hc : ∀ b, (Instr.checkKey b 10000 kt (.string s)).run Tryz.prog w = .ok () w := fun b => MapKept.run_checkKey (k := .string s) hk (by simp [MapKept.IsKey]) b 9999
  simp [Instr.lookup, run_underlying hm, MapKept.run_getObj_map hb, hc, MapKept.run_findKey hk hf, Result.andThen]
theorem fin_laid {B rb sb hb mb m c clk : Nat} {w : World} {r : RdV} {A : Option Addr} {ents : Array MapEntry} (h : RdMid B w rb r sb hb mb m c clk A ents) (x y : Int) : FinMid B ((w.setCell ⟨rb, 3, none⟩ (.int .i64 x)).setCell ⟨rb, 4, none⟩ (.int .i64 y)).drew rb r x y sb hb mb m c A := by
  have k1 := h.k.set_ 3 (.int .i64 x)
  have hne : sb ≠ rb := h.s.ne_ h.k (by decide)
  refine ⟨?_, ((h.s.far (p := ⟨rb, 3, none⟩) hne _).far (p := ⟨rb, 4, none⟩) hne _).drew, own_off (own_off h.a (p := ⟨rb, 3, none⟩) h.k (by decide) _) (p := ⟨rb, 4, none⟩) k1 (by decide) _⟩
  have := (k1.set_ 4 (.int .i64 y)).drew
  simpa [rdCells] using this
theorem fin_laid2 {B rb sb hb mb m c clk : Nat} {w : World} {r : RdV} {A : Option Addr} {ents : Array MapEntry} (h : RdMid B w rb r sb hb mb m c clk A ents) (x y : Int) : FinMid B ((w.setCell ⟨rb, 4, none⟩ (.int .i64 y)).setCell ⟨rb, 3, none⟩ (.int .i64 x)).drew rb r x y sb hb mb m c A := by
  have k1 := h.k.set_ 4 (.int .i64 y)
  have hne : sb ≠ rb := h.s.ne_ h.k (by decide)
  refine ⟨?_, ((h.s.far (p := ⟨rb, 4, none⟩) hne _).far (p := ⟨rb, 3, none⟩) hne _).drew, own_off (own_off h.a (p := ⟨rb, 4, none⟩) h.k (by decide) _) (p := ⟨rb, 3, none⟩) k1 (by decide) _⟩
  have := (k1.set_ 3 (.int .i64 x)).drew
  simpa [rdCells] using this
/-- a problem stored whole into its block -/
def put5 (w : World) (b : Nat) (v0 v1 v2 v3 v4 : Value) : World := ((((w.setCell ⟨b, 0, none⟩ v0).setCell ⟨b, 1, none⟩ v1).setCell ⟨b, 2, none⟩ v2).setCell ⟨b, 3, none⟩ v3).setCell ⟨b, 4, none⟩ v4
theorem Blk.put5 {w : World} {b : Nat} {t : TypeId} {u0 u1 u2 u3 u4 : Value} (h : Blk w b t #[u0, u1, u2, u3, u4]) (v0 v1 v2 v3 v4 : Value) : Blk (put5 w b v0 v1 v2 v3 v4) b t #[v0, v1, v2, v3, v4] := ((((h.set_ 0 v0).set_ 1 v1).set_ 2 v2).set_ 3 v3).set_ 4 v4
theorem Blk.five {w : World} {b : Nat} {t : TypeId} {u0 u1 u2 u3 u4 : Value} (h : Blk w b t #[u0, u1, u2, u3, u4]) :
    (w.cell? ⟨b, 0, none⟩ = some u0 ∧ w.cell? ⟨b, 1, none⟩ = some u1 ∧ w.cell? ⟨b, 2, none⟩ = some u2 ∧ w.cell? ⟨b, 3, none⟩ = some u3 ∧ w.cell? ⟨b, 4, none⟩ = some u4) ∧
    (w.frozen? ⟨b, 0, none⟩ = false ∧ w.frozen? ⟨b, 1, none⟩ = false ∧ w.frozen? ⟨b, 2, none⟩ = false ∧ w.frozen? ⟨b, 3, none⟩ = false ∧ w.frozen? ⟨b, 4, none⟩ = false) :=
  ⟨⟨h.cell 0, h.cell 1, h.cell 2, h.cell 3, h.cell 4⟩, ⟨h.frozen 0, h.frozen 1, h.frozen 2, h.frozen 3, h.frozen 4⟩⟩
theorem Blk.far5 {w : World} {g b : Nat} {t : TypeId} {cs : Array Value} (h : Blk w g t cs) (hne : g ≠ b) (v0 v1 v2 v3 v4 : Value) : Blk (YtoagphighgejnaaGreatDoor.put5 w b v0 v1 v2 v3 v4) g t cs :=
  ((((h.far (p := ⟨b, 0, none⟩) hne v0).far (p := ⟨b, 1, none⟩) hne v1).far (p := ⟨b, 2, none⟩) hne v2).far (p := ⟨b, 3, none⟩) hne v3).far (p := ⟨b, 4, none⟩) hne v4
theorem own_put5 {w : World} {b base : Nat} {e t : TypeId} {size n : Nat} {v : Value} {xs : List Value} {u0 u1 u2 u3 u4 : Value} (h : w.ownsRow base e size v n xs) (hb : Blk w b t #[u0, u1, u2, u3, u4]) (hne : e ≠ t) (v0 v1 v2 v3 v4 : Value) : (put5 w b v0 v1 v2 v3 v4).ownsRow base e size v n xs := by
  have h1 := own_off h (p := ⟨b, 0, none⟩) hb hne v0
  have b1 := hb.set_ 0 v0
  have h2 := own_off h1 (p := ⟨b, 1, none⟩) b1 hne v1
  have b2 := b1.set_ 1 v1
  have h3 := own_off h2 (p := ⟨b, 2, none⟩) b2 hne v2
  have b3 := b2.set_ 2 v2
  have h4 := own_off h3 (p := ⟨b, 3, none⟩) b3 hne v3
  have b4 := b3.set_ 3 v3
  exact own_off h4 (p := ⟨b, 4, none⟩) b4 hne v4
theorem Kept.put5 {S : Nat → Prop} {w w' : World} {b : Nat} (h : Kept S w w') (hp : b < w.heap.size → S b) (v0 v1 v2 v3 v4 : Value) : Kept S w (YtoagphighgejnaaGreatDoor.put5 w' b v0 v1 v2 v3 v4) :=
  ((((h.setCell (p := ⟨b, 0, none⟩) hp v0).setCell (p := ⟨b, 1, none⟩) hp v1).setCell (p := ⟨b, 2, none⟩) hp v2).setCell (p := ⟨b, 3, none⟩) hp v3).setCell (p := ⟨b, 4, none⟩) hp v4
/-- numbers in a block, read -/
theorem reads_ints {w : World} {sb : Nat} {l : List Int} (h : Blk w sb 2 (ints l)) : Reads w w.heap.size 1 (some ⟨sb, 0, none⟩) l.length (l.map I) :=
  ⟨by simp, fun _ => ⟨sb, 0, rfl, h.lt, fun j u hu => by rw [Nat.zero_add, h.cell]; unfold ints; rw [List.getElem?_toArray]; exact hu⟩⟩
def zeroP : Array Value := #[.bool false, .slice none 0 0, .slice none 0 0, .int .i64 0, .int .i64 0]

set_option maxRecDepth 100000 in
set_option maxHeartbeats 3200000 in
theorem finish_none (B rb : Nat) (r : RdV) (w : World) (hR : RdIn B w rb r) (hbg : r.begun = false) : Calls Tryz.prog 43 #[.pointer (some ⟨rb, 0, none⟩)] w (FinTells B rb w (finE r)) := by
  have hb0 : Below w.heap.size w (w.alloc (.cells zeroP 31)) := (Below.refl _ w).alloc (Nat.le_refl _) _
  obtain ⟨v1, v2, v3, v4, hbr⟩ := (hR.on hb0).blk
  obtain ⟨-, -, c2, -, -, c5, c6, -⟩ := hbr.nine
  rw [hbg] at c5
  have lr := hbr.lt
  unfold zeroP at c2 c5 c6 lr
  obtain ⟨q, HE⟩ : ∃ q, FIs q (finE r) := ⟨_, rfl⟩
  rw [← HE]
  have hq : q.2 = 12 := by
    have he : q = finE r := HE
    rw [he]; unfold finE; rw [if_pos (.inl (by simp [hbg]))]
  have HQ := Lib.hid hq
  have HB0 := Lib.hid hb0
  unfold zeroP at HB0
  clear hbr hR hq hb0 hbg
  go_enter Tryz.func43, Tryz.ntmps43
  go_wp2_with fail
  generalize w.alloc (.cells #[.bool false, .slice none 0 0, .slice none 0 0, .int .i64 0, .int .i64 0] 31) = W0 at *
  refine wp_region_still_tail 19 (by kernel_rfl) (by kernel_rfl) (StBox.out ?_)
  simp only [List.take_succ_cons, List.take_zero, List.drop_succ_cons, List.drop_zero]
  repeat (refine stbox_step (fun K hK => ?_); go_simp; refine hK _ ?_; clear hK K)
  try refine stbox_nil ?_
  change wpList _ _ _ _ _ W0.drew
  go_wp2_with fail
  refine (refuse_or _ _ _).mono ?_
  rintro e _ ⟨rfl, (⟨hq, rfl⟩ | ⟨hq, rfl⟩)⟩
  · exact panic_end rfl (fin_bad (Kept.of_below (HB0.out.drew) _) HQ.out (by decide))
  · exact absurd hq (by simp)
set_option maxRecDepth 100000 in
set_option maxHeartbeats 6400000 in
theorem finish_begun (B rb : Nat) (r : RdV) (w : World) (hR : RdIn B w rb r) (hO : RdOk r) (hbg : r.begun = true) (hB : B ≤ w.heap.size) (hrB : rb < B) : Calls Tryz.prog 43 #[.pointer (some ⟨rb, 0, none⟩)] w (FinTells B rb w (finE r)) := by
  obtain ⟨sb, hb, mb, m, cap, clk, A, ents, hM⟩ : ∃ sb hb mb m c clk A ents, RdMid B w rb r sb hb mb m c clk A ents := by
    rcases hR with ⟨rfl, _⟩ | ⟨_, h⟩
    · cases hbg
    · exact h
  have hb0 : Below w.heap.size w (w.alloc (.cells zeroP 31)) := (Below.refl _ w).alloc (Nat.le_refl _) _
  have hM0 := hM.on hb0
  have hP0 := Blk.new w 31 zeroP
  have HB0 := Lib.hid hb0
  have HML := Lib.hid (arcs_len hM.a)
  have HO := Lib.hid hO
  obtain ⟨q, HE⟩ : ∃ q, FIs q (finE r) := ⟨_, rfl⟩
  rw [← HE]
  unfold zeroP at HB0 hM0 hP0
  have HBG := Lib.hid hbg
  have hm256 : m ≤ 256 := by have := hO.many; have := arcs_len hM.a; omega
  have HSB := Lib.hid hM.sB
  clear hR hO hb0 hM
  go_enter Tryz.func43, Tryz.ntmps43
  go_wp2_with fail
  generalize w.alloc (.cells #[.bool false, .slice none 0 0, .slice none 0 0, .int .i64 0, .int .i64 0] 31) = W0 at *
  obtain ⟨c0, c1, c2, -, -, c5, c6, -, c8⟩ := hM0.k.nine
  have lr := hM0.k.lt
  rw [hbg] at c5
  have HM0 := Lib.hid hM0
  have HP0 := Lib.hid hP0
  clear hM0 hP0 hbg
  refine wp_region_still_tail 19 (by kernel_rfl) (by kernel_rfl) (StBox.out ?_)
  simp only [List.take_succ_cons, List.take_zero, List.drop_succ_cons, List.drop_zero]
  repeat (refine stbox_step (fun K hK => ?_); go_simp; refine hK _ ?_; clear hK K)
  try refine stbox_nil ?_
  change wpList _ _ _ _ _ W0.drew
  go_wp2_with fail
  refine (refuse_or _ _ _).mono ?_
  rintro e _ ⟨rfl, (⟨hq, rfl⟩ | ⟨hq, rfl⟩)⟩
  · have he : q = finE r := HE
    unfold finE at he
    rw [if_pos (.inr (by have := HML.out; simp at hq; omega))] at he
    exact panic_end rfl (fin_bad (Kept.of_below (HB0.out.drew) _) (by rw [he]) (by decide))
  have hge : ¬ (r.arcs.length : Int) < r.many := by have := HML.out; simp at hq; omega
  have HGE := Lib.hid hge
  clear hq hge
  have HB1 := Lib.hid HB0.out.drew
  have HM1 := Lib.hid (HM0.out.on (Below.refl _ _).drew)
  have HP1 := Lib.hid HP0.out.drew
  have lr1 : rb < W0.drew.heap.size := lr
  obtain ⟨c0', -, -, c3', c4', -, -, -, c8'⟩ := HM1.out.k.nine
  have g3 := HM1.out.k.frozen 3
  have g4 := HM1.out.k.frozen 4
  clear c0 c1 c2 c5 c6 c8 HM0 HP0 HB0 lr
  generalize W0.drew = W1 at *
  go_upto_if 30 with fail
  go_cut [] from 30 to 55 (fun wx => ∃ s t, FinMid B wx rb r s t sb hb mb m cap A ∧ Kept (Rs B rb) w wx ∧ Blk wx w.heap.size 31 zeroP ∧ s = r.es.getD 0 ∧ t = r.et.getD 0 ∧ (r.max = true → r.es.isSome = true ∧ r.et.isSome = true))
  case first =>
    cases hm : r.max
    · go_wp2_with fail
      go_meet
      obtain ⟨e1, e2⟩ := HO.out.min hm
      exact ⟨0, 0, ⟨by have := HM1.out.k; exact this, HM1.out.s, HM1.out.a⟩, Kept.of_below HB1.out _, HP1.out, by rw [e1]; rfl, by rw [e2]; rfl, fun h => by rw [hm] at h; cases h⟩
    · have hlen := @run_len_map Tryz.prog W1 75 3 mb ents clk (by kernel_rfl) HM1.out.m
      go_wp2_with fail
      refine (refuse_or _ _ _).mono ?_
      rintro e _ ⟨rfl, (⟨hq, rfl⟩ | ⟨hq, rfl⟩)⟩
      · have hsz := HM1.out.e.size
        have hno : ¬ (r.es.isSome = true ∧ r.et.isSome = true) := hsz.1 (by have : (ents.size : Int) < 2 := (by simpa using hq); omega)
        have he : q = finE r := HE
        unfold finE at he
        rw [if_neg (by rw [not_or]; exact ⟨by simp [HBG.out], by have := HGE.out; omega⟩), if_pos ⟨hm, hno⟩] at he
        exact panic_end rfl (fin_bad (Kept.of_below HB1.out _) (by rw [he]) (by decide))
      have hsz := HM1.out.e.size
      have hboth : r.es.isSome = true ∧ r.et.isSome = true := Classical.not_not.1 fun h => by have h1 := hsz.2 h; have : ¬ (ents.size : Int) < 2 := (by simpa using hq); omega
      obtain ⟨x, hx⟩ := Option.isSome_iff_exists.1 hboth.1
      obtain ⟨y, hy⟩ := Option.isSome_iff_exists.1 hboth.2
      have hfs := HM1.out.e.find.1
      have hft := HM1.out.e.find.2
      rw [hx] at hfs
      rw [hy] at hft
      obtain ⟨i, x', hx', hfs⟩ := hfs.resolve_left (by rintro ⟨_, h⟩; cases h)
      obtain ⟨j, y', hy', hft⟩ := hft.resolve_left (by rintro ⟨_, h⟩; cases h)
      obtain rfl : x = x' := Option.some.inj hx'
      obtain rfl : y = y' := Option.some.inj hy'
      have l1 := run_look1 Tryz.underlying75 Tryz.underlying9 (w := W1.drew) HM1.out.m hfs
      have l2 := run_look1 Tryz.underlying75 Tryz.underlying9 (w := W1.drew) HM1.out.m hft
      have HXY := Lib.hid (And.intro hx (And.intro hy (And.intro hm hboth)))
      clear hlen hq hsz hboth hx hy hfs hft hx' hy'
      go_wp2_with fail
      go_region_law fail
      all_goals go_wp2_with fail
      all_goals go_meet
      all_goals refine ⟨x, y, ?_, ?_, ?_, by rw [HXY.out.1]; rfl, by rw [HXY.out.2.1]; rfl, fun _ => HXY.out.2.2.2⟩
      all_goals first
        | exact fin_laid HM1.out x y
        | exact fin_laid2 HM1.out x y
        | exact (((Kept.of_below HB1.out (Rs B rb)).setCell (p := ⟨rb, 3, none⟩) (fun _ => .inl rfl) _).setCell (p := ⟨rb, 4, none⟩) (fun _ => .inl rfl) _).drew
        | exact (((Kept.of_below HB1.out (Rs B rb)).setCell (p := ⟨rb, 4, none⟩) (fun _ => .inl rfl) _).setCell (p := ⟨rb, 3, none⟩) (fun _ => .inl rfl) _).drew
        | exact ((HP1.out.far (p := ⟨rb, 3, none⟩) (show w.heap.size ≠ rb by omega) _).far (p := ⟨rb, 4, none⟩) (show w.heap.size ≠ rb by omega) _).drew
        | exact ((HP1.out.far (p := ⟨rb, 4, none⟩) (show w.heap.size ≠ rb by omega) _).far (p := ⟨rb, 3, none⟩) (show w.heap.size ≠ rb by omega) _).drew
  case rest =>
    obtain ⟨s, t, hF, hK, hP, hs, ht, hmx⟩ := hcut
    obtain ⟨c0, c1, c2, c3, c4⟩ : wc.cell? ⟨rb, 0, none⟩ = some (.bool r.max) ∧ wc.cell? ⟨rb, 1, none⟩ = some (.slice (some ⟨sb, 0, none⟩) r.sup.length r.sup.length) ∧ wc.cell? ⟨rb, 2, none⟩ = some (.slice A m cap) ∧ wc.cell? ⟨rb, 3, none⟩ = some (.int .i64 s) ∧ wc.cell? ⟨rb, 4, none⟩ = some (.int .i64 t) := ⟨hF.k.cell 0, hF.k.cell 1, hF.k.cell 2, hF.k.cell 3, hF.k.cell 4⟩
    have lr2 := hF.k.lt
    have ls2 := hF.s.lt
    have hn64 := HO.out.n64
    have HF := Lib.hid hF
    have HK := Lib.hid hK
    have HP := Lib.hid hP
    have HST := Lib.hid (And.intro hs (And.intro ht hmx))
    clear hF hK hP hs ht hmx HM1 HB1 HP1 c0' c3' c4' c8' g3 g4 lr1
    go_wp2_with fail
    go_loopw [63, 3] (fun i all wr => ∃ k : Nat, k ≤ r.sup.length ∧ i = .int .i64 k ∧ all = .int .i64 (r.sup.take k).sum ∧ wr = wc) (fun i _ _ => r.sup.length - (intOf i).toNat)
    case atStart => exact ⟨0, Nat.zero_le _, rfl, rfl, rfl⟩
    case round =>
      obtain ⟨k, hk, rfl, rfl, rfl⟩ := hrel
      by_cases hlt : k < r.sup.length
      · obtain ⟨x, hx⟩ : ∃ x, r.sup[k]? = some x := ⟨_, List.getElem?_eq_getElem hlt⟩
        have hcell := (HF.out.s.cell k).trans (ints_at hx)
        have htk : r.sup.take (k + 1) = r.sup.take k ++ [x] := by rw [List.take_add_one, hx]; rfl
        have hsum : (r.sup.take (k + 1)).sum = (r.sup.take k).sum + x := by rw [htk, List.sum_append]; simp
        have hb1 := sum_small (r.sup.take k) 2147483648 (by decide) (fun y hy => HO.out.sup y (List.mem_of_mem_take hy))
        have hb2 := HO.out.sup x (List.mem_of_getElem? hx)
        have hle : (r.sup.take k).length ≤ 64 := by rw [List.length_take]; omega
        have hadd : IntKind.i64.wrap ((r.sup.take k).sum + x) = (r.sup.take k).sum + x := IntWalk.i64_in _ (by omega)
        have HS := Lib.hid hsum
        clear hx htk hsum hb1 hb2 hle
        generalize (r.sup.take k).sum = S at *
        go_wp2_with fail
        go_roundw
        case rel => exact ⟨k + 1, by omega, by go_num, by rw [HS.out], trivial⟩
        case measure => simp [intOf]; omega
      · obtain rfl : k = r.sup.length := by omega
        rw [List.take_of_length_le (Nat.le_refl _)]
        have HSUM := Lib.hid (show ∃ S, S = r.sup.sum from ⟨_, rfl⟩)
        obtain ⟨S, hS⟩ := HSUM.out
        have HS := Lib.hid hS
        rw [← hS]
        have k0 := HP.out.cell 0
        have k1 := HP.out.cell 1
        have k2 := HP.out.cell 2
        have k3 := HP.out.cell 3
        have k4 := HP.out.cell 4
        unfold zeroP at k0 k1 k2 k3 k4
        simp only [List.getElem?_toArray, List.getElem?_cons_zero, List.getElem?_cons_succ] at k0 k1 k2 k3 k4
        have f0 := HP.out.frozen 0
        have f1 := HP.out.frozen 1
        have f2 := HP.out.frozen 2
        have f3 := HP.out.frozen 3
        have f4 := HP.out.frozen 4
        have lP := HP.out.lt
        clear HSUM hS hlt hk
        go_wp2_with fail
        refine (refuse_or _ _ _).mono ?_
        rintro e _ ⟨rfl, (⟨hq, rfl⟩ | ⟨hq, rfl⟩)⟩
        · have he : q = finE r := HE
          unfold finE at he
          rw [if_neg (by rw [not_or]; exact ⟨by simp [HBG.out], by have := HGE.out; omega⟩), if_neg (fun h => h.2 (HST.out.2.2 h.1)), if_pos (by rw [← HS.out]; simpa using hq)] at he
          exact panic_end rfl (fin_bad HK.out (by rw [he]) (by decide))
        have he : q = finE r := HE
        unfold finE at he
        rw [if_neg (by rw [not_or]; exact ⟨by simp [HBG.out], by have := HGE.out; omega⟩), if_neg (fun h => h.2 (HST.out.2.2 h.1)), if_neg (by rw [← HS.out]; simpa using hq), ← HST.out.1, ← HST.out.2.1] at he
        have HQ := Lib.hid (show FIs q _ from he)
        clear he hq
        go_wp2_with fail
        have hw := HP.out
        unfold zeroP at hw
        have hBz := hw.put5 (.bool r.max) (.slice (some ⟨sb, 0, none⟩) r.sup.length r.sup.length) (.slice A m cap) (.int .i64 s) (.int .i64 t)
        have hS5 := HF.out.s.far5 (HF.out.s.ne_ hw (by decide)) (.bool r.max) (.slice (some ⟨sb, 0, none⟩) r.sup.length r.sup.length) (.slice A m cap) (.int .i64 s) (.int .i64 t)
        have hA5 := own_put5 HF.out.a hw (by decide) (.bool r.max) (.slice (some ⟨sb, 0, none⟩) r.sup.length r.sup.length) (.slice A m cap) (.int .i64 s) (.int .i64 t)
        have hK5 := HK.out.put5 (b := w.heap.size) (fun h => absurd h (by omega)) (.bool r.max) (.slice (some ⟨sb, 0, none⟩) r.sup.length r.sup.length) (.slice A m cap) (.int .i64 s) (.int .i64 t)
        change bodyPost _ _ _ _ _ (put5 wr w.heap.size (.bool r.max) (.slice (some ⟨sb, 0, none⟩) r.sup.length r.sup.length) (.slice A m cap) (.int .i64 s) (.int .i64 t))
        generalize put5 wr w.heap.size (.bool r.max) (.slice (some ⟨sb, 0, none⟩) r.sup.length r.sup.length) (.slice A m cap) (.int .i64 s) (.int .i64 t) = WF at hBz hS5 hA5 hK5 ⊢
        obtain ⟨⟨d0, d1, d2, d3, d4⟩, -⟩ := hBz.five
        refine bodyPost_ret (v := probV r.max (some ⟨sb, 0, none⟩) r.sup.length r.sup.length A m cap s t) (by simp [results, Tryz.results43, go_sem, d0, d1, d2, d3, d4, probV]) rfl ?_
        have hqq : q = _ := HQ.out
        refine ⟨hK5, .inl ⟨by rw [hqq], _, rfl, ?_⟩⟩
        rw [hqq]
        exact ⟨_, _, _, _, _, _, rfl, rfl, HML.out, Nat.le_refl _, own_cap hA5, reads_ints hS5, Reads.of_own hA5, fun b off e => (by injection e with e; injection e with e; have := HSB.out; omega), own_from hA5⟩
theorem finish_any (B rb : Nat) (r : RdV) (w : World) (hR : RdIn B w rb r) (hO : RdOk r) (hB : B ≤ w.heap.size) (hrB : rb < B) : Calls Tryz.prog 43 #[.pointer (some ⟨rb, 0, none⟩)] w (FinTells B rb w (finE r)) := by
  by_cases hbg : r.begun = true
  · exact finish_begun B rb r w hR hO hbg hB hrB
  · exact finish_none B rb r w hR (by simpa using hbg)
end Go.Proofs.YtoagphighgejnaaGreatDoor
