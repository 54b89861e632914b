/- adj.New -/
import Derived.Test.YtekajenmkpobgaaK
import Derived.Test.YtekajenmkpobgaaPA
import Derived.Deep.DeepCutAuto
set_option linter.unusedSimpArgs false
set_option linter.unusedVariables false
namespace Go.Proofs.Ytekajenmkpobgaa
open Go.RowKit

/-- behind the first statement: the graph's variable, the graph with its arcs -/
def New1st (n n2 : Nat) (arcs : List ArcV) (w : World) (s3 : Value) (wx : World) : Prop :=
  ∃ (gv gb : Nat) (A2 : Option Addr) (c2 : Nat), s3 = .pointer (some ⟨gv, 0, none⟩) ∧ Blk wx gv 50 #[.pointer (some ⟨gb, 0, none⟩)] ∧ Blk wx gb 69 #[.int .i64 n, .slice A2 n2 c2, .slice none 0 0, .slice none 0 0] ∧
    wx.ownsRow w.heap.size 36 5 (.slice A2 n2 c2) n2 (arcCells arcs) ∧ w.heap.size ≤ gv ∧ w.heap.size ≤ gb ∧ Below w.heap.size w wx

theorem blk_new2 (w : World) (o : Obj) (t : TypeId) (cs : Array Value) : Blk ((w.alloc o).alloc (.cells cs t)) (w.heap.size + 1) t cs := by
  have := Blk.new (w.alloc o) t cs
  rwa [World.size_alloc] at this
theorem blk_new_set (w : World) (p : Addr) (u : Value) (t : TypeId) (cs : Array Value) : Blk ((w.setCell p u).alloc (.cells cs t)) w.heap.size t cs := by
  have := Blk.new (w.setCell p u) t cs
  have hz : (w.setCell p u).heap.size = w.heap.size := by simp [World.setCell]
  rwa [hz] at this
/-- the graph while it is made: its variable, its block, its row of starts -/
structure NS (n n2 : Nat) (arcs : List ArcV) (w : World) (gv gb sb : Nat) (A2 : Option Addr) (c2 : Nat) (lv : Value) (ss : Array Value) (wx : World) : Prop where
  v : Blk wx gv 50 #[.pointer (some ⟨gb, 0, none⟩)]
  g : Blk wx gb 69 #[.int .i64 n, .slice A2 n2 c2, lv, .slice (some ⟨sb, 0, none⟩) (2 * n + 1) (2 * n + 1)]
  s : Blk wx sb 3 ss
  o : wx.ownsRow w.heap.size 36 5 (.slice A2 n2 c2) n2 (arcCells arcs)
  lv : w.heap.size ≤ gv
  lg : w.heap.size ≤ gb
  ls : w.heap.size ≤ sb
  b : Below w.heap.size w wx
section
variable {n n2 : Nat} {arcs : List ArcV} {w wx wy : World} {gv gb sb : Nat} {A2 : Option Addr} {c2 : Nat} {lv : Value} {ss : Array Value}
theorem NS.below (h : NS n n2 arcs w gv gb sb A2 c2 lv ss wx) (hb : Below wx.heap.size wx wy) : NS n n2 arcs w gv gb sb A2 c2 lv ss wy :=
  ⟨h.v.below hb h.v.lt, h.g.below hb h.g.lt, h.s.below hb h.s.lt, own_below h.o hb, h.lv, h.lg, h.ls, h.b.trans (hb.mono h.b.size)⟩
theorem NS.alloc (h : NS n n2 arcs w gv gb sb A2 c2 lv ss wx) (o : Obj) : NS n n2 arcs w gv gb sb A2 c2 lv ss (wx.alloc o) := h.below ((Below.refl _ _).alloc (Nat.le_refl _) o)
theorem NS.drew (h : NS n n2 arcs w gv gb sb A2 c2 lv ss wx) : NS n n2 arcs w gv gb sb A2 c2 lv ss wx.drew := h.below (Below.refl _ _).drew
theorem NS.set (h : NS n n2 arcs w gv gb sb A2 c2 lv ss wx) (k : Nat) (u : Value) : NS n n2 arcs w gv gb sb A2 c2 lv (ss.setIfInBounds k u) (wx.setCell ⟨sb, k, none⟩ u) :=
  ⟨h.v.far (h.v.ne_ h.s (by decide)) u, h.g.far (h.g.ne_ h.s (by decide)) u, h.s.set_ k u, own_other h.o (own_blk_ne h.o h.s (by decide)) u, h.lv, h.lg, h.ls, h.b.setCell (p := ⟨sb, k, none⟩) h.ls u⟩
theorem NS.graph (h : NS n n2 arcs w gv gb sb A2 c2 lv ss wx) (hn : n ≤ 500000000) (hn2 : n2 ≤ 500000000) : GraphA wx wx.heap.size gb n arcs := by
  have hr := Reads.of_own h.o
  refine ⟨h.g.lt, ⟨by omega, ?_⟩, A2, n2, c2, _, _, h.g, hr⟩
  have := hr.1
  rw [arcCells_length] at this
  omega
end
def New2nd (n n2 : Nat) (arcs : List ArcV) (w : World) (s3 : Value) (wx : World) : Prop :=
  ∃ (gv gb sb : Nat) (A2 : Option Addr) (c2 : Nat) (lv : Value) (ss : Array Value), s3 = .pointer (some ⟨gv, 0, none⟩) ∧ NS n n2 arcs w gv gb sb A2 c2 lv ss wx ∧ Row ss (2 * n + 1) (fun _ => 0) ∧ ss.size = 2 * n + 1
theorem madeRow (N : Nat) : Row (madeCells #[.int .i64 0] N) N (fun _ => 0) := by
  refine ⟨by simp [madeCells], fun j hj => ?_⟩
  simp [madeCells, hj, Nat.mod_one]
theorem cnt_le (n : Nat) (arcs : List ArcV) (m j : Nat) : cnt n arcs m j ≤ m := by
  cases j with
  | zero => exact Nat.zero_le _
  | succ j => exact Nat.le_trans (List.length_filter_le _ _) (by simp)
theorem make_rowN (N : Nat) (hn : N ≤ 2000000000) (W : World) : (Instr.makeSlice 28 (.int .i64 (N : Int)) (.int .i64 (N : Int))).run Try.prog W =
    .ok (.slice (some ⟨W.heap.size, 0, none⟩) N N) (W.alloc (.cells (madeCells #[.int .i64 0] N) 3)) := by
  obtain ⟨i3, hi3, hz30, hz31, hz32⟩ := info_parts Try.info3
  have := run_make (P := Try.prog) W 28 3 i3 (.int .i64 0) Try.underlying28 hi3 hz30 .i64 .i64 (N : Int) (N : Int) (by omega) (by omega) (by rw [hz32]; omega) (by omega)
  rw [hz31, Int.toNat_natCast, Nat.mul_one] at this
  exact this
/-- a row of ints alone -/
def IntsA (cs : Array Value) : Prop := ∃ l : List Int, cs = (l.map I).toArray
theorem IntsA.set {cs : Array Value} (h : IntsA cs) (k : Nat) (x : Int) : IntsA (cs.setIfInBounds k (.int .i64 x)) := by
  obtain ⟨l, rfl⟩ := h
  refine ⟨l.set k x, ?_⟩
  rw [List.setIfInBounds_toArray, List.map_set]
  rfl
theorem IntsA.made (N : Nat) : IntsA (madeCells #[.int .i64 0] N) := by
  refine ⟨List.replicate N 0, ?_⟩
  apply Array.ext'
  apply List.ext_getElem?
  intro j
  have := madeRow N
  rcases Nat.lt_or_ge j N with h | h
  · have e := this.2 j h
    rw [Array.getElem?_toList, e]
    simp [h, I]
  · rw [List.getElem?_eq_none (by simp [madeCells]; omega), List.getElem?_eq_none (by simp; omega)]
/-- behind the list's make -/
def New3rd (n n2 : Nat) (arcs : List ArcV) (w : World) (gv gb sb : Nat) (A2 : Option Addr) (c2 : Nat) (ss : Array Value) (s3 : Value) (wx : World) : Prop :=
  ∃ (lb : Nat) (ls : Array Value), s3 = .pointer (some ⟨gv, 0, none⟩) ∧ NS n n2 arcs w gv gb sb A2 c2 (.slice (some ⟨lb, 0, none⟩) (St n arcs (2 * n)) (St n arcs (2 * n))) ss wx ∧ Blk wx lb 3 ls ∧ (ls.size = St n arcs (2 * n) ∧ IntsA ls) ∧ lb ≠ sb ∧ w.heap.size ≤ lb
theorem NS.kept {n n2 : Nat} {arcs : List ArcV} {w wx wy : World} {gv gb sb : Nat} {A2 : Option Addr} {c2 : Nat} {lv : Value} {ss : Array Value} {S : Nat → Prop}
    (h : NS n n2 arcs w gv gb sb A2 c2 lv ss wx) (hk : Kept S wx wy) (h1 : ¬ S gv) (h2 : ¬ S gb) (h3 : ¬ S sb) (h4 : ∀ g, (Value.slice A2 n2 c2).ownBlock = some g → ¬ S g) (h5 : ∀ k, k < w.heap.size → ¬ S k) : NS n n2 arcs w gv gb sb A2 c2 lv ss wy :=
  ⟨h.v.kept hk h1, h.g.kept hk h2, h.s.kept hk h3, own_kept h.o hk h4, h.lv, h.lg, h.ls, h.b.trans (hk.to_below h.b.size h5)⟩
theorem reads_of_row {w : World} {g N : Nat} {cs : Array Value} {f : Nat → Nat} (h : Blk w g 3 cs) (hr : Row cs N f) : Reads w w.heap.size 1 (some ⟨g, 0, none⟩) N (((List.range N).map fun j => (f j : Int)).map I) := by
  refine ⟨by simp, fun _ => ⟨g, 0, rfl, h.lt, fun j u hu => ?_⟩⟩
  rw [Nat.zero_add, h.cell]
  simp only [List.getElem?_map, Option.map_eq_some_iff] at hu
  obtain ⟨x, ⟨y, hy, rfl⟩, rfl⟩ := hu
  have hj : j < N := by
    rcases Nat.lt_or_ge j N with h1 | h1
    · exact h1
    · rw [List.getElem?_eq_none (by simpa using h1)] at hy; cases hy
  rw [List.getElem?_range hj] at hy
  cases hy
  exact hr.2 j hj
theorem row_of_own {w : World} {base N c : Nat} {A : Option Addr} {f : Nat → Nat} (h : w.ownsRow base 3 1 (.slice A N c) N (((List.range N).map fun j => (f j : Int)).map I)) (hN : 0 < N) :
    ∃ nb cs, A = some ⟨nb, 0, none⟩ ∧ base ≤ nb ∧ Blk w nb 3 cs ∧ Row cs N f := by
  rcases h.2 with ⟨_, h1⟩ | ⟨g, cap, cur, h1, h2, h3, h4, h5, h6, h7⟩
  · omega
  · have hA : A = some ⟨g, 0, none⟩ := by injection h1
    refine ⟨g, cur, hA, h2, h3, by omega, fun j hj => ?_⟩
    have e : (cur.toList.take (N * 1))[j]? = cur[j]? := by rw [List.getElem?_take, if_pos (by omega)]; simp
    rw [← e, h7]
    simp [hj, I]
/-- the third loop's state -/
def New4th (n n2 : Nat) (arcs : List ArcV) (w : World) (gv gb sb lb nv nb : Nat) (A2 : Option Addr) (c2 c' : Nat) (ss : Array Value) (m : Nat) (wx : World) : Prop :=
  ∃ (ls ns : Array Value), m ≤ n2 ∧ NS n n2 arcs w gv gb sb A2 c2 (.slice (some ⟨lb, 0, none⟩) (St n arcs (2 * n)) (St n arcs (2 * n))) ss wx ∧ Blk wx lb 3 ls ∧ (Laid n arcs m ls ∧ IntsA ls) ∧
    Blk wx nv 28 #[.slice (some ⟨nb, 0, none⟩) (2 * n + 1) c'] ∧ Blk wx nb 3 ns ∧ Row ns (2 * n) (nxt n arcs m) ∧ nb ≠ lb ∧ nb ≠ sb ∧ lb ≠ sb ∧ w.heap.size ≤ nb ∧ w.heap.size ≤ lb
theorem New1_at (gv gb nv nb lb ll lc nn nc k q : Nat) (ki a : Int) (v0 v1 v3 : Value) (ns ls : Array Value) (w : World) (hki : ki = (k : Int))
    (h1 : Blk w gv 50 #[.pointer (some ⟨gb, 0, none⟩)]) (h2 : Blk w gb 69 #[v0, v1, .slice (some ⟨lb, 0, none⟩) ll lc, v3]) (h3 : Blk w nv 28 #[.slice (some ⟨nb, 0, none⟩) nn nc])
    (h4 : Blk w nb 3 ns) (h5 : Blk w lb 3 ls) (hne : nb ≠ lb) (hk : k < nn) (hkn : ns[k]? = some (.int .i64 q)) (hq : q < ll) (hls : ll ≤ ls.size) (hll : ll ≤ 2000000000) (hnn : nn ≤ 2000000001) :
    Calls Try.prog 43 #[.int .i64 ki, .int .i64 a, .pointer (some ⟨gv, 0, none⟩), .pointer (some ⟨nv, 0, none⟩)] w fun e w' => e = .returned (.tuple #[]) ∧
      Blk w' nb 3 (ns.setIfInBounds k (.int .i64 (q + 1))) ∧ Blk w' lb 3 (ls.setIfInBounds q (.int .i64 a)) ∧ Kept (fun b => b = nb ∨ b = lb) w w' ∧ w'.heap.size = w.heap.size := by
  subst hki
  exact New1_any gv gb nv nb lb ll lc nn nc k q a v0 v1 v3 ns ls w h1 h2 h3 h4 h5 hne hk hkn hq hls hll hnn
theorem graph_of {n n2 : Nat} {arcs : List ArcV} {w wx : World} {gv gb sb lb : Nat} {A2 : Option Addr} {c2 : Nat} {ss ls : Array Value}
    (hS : NS n n2 arcs w gv gb sb A2 c2 (.slice (some ⟨lb, 0, none⟩) (St n arcs (2 * n)) (St n arcs (2 * n))) ss wx) (hlb : Blk wx lb 3 ls) (hlaid : Laid n arcs arcs.length ls) (hia : IntsA ls)
    (hrow : Row ss (2 * n + 1) (St n arcs)) (hsz : ss.size = 2 * n + 1) (hn : n ≤ 1000000000) (hl : arcs.length ≤ 1000000000) : Graph wx wx.heap.size gb n arcs := by
  obtain ⟨l, rfl⟩ := hia
  have hll : l.length = St n arcs (2 * n) := by simpa using hlaid.1
  refine ⟨hS.g.lt, ⟨hn, hl⟩, A2, _, _, n2, c2, _, _, _, _, l, (List.range (2 * n + 1)).map (fun j => (St n arcs j : Int)), hS.g, Reads.of_own hS.o, ?_, reads_of_row hS.s hrow, Nat.le_refl _, Nat.le_refl _, ?_, ?_⟩
  · refine ⟨by simpa using hll, fun _ => ⟨lb, 0, rfl, hlb.lt, fun j u hu => ?_⟩⟩
    rw [Nat.zero_add, hlb.cell]
    simpa using hu
  · have := St_le n arcs (2 * n); omega
  · refine pieces_of (by simp) (fun j hj => by simp [List.getElem?_range (show j < 2 * n + 1 by omega)]) hll (fun j i a hj hi => ?_)
    have := hlaid.2 j i a hj hi
    simp only [List.getElem?_toArray, List.getElem?_map, Option.map_eq_some_iff] at this
    obtain ⟨x, hx, e⟩ := this
    rw [hx]
    simp only [I, Value.int.injEq] at e
    rw [e.2]
theorem field26 (x : Value) (A : Option Addr) (n c : Nat) (W : World) : (Instr.field 26 (.agg #[x, .slice A n c]) 1).run Try.prog W = .ok (.slice A n c) W := by kernel_rfl
theorem make_row (n : Nat) (hn : n ≤ 500000000) (W : World) : (Instr.makeSlice 28 (.int .i64 (2 * (n : Int) + 1)) (.int .i64 (2 * (n : Int) + 1))).run Try.prog W =
    .ok (.slice (some ⟨W.heap.size, 0, none⟩) (2 * n + 1) (2 * n + 1)) (W.alloc (.cells (madeCells #[.int .i64 0] (2 * n + 1)) 3)) := by
  obtain ⟨i3, hi3, hz30, hz31, hz32⟩ := info_parts Try.info3
  have := run_make (P := Try.prog) W 28 3 i3 (.int .i64 0) Try.underlying28 hi3 hz30 .i64 .i64 (2 * (n : Int) + 1) (2 * (n : Int) + 1) (by omega) (by omega) (by rw [hz32]; omega) (by omega)
  rw [hz31, show (2 * (n : Int) + 1).toNat = 2 * n + 1 by omega, Nat.mul_one] at this
  exact this
set_option maxRecDepth 100000 in
set_option maxHeartbeats 2000000 in
theorem New_any (A1 A2 : Option Addr) (n c1 n2 c2 B : Nat) (sup : List Int) (arcs : List ArcV) (w : World) (h1 : Reads w B 1 A1 n (sup.map I)) (h2 : Reads w B 5 A2 n2 (arcCells arcs)) (hB : B ≤ w.heap.size)
    (hn1 : n ≤ 500000000) (hn2 : n2 ≤ 500000000) :
    Calls Try.prog 25 #[.agg #[.slice A1 n c1, .slice A2 n2 c2]] w fun e w' => ∃ g, e = .returned (.pointer (some ⟨g, 0, none⟩)) ∧ Graph w' w'.heap.size g n arcs ∧ Below w.heap.size w w' := by
  have hfl := field26
  go_enter Try.func25, Try.ntmps25
  go_upto_region 1 with fail
  go_cut [3] (fun s3 wx => New1st n n2 arcs w s3 wx)
  case first =>
    go_region_held3 (fun w' => w'.cell? ⟨w.heap.size, 0, none⟩ = some (.slice A1 n c1) ∧ w'.cell? ⟨w.heap.size, 1, none⟩ = some (.slice A2 n2 c2)) (go_keep)
      (first | (go_at_call 41; refine (Copy_any A1 A2 n c1 n2 c2 B sup arcs _ (by exact h1.below (by repeat (first | exact Below.refl _ _ | refine Below.drew ?_ | refine Below.alloc ?_ (by first | omega | (simp; done) | (simp; omega)) _))) (by exact h2.below (by repeat (first | exact Below.refl _ _ | refine Below.drew ?_ | refine Below.alloc ?_ (by first | omega | (simp; done) | (simp; omega)) _))) (by simp; try omega) (by omega) (by omega)).mono ?_; rintro e w1 ⟨A1', A2', c1', c2', rfl, o1, b1⟩; have k0 : w1.cell? ⟨w.heap.size, 0, none⟩ = some (.slice A1 n c1) := (b1.cell (p := ⟨w.heap.size, 0, none⟩) (by simp; try omega)).trans (by simp [*]); have k1 : w1.cell? ⟨w.heap.size, 1, none⟩ = some (.slice A2 n2 c2) := (b1.cell (p := ⟨w.heap.size, 1, none⟩) (by simp; try omega)).trans (by simp [*]); have hcf := bcell b1; have l1 := b1.size; simp only [World.size_drew, World.size_alloc] at hcf l1; obtain ⟨hc1, hf1⟩ := hcf; have l2 : w.heap.size < w1.heap.size := (by omega); try (have l3 : w.heap.size + 1 < w1.heap.size := (by omega))))
    · go_wp2_with fail
      go_meet
      have hb : Below w.heap.size w w1 := (((Below.refl _ w).alloc (Nat.le_refl _) _).drew).trans (b1.mono (by simp))
      exact ⟨w1.heap.size + 1, w1.heap.size, A2', c2', rfl, blk_new2 _ _ _ _, (Blk.new w1 69 _).alloc _, own_mono ((o1.alloc _).alloc _) (by simp), by omega, by omega, (hb.alloc (by omega) _).alloc (by simp; omega) _⟩
    · go_wp2_with fail
      go_meet
      have hb : Below w.heap.size w w1 := (((Below.refl _ w).alloc (Nat.le_refl _) _).drew).trans (b1.mono (by simp))
      exact ⟨w1.heap.size, w1.heap.size + 1, A2', c2', rfl, (Blk.new w1 50 _).alloc _, blk_new2 _ _ _ _, own_mono ((o1.alloc _).alloc _) (by simp), by omega, by omega, (hb.alloc (by omega) _).alloc (by simp; omega) _⟩
    · go_wp2_with fail
      go_meet
      have hb : Below w.heap.size w w1 := ((((Below.refl _ w).alloc (Nat.le_refl _) _).alloc (by simp) _).drew).trans (b1.mono (by simp; omega))
      have hv : Blk w1 (w.heap.size + 1) 50 #[.pointer none] := (blk_new2 w _ 50 #[.pointer none]).drew.below b1 (by simp)
      have hz : (w1.setCell ⟨w.heap.size + 1, 0, none⟩ (.pointer (some ⟨w1.heap.size, 0, none⟩))).heap.size = w1.heap.size := by simp [World.setCell]
      exact ⟨w.heap.size + 1, w1.heap.size, A2', c2', rfl, ((hv.set_ 0 _).alloc _), blk_new_set _ _ _ _ _, own_mono ((own_far o1 (by simp) _).alloc _) (by simp; omega), by omega, by omega, (hb.setCell (by simp) _).alloc (by omega) _⟩
  case rest =>
    obtain ⟨gv, gb, A2', c2', rfl, hgv, hgb, ho, lv, lg, hbw⟩ := hcut
    have q1 := hgv.cell 0
    have q2 := hgb.cell 0
    have q3 := hgb.cell 3
    have f3 := hgb.frozen 3
    simp only [List.getElem?_toArray, List.getElem?_cons_zero, List.getElem?_cons_succ] at q1 q2 q3
    have w1 : IntKind.i64.wrap (2 * (n : Int)) = 2 * (n : Int) := IntWalk.i64_in _ (by omega)
    have w2 : IntKind.i64.wrap (2 * (n : Int) + 1) = 2 * (n : Int) + 1 := IntWalk.i64_in _ (by omega)
    have ltv := hgv.lt
    have ltg := hgb.lt
    obtain ⟨i3, hi3, hz30, hz31, hz32⟩ := info_parts Try.info3
    have hmk := make_row n hn1
    have nvg : ¬ gv = gb := hgv.ne_ hgb (by decide)
    have ngv : ¬ gb = gv := fun h => nvg h.symm
    have e1 := World.new_ne wc ⟨gv, 0, none⟩ q1
    have e2 := World.new_ne wc ⟨gb, 0, none⟩ q2
    have kk1 : ∀ u o, ((wc.setCell ⟨gb, 3, none⟩ u).alloc o).cell? ⟨gb, 0, none⟩ = some (.int .i64 n) := fun u o => by simpa using ((hgb.set_ 3 u).alloc o).cell 0
    have kk2 : ∀ u, (wc.setCell ⟨gb, 3, none⟩ u).cell? ⟨gb, 0, none⟩ = some (.int .i64 n) := fun u => by simpa using (hgb.set_ 3 u).cell 0
    go_upto_region 2 with fail
    go_cut [3] (fun s3 wx => New2nd n n2 arcs w s3 wx)
    case first =>
      go_region_held3 (fun w' => w'.cell? ⟨gv, 0, none⟩ = some (.pointer (some ⟨gb, 0, none⟩)) ∧ w'.cell? ⟨gb, 0, none⟩ = some (.int .i64 n)) (go_keep) (fail)
      go_wp2_with fail
      go_meet
      have hz : (wc.setCell ⟨gb, 3, none⟩ (.slice (some ⟨wc.heap.size, 0, none⟩) (2 * n + 1) (2 * n + 1))).heap.size = wc.heap.size := by simp [World.setCell]
      refine ⟨gv, gb, wc.heap.size, A2', c2', .slice none 0 0, _, rfl, ⟨(hgv.far nvg _).alloc _, (hgb.set_ 3 _).alloc _, blk_new_set _ _ _ _ _, (own_other ho ?_ _).alloc _, lv, lg, by omega, ((hbw.setCell (p := ⟨gb, 3, none⟩) lg _).alloc (by have := hbw.size; omega) _).drew⟩, madeRow _, by simp [madeCells]⟩
      exact own_blk_ne ho hgb (by decide)
    case rest =>
      clear q1 q2 q3 f3 w1 w2 ltv ltg hmk hgv hgb ho lv lg hbw nvg ngv e1 e2 kk1 kk2
      obtain ⟨gv, gb, sb, A2', c2', lv, ss, rfl, hS, hrow, hsz⟩ := hcut
      have q1 := hS.v.cell 0
      have q2 := hS.g.cell 1
      simp only [List.getElem?_toArray, List.getElem?_cons_zero, List.getElem?_cons_succ] at q1 q2
      go_wp2_with fail
      go_loopw [36] (fun i wr => ∃ (m : Nat) (ss : Array Value), m ≤ n2 ∧ i = .int .i64 m ∧ NS n n2 arcs w gv gb sb A2' c2' lv ss wr ∧ Row ss (2 * n + 1) (cnt n arcs m) ∧ ss.size = 2 * n + 1) (fun i _ => n2 - (intOf i).toNat)
      case atStart => exact ⟨0, ss, Nat.zero_le _, rfl, hS, hrow.congr (fun j hj => by cases j <;> rfl), hsz⟩
      case round =>
        clear q1 q2 hS hrow hsz
        obtain ⟨m, ss, hm, rfl, hS, hrow, hsz⟩ := hrel
        by_cases hlt : m < n2
        · have q1 := hS.v.cell 0
          simp only [List.getElem?_toArray, List.getElem?_cons_zero, List.getElem?_cons_succ] at q1
          obtain ⟨x, hx⟩ : ∃ x, arcs[m]? = some x := ⟨_, List.getElem?_eq_getElem (by have := (Reads.of_own hS.o).1; rw [arcCells_length] at this; omega)⟩
          have HX := Lib.hid hx
          clear hx
          cases hf : fitB n x with
          | false =>
            have HF := Lib.hid hf
            clear hf
            go_wp2_with fail
            refine (Arc_none _ gb n arcs _ (hS.graph hn1 hn2) (Nat.le_refl _) m (by simp [arcAt, HX.out, HF.out])).mono ?_
            rintro e w1 ⟨rfl, hb1⟩
            go_wp2_with fail
            go_roundw
            case rel => exact ⟨m + 1, ss, by omega, by go_num, (hS.below hb1).alloc _, hrow.congr (fun j _ => (cnt_skip HX.out HF.out j).symm), hsz⟩
            case measure => simp [intOf]; omega
          | true =>
            obtain ⟨b1, b2, b3, b4⟩ := fit_bounds hf
            have HF := Lib.hid hf
            clear hf
            obtain ⟨xf, xt, lo, cap, cost⟩ := x
            simp only at b1 b2 b3 b4
            obtain ⟨f, rfl⟩ := Int.eq_ofNat_of_zero_le b1
            obtain ⟨t, rfl⟩ := Int.eq_ofNat_of_zero_le b3
            have hG := hS.graph hn1 hn2
            have HG := Lib.hid hG
            clear hG
            go_wp2_with fail
            refine (Arc_some _ gb n arcs _ HG.out (Nat.le_refl _) m ⟨f, t, lo, cap, cost⟩ (by simp [arcAt, HX.out, HF.out])).mono ?_
            rintro e w1 ⟨rfl, hb1⟩
            have hS1 := (hS.below hb1).alloc (.cells #[.int .i64 f, .int .i64 t, .int .i64 lo, .int .i64 cap, .int .i64 cost] 36)
            have hX1 := Blk.new w1 36 #[.int .i64 f, .int .i64 t, .int .i64 lo, .int .i64 cap, .int .i64 cost]
            clear q1
            go_wp2_with fail
            generalize w1.alloc (.cells #[.int .i64 f, .int .i64 t, .int .i64 lo, .int .i64 cap, .int .i64 cost] 36) = W at *
            generalize w1.heap.size = xb at *
            have q1 := hS1.v.cell 0
            have q2 := hS1.g.cell 3
            have q3 := hX1.cell 0
            have q4 := hX1.cell 1
            have r1 := hS1.s.cell (2 * f + 1)
            have r2 := hS1.s.cell (2 * t + 2)
            rw [hrow.2 _ (by omega)] at r1 r2
            have f1 := hS1.s.frozen (2 * f + 1)
            have f2 := hS1.s.frozen (2 * t + 2)
            simp only [List.getElem?_toArray, List.getElem?_cons_zero, List.getElem?_cons_succ] at q1 q2 q3 q4
            have cb1 := cnt_le n arcs m (2 * f + 1)
            have cb2 := cnt_le n arcs m (2 * t + 2)
            obtain ⟨cf, hcf⟩ : ∃ cf, cf = cnt n arcs m (2 * f + 1) := ⟨_, rfl⟩
            obtain ⟨ct, hct⟩ : ∃ ct, ct = cnt n arcs m (2 * t + 2) := ⟨_, rfl⟩
            rw [← hcf] at r1 cb1
            rw [← hct] at r2 cb2
            have HCF := Lib.hid hcf
            have HCT := Lib.hid hct
            clear hcf hct
            have v1 : IntKind.i64.wrap (2 * (f : Int)) = 2 * (f : Int) := IntWalk.i64_in _ (by omega)
            have v2 : IntKind.i64.wrap (2 * (f : Int) + 1) = 2 * (f : Int) + 1 := IntWalk.i64_in _ (by omega)
            have v3 : IntKind.i64.wrap ((cf : Int) + 1) = (cf : Int) + 1 := IntWalk.i64_in _ (by omega)
            have v4 : (2 * (f : Int) + 1).toNat = 2 * f + 1 := by omega
            have v5 : 0 ≤ 2 * (f : Int) + 1 := by omega
            have v6 : 2 * (f : Int) + 1 < 2 * (n : Int) + 1 := by omega
            go_still_tail 13, (by kernel_rfl)
            change wpList _ _ _ _ _ W.drew
            go_wp2_with fail
            have hS2 := (hS1.set (2 * f + 1) (.int .i64 ((cf : Int) + 1))).drew
            have hX2 := (hX1.far (p := ⟨sb, 2 * f + 1, none⟩) (hX1.ne_ hS1.s (by decide)) (.int .i64 ((cf : Int) + 1))).drew
            have hrow2 := hrow.set (2 * f + 1) (cf + 1)
            generalize (W.setCell ⟨sb, 2 * f + 1, none⟩ (.int .i64 ((cf : Int) + 1))).drew = W2 at *
            rw [Int.natCast_add, Int.natCast_one] at hrow2
            clear q1 q2 q3 q4 r1 r2 f1 f2 v1 v2 v3 v4 v5 v6 hS1 hX1
            have q1 := hS2.v.cell 0
            have q2 := hS2.g.cell 3
            have q4 := hX2.cell 1
            have r2 : W2.cell? ⟨sb, 2 * t + 2, none⟩ = some (.int .i64 (ct : Int)) := by
              rw [hS2.s.cell, hrow2.2 _ (by omega), HCT.out]
              simp only [if_neg (show ¬ 2 * t + 2 = 2 * f + 1 by omega)]
            have f2 := hS2.s.frozen (2 * t + 2)
            simp only [List.getElem?_toArray, List.getElem?_cons_zero, List.getElem?_cons_succ] at q1 q2 q4
            have v1 : IntKind.i64.wrap (2 * (t : Int)) = 2 * (t : Int) := IntWalk.i64_in _ (by omega)
            have v2 : IntKind.i64.wrap (2 * (t : Int) + 1) = 2 * (t : Int) + 1 := IntWalk.i64_in _ (by omega)
            have v2' : IntKind.i64.wrap (2 * (t : Int) + 1 + 1) = 2 * (t : Int) + 1 + 1 := IntWalk.i64_in _ (by omega)
            have v3 : IntKind.i64.wrap ((ct : Int) + 1) = (ct : Int) + 1 := IntWalk.i64_in _ (by omega)
            have v4 : (2 * (t : Int) + 1 + 1).toNat = 2 * t + 2 := by omega
            have v5 : 0 ≤ 2 * (t : Int) + 1 + 1 := by omega
            have v6 : 2 * (t : Int) + 1 + 1 < 2 * (n : Int) + 1 := by omega
            go_still_tail 13, (by kernel_rfl)
            change wpList _ _ _ _ _ W2.drew
            go_wp2_with fail
            have hS3 := (hS2.set (2 * t + 2) (.int .i64 ((ct : Int) + 1))).drew
            have hrow3 := hrow2.set (2 * t + 2) (ct + 1)
            rw [Int.natCast_add, Int.natCast_one] at hrow3
            clear q1 q2 q4 r2 f2 v1 v2 v2' v3 v4 v5 v6
            go_roundw
            case rel =>
              refine ⟨m + 1, _, by omega, by go_num, hS3, hrow3.congr (fun j _ => ?_), by simpa using hsz⟩
              rw [cnt_step HX.out HF.out f t rfl rfl]
              by_cases j1 : j = 2 * t + 2
              · subst j1; rw [if_pos rfl, if_pos rfl, ← HCT.out]
              · rw [if_neg j1, if_neg j1]
                by_cases j2 : j = 2 * f + 1
                · subst j2; rw [if_pos rfl, if_pos rfl, ← HCF.out]
                · rw [if_neg j2, if_neg j2]
            case measure => simp [intOf]; omega
        · have hlen : arcs.length = n2 := by have := (Reads.of_own hS.o).1; rw [arcCells_length] at this; omega
          have hmn : m = arcs.length := by omega
          rw [hmn] at hrow
          have hl1 : arcs.length ≤ 500000000 := by omega
          clear hmn hlen
          have q1 := hS.v.cell 0
          have q2 := hS.g.cell 0
          simp only [List.getElem?_toArray, List.getElem?_cons_zero, List.getElem?_cons_succ] at q1 q2
          go_wp2_with fail
          go_loopw [78] (fun i wr => ∃ (k : Nat) (ss : Array Value), k ≤ 2 * n ∧ i = .int .i64 k ∧ NS n n2 arcs w gv gb sb A2' c2' lv ss wr ∧ Row ss (2 * n + 1) (part n arcs k) ∧ ss.size = 2 * n + 1) (fun i _ => 2 * n - (intOf i).toNat)
          case atStart => exact ⟨0, ss, Nat.zero_le _, rfl, hS, hrow.congr (fun j _ => (part_zero n arcs j).symm), hsz⟩
          case round =>
            clear q1 q2 hS hrow hsz hlt hm
            obtain ⟨k, ss, hk, rfl, hS, hrow, hsz⟩ := hrel
            by_cases hlt : k < 2 * n
            · have q1 := hS.v.cell 0
              have q2 := hS.g.cell 3
              have r1 := hS.s.cell (k + 1)
              have r2 := hS.s.cell k
              rw [hrow.2 _ (by omega)] at r1 r2
              have f1 := hS.s.frozen (k + 1)
              simp only [List.getElem?_toArray, List.getElem?_cons_zero, List.getElem?_cons_succ] at q1 q2
              have cb1 : part n arcs k (k + 1) ≤ 500000000 := by
                unfold part; rw [if_neg (by omega)]; exact Nat.le_trans (cnt_le _ _ _ _) hl1
              have cb2 : part n arcs k k ≤ 1000000000 := by
                unfold part; rw [if_pos (Nat.le_refl _)]; have := St_le n arcs k; omega
              obtain ⟨p1, hp1⟩ : ∃ p1, p1 = part n arcs k (k + 1) := ⟨_, rfl⟩
              obtain ⟨p2, hp2⟩ : ∃ p2, p2 = part n arcs k k := ⟨_, rfl⟩
              rw [← hp1] at r1 cb1
              rw [← hp2] at r2 cb2
              have HP1 := Lib.hid hp1
              have HP2 := Lib.hid hp2
              clear hp1 hp2
              have v1 : IntKind.i64.wrap ((k : Int) + 1) = (k : Int) + 1 := IntWalk.i64_in _ (by omega)
              have v3 : IntKind.i64.wrap ((p1 : Int) + (p2 : Int)) = (p1 : Int) + (p2 : Int) := IntWalk.i64_in _ (by omega)
              have v4 : ((k : Int) + 1).toNat = k + 1 := by omega
              have v5 : 0 ≤ (k : Int) + 1 := by omega
              have v6 : (k : Int) + 1 < 2 * (n : Int) + 1 := by omega
              have v7 : (k : Int) < 2 * (n : Int) + 1 := by omega
              have v8 : 0 ≤ (k : Int) := by omega
              go_wp2_with fail
              go_still_tail 17, (by kernel_rfl)
              change wpList _ _ _ _ _ wr.drew
              go_wp2_with fail
              go_roundw
              case rel =>
                have hr2 := hrow.set (k + 1) (p1 + p2)
                rw [Int.natCast_add] at hr2
                refine ⟨k + 1, _, by omega, by go_num, (hS.set (k + 1) (.int .i64 ((p1 : Int) + (p2 : Int)))).drew, hr2.congr (fun j _ => ?_), by simpa using hsz⟩
                rw [part_succ, HP1.out, HP2.out]
              case measure => simp [intOf]; omega
            · have hk2 : k = 2 * n := by omega
              subst hk2
              have hrow' : Row ss (2 * n + 1) (St n arcs) := hrow.congr (fun j hj => by unfold part; rw [if_pos (by omega)])
              clear hrow hlt hk
              have q1 := hS.v.cell 0
              have q2 := hS.g.cell 3
              have q3 := hS.g.cell 0
              have q4 := hS.g.cell 2
              have f4 := hS.g.frozen 2
              have r1 := hS.s.cell (2 * n)
              rw [hrow'.2 _ (by omega)] at r1
              simp only [List.getElem?_toArray, List.getElem?_cons_zero, List.getElem?_cons_succ] at q1 q2 q3 q4
              have hL := St_le n arcs (2 * n)
              obtain ⟨L, hLe⟩ : ∃ L, L = St n arcs (2 * n) := ⟨_, rfl⟩
              rw [← hLe] at hL r1
              have HL := Lib.hid hLe
              clear hLe
              have v1 : IntKind.i64.wrap (2 * (n : Int)) = 2 * (n : Int) := IntWalk.i64_in _ (by omega)
              have v4 : (2 * (n : Int)).toNat = 2 * n := by omega
              have v5 : 0 ≤ 2 * (n : Int) := by omega
              have v6 : 2 * (n : Int) < 2 * (n : Int) + 1 := by omega
              have nvg : ¬ gv = gb := hS.v.ne_ hS.g (by decide)
              have ngv : ¬ gb = gv := fun h => nvg h.symm
              have ngs : ¬ gb = sb := hS.g.ne_ hS.s (by decide)
              have nsg : ¬ sb = gb := fun h => ngs h.symm
              have e1 := World.new_ne wr ⟨gv, 0, none⟩ q1
              have e2 := World.new_ne wr ⟨gb, 0, none⟩ q3
              have e3 := World.new_ne wr ⟨gb, 3, none⟩ q2
              have e4 := World.new_ne wr ⟨sb, 2 * n, none⟩ r1
              have hmk := make_rowN L (by omega)
              have ltv := hS.v.lt
              have ltg := hS.g.lt
              have lts := hS.s.lt
              have kk1 : ∀ u o, ((wr.setCell ⟨gb, 2, none⟩ u).alloc o).cell? ⟨gb, 0, none⟩ = some (.int .i64 n) := fun u o => by simpa using ((hS.g.set_ 2 u).alloc o).cell 0
              have kk2 : ∀ u, (wr.setCell ⟨gb, 2, none⟩ u).cell? ⟨gb, 0, none⟩ = some (.int .i64 n) := fun u => by simpa using (hS.g.set_ 2 u).cell 0
              have kk3 : ∀ u o, ((wr.setCell ⟨gb, 2, none⟩ u).alloc o).cell? ⟨gb, 3, none⟩ = some (.slice (some ⟨sb, 0, none⟩) (2 * n + 1) (2 * n + 1)) := fun u o => by simpa using ((hS.g.set_ 2 u).alloc o).cell 3
              have kk4 : ∀ u, (wr.setCell ⟨gb, 2, none⟩ u).cell? ⟨gb, 3, none⟩ = some (.slice (some ⟨sb, 0, none⟩) (2 * n + 1) (2 * n + 1)) := fun u => by simpa using (hS.g.set_ 2 u).cell 3
              go_upto_region 16 with fail
              go_cut [3] (fun s3 wx => New3rd n n2 arcs w gv gb sb A2' c2' ss s3 wx)
              case first =>
                go_region_held3 (fun w' => w'.cell? ⟨gv, 0, none⟩ = some (.pointer (some ⟨gb, 0, none⟩)) ∧ w'.cell? ⟨gb, 0, none⟩ = some (.int .i64 n) ∧ w'.cell? ⟨gb, 3, none⟩ = some (.slice (some ⟨sb, 0, none⟩) (2 * n + 1) (2 * n + 1)) ∧ w'.cell? ⟨sb, 2 * n, none⟩ = some (.int .i64 L)) (go_keep) (fail)
                go_wp2_with fail
                go_meet
                have hz : (wr.setCell ⟨gb, 2, none⟩ (.slice (some ⟨wr.heap.size, 0, none⟩) L L)).heap.size = wr.heap.size := by simp [World.setCell]
                have hb2 : Below w.heap.size w (wr.setCell ⟨gb, 2, none⟩ (.slice (some ⟨wr.heap.size, 0, none⟩) L L)) := hS.b.setCell (p := ⟨gb, 2, none⟩) hS.lg _
                unfold New3rd
                rw [← HL.out]
                refine ⟨wr.heap.size, _, rfl, ⟨(hS.v.far nvg _).alloc _, (hS.g.set_ 2 _).alloc _, (hS.s.far nsg _).alloc _, (own_other hS.o ?_ _).alloc _, hS.lv, hS.lg, hS.ls, (hb2.alloc hb2.size _).drew⟩, blk_new_set _ _ _ _ _, ⟨by simp [madeCells], IntsA.made _⟩, by omega, hS.b.size⟩
                exact own_blk_ne hS.o hS.g (by decide)
              case rest =>
                clear q1 q2 q3 q4 f4 r1 hL HL v1 v4 v5 v6 nvg ngv ngs nsg e1 e2 e3 e4 hmk ltv ltg lts kk1 kk2 kk3 kk4 hS
                obtain ⟨lb, ls, rfl, hS, hlb, hlz, hls, hlw⟩ := hcut
                have q1 := hS.v.cell 0
                have q2 := hS.g.cell 3
                simp only [List.getElem?_toArray, List.getElem?_cons_zero, List.getElem?_cons_succ] at q1 q2
                have hrd := reads_of_row hS.s hrow'
                have hmf : ∀ (fn : Fn) (first cap : Array Value) (w : World), (Instr.makeFunc fn first cap).run Try.prog w = .ok (.func fn first cap) w := fun _ _ _ _ => rfl
                have HRD := Lib.hid hrd
                clear hrd
                go_wp2_with fail
                refine (Clone_any sb 0 (2 * n + 1) (2 * n + 1) wc.heap.size _ wc HRD.out (Nat.le_refl _) (by omega) (by omega)).mono ?_
                rintro e w1 ⟨A', c', rfl, ho1, hb1⟩
                obtain ⟨nb, ns, rfl, hnbw, hnb, hnr⟩ := row_of_own ho1 (by omega)
                have hS1 := (hS.below hb1).alloc (.cells #[.slice (some ⟨nb, 0, none⟩) (2 * n + 1) c'] 28)
                have hlb1 := (hlb.below hb1 hlb.lt).alloc (.cells #[.slice (some ⟨nb, 0, none⟩) (2 * n + 1) c'] 28)
                have hnb1 := hnb.alloc (.cells #[.slice (some ⟨nb, 0, none⟩) (2 * n + 1) c'] 28)
                have hnv1 := Blk.new w1 28 #[.slice (some ⟨nb, 0, none⟩) (2 * n + 1) c']
                have hnl : nb ≠ lb := by have := hlb.lt; omega
                have hns : nb ≠ sb := by have := hS.s.lt; omega
                have hnw : w.heap.size ≤ nb := by have := hS.b.size; omega
                clear q1 q2
                have q1 := hS1.v.cell 0
                have q2 := hS1.g.cell 1
                simp only [List.getElem?_toArray, List.getElem?_cons_zero, List.getElem?_cons_succ] at q1 q2
                go_wp2_with fail
                generalize w1.alloc (.cells #[.slice (some ⟨nb, 0, none⟩) (2 * n + 1) c'] 28) = W at *
                generalize w1.heap.size = nv at *
                go_wp2_with fail
                go_loopw [125] (fun i wr => ∃ m, i = .int .i64 (m : Nat) ∧ New4th n n2 arcs w gv gb sb lb nv nb A2' c2' c' ss m wr) (fun i _ => n2 - (intOf i).toNat)
                case atStart => exact ⟨0, rfl, ls, ns, Nat.zero_le _, hS1, hlb1, ⟨Laid.zero hlz.1, hlz.2⟩, hnv1, hnb1, ⟨by have := hnr.1; omega, fun j hj => by rw [hnr.2 j (by omega)]; rfl⟩, hnl, hns, hls, hnw, hlw⟩
                case round =>
                  clear q1 q2 hS hS1 hlb hlb1 hnb hnb1 hnv1 hnr hlz hnl hns hls hnw hlw ho1 hb1 hnbw
                  obtain ⟨m, rfl, ls, ns, hm, hS, hlb, ⟨hlaid, hia⟩, hnv, hnb, hnr, hnl, hns, hls, hnw, hlw⟩ := hrel
                  have hlen : arcs.length ≤ n2 ∧ n2 ≤ arcs.length := by have := (Reads.of_own hS.o).1; rw [arcCells_length] at this; omega
                  by_cases hlt : m < n2
                  · have q1 := hS.v.cell 0
                    simp only [List.getElem?_toArray, List.getElem?_cons_zero, List.getElem?_cons_succ] at q1
                    obtain ⟨x, hx⟩ : ∃ x, arcs[m]? = some x := ⟨_, List.getElem?_eq_getElem (by omega)⟩
                    have HX := Lib.hid hx
                    clear hx
                    cases hf : fitB n x with
                    | false =>
                      have HF := Lib.hid hf
                      clear hf
                      go_wp2_with fail
                      refine (Arc_none _ gb n arcs _ (hS.graph hn1 hn2) (Nat.le_refl _) m (by simp [arcAt, HX.out, HF.out])).mono ?_
                      rintro e w1 ⟨rfl, hb1⟩
                      go_wp2_with fail
                      go_roundw
                      case rel => exact ⟨m + 1, by go_num, ls, ns, by omega, (hS.below hb1).alloc _, (hlb.below hb1 hlb.lt).alloc _, ⟨hlaid.skip HX.out HF.out, hia⟩, (hnv.below hb1 hnv.lt).alloc _, (hnb.below hb1 hnb.lt).alloc _, hnr.congr (fun j _ => (nxt_skip HX.out HF.out j).symm), hnl, hns, hls, hnw, hlw⟩
                      case measure => simp [intOf]; omega
                    | true =>
                      obtain ⟨b1, b2, b3, b4⟩ := fit_bounds hf
                      have HF := Lib.hid hf
                      clear hf
                      obtain ⟨xf, xt, lo, cap, cost⟩ := x
                      simp only at b1 b2 b3 b4
                      obtain ⟨f, rfl⟩ := Int.eq_ofNat_of_zero_le b1
                      obtain ⟨t, rfl⟩ := Int.eq_ofNat_of_zero_le b3
                      have HG := Lib.hid (hS.graph hn1 hn2)
                      have pf := pc_lt n arcs m (2 * f) _ HX.out (by rw [inPiece_out HF.out f rfl _ (by omega)]; simp)
                      have pt := pc_lt n arcs m (2 * t + 1) _ HX.out (by rw [inPiece_in HF.out t rfl _ (by omega)]; simp)
                      have sf : nxt n arcs m (2 * f) < St n arcs (2 * n) := St_lt n arcs (by omega) pf
                      have st : nxt n arcs m (2 * t + 1) < St n arcs (2 * n) := St_lt n arcs (by omega) pt
                      have hL := St_le n arcs (2 * n)
                      go_wp2_with fail
                      refine (Arc_some _ gb n arcs _ HG.out (Nat.le_refl _) m ⟨f, t, lo, cap, cost⟩ (by simp [arcAt, HX.out, HF.out])).mono ?_
                      rintro e w1 ⟨rfl, hb1⟩
                      have hS1 := (hS.below hb1).alloc (.cells #[.int .i64 f, .int .i64 t, .int .i64 lo, .int .i64 cap, .int .i64 cost] 36)
                      have hX1 := Blk.new w1 36 #[.int .i64 f, .int .i64 t, .int .i64 lo, .int .i64 cap, .int .i64 cost]
                      have hlb1 := (hlb.below hb1 hlb.lt).alloc (.cells #[.int .i64 f, .int .i64 t, .int .i64 lo, .int .i64 cap, .int .i64 cost] 36)
                      have hnb1 := (hnb.below hb1 hnb.lt).alloc (.cells #[.int .i64 f, .int .i64 t, .int .i64 lo, .int .i64 cap, .int .i64 cost] 36)
                      have hnv1 := (hnv.below hb1 hnv.lt).alloc (.cells #[.int .i64 f, .int .i64 t, .int .i64 lo, .int .i64 cap, .int .i64 cost] 36)
                      clear q1
                      go_wp2_with fail
                      refine (New1_at gv gb nv nb lb (St n arcs (2 * n)) (St n arcs (2 * n)) (2 * n + 1) c' (2 * f) (nxt n arcs m (2 * f)) _ m _ _ _ ns ls _ (by omega) hS1.v hS1.g hnv1 hnb1 hlb1 hnl (by omega) (hnr.2 _ (by omega)) sf (Nat.le_of_eq hlaid.1.symm) (by omega) (by omega)).mono ?_
                      rintro e w2 ⟨rfl, hnb2, hlb2, hk2, hz2⟩
                      have hS2 := hS1.kept hk2 (by rintro (h | h); exact (hS1.v.ne_ hnb1 (by decide)) h; exact (hS1.v.ne_ hlb1 (by decide)) h) (by rintro (h | h); exact (hS1.g.ne_ hnb1 (by decide)) h; exact (hS1.g.ne_ hlb1 (by decide)) h) (by rintro (h | h); exact hns h.symm; exact hls h.symm) (by rintro g hg (h | h); exact own_blk_ne hS1.o hnb1 (by decide) (by rw [hg, h]); exact own_blk_ne hS1.o hlb1 (by decide) (by rw [hg, h])) (by rintro k hk (h | h) <;> omega)
                      have hX2 := hX1.kept hk2 (by rintro (h | h); exact (hX1.ne_ hnb1 (by decide)) h; exact (hX1.ne_ hlb1 (by decide)) h)
                      have hnv2 := hnv1.kept hk2 (by rintro (h | h); exact (hnv1.ne_ hnb1 (by decide)) h; exact (hnv1.ne_ hlb1 (by decide)) h)
                      have q4 := hX2.cell 1
                      simp only [List.getElem?_toArray, List.getElem?_cons_zero, List.getElem?_cons_succ] at q4
                      go_wp2_with fail
                      have hnr2 := hnr.set (2 * f) (nxt n arcs m (2 * f) + 1)
                      rw [Int.natCast_add, Int.natCast_one] at hnr2
                      refine (New1_at gv gb nv nb lb (St n arcs (2 * n)) (St n arcs (2 * n)) (2 * n + 1) c' (2 * t + 1) (nxt n arcs m (2 * t + 1)) _ m _ _ _ _ _ _ (by omega) hS2.v hS2.g hnv2 hnb2 hlb2 hnl (by omega) (by rw [hnr2.2 _ (by omega)]; simp only [if_neg (show ¬ 2 * t + 1 = 2 * f by omega)]) st (by rw [Array.size_setIfInBounds]; exact Nat.le_of_eq hlaid.1.symm) (by omega) (by omega)).mono ?_
                      rintro e w3 ⟨rfl, hnb3, hlb3, hk3, hz3⟩
                      have hS3 := hS2.kept hk3 (by rintro (h | h); exact (hS2.v.ne_ hnb2 (by decide)) h; exact (hS2.v.ne_ hlb2 (by decide)) h) (by rintro (h | h); exact (hS2.g.ne_ hnb2 (by decide)) h; exact (hS2.g.ne_ hlb2 (by decide)) h) (by rintro (h | h); exact hns h.symm; exact hls h.symm) (by rintro g hg (h | h); exact own_blk_ne hS2.o hnb2 (by decide) (by rw [hg, h]); exact own_blk_ne hS2.o hlb2 (by decide) (by rw [hg, h])) (by rintro k hk (h | h) <;> omega)
                      have hnv3 := hnv2.kept hk3 (by rintro (h | h); exact (hnv2.ne_ hnb2 (by decide)) h; exact (hnv2.ne_ hlb2 (by decide)) h)
                      clear q4 hL
                      go_wp2_with fail
                      go_roundw
                      case rel =>
                        have hnr3 := hnr2.set (2 * t + 1) (nxt n arcs m (2 * t + 1) + 1)
                        rw [Int.natCast_add, Int.natCast_one] at hnr3
                        refine ⟨m + 1, by go_num, _, _, by omega, hS3, hlb3, ⟨hlaid.step HX.out HF.out f t rfl rfl, (hia.set _ _).set _ _⟩, hnv3, hnb3, hnr3.congr (fun j _ => ?_), hnl, hns, hls, hnw, hlw⟩
                        rw [nxt_step HX.out HF.out f t rfl rfl]
                        by_cases j1 : j = 2 * t + 1
                        · subst j1; rw [if_pos rfl, if_pos rfl]
                        · rw [if_neg j1, if_neg j1]
                          by_cases j2 : j = 2 * f
                          · subst j2; simp
                          · rw [if_neg j2, if_neg j2]
                      case measure => simp [intOf]; omega
                  · have q1 := hS.v.cell 0
                    simp only [List.getElem?_toArray, List.getElem?_cons_zero, List.getElem?_cons_succ] at q1
                    go_wp2_with fail
                    go_ret
                    have hmn : m = arcs.length := by omega
                    subst hmn
                    exact ⟨gb, rfl, graph_of hS hlb hlaid hia hrow' hsz (by omega) (by omega), hS.b⟩
end Go.Proofs.Ytekajenmkpobgaa
