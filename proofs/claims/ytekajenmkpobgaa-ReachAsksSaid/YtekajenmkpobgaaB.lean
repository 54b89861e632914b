/- Package adj: the graph in memory; Nodes, has, Arc, Other. -/
import Derived.Test.YtekajenmkpobgaaA
set_option linter.unusedSimpArgs false
set_option linter.unusedVariables false
namespace Go.Proofs.Ytekajenmkpobgaa
open Go.RowKit

/-- an arc's five numbers -/
structure ArcV where
  f : Int
  t : Int
  lo : Int
  cap : Int
  cost : Int
  deriving DecidableEq, Inhabited
def ArcV.cells (a : ArcV) : List Value := [I a.f, I a.t, I a.lo, I a.cap, I a.cost]
def ArcV.zero : ArcV := ⟨0, 0, 0, 0, 0⟩
def arcCells (l : List ArcV) : List Value := l.flatMap ArcV.cells
def fitB (n : Nat) (a : ArcV) : Bool := decide (0 ≤ a.f) && decide (a.f < n) && decide (0 ≤ a.t) && decide (a.t < n)

theorem arcCells_length (l : List ArcV) : (arcCells l).length = l.length * 5 := by
  induction l with
  | nil => rfl
  | cons a l ih => simp [arcCells, ArcV.cells] at ih ⊢; omega
theorem arcCells_at (l : List ArcV) (k j : Nat) (hj : j < 5) : (arcCells l)[k * 5 + j]? = (l[k]?).bind fun a => a.cells[j]? := by
  induction l generalizing k with
  | nil => simp [arcCells]
  | cons a l ih =>
    cases k with
    | zero =>
      have : (arcCells (a :: l)) = a.cells ++ arcCells l := by simp [arcCells]
      rw [this]
      simp only [Nat.zero_mul, Nat.zero_add, List.getElem?_cons_zero, Option.bind_some]
      exact List.getElem?_append_left (by simpa [ArcV.cells] using hj)
    | succ k =>
      have : (arcCells (a :: l)) = a.cells ++ arcCells l := by simp [arcCells]
      rw [this, List.getElem?_append_right (by simp [ArcV.cells]; omega)]
      have e : (k + 1) * 5 + j - a.cells.length = k * 5 + j := by simp [ArcV.cells]; omega
      rw [e, ih k]
      simp

/-- the cells of element k of a slice of arcs -/
theorem Reads.arc {w : World} {B : Nat} {A : Option Addr} {n : Nat} {l : List ArcV} (h : Reads w B 5 A n (arcCells l)) {k : Nat} {a : ArcV} (hk : l[k]? = some a) :
    ∃ b off, A = some ⟨b, off, none⟩ ∧ b < B ∧ w.cell? ⟨b, off + k * 5, none⟩ = some (.int .i64 a.f) ∧ w.cell? ⟨b, off + k * 5 + 1, none⟩ = some (.int .i64 a.t) ∧ w.cell? ⟨b, off + k * 5 + 2, none⟩ = some (.int .i64 a.lo) ∧
      w.cell? ⟨b, off + k * 5 + 3, none⟩ = some (.int .i64 a.cap) ∧ w.cell? ⟨b, off + k * 5 + 4, none⟩ = some (.int .i64 a.cost) := by
  have hkl : k < l.length := by
    rcases Nat.lt_or_ge k l.length with h1 | h1
    · exact h1
    · rw [List.getElem?_eq_none h1] at hk; cases hk
  have hl := h.1
  rw [arcCells_length] at hl
  obtain ⟨b, off, e, hb, hc⟩ := h.2 (by omega)
  have H : ∀ j u, j < 5 → a.cells[j]? = some u → w.cell? ⟨b, off + k * 5 + j, none⟩ = some u := fun j u hj hu => by
    rw [Nat.add_assoc]
    exact hc _ _ (by rw [arcCells_at _ _ _ hj, hk]; exact hu)
  exact ⟨b, off, e, hb, H 0 _ (by omega) rfl, H 1 _ (by omega) rfl, H 2 _ (by omega) rfl, H 3 _ (by omega) rfl, H 4 _ (by omega) rfl⟩

/-- where the arcs lie by nodes -/
def outs (n : Nat) (arcs : List ArcV) (v : Int) : List Nat := (List.range arcs.length).filter fun a => match arcs[a]? with | some x => fitB n x && x.f == v | none => false
def ins (n : Nat) (arcs : List ArcV) (v : Int) : List Nat := (List.range arcs.length).filter fun a => match arcs[a]? with | some x => fitB n x && x.t == v | none => false

/-- the pieces of the list are the arcs out of each node, and into it -/
structure Pieces (n : Nat) (arcs : List ArcV) (start list : List Int) : Prop where
  len : start.length = 2 * n + 1
  ends : ∀ k : Nat, k < 2 * n → ∃ a b : Nat, start[k]? = some (a : Int) ∧ start[k + 1]? = some (b : Int) ∧ a ≤ b ∧ b ≤ list.length ∧
    (list.drop a).take (b - a) = (if k % 2 = 0 then outs n arcs ((k / 2 : Nat) : Int) else ins n arcs ((k / 2 : Nat) : Int)).map (fun x : Nat => (x : Int))

/-- a graph in memory, below block B -/
structure Graph (w : World) (B g n : Nat) (arcs : List ArcV) : Prop where
  lt : g < B
  small : n ≤ 1000000000 ∧ arcs.length ≤ 1000000000
  ex : ∃ (A1 A2 A3 : Option Addr) (n1 c1 n2 c2 n3 c3 : Nat) (list start : List Int),
    Blk w g 69 #[.int .i64 n, .slice A1 n1 c1, .slice A2 n2 c2, .slice A3 n3 c3] ∧ Reads w B 5 A1 n1 (arcCells arcs) ∧ Reads w B 1 A2 n2 (list.map I) ∧ Reads w B 1 A3 n3 (start.map I) ∧
    n2 ≤ c2 ∧ n3 ≤ c3 ∧ list.length ≤ 2000000000 ∧ Pieces n arcs start list

theorem Graph.keep {w w' : World} {B g n : Nat} {arcs : List ArcV} (h : Graph w B g n arcs) (hb : Below B w w') : Graph w' B g n arcs := by
  obtain ⟨h1, h2, A1, A2, A3, n1, c1, n2, c2, n3, c3, list, start, k1, k2, k3, k4, k5⟩ := h
  exact ⟨h1, h2, A1, A2, A3, n1, c1, n2, c2, n3, c3, list, start, k1.below hb h1, k2.below hb, k3.below hb, k4.below hb, k5⟩

/-- the part of a graph that its arcs are told from -/
structure GraphA (w : World) (B g n : Nat) (arcs : List ArcV) : Prop where
  lt : g < B
  small : n ≤ 1000000000 ∧ arcs.length ≤ 1000000000
  ex : ∃ (A1 : Option Addr) (n1 c1 : Nat) (v2 v3 : Value), Blk w g 69 #[.int .i64 n, .slice A1 n1 c1, v2, v3] ∧ Reads w B 5 A1 n1 (arcCells arcs)
theorem GraphA.keep {w w' : World} {B g n : Nat} {arcs : List ArcV} (h : GraphA w B g n arcs) (hb : Below B w w') : GraphA w' B g n arcs := by
  obtain ⟨h1, h2, A1, n1, c1, v2, v3, k1, k2⟩ := h
  exact ⟨h1, h2, A1, n1, c1, v2, v3, k1.below hb h1, k2.below hb⟩
theorem Graph.a {w : World} {B g n : Nat} {arcs : List ArcV} (h : Graph w B g n arcs) : GraphA w B g n arcs := by
  obtain ⟨h1, h2, A1, A2, A3, n1, c1, n2, c2, n3, c3, list, start, k1, k2, -⟩ := h
  exact ⟨h1, h2, A1, n1, c1, _, _, k1, k2⟩

set_option maxHeartbeats 400000 in
theorem Nodes_any (B g n : Nat) (arcs : List ArcV) (w : World) (hG : GraphA w B g n arcs) :
    Calls Try.prog 26 #[.pointer (some ⟨g, 0, none⟩)] w fun e w' => e = .returned (.int .i64 n) ∧ w = w' := by
  obtain ⟨h1, h2, A1, n1, c1, v2, v3, k1, -⟩ := hG
  have q0 := k1.cell 0
  simp at q0
  go_enter Try.func26, Try.ntmps26
  go_wp2
  go_ret
  exact ⟨rfl, rfl⟩

def hasB (n : Nat) (x : Int) : Bool := decide (0 ≤ x) && decide (x < n)

set_option maxHeartbeats 400000 in
theorem has_any (B g n : Nat) (arcs : List ArcV) (w : World) (hG : GraphA w B g n arcs) (x : Int) :
    Calls Try.prog 51 #[.pointer (some ⟨g, 0, none⟩), .int .i64 x] w fun e w' => e = .returned (.bool (hasB n x)) ∧ w = w' := by
  obtain ⟨h1, h2, A1, n1, c1, v2, v3, k1, -⟩ := hG
  have q0 := k1.cell 0
  simp at q0
  by_cases hx : 0 ≤ x
  · go_enter Try.func51, Try.ntmps51
    go_wp2
    go_ret
    exact ⟨ret_bool (by simp [hasB, hx]), rfl⟩
  · have hx' : decide (0 ≤ x) = false := by simpa using hx
    go_enter Try.func51, Try.ntmps51
    go_wp2
    go_ret
    exact ⟨ret_bool (by simp [hasB]; omega), rfl⟩

/-- an arc by its number -/
def arcAt (n : Nat) (arcs : List ArcV) (a : Int) : Option ArcV := if 0 ≤ a then (arcs[a.toNat]?).bind fun x => if fitB n x then some x else none else none

def ArcV.val (x : ArcV) : Value := .agg #[.int .i64 x.f, .int .i64 x.t, .int .i64 x.lo, .int .i64 x.cap, .int .i64 x.cost]

set_option maxHeartbeats 1000000 in
theorem Arc_yes (B g n : Nat) (arcs : List ArcV) (w : World) (hG : GraphA w B g n arcs) (hB : B ≤ w.heap.size) (a : Nat) (x : ArcV) (ha : arcs[a]? = some x) (hf : fitB n x = true) :
    Calls Try.prog 34 #[.pointer (some ⟨g, 0, none⟩), .int .i64 (a : Int)] w fun e w' => e = .returned (.tuple #[.agg #[.int .i64 x.f, .int .i64 x.t, .int .i64 x.lo, .int .i64 x.cap, .int .i64 x.cost], .bool true]) ∧ Below w.heap.size w w' := by
  have hG' := hG
  obtain ⟨h1, h2, A1, n1, c1, v2, v3, k1, k2⟩ := hG
  have q1 := k1.cell 1
  simp at q1
  have hlen := k2.1
  rw [arcCells_length] at hlen
  have hal : a < arcs.length := by
    rcases Nat.lt_or_ge a arcs.length with h | h
    · exact h
    · rw [List.getElem?_eq_none h] at ha; cases ha
  have hn1 : a < n1 := by omega
  obtain ⟨b, off, rfl, hb, e0, e1, e2, e3, e4⟩ := k2.arc ha
  have hg : g < w.heap.size := by omega
  have hb' : b < w.heap.size := by omega
  have HA := Lib.hid ha
  have HL := Lib.hid hlen
  clear ha hlen
  simp only [fitB, Bool.and_eq_true, decide_eq_true_eq] at hf
  obtain ⟨⟨⟨f1, f2⟩, f3⟩, f4⟩ := hf
  have HB1 := Lib.hid (show hasB n x.f = true by simp [hasB]; omega)
  have HB2 := Lib.hid (show hasB n x.t = true by simp [hasB]; omega)
  go_enter Try.func34, Try.ntmps34
  go_wp2_with fail
  refine (has_any B g n arcs _ (hG'.keep (((Below.refl B w).alloc hB _).alloc (by simp; omega) _)) x.f).mono ?_
  rintro e w1 ⟨rfl, rfl⟩
  rw [HB1.out]
  go_wp2_with fail
  refine (has_any B g n arcs _ (hG'.keep (((Below.refl B w).alloc hB _).alloc (by simp; omega) _)) x.t).mono ?_
  rintro e w1 ⟨rfl, rfl⟩
  rw [HB2.out]
  go_wp2_with fail
  refine bodyPost_ret (v := .tuple #[.agg #[.int .i64 x.f, .int .i64 x.t, .int .i64 x.lo, .int .i64 x.cap, .int .i64 x.cost], .bool true]) (by simp [results, Try.results34, go_sem]) rfl ⟨rfl, ?_⟩
  exact (((Below.refl _ _).alloc (Nat.le_refl _) _).alloc (by simp) _)

def Arc0 : Value := .agg #[.int .i64 0, .int .i64 0, .int .i64 0, .int .i64 0, .int .i64 0]
set_option maxHeartbeats 1000000 in
theorem Arc_out (B g n : Nat) (arcs : List ArcV) (w : World) (hG : GraphA w B g n arcs) (hB : B ≤ w.heap.size) (a : Int) (ha : a < 0 ∨ (arcs.length : Int) ≤ a) :
    Calls Try.prog 34 #[.pointer (some ⟨g, 0, none⟩), .int .i64 a] w fun e w' => e = .returned (.tuple #[.agg #[.int .i64 0, .int .i64 0, .int .i64 0, .int .i64 0, .int .i64 0], .bool false]) ∧ Below w.heap.size w w' := by
  obtain ⟨h1, h2, A1, n1, c1, v2, v3, k1, k2⟩ := hG
  have q1 := k1.cell 1
  simp at q1
  have hlen := k2.1
  rw [arcCells_length] at hlen
  have hg : g < w.heap.size := by omega
  by_cases hneg : a < 0
  · have hd : decide (a < 0) = true := by simpa using hneg
    go_enter Try.func34, Try.ntmps34
    go_wp2_with fail
    refine bodyPost_ret (v := .tuple #[.agg #[.int .i64 0, .int .i64 0, .int .i64 0, .int .i64 0, .int .i64 0], .bool false]) (by simp [results, Try.results34, go_sem]) rfl ⟨rfl, ?_⟩
    exact ((Below.refl _ _).alloc (Nat.le_refl _) _)
  · have hd : decide (a < 0) = false := by simpa using hneg
    have hd2 : (n1 : Int) ≤ a := by omega
    go_enter Try.func34, Try.ntmps34
    go_wp2_with fail
    refine bodyPost_ret (v := .tuple #[.agg #[.int .i64 0, .int .i64 0, .int .i64 0, .int .i64 0, .int .i64 0], .bool false]) (by simp [results, Try.results34, go_sem]) rfl ⟨rfl, ?_⟩
    exact ((Below.refl _ _).alloc (Nat.le_refl _) _)

set_option maxHeartbeats 1000000 in
theorem Arc_unfit (B g n : Nat) (arcs : List ArcV) (w : World) (hG : GraphA w B g n arcs) (hB : B ≤ w.heap.size) (a : Nat) (x : ArcV) (ha : arcs[a]? = some x) (hf : fitB n x = false) :
    Calls Try.prog 34 #[.pointer (some ⟨g, 0, none⟩), .int .i64 (a : Int)] w fun e w' => e = .returned (.tuple #[.agg #[.int .i64 0, .int .i64 0, .int .i64 0, .int .i64 0, .int .i64 0], .bool false]) ∧ Below w.heap.size w w' := by
  have hG' := hG
  obtain ⟨h1, h2, A1, n1, c1, v2, v3, k1, k2⟩ := hG
  have q1 := k1.cell 1
  simp at q1
  have hlen := k2.1
  rw [arcCells_length] at hlen
  have hal : a < arcs.length := by
    rcases Nat.lt_or_ge a arcs.length with h | h
    · exact h
    · rw [List.getElem?_eq_none h] at ha; cases ha
  have hn1 : a < n1 := by omega
  obtain ⟨b, off, rfl, hb, e0, e1, e2, e3, e4⟩ := k2.arc ha
  have hg : g < w.heap.size := by omega
  have hb' : b < w.heap.size := by omega
  have HA := Lib.hid ha
  have HL := Lib.hid hlen
  clear ha hlen
  have hfe : (hasB n x.f && hasB n x.t) = false := by
    rw [← hf, Bool.eq_iff_iff]; simp [fitB, hasB]; omega
  have HF := Lib.hid hfe
  clear hf hfe
  go_enter Try.func34, Try.ntmps34
  go_wp2_with fail
  refine (has_any B g n arcs _ (hG'.keep (((Below.refl B w).alloc hB _).alloc (by simp; omega) _)) x.f).mono ?_
  rintro e w1 ⟨rfl, rfl⟩
  cases hc : hasB n x.f
  · clear hc
    go_wp2_with fail
    refine bodyPost_ret (v := .tuple #[.agg #[.int .i64 0, .int .i64 0, .int .i64 0, .int .i64 0, .int .i64 0], .bool false]) (by simp [results, Try.results34, go_sem]) rfl ⟨rfl, ?_⟩
    exact (((Below.refl _ _).alloc (Nat.le_refl _) _).alloc (by simp) _)
  · have HB := Lib.hid (show hasB n x.t = false by have := HF.out; rw [hc] at this; simpa using this)
    clear hc
    go_wp2_with fail
    refine (has_any B g n arcs _ (hG'.keep (((Below.refl B w).alloc hB _).alloc (by simp; omega) _)) x.t).mono ?_
    rintro e w1 ⟨rfl, rfl⟩
    rw [HB.out]
    go_wp2_with fail
    refine bodyPost_ret (v := .tuple #[.agg #[.int .i64 0, .int .i64 0, .int .i64 0, .int .i64 0, .int .i64 0], .bool false]) (by simp [results, Try.results34, go_sem]) rfl ⟨rfl, ?_⟩
    exact (((Below.refl _ _).alloc (Nat.le_refl _) _).alloc (by simp) _)
end Go.Proofs.Ytekajenmkpobgaa
