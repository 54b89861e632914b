/- law13 Cert (12), the walk. Conditions: none. -/
import Derived.Test.YtpfbgoogajgciaaGreatDoorL3
import Derived.Test.YtpfbgoogajgciaaGreatDoorApp
import Derived.Deep.RegionLaw
import Derived.Laws.CopyOwn
set_option linter.unusedSimpArgs false
set_option linter.unusedVariables false
namespace Go.Proofs.YtpfbgoogajgciaaGreatDoor
open Go.RowKit Go.Shelf

/-- a certificate that is being made, in block cb -/
structure CV (K : Nat) (wx : World) (cb : Nat) (c : CertV) (v1 v2 v3 v4 : Value) : Prop where
  blk : Blk wx cb 32 #[.int .i64 c.kind, v1, v2, v3, v4]
  f : OW wx (cb + 1) 2 v1 (c.flow.map I)
  p : OW wx (cb + 1) 2 v2 (c.pot.map I)
  s : OW wx (cb + 1) 4 v3 (c.side.map Bv)
  y : OW wx (cb + 1) 3 v4 (c.cycle.map I)
  fp : ∀ g, v1.ownBlock = some g → v2.ownBlock ≠ some g
  ok : CertOk c
  n1 : c.flow.length ≤ K
  n2 : c.pot.length ≤ K
  n3 : c.side.length ≤ K
  n4 : c.cycle.length ≤ K
theorem own_ne {w : World} {b1 b2 : Nat} {e1 e2 : TypeId} {s1 s2 n1 n2 : Nat} {v1 v2 : Value} {x1 x2 : List Value} (h1 : w.ownsRow b1 e1 s1 v1 n1 x1) (h2 : w.ownsRow b2 e2 s2 v2 n2 x2) (hne : e1 ≠ e2) :
    ∀ g, v1.ownBlock = some g → v2.ownBlock ≠ some g := by
  intro g hg
  rcases h1.2 with ⟨rfl, -⟩ | ⟨g1, cap, cur, rfl, -, hh, -⟩
  · simp [Value.ownBlock] at hg
  · have : g1 = g := by simpa [Value.ownBlock] using hg
    subst this
    exact own_blk_ne (g := g1) (t := e1) h2 hh (fun e => hne e.symm)
/-- all that lies in new memory while one is made -/
structure CS (w : World) (i1 i2 : Value) (K : Nat) (wx : World) (c : CertV) (v1 v2 v3 v4 : Value) : Prop where
  cv : CV K wx (w.heap.size + 1 + 1) c v1 v2 v3 v4
  ib : Blk wx w.heap.size 38 #[i1, i2]
  rb : Blk wx (w.heap.size + 1) 32 #[.int .i64 0, .slice none 0 0, .slice none 0 0, .slice none 0 0, .slice none 0 0]
  b : Below w.heap.size w wx
section
variable {w wx w1 : World} {i1 i2 : Value} {K : Nat} {c : CertV} {v1 v2 v3 v4 : Value}
theorem CS.below (h : CS w i1 i2 K wx c v1 v2 v3 v4) (hb : Below wx.heap.size wx w1) : CS w i1 i2 K w1 c v1 v2 v3 v4 :=
  ⟨⟨h.cv.blk.below hb h.cv.blk.lt, h.cv.f.below hb, h.cv.p.below hb, h.cv.s.below hb, h.cv.y.below hb, h.cv.fp, h.cv.ok, h.cv.n1, h.cv.n2, h.cv.n3, h.cv.n4⟩, h.ib.below hb h.ib.lt, h.rb.below hb h.rb.lt, h.b.trans (hb.mono h.b.size)⟩
theorem CS.mono {K' : Nat} (h : CS w i1 i2 K wx c v1 v2 v3 v4) (hk : K ≤ K') : CS w i1 i2 K' wx c v1 v2 v3 v4 :=
  ⟨{ h.cv with n1 := Nat.le_trans h.cv.n1 hk, n2 := Nat.le_trans h.cv.n2 hk, n3 := Nat.le_trans h.cv.n3 hk, n4 := Nat.le_trans h.cv.n4 hk }, h.ib, h.rb, h.b⟩
theorem ow_new {B cb T : Nat} {v : Value} {n : Nat} {l : List Value} (h : w1.ownsRow B T 1 v n l) (hn : n = l.length) (hB : cb + 1 ≤ B) : OW w1 (cb + 1) T v l := by
  subst hn; exact own_mono h hB
theorem OW.far {cb T : Nat} {v : Value} {l : List Value} (h : OW wx (cb + 1) T v l) (i : Nat) (u : Value) : OW (wx.setCell ⟨cb, i, none⟩ u) (cb + 1) T v l := own_far h (p := ⟨cb, i, none⟩) (by simp) u
theorem OW.lt {B T : Nat} {v : Value} {l : List Value} (h : OW wx B T v l) (g : Nat) (hg : v.ownBlock = some g) : B ≤ g ∧ g < wx.heap.size := World.ownsRow.lt h g hg
/-- the parts around a store into the certificate's block -/
theorem CS.around (h : CS w i1 i2 K wx c v1 v2 v3 v4) (i : Nat) (u : Value) : Blk (wx.setCell ⟨w.heap.size + 1 + 1, i, none⟩ u) w.heap.size 38 #[i1, i2] ∧ Blk (wx.setCell ⟨w.heap.size + 1 + 1, i, none⟩ u) (w.heap.size + 1) 32 #[.int .i64 0, .slice none 0 0, .slice none 0 0, .slice none 0 0, .slice none 0 0] ∧ Below w.heap.size w (wx.setCell ⟨w.heap.size + 1 + 1, i, none⟩ u) :=
  ⟨h.ib.far (p := ⟨w.heap.size + 1 + 1, i, none⟩) (by show w.heap.size ≠ w.heap.size + 1 + 1; omega) u, h.rb.far (p := ⟨w.heap.size + 1 + 1, i, none⟩) (by show w.heap.size + 1 ≠ w.heap.size + 1 + 1; omega) u, h.b.setCell (p := ⟨w.heap.size + 1 + 1, i, none⟩) (by show w.heap.size ≤ w.heap.size + 1 + 1; omega) u⟩
theorem CS.set1 (h : CS w i1 i2 K wx c v1 v2 v3 v4) (hb : Below wx.heap.size wx w1) {v : Value} {xs : List Int} (ho : w1.ownsRow wx.heap.size 2 1 v xs.length (xs.map I)) (hx : ∀ x ∈ xs, 0 ≤ x ∧ x ≤ 5) (hn : xs.length ≤ K) :
    CS w i1 i2 K (w1.setCell ⟨w.heap.size + 1 + 1, 1, none⟩ v) { c with flow := xs } v v2 v3 v4 := by
  have h1 := h.below hb
  have lt := h.cv.blk.lt
  obtain ⟨a1, a2, a3⟩ := h1.around 1 v
  refine ⟨⟨h1.cv.blk.set_ 1 v, (ow_new ho (by simp) (by omega)).far 1 v, h1.cv.p.far 1 v, h1.cv.s.far 1 v, h1.cv.y.far 1 v, ?_, { h.cv.ok with flow := fun x hx' => by have := hx x hx'; omega }, hn, h.cv.n2, h.cv.n3, h.cv.n4⟩, a1, a2, a3⟩
  intro g hg hg2
  have := ho.lt g hg
  have := h.cv.p.lt g hg2
  omega
theorem CS.set2 (h : CS w i1 i2 K wx c v1 v2 v3 v4) (hb : Below wx.heap.size wx w1) {v : Value} {xs : List Int} (ho : w1.ownsRow wx.heap.size 2 1 v xs.length (xs.map I)) (hx : ∀ x ∈ xs, -8 ≤ x ∧ x ≤ 16) (hn : xs.length ≤ K) :
    CS w i1 i2 K (w1.setCell ⟨w.heap.size + 1 + 1, 2, none⟩ v) { c with pot := xs } v1 v v3 v4 := by
  have h1 := h.below hb
  have lt := h.cv.blk.lt
  obtain ⟨a1, a2, a3⟩ := h1.around 2 v
  refine ⟨⟨h1.cv.blk.set_ 2 v, h1.cv.f.far 2 v, (ow_new ho (by simp) (by omega)).far 2 v, h1.cv.s.far 2 v, h1.cv.y.far 2 v, ?_, { h.cv.ok with pot := fun x hx' => by have := hx x hx'; omega }, h.cv.n1, hn, h.cv.n3, h.cv.n4⟩, a1, a2, a3⟩
  intro g hg hg2
  have := ho.lt g hg2
  have := h.cv.f.lt g hg
  omega
theorem CS.set3 (h : CS w i1 i2 K wx c v1 v2 v3 v4) (hb : Below wx.heap.size wx w1) {v : Value} {xs : List Int} (ho : w1.ownsRow wx.heap.size 4 1 v xs.length (xs.map Bv)) (hx : ∀ x ∈ xs, x = 0 ∨ x = 1) (hn : xs.length ≤ K) :
    CS w i1 i2 K (w1.setCell ⟨w.heap.size + 1 + 1, 3, none⟩ v) { c with side := xs } v1 v2 v v4 := by
  have h1 := h.below hb
  have lt := h.cv.blk.lt
  obtain ⟨a1, a2, a3⟩ := h1.around 3 v
  exact ⟨⟨h1.cv.blk.set_ 3 v, h1.cv.f.far 3 v, h1.cv.p.far 3 v, (ow_new ho (by simp) (by omega)).far 3 v, h1.cv.y.far 3 v, h.cv.fp, { h.cv.ok with side := hx }, h.cv.n1, h.cv.n2, hn, h.cv.n4⟩, a1, a2, a3⟩
theorem CS.set0 (h : CS w i1 i2 K wx c v1 v2 v3 v4) (k : Int) :
    CS w i1 i2 K (wx.setCell ⟨w.heap.size + 1 + 1, 0, none⟩ (.int .i64 k)) { c with kind := k } v1 v2 v3 v4 := by
  obtain ⟨a1, a2, a3⟩ := h.around 0 (.int .i64 k)
  exact ⟨⟨h.cv.blk.set_ 0 _, h.cv.f.far 0 _, h.cv.p.far 0 _, h.cv.s.far 0 _, h.cv.y.far 0 _, h.cv.fp, { h.cv.ok with }, h.cv.n1, h.cv.n2, h.cv.n3, h.cv.n4⟩, a1, a2, a3⟩
theorem ow_grown {cb T : Nat} {v : Value} {l : List Value} {row : Option Nat} (h : OW wx (cb + 1) T v l) (hg : wx.grownBy w1 row) (hne : ∀ g, v.ownBlock = some g → row ≠ some g) : OW w1 (cb + 1) T v l :=
  own_kept h (Kept.of_grown hg) (fun g hg e => hne g hg e.symm)
theorem blk_grown {g T : Nat} {cs : Array Value} {row : Option Nat} {B : Nat} (h : Blk wx g T cs) (hg : wx.grownBy w1 row) (hr : ∀ k, row = some k → B ≤ k) (hB : g < B) : Blk w1 g T cs :=
  h.grown hg (fun e => by have := hr g e.symm; omega)
/-- one more of each of three lists: the row grew, and its new value is stored -/
theorem CS.app3 (h : CS w i1 i2 K wx c v1 v2 v3 v4) {v : Value} (b : Bool) (hg : wx.grownBy w1 v3.ownBlock) (ho : w1.ownsRow (w.heap.size + 1 + 1 + 1) 4 1 v (c.side.length + 1) (c.side.map Bv ++ [.bool b])) :
    CS w i1 i2 (K + 1) (w1.setCell ⟨w.heap.size + 1 + 1, 3, none⟩ v) { c with side := c.side ++ [if b then 1 else 0] } v1 v2 v v4 := by
  have hr : ∀ k, v3.ownBlock = some k → w.heap.size + 1 + 1 + 1 ≤ k := fun k hk => (h.cv.s.lt k hk).1
  have hbl := h.b.grown hg h.b.size (fun k hk => by have := hr k hk; omega)
  refine ⟨⟨(blk_grown h.cv.blk hg hr (by omega)).set_ 3 v, (ow_grown h.cv.f hg (own_ne h.cv.f h.cv.s (by decide))).far 3 v, (ow_grown h.cv.p hg (own_ne h.cv.p h.cv.s (by decide))).far 3 v, ?_, (ow_grown h.cv.y hg (own_ne h.cv.y h.cv.s (by decide))).far 3 v, h.cv.fp, { h.cv.ok with side := ?_ }, Nat.le_succ_of_le h.cv.n1, Nat.le_succ_of_le h.cv.n2, ?_, Nat.le_succ_of_le h.cv.n4⟩,
    (blk_grown h.ib hg hr (by omega)).far (p := ⟨w.heap.size + 1 + 1, 3, none⟩) (by show w.heap.size ≠ w.heap.size + 1 + 1; omega) v, (blk_grown h.rb hg hr (by omega)).far (p := ⟨w.heap.size + 1 + 1, 3, none⟩) (by show w.heap.size + 1 ≠ w.heap.size + 1 + 1; omega) v, hbl.setCell (p := ⟨w.heap.size + 1 + 1, 3, none⟩) (by show w.heap.size ≤ w.heap.size + 1 + 1; omega) v⟩
  · refine OW.far ?_ 3 v
    have e : (c.side ++ [if b then 1 else 0]).map Bv = c.side.map Bv ++ [.bool b] := by rw [List.map_append, List.map_singleton, Bv_of]
    show OW w1 _ 4 v ((c.side ++ [if b then 1 else 0]).map Bv)
    rw [e]
    exact ow_new ho (by simp) (by omega)
  · intro x hx
    rcases List.mem_append.1 hx with hx | hx
    · exact h.cv.ok.side x hx
    · rw [List.mem_singleton.1 hx]; split <;> simp
  · have := h.cv.n3; simp; omega
theorem CS.app2 (h : CS w i1 i2 K wx c v1 v2 v3 v4) {v : Value} (x : Int) (hx : 0 ≤ x ∧ x ≤ 1000) (hg : wx.grownBy w1 v2.ownBlock) (ho : w1.ownsRow (w.heap.size + 1 + 1 + 1) 2 1 v (c.pot.length + 1) (c.pot.map I ++ [.int .i64 x])) (hat : v.ownBlock = v2.ownBlock ∨ v.ownBlock = some wx.heap.size) :
    CS w i1 i2 (K + 1) (w1.setCell ⟨w.heap.size + 1 + 1, 2, none⟩ v) { c with pot := c.pot ++ [x] } v1 v v3 v4 := by
  have hr : ∀ k, v2.ownBlock = some k → w.heap.size + 1 + 1 + 1 ≤ k := fun k hk => (h.cv.p.lt k hk).1
  have hbl := h.b.grown hg h.b.size (fun k hk => by have := hr k hk; omega)
  refine ⟨⟨(blk_grown h.cv.blk hg hr (by omega)).set_ 2 v, (ow_grown h.cv.f hg h.cv.fp).far 2 v, ?_, (ow_grown h.cv.s hg (own_ne h.cv.s h.cv.p (by decide))).far 2 v, (ow_grown h.cv.y hg (own_ne h.cv.y h.cv.p (by decide))).far 2 v, ?_, { h.cv.ok with pot := ?_ }, Nat.le_succ_of_le h.cv.n1, ?_, Nat.le_succ_of_le h.cv.n3, Nat.le_succ_of_le h.cv.n4⟩,
    (blk_grown h.ib hg hr (by omega)).far (p := ⟨w.heap.size + 1 + 1, 2, none⟩) (by show w.heap.size ≠ w.heap.size + 1 + 1; omega) v, (blk_grown h.rb hg hr (by omega)).far (p := ⟨w.heap.size + 1 + 1, 2, none⟩) (by show w.heap.size + 1 ≠ w.heap.size + 1 + 1; omega) v, hbl.setCell (p := ⟨w.heap.size + 1 + 1, 2, none⟩) (by show w.heap.size ≤ w.heap.size + 1 + 1; omega) v⟩
  · refine OW.far ?_ 2 v
    have e : (c.pot ++ [x]).map I = c.pot.map I ++ [.int .i64 x] := by rw [List.map_append]; rfl
    show OW w1 _ 2 v ((c.pot ++ [x]).map I)
    rw [e]
    exact ow_new ho (by simp) (by omega)
  · intro g hg1 hg2
    rcases hat with e | e
    · exact h.cv.fp g hg1 (e ▸ hg2)
    · have := h.cv.f.lt g hg1
      rw [e] at hg2
      injection hg2 with hg2
      omega
  · intro y hy
    rcases List.mem_append.1 hy with hy | hy
    · exact h.cv.ok.pot y hy
    · rw [List.mem_singleton.1 hy]; omega
  · have := h.cv.n2; simp; omega
theorem CS.app4 (h : CS w i1 i2 K wx c v1 v2 v3 v4) {v : Value} (x : Int) (hx : 0 ≤ x ∧ x ≤ 1000) (hg : wx.grownBy w1 v4.ownBlock) (ho : w1.ownsRow (w.heap.size + 1 + 1 + 1) 3 1 v (c.cycle.length + 1) (c.cycle.map I ++ [.int .i64 x])) :
    CS w i1 i2 (K + 1) (w1.setCell ⟨w.heap.size + 1 + 1, 4, none⟩ v) { c with cycle := c.cycle ++ [x] } v1 v2 v3 v := by
  have hr : ∀ k, v4.ownBlock = some k → w.heap.size + 1 + 1 + 1 ≤ k := fun k hk => (h.cv.y.lt k hk).1
  have hbl := h.b.grown hg h.b.size (fun k hk => by have := hr k hk; omega)
  refine ⟨⟨(blk_grown h.cv.blk hg hr (by omega)).set_ 4 v, (ow_grown h.cv.f hg (own_ne h.cv.f h.cv.y (by decide))).far 4 v, (ow_grown h.cv.p hg (own_ne h.cv.p h.cv.y (by decide))).far 4 v, (ow_grown h.cv.s hg (own_ne h.cv.s h.cv.y (by decide))).far 4 v, ?_, h.cv.fp, { h.cv.ok with cycle := ?_ }, Nat.le_succ_of_le h.cv.n1, Nat.le_succ_of_le h.cv.n2, Nat.le_succ_of_le h.cv.n3, ?_⟩,
    (blk_grown h.ib hg hr (by omega)).far (p := ⟨w.heap.size + 1 + 1, 4, none⟩) (by show w.heap.size ≠ w.heap.size + 1 + 1; omega) v, (blk_grown h.rb hg hr (by omega)).far (p := ⟨w.heap.size + 1 + 1, 4, none⟩) (by show w.heap.size + 1 ≠ w.heap.size + 1 + 1; omega) v, hbl.setCell (p := ⟨w.heap.size + 1 + 1, 4, none⟩) (by show w.heap.size ≤ w.heap.size + 1 + 1; omega) v⟩
  · refine OW.far ?_ 4 v
    have e : (c.cycle ++ [x]).map I = c.cycle.map I ++ [.int .i64 x] := by rw [List.map_append]; rfl
    show OW w1 _ 3 v ((c.cycle ++ [x]).map I)
    rw [e]
    exact ow_new ho (by simp) (by omega)
  · intro y hy
    rcases List.mem_append.1 hy with hy | hy
    · exact h.cv.ok.cycle y hy
    · rw [List.mem_singleton.1 hy]; omega
  · have := h.cv.n4; simp; omega
end

def CertTells (w : World) (e : Ending) (w' : World) : Prop := ∃ (c : CertV) (v1 v2 v3 v4 : Value), e = .returned (.agg #[.int .i64 c.kind, v1, v2, v3, v4]) ∧ CertR w' c v1 v2 v3 v4 ∧ CertOk c ∧ c.flow.length ≤ 100 ∧ c.pot.length ≤ 100 ∧ c.side.length ≤ 100 ∧ c.cycle.length ≤ 100 ∧ Below w.heap.size w w'
def CSx (w : World) (i1 i2 : Value) (K : Nat) (wx : World) : Prop := ∃ c v1 v2 v3 v4, CS w i1 i2 K wx c v1 v2 v3 v4
theorem reads_ad {w : World} {B n : Nat} {A : Option Addr} {xs : List Value} (h : Reads w B 1 A n xs) : 0 < n → ∃ ad, A = some ad ∧ ∀ j v, xs[j]? = some v → w.cell? (ad.add j) = some v := fun hn => by
  obtain ⟨b, off, rfl, -, hc⟩ := h.2 hn
  exact ⟨_, rfl, fun j v hv => by rw [add_lit]; exact hc j v hv⟩
theorem own_blk {w : World} {g base n : Nat} {e : TypeId} {l : List Value} (h : Blk w g e l.toArray) (hn : l.length = n) (hb : base ≤ g) (hm : n ≤ maxLen) : w.ownsRow base e 1 (.slice (some ⟨g, 0, none⟩) n n) n l :=
  ⟨by simp [hn], .inr ⟨g, n, l.toArray, rfl, hb, h, Nat.le_refl _, hm, by simp [hn], by simp [← hn]⟩⟩
theorem makeBools (N : Nat) (hn : N ≤ 2000000000) (W : World) : (Instr.makeSlice 29 (.int .i64 (N : Int)) (.int .i64 (N : Int))).run Tryz.prog W =
    .ok (.slice (some ⟨W.heap.size, 0, none⟩) N N) (W.alloc (.cells ((List.replicate N (0 : Int)).map Bv).toArray 4)) := by
  obtain ⟨i3, hi3, hz30, hz31, hz32⟩ := info_parts info4
  have := run_make (P := Tryz.prog) W 29 4 i3 (.bool false) Tryz.underlying29 hi3 hz30 .i64 .i64 (N : Int) (N : Int) (by omega) (by omega) (by rw [hz32]; omega) (by omega)
  rw [hz31, Int.toNat_natCast, Nat.mul_one] at this
  have e : madeCells #[.bool false] N = ((List.replicate N (0 : Int)).map Bv).toArray := by
    apply Array.ext
    · simp [madeCells]
    · intro j h1 h2
      simp [madeCells, Bv, Nat.mod_one]
  rw [← e]
  exact this
theorem CS.tells {w wx : World} {i1 i2 : Value} {K : Nat} {c : CertV} {v1 v2 v3 v4 : Value} (h : CS w i1 i2 K wx c v1 v2 v3 v4) (hK : K ≤ 100) :
    CertTells w (.returned (.agg #[.int .i64 c.kind, v1, v2, v3, v4])) (put5 wx (w.heap.size + 1) (.int .i64 c.kind) v1 v2 v3 v4) := by
  have hlt : w.heap.size + 1 < w.heap.size + 1 + 1 + 1 := by omega
  refine ⟨c, v1, v2, v3, v4, rfl, ⟨FldR.of_ow (ow_put5 h.cv.f hlt _ _ _ _ _), FldR.of_ow (ow_put5 h.cv.p hlt _ _ _ _ _), FldR.of_ow (ow_put5 h.cv.s hlt _ _ _ _ _), FldR.of_ow (ow_put5 h.cv.y hlt _ _ _ _ _)⟩, h.cv.ok, Nat.le_trans h.cv.n1 hK, Nat.le_trans h.cv.n2 hK, Nat.le_trans h.cv.n3 hK, Nat.le_trans h.cv.n4 hK, below_put5 h.b (by omega) _ _ _ _ _⟩

theorem CS.copied {w X w4 : World} {i1 i2 : Value} {K n gb : Nat} {k : Int} {r zs : List Int} (h : CS w i1 i2 K X ⟨k, [], [], r, []⟩ (.slice none 0 0) (.slice none 0 0) (.slice (some ⟨gb, 0, none⟩) n n) (.slice none 0 0)) (hgb : w.heap.size + 1 + 1 < gb) (hb4 : Below gb X w4)
    (hg4 : Blk w4 gb 4 (zs.map Bv).toArray) (hz : ∀ z ∈ zs, z = 0 ∨ z = 1) (hl : zs.length = n) (hn : n ≤ K) (hK : K ≤ 100) : CS w i1 i2 K w4 ⟨k, [], [], zs, []⟩ (.slice none 0 0) (.slice none 0 0) (.slice (some ⟨gb, 0, none⟩) n n) (.slice none 0 0) :=
  ⟨⟨h.cv.blk.below hb4 hgb, OW.nil, OW.nil, ow_new (own_blk hg4 (by simpa using hl) (Nat.le_refl gb) (by unfold maxLen; omega)) (by simp [hl]) (by omega), OW.nil, h.cv.fp, { h.cv.ok with side := hz }, h.cv.n1, h.cv.n2, by show zs.length ≤ K; omega, h.cv.n4⟩, h.ib.below hb4 (by omega), h.rb.below hb4 (by omega), h.b.trans (hb4.mono (by omega))⟩
theorem splice_bv (r xs : List Int) : splice (r.map Bv) 0 (xs.map Bv) = (xs ++ r.drop xs.length).map Bv := by simp [splice]

theorem OW.form {w : World} {B : Nat} {T : TypeId} {v : Value} {l : List Int} {f : Int → Value} (h : OW w B T v (l.map f)) : ∃ A cp, v = .slice A l.length cp := by
  obtain ⟨A, cp, e⟩ := own_form h
  rw [List.length_map] at e
  exact ⟨A, cp, e⟩

set_option maxRecDepth 100000 in
set_option maxHeartbeats 8000000 in
theorem Cert_in (A1 A2 D E : Option Addr) (n c1 m c2 nd cd ne ce N : Nat) (kd : Int) (arcs : List ArcV) (ds es : List Int) (w : World) (hr : Reads w w.heap.size 5 A2 m (arcCells arcs)) (hab : ∀ x ∈ arcs, ArcB N x) (hm : m ≤ 18) (hn : n ≤ 7) (hk : 0 ≤ kd ∧ kd ≤ 255)
    (hd : Reads w w.heap.size 1 D nd (ds.map U)) (hyd : Byt ds) (hnd : nd ≤ 9223372036854775807) (he : Reads w w.heap.size 1 E ne (es.map U)) (hye : Byt es) (hne : ne ≤ 9223372036854775807) :
    Calls Tryz.prog 12 #[.agg #[.slice A1 n c1, .slice A2 m c2], .int .u8 kd, .slice D nd cd, .slice E ne ce] w (CertTells w) := by
  obtain ⟨hk0, hk1⟩ := hk
  have HAB := Lib.hid hab
  clear hab
  have hmk := makeBools n (by omega)
  have HMK := Lib.hid hmk
  clear hmk
  have HE := Lib.hid he
  have HR := Lib.hid hr
  have HD := Lib.hid hd
  clear he hr hd
  have hi2 := info_parts info2
  have hi3 := info_parts info3
  have hi4 := info_parts info4
  go_enter Tryz.func12, Tryz.ntmps12
  go_upto_block 0 with fail
  have hS0 : CS w (.slice A1 n c1) (.slice A2 m c2) 0 (((w.alloc (.cells #[.slice A1 n c1, .slice A2 m c2] 38)).alloc (.cells #[.int .i64 0, .slice none 0 0, .slice none 0 0, .slice none 0 0, .slice none 0 0] 32)).alloc
      (.cells #[.int .i64 (1 + kd % 3), .slice none 0 0, .slice none 0 0, .slice none 0 0, .slice none 0 0] 32)) ⟨1 + kd % 3, [], [], [], []⟩ (.slice none 0 0) (.slice none 0 0) (.slice none 0 0) (.slice none 0 0) :=
    ⟨⟨blk_newN _ _ _ _ (by simp), OW.nil, OW.nil, OW.nil, OW.nil, by simp [Value.ownBlock], ⟨by simp, by simp, by simp, by simp⟩, by simp, by simp, by simp, by simp⟩, ((Blk.new w 38 _).alloc _).alloc _, (blk_newN _ _ _ _ (by simp)).alloc _, (((Below.refl _ w).alloc (Nat.le_refl _) _).alloc (by simp) _).alloc (by simp; omega) _⟩
  generalize (((w.alloc (.cells #[.slice A1 n c1, .slice A2 m c2] 38)).alloc (.cells #[.int .i64 0, .slice none 0 0, .slice none 0 0, .slice none 0 0, .slice none 0 0] 32)).alloc
      (.cells #[.int .i64 (1 + kd % 3), .slice none 0 0, .slice none 0 0, .slice none 0 0, .slice none 0 0] 32)) = W at *
  have hS0 := hS0.mono (K' := 20) (by omega)
  have p0 : W.cell? ⟨w.heap.size, 0, none⟩ = some (.slice A1 n c1) := hS0.ib.cell 0
  have p1 : W.cell? ⟨w.heap.size, 1, none⟩ = some (.slice A2 m c2) := hS0.ib.cell 1
  have lW := hS0.cv.blk.lt
  have lW1 : w.heap.size < W.heap.size := by omega
  go_cut [] (fun wx => CSx w (.slice A1 n c1) (.slice A2 m c2) 30 wx)
  case first =>
    by_cases k0 : kd % 3 = 0
    · have z0 : (1 + kd % 3 == 1) = true := by simp [k0]
      clear k0
      go_wp2_with fail
      refine (Flow_in A1 A2 D n c1 m c2 nd cd N arcs ds W ((HR.out.below hS0.b).more hS0.b.size) HAB.out hm ((HD.out.below hS0.b).more hS0.b.size) hyd hnd).mono ?_
      rintro e w1 ⟨A, cx, xs, rfl, ho, hxl, hx, hb1⟩
      have hS1 := hS0.set1 hb1 ho hx (by omega)
      have hB1 := (hS0.below hb1).cv.blk
      have r1 := hB1.cell 1
      have f1 := hB1.frozen 1
      have r0 : w1.cell? ⟨w.heap.size, 0, none⟩ = some (.slice A1 n c1) := (hS0.below hb1).ib.cell 0
      have lw1 := hB1.lt
      have lw2 : w.heap.size < w1.heap.size := by omega
      simp only [List.getElem?_toArray, List.getElem?_cons_zero, List.getElem?_cons_succ] at r1
      have HS1 := Lib.hid hS1
      clear hS1 hB1 ho hx p0 p1
      go_wp2_with fail
      refine (Pot_in E ne ce n es _ (by omega) ((HE.out.below HS1.out.b).more HS1.out.b.size) hye hne).mono ?_
      rintro e w2 ⟨A', cx', ys, rfl, ho2, hyl, hy, hb2⟩
      have hS2 := HS1.out.set2 hb2 ho2 hy (by omega)
      have hB2 := (HS1.out.below hb2).cv.blk
      have r2 := hB2.cell 2
      have f2 := hB2.frozen 2
      have lx := hB2.lt
      simp only [List.getElem?_toArray, List.getElem?_cons_zero, List.getElem?_cons_succ] at r2
      have HS2 := Lib.hid hS2
      clear hS2 hB2 ho2 hy r1 f1 r0 HS1
      go_wp2_with fail
      go_meet
      exact ⟨_, _, _, _, _, HS2.out.mono (by omega)⟩
    · have z0 : (1 + kd % 3 == 1) = false := by simp; omega
      by_cases k1 : kd % 3 = 1
      · have z1 : (1 + kd % 3 == 2) = true := by simp [k1]
        clear k0 k1
        obtain ⟨cur, hcur⟩ : ∃ cur : Array Value, cur = ((List.replicate n (0 : Int)).map Bv).toArray := ⟨_, rfl⟩
        have hmk := HMK.out W
        rw [← hcur] at hmk
        have HC := Lib.hid hcur
        clear hcur
        have hB0 := hS0.cv.blk
        have r3 := hB0.cell 3
        have f3 := hB0.frozen 3
        simp only [List.getElem?_toArray, List.getElem?_cons_zero, List.getElem?_cons_succ] at r3
        have hal : Below W.heap.size W (W.alloc (.cells cur 4)) := (Below.refl _ W).alloc (Nat.le_refl _) _
        have hS1 := hS0.set3 (v := .slice (some ⟨W.heap.size, 0, none⟩) n n) (xs := List.replicate n 0) hal (by rw [List.length_replicate, HC.out]; exact own_blk (Blk.new W 4 _) (by simp) (Nat.le_refl _) (by unfold maxLen; omega)) (by intro x hx; left; exact List.eq_of_mem_replicate hx) (by simp; omega)
        have hG : Blk ((W.alloc (.cells cur 4)).setCell ⟨w.heap.size + 1 + 1, 3, none⟩ (.slice (some ⟨W.heap.size, 0, none⟩) n n)) W.heap.size 4 cur := (Blk.new W 4 _).far (p := ⟨w.heap.size + 1 + 1, 3, none⟩) (by show W.heap.size ≠ w.heap.size + 1 + 1; omega) _
        rw [World.setCell_alloc_past _ _ _ _ lW] at hS1 hG
        have HS1 := Lib.hid (And.intro hS1 hG)
        clear hS1 hG hal hB0
        go_upto_region 13 with fail
        obtain ⟨hS1, hG⟩ := HS1.out
        clear HS1 hmk p0 p1 r3 f3
        generalize (W.setCell ⟨w.heap.size + 1 + 1, 3, none⟩ (.slice (some ⟨W.heap.size, 0, none⟩) n n)).alloc (.cells cur 4) = X at *
        generalize W.heap.size = gb at *
        rw [HC.out] at hG
        have r3 : X.cell? ⟨w.heap.size + 1 + 1, 3, none⟩ = some (.slice (some ⟨gb, 0, none⟩) n n) := hS1.cv.blk.cell 3
        have r0 : X.cell? ⟨w.heap.size, 0, none⟩ = some (.slice A1 n c1) := hS1.ib.cell 0
        have lG := hG.lt
        have lX1 := hS1.cv.blk.lt
        have lX0 : w.heap.size < X.heap.size := by omega
        have HS := Lib.hid (And.intro hS1 hG)
        clear hS1 hG hS0
        go_region_law (first
          | (go_simp; go_at_call 23; refine (Marks_in E ne ce n es _ (by omega) (by exact (HE.out.below (HS.out.1.b.trans ((Below.refl _ _).drew))).more HS.out.1.b.size) hye hne).mono ?_; rintro e w2 ⟨A', cx, xs, rfl, ho, hxl, hx, hb2⟩; have k3 := (hb2.cell (p := ⟨w.heap.size + 1 + 1, 3, none⟩) lX1).trans r3; have HP : Hid (0 < xs.length → ∃ ad, A' = some ad ∧ ∀ j v, (xs.map Bv)[j]? = some v → w2.cell? (ad.add j) = some v) := Lib.hid (reads_ad (Reads.of_own ho)); have HX := Lib.hid hx; clear ho hx)
          | (refine step_copy_splice rfl (.tmp 67) (.tmp 72) 29 29 (by rfl) 4 Tryz.underlying29 (by kernel_rfl) (some ⟨gb, 0, none⟩) A' n n xs.length cx (by rfl) (by rfl) gb 0 ((List.replicate n (0 : Int)).map Bv) 4 (HS.out.2.below ((Below.refl _ _).drew.trans hb2) lG) (xs.map Bv) (by rw [List.length_map]; exact (Nat.min_eq_left hxl).symm) (fun hp => ⟨rfl, HP.out (by simpa using hp)⟩) (by simp; omega) (by intro v hv; obtain ⟨x, -, rfl⟩ := List.mem_map.1 hv; rfl) gb X (((Below.refl _ _).drew.trans hb2).mono (Nat.le_of_lt lG)) (Nat.le_refl _) ?_; intro w4 hg4 hb4))
        all_goals
          go_wp2_with fail
          go_meet
          refine ⟨_, _, _, _, _, (HS.out.1.copied (zs := xs ++ (List.replicate n 0).drop xs.length) (by omega) hb4 ?_ ?_ ?_ (by omega) (by omega)).mono (by omega)⟩
          · rw [← splice_bv]; exact hg4
          · intro z hz
            rcases List.mem_append.1 hz with hz | hz
            · have := HX.out z hz; omega
            · left; exact List.eq_of_mem_replicate (List.mem_of_mem_drop hz)
          · simp; omega
      · have z1 : (1 + kd % 3 == 2) = false := by simp; omega
        clear k0 k1
        obtain ⟨i0, hi, hz0, hz1, hz2⟩ := hi3
        go_wp2_with fail
        refine (Flow_in A1 A2 D n c1 m c2 nd cd N arcs ds W ((HR.out.below hS0.b).more hS0.b.size) HAB.out hm ((HD.out.below hS0.b).more hS0.b.size) hyd hnd).mono ?_
        rintro e w1 ⟨A, cx, xs, rfl, ho, hxl, hx, hb1⟩
        have hS1 := hS0.set1 hb1 ho hx (by omega)
        have hB1 := (hS0.below hb1).cv.blk
        have r1 := hB1.cell 1
        have f1 := hB1.frozen 1
        have lw1 := hB1.lt
        simp only [List.getElem?_toArray, List.getElem?_cons_zero, List.getElem?_cons_succ] at r1
        have HS1 := Lib.hid hS1
        clear hS1 hB1 ho hx p0 p1
        go_wp2_with fail
        generalize w1.setCell ⟨w.heap.size + 1 + 1, 1, none⟩ (.slice A xs.length cx) = W3 at *
        clear r1 f1
        go_loopw [10] (fun i wr => ∃ (k : Nat) (c : CertV) (v1 v2 v3 v4 : Value), k ≤ 4 ∧ i = .int .i64 k ∧ Hid (CS w (.slice A1 n c1) (.slice A2 m c2) (20 + k) wr c v1 v2 v3 v4)) (fun i _ => 4 - (intOf i).toNat)
        case atStart => exact ⟨0, _, _, _, _, _, Nat.zero_le _, rfl, HS1⟩
        case round =>
          obtain ⟨k, c, v1, v2, v3, v4, hk4, rfl, HS⟩ := hrel
          clear HS1
          by_cases hlt : k < ne
          · by_cases h4 : k < 4
            · obtain ⟨b1, off1, u, rfl, hbB, hx, hcell⟩ := ((HE.out.below HS.out.b).more HS.out.b.size).at_ hlt
              simp only [List.getElem?_map, Option.map_eq_some_iff] at hx
              obtain ⟨y, hx, rfl⟩ := hx
              obtain ⟨y1, y2⟩ := hye.at_ hx
              clear hx
              unfold U at hcell
              have hn4 := HS.out.cv.n4
              have hy0 := HS.out.cv.y
              unfold OW at hy0
              obtain ⟨A4, c4, rfl⟩ := own_form hy0
              rw [List.length_map] at hy0
              have hB := HS.out.cv.blk
              have r4 := hB.cell 4
              rw [List.length_map] at r4
              have p1 : wr.cell? ⟨w.heap.size, 1, none⟩ = some (.slice A2 m c2) := HS.out.ib.cell 1
              have lB := hB.lt
              have lI : w.heap.size < wr.heap.size := by omega
              simp only [List.getElem?_toArray, List.getElem?_cons_zero, List.getElem?_cons_succ] at r4
              have t0 : IntKind.i64.wrap y = y := IntWalk.i64_in _ (by omega)
              have t1 : y.tmod ((m : Int) + 1) = y % ((m : Int) + 1) := Int.tmod_eq_emod_of_nonneg y1
              have t2 : IntKind.i64.wrap ((m : Int) + 1) = (m : Int) + 1 := IntWalk.i64_in _ (by omega)
              have y3 := Int.emod_nonneg y (show (m : Int) + 1 ≠ 0 by omega)
              have y4 := Int.emod_lt_of_pos y (show (0 : Int) < (m : Int) + 1 by omega)
              have t3 : IntKind.i64.wrap (y % ((m : Int) + 1)) = y % ((m : Int) + 1) := IntWalk.i64_in _ (by omega)
              have t4 : ¬ (m : Int) + 1 = 0 := by omega
              have HY := Lib.hid hy0
              have HYY : Hid (0 ≤ y % ((m : Int) + 1) ∧ y % ((m : Int) + 1) ≤ 1000) := Lib.hid (by omega)
              clear hy0 hB y3 y4
              have d4 : decide ((k : Int) < 4) = true := by simp; omega
              go_wp2_with fail
              go_region_law
                (refine step_append_any _ (by rfl) (.tmp 33) (.tmp 44) 30 (by rfl) (w.heap.size + 1 + 1 + 1) 3 i0 (.int .i64 0) 1 8 Tryz.underlying30 hi hz0 hz1 hz2 rfl (by decide) (.slice A4 c.cycle.length c4) c.cycle.length (c.cycle.map I) (by rfl) ((own_below HY.out (Below.refl _ _).drew).alloc _) (wr.heap.size + 1) (some ⟨wr.heap.size, 0, none⟩) 1 1 [.int .i64 (y % ((m : Int) + 1))] (by rfl) (reads_new wr.drew 3 [.int .i64 (y % ((m : Int) + 1))]) (by simp [Value.oneCell']) (by unfold maxLen; omega) (by omega) (by simp; omega) ?_; intro v' w5 hown5 hgrow5 hat5; obtain ⟨A5, c5, rfl⟩ := own_form hown5; have hB5 := (HS.out.cv.blk.drew.alloc (.cells #[.int .i64 (y % ((m : Int) + 1))] 3)).grown hgrow5 (fun e => by have := (HY.out.lt _ e.symm).1; omega); have r5 := hB5.cell 4; have f5 := hB5.frozen 4; simp only [List.getElem?_toArray, List.getElem?_cons_zero, List.getElem?_cons_succ] at r5)
              all_goals
                go_wp2_with fail
                go_roundw
                case rel =>
                  have hal : Below wr.heap.size wr (wr.drew.alloc (.cells #[.int .i64 (y % ((m : Int) + 1))] 3)) := (Below.refl _ wr).drew.alloc (Nat.le_refl _) _
                  exact ⟨k + 1, _, _, _, _, _, by omega, by go_num, Lib.hid ((((HS.out.below hal).app4 _ HYY.out (by rw [List.length_map]; exact hgrow5) hown5)).mono (by omega))⟩
                case measure => simp [intOf]; omega
            · have d4 : decide ((k : Int) < 4) = false := by simp; omega
              go_wp2_with fail
              go_meet
              exact ⟨_, _, _, _, _, HS.out.mono (by omega)⟩
          · go_wp2_with fail
            go_meet
            exact ⟨_, _, _, _, _, HS.out.mono (by omega)⟩
  case rest =>
    obtain ⟨c, v1, v2, v3, v4, hS⟩ := hcut
    clear p0 p1 hS0 lW lW1
    have n3 := hS.cv.n3
    have n2 := hS.cv.n2
    obtain ⟨F1, k1, rfl⟩ := hS.cv.f.form
    obtain ⟨F2, k2, rfl⟩ := hS.cv.p.form
    obtain ⟨F3, k3, rfl⟩ := hS.cv.s.form
    obtain ⟨F4, k4, rfl⟩ := hS.cv.y.form
    have hs0 := hS.cv.s
    have hp0 := hS.cv.p
    unfold OW at hs0 hp0
    rw [List.length_map] at hs0 hp0
    obtain ⟨⟨q0, q1, q2, q3, q4⟩, g0, g1, g2, g3, g4⟩ := hS.cv.blk.five
    obtain ⟨⟨o0, o1, o2, o3, o4⟩, e0, e1, e2, e3, e4⟩ := hS.rb.five
    have lB := hS.cv.blk.lt
    have lR := hS.rb.lt
    obtain ⟨i4, hi4, hz40, hz41, hz42⟩ := hi4
    obtain ⟨i2, hi2, hz20, hz21, hz22⟩ := hi2
    have HS := Lib.hid hS
    clear hS
    by_cases k0 : kd / 3 % 12 = 0
    · have z0 : (kd / 3 % 12 == 0) = true := by simpa using k0
      clear k0
      go_wp2_with (at_builtin; refine wpList_append_own _ rfl _ _ 29 rfl (w.heap.size + 1 + 1 + 1) 4 i4 (.bool false) 1 1 Tryz.underlying29 hi4 hz40 hz41 hz42 rfl (by decide) _ _ _ rfl (hs0.alloc _) ⟨wc.heap.size, 0, none⟩ 1 1 [.bool true] rfl rfl ?c1 ?c2 ?c3 ?c4 ?c5 ?_)
      case c1 => exact cell_one_new _ _ _
      case c2 => simp [Value.oneCell']
      case c3 => unfold maxLen; omega
      case c4 => omega
      case c5 => simp; omega
      intro v' w1 hown' hgrow hat
      obtain ⟨A5, c5, rfl⟩ := own_form hown'
      have hal : Below wc.heap.size wc (wc.alloc (.cells #[.bool true] 4)) := (Below.refl _ wc).alloc (Nat.le_refl _) _
      have hS2 := (HS.out.below hal).app3 true hgrow hown'
      have hB1 := blk_grown (HS.out.cv.blk.alloc (.cells #[.bool true] 4)) hgrow (fun k hk => (hs0.lt k hk).1) (by omega)
      obtain ⟨⟨s0, s1, s2, s3, s4⟩, -, -, -, t3, -⟩ := hB1.five
      have HS2 := Lib.hid hS2
      clear hS2 hB1 hown' hgrow hat
      go_upto_region 21 with fail
      have hS9 := HS2.out
      generalize w1.setCell ⟨w.heap.size + 1 + 1, 3, none⟩ (.slice A5 (c.side.length + 1) c5) = W9 at hS9 ⊢
      obtain ⟨⟨q0', q1', q2', q3', q4'⟩, -⟩ := hS9.cv.blk.five
      obtain ⟨⟨o0', o1', o2', o3', o4'⟩, e0', e1', e2', e3', e4'⟩ := hS9.rb.five
      have lB' := hS9.cv.blk.lt
      have lR' := hS9.rb.lt
      have hT := hS9.tells (by omega)
      have hF := hS9.rb.put5 (.int .i64 c.kind) (.slice F1 c.flow.length k1) (.slice F2 c.pot.length k2) (.slice A5 (c.side.length + 1) c5) (.slice F4 c.cycle.length k4)
      have HT := Lib.hid (And.intro hT hF)
      clear hT hF hS9 HS2 HS q0 q1 q2 q3 q4 g0 g1 g2 g3 g4 o0 o1 o2 o3 o4 e0 e1 e2 e3 e4
      try simp only at q0' q1' q2' q3' q4'
      go_wp2_with fail
      change bodyPost _ _ _ _ _ (put5 W9 (w.heap.size + 1) (.int .i64 c.kind) (.slice F1 c.flow.length k1) (.slice F2 c.pot.length k2) (.slice A5 (c.side.length + 1) c5) (.slice F4 c.cycle.length k4))
      obtain ⟨hT, hF⟩ := HT.out
      generalize put5 W9 (w.heap.size + 1) (.int .i64 c.kind) (.slice F1 c.flow.length k1) (.slice F2 c.pot.length k2) (.slice A5 (c.side.length + 1) c5) (.slice F4 c.cycle.length k4) = WF at hT hF ⊢
      obtain ⟨⟨d0, d1, d2, d3, d4⟩, -⟩ := hF.five
      exact bodyPost_ret (by simp [results, Tryz.results12, go_sem, d0, d1, d2, d3, d4]) rfl hT
    · have z0 : (kd / 3 % 12 == 0) = false := by simpa using k0
      clear k0
      by_cases k0 : kd / 3 % 12 = 1
      · have z1 : (kd / 3 % 12 == 1) = true := by simpa using k0
        clear k0
        go_wp2_with (at_builtin; refine wpList_append_any _ rfl _ _ 28 rfl (w.heap.size + 1 + 1 + 1) 2 i2 (.int .i64 0) 1 8 Tryz.underlying28 hi2 hz20 hz21 hz22 rfl (by decide) _ _ _ rfl (hp0.alloc _) (wc.heap.size + 1) (some ⟨wc.heap.size, 0, none⟩) 1 1 [.int .i64 1] rfl (reads_new wc 2 [.int .i64 1]) ?c2 ?c3 ?c4 ?c5 ?_)
        case c2 => simp [Value.oneCell']
        case c3 => unfold maxLen; omega
        case c4 => omega
        case c5 => simp; omega
        intro v' w1 hown' hgrow hat
        obtain ⟨A5, c5, rfl⟩ := own_form hown'
        have hal : Below wc.heap.size wc (wc.alloc (.cells #[.int .i64 1] 2)) := (Below.refl _ wc).alloc (Nat.le_refl _) _
        have hS2 := (HS.out.below hal).app2 1 (by omega) hgrow hown' (by simpa using hat)
        have hB1 := blk_grown (HS.out.cv.blk.alloc (.cells #[.int .i64 1] 2)) hgrow (fun k hk => (hp0.lt k hk).1) (by omega)
        obtain ⟨⟨s0, s1, s2, s3, s4⟩, -, -, t2, -, -⟩ := hB1.five
        have HS2 := Lib.hid hS2
        clear hS2 hB1 hown' hgrow hat
        go_upto_region 21 with fail
        have hS9 := HS2.out
        generalize w1.setCell ⟨w.heap.size + 1 + 1, 2, none⟩ (.slice A5 (c.pot.length + 1) c5) = W9 at hS9 ⊢
        obtain ⟨⟨q0', q1', q2', q3', q4'⟩, -⟩ := hS9.cv.blk.five
        obtain ⟨⟨o0', o1', o2', o3', o4'⟩, e0', e1', e2', e3', e4'⟩ := hS9.rb.five
        have lB' := hS9.cv.blk.lt
        have lR' := hS9.rb.lt
        have hT := hS9.tells (by omega)
        have hF := hS9.rb.put5 (.int .i64 c.kind) (.slice F1 c.flow.length k1) (.slice A5 (c.pot.length + 1) c5) (.slice F3 c.side.length k3) (.slice F4 c.cycle.length k4)
        have HT := Lib.hid (And.intro hT hF)
        clear hT hF hS9 HS2 HS q0 q1 q2 q3 q4 g0 g1 g2 g3 g4 o0 o1 o2 o3 o4 e0 e1 e2 e3 e4
        try simp only at q0' q1' q2' q3' q4'
        go_wp2_with fail
        change bodyPost _ _ _ _ _ (put5 W9 (w.heap.size + 1) (.int .i64 c.kind) (.slice F1 c.flow.length k1) (.slice A5 (c.pot.length + 1) c5) (.slice F3 c.side.length k3) (.slice F4 c.cycle.length k4))
        obtain ⟨hT, hF⟩ := HT.out
        generalize put5 W9 (w.heap.size + 1) (.int .i64 c.kind) (.slice F1 c.flow.length k1) (.slice A5 (c.pot.length + 1) c5) (.slice F3 c.side.length k3) (.slice F4 c.cycle.length k4) = WF at hT hF ⊢
        obtain ⟨⟨d0, d1, d2, d3, d4⟩, -⟩ := hF.five
        exact bodyPost_ret (by simp [results, Tryz.results12, go_sem, d0, d1, d2, d3, d4]) rfl hT
      · have z1 : (kd / 3 % 12 == 1) = false := by simpa using k0
        clear k0
        by_cases k0 : kd / 3 % 12 = 2
        · have z2 : (kd / 3 % 12 == 2) = true := by simpa using k0
          clear k0
          have HS2 := Lib.hid (HS.out.set0 (kd / 36))
          go_upto_region 21 with fail
          have hS9 := HS2.out
          generalize wc.setCell ⟨w.heap.size + 1 + 1, 0, none⟩ (.int .i64 (kd / 36)) = W9 at hS9 ⊢
          obtain ⟨⟨q0', q1', q2', q3', q4'⟩, -⟩ := hS9.cv.blk.five
          obtain ⟨⟨o0', o1', o2', o3', o4'⟩, e0', e1', e2', e3', e4'⟩ := hS9.rb.five
          have lB' := hS9.cv.blk.lt
          have lR' := hS9.rb.lt
          have hT := hS9.tells (by omega)
          have hF := hS9.rb.put5 (.int .i64 (kd / 36)) (.slice F1 c.flow.length k1) (.slice F2 c.pot.length k2) (.slice F3 c.side.length k3) (.slice F4 c.cycle.length k4)
          have HT := Lib.hid (And.intro hT hF)
          clear hT hF hS9 HS2 HS q0 q1 q2 q3 q4 g0 g1 g2 g3 g4 o0 o1 o2 o3 o4 e0 e1 e2 e3 e4
          try simp only at q0' q1' q2' q3' q4'
          go_wp2_with fail
          change bodyPost _ _ _ _ _ (put5 W9 (w.heap.size + 1) (.int .i64 (kd / 36)) (.slice F1 c.flow.length k1) (.slice F2 c.pot.length k2) (.slice F3 c.side.length k3) (.slice F4 c.cycle.length k4))
          obtain ⟨hT, hF⟩ := HT.out
          generalize put5 W9 (w.heap.size + 1) (.int .i64 (kd / 36)) (.slice F1 c.flow.length k1) (.slice F2 c.pot.length k2) (.slice F3 c.side.length k3) (.slice F4 c.cycle.length k4) = WF at hT hF ⊢
          obtain ⟨⟨d0, d1, d2, d3, d4⟩, -⟩ := hF.five
          exact bodyPost_ret (by simp [results, Tryz.results12, go_sem, d0, d1, d2, d3, d4]) rfl hT
        · have z2 : (kd / 3 % 12 == 2) = false := by simpa using k0
          clear k0
          have HS2 := HS
          go_upto_region 21 with fail
          have hS9 := HS2.out
          generalize wc = W9 at hS9 ⊢
          obtain ⟨⟨q0', q1', q2', q3', q4'⟩, -⟩ := hS9.cv.blk.five
          obtain ⟨⟨o0', o1', o2', o3', o4'⟩, e0', e1', e2', e3', e4'⟩ := hS9.rb.five
          have lB' := hS9.cv.blk.lt
          have lR' := hS9.rb.lt
          have hT := hS9.tells (by omega)
          have hF := hS9.rb.put5 (.int .i64 c.kind) (.slice F1 c.flow.length k1) (.slice F2 c.pot.length k2) (.slice F3 c.side.length k3) (.slice F4 c.cycle.length k4)
          have HT := Lib.hid (And.intro hT hF)
          clear hT hF hS9 HS2 HS q0 q1 q2 q3 q4 g0 g1 g2 g3 g4 o0 o1 o2 o3 o4 e0 e1 e2 e3 e4
          try simp only at q0' q1' q2' q3' q4'
          go_wp2_with fail
          change bodyPost _ _ _ _ _ (put5 W9 (w.heap.size + 1) (.int .i64 c.kind) (.slice F1 c.flow.length k1) (.slice F2 c.pot.length k2) (.slice F3 c.side.length k3) (.slice F4 c.cycle.length k4))
          obtain ⟨hT, hF⟩ := HT.out
          generalize put5 W9 (w.heap.size + 1) (.int .i64 c.kind) (.slice F1 c.flow.length k1) (.slice F2 c.pot.length k2) (.slice F3 c.side.length k3) (.slice F4 c.cycle.length k4) = WF at hT hF ⊢
          obtain ⟨⟨d0, d1, d2, d3, d4⟩, -⟩ := hF.five
          exact bodyPost_ret (by simp [results, Tryz.results12, go_sem, d0, d1, d2, d3, d4]) rfl hT
end Go.Proofs.YtpfbgoogajgciaaGreatDoor
