/- reach.Order. -/
import Derived.Test.YtekajenmkpobgaaO1
import Derived.Test.YtekajenmkpobgaaR1
set_option linter.unusedSimpArgs false
set_option linter.unusedVariables false
namespace Go.Proofs.Ytekajenmkpobgaa
open Go.RowKit Go.Shelf

/-- while it is drained -/
def OInv (L : OPl) (w0 : World) (k : Nat) (w : World) : Prop := ∃ At ct A c told ps hq, OP L At ct A c told (leftL L.N L.arcs ps) hq w0 w ∧ KInv L.N L.arcs told ps hq ∧ k = L.N - told.length
def OMid (L : OPl) (w0 : World) (k : Nat) (x : Int) (w : World) : Prop := ∃ At ct A c told ps hq hq0, OP L At ct A c told (leftL L.N L.arcs ps) hq w0 w ∧ KInv L.N L.arcs told ps hq0 ∧ KMid L.N L.arcs (told ++ [x]) ps hq ∧ x ∉ told ∧ k = L.N - told.length
def ODone (L : OPl) (w0 w : World) : Prop := ∃ At ct A c told ps, OP L At ct A c told (leftL L.N L.arcs ps) [] w0 w ∧ KInv L.N L.arcs told ps []

theorem onext_any (L : OPl) (w0 : World) (k : Nat) (w : World) (h : OInv L w0 k w) :
    Calls Try.prog 82 #[.pointer (some ⟨L.sb, 0, none⟩)] w fun e w' => (e = .returned (.tuple #[.int .i64 0, .bool false]) ∧ ODone L w0 w') ∨ ∃ x, e = .returned (.tuple #[.int .i64 x, .bool true]) ∧ OMid L w0 k x w' := by
  obtain ⟨At, ct, A, c, told, ps, hq, hS, hK, hk⟩ := h
  rcases hq with _ | ⟨y, ys⟩
  · refine (lnext_none L.H L.sb A c w hS.hp).mono ?_
    rintro e w' ⟨he, rfl⟩
    exact .inl ⟨he, At, ct, A, c, told, ps, hS, hK⟩
  · have hl := hK.len
    have hN := hS.gr.small.1
    refine (lnext_some L.H L.sb A c (y :: ys) w hS.hp ys.length rfl (by simp at hl; omega) hS.ho).mono ?_
    rintro e w' ⟨x, xs', he, hH, hO, hP, hL, hKp⟩
    obtain ⟨h1, h2, h3⟩ := hK.pop hP hL
    exact .inr ⟨x, he, At, ct, A, c, told, ps, xs', y :: ys, hS.turnH hKp hH hO (fun g hg => .inl hg), hK, h1, h3, hk⟩
theorem odo_any (L : OPl) (w0 : World) (k : Nat) (x : Int) (w : World) (h : OMid L w0 k x w) :
    Calls Try.prog 30 #[.int .i64 x, .pointer (some ⟨L.tv, 0, none⟩), .pointer (some ⟨L.gv, 0, none⟩), .pointer (some ⟨L.lv, 0, none⟩), .pointer (some ⟨L.wv, 0, none⟩)] w fun e w' => e = .returned (.tuple #[]) ∧ ∃ k', k' < k ∧ OInv L w0 k' w' := by
  obtain ⟨At, ct, A, c, told, ps, hq, hq0, hS, hK, hM, hx, hk⟩ := h
  refine (Order1_any L At ct A c told hq0 hq ps x w0 w hK hM hx hS).mono ?_
  rintro e w' ⟨he, At', ct', A', c', hp', hS', hK'⟩
  have h1 := hM.gr.len
  simp at h1
  exact ⟨he, _, by simp; omega, At', ct', A', c', _, _, _, hS', hK', rfl⟩

/-- ahead of the draining -/
structure OQ (L : OPl) (A : Option Addr) (c : Nat) (left hq : List Int) (w0 w : World) : Prop where
  gv : Blk w L.gv 50 #[.pointer (some ⟨L.g, 0, none⟩)]
  lv : Blk w L.lv 28 #[.slice (some ⟨L.lb, 0, none⟩) L.N L.N]
  lb : Blk w L.lb 3 (ints left)
  ll : left.length = L.N
  wv : Blk w L.wv 53 #[.pointer (some ⟨L.sb, 0, none⟩)]
  hp : Hp w L.H L.sb A c hq
  ho : HO (hv hq) hq.length
  gr : Graph w L.H L.g L.N L.arcs
  b : Below L.H w0 w
  sz : L.H ≤ w0.heap.size
  le : L.H ≤ L.lb ∧ L.H ≤ L.sb
  n3 : ob A ≠ some L.lb
section
variable {L : OPl} {A : Option Addr} {c : Nat} {left hp : List Int} {w0 w w' : World}
theorem OQ.size (h : OQ L A c left hp w0 w) : L.H ≤ w.heap.size := Nat.le_trans h.sz h.b.size
theorem OQ.below (h : OQ L A c left hp w0 w) (hb : Below w.heap.size w w') : OQ L A c left hp w0 w' :=
  ⟨h.gv.below hb h.gv.lt, h.lv.below hb h.lv.lt, h.lb.below hb h.lb.lt, h.ll, h.wv.below hb h.wv.lt, ⟨h.hp.blk.below hb h.hp.blk.lt, own_below h.hp.row hb⟩, h.ho, h.gr.keep (hb.mono h.size), h.b.trans (hb.mono h.size), h.sz, h.le, h.n3⟩
theorem OQ.turnH (h : OQ L A c left hp w0 w) {A' : Option Addr} {c' : Nat} {hp' : List Int} (hk : Kept (fun b => b = L.sb ∨ ob A = some b) w w') (hp2 : Hp w' L.H L.sb A' c' hp') (ho : HO (hv hp') hp'.length)
    (hg : ∀ g, ob A' = some g → ob A = some g ∨ w.heap.size ≤ g) : OQ L A' c' left hp' w0 w' := by
  have hr : ∀ {g t cs}, Blk w g t cs → t ≠ 3 → ob A ≠ some g := fun hg ht e => own_blk_ne h.hp.row hg (fun e' => ht e'.symm) (by rw [ob_own, e])
  have hlow : ∀ k, k < L.H → ¬ (k = L.sb ∨ ob A = some k) := by
    rintro k hk (e | e)
    · have := h.le.2; omega
    · have := (h.hp.row.lt k (by rw [ob_own, e])).1; omega
  have hb := hk.to_below h.size hlow
  refine ⟨h.gv.kept hk ?_, h.lv.kept hk ?_, h.lb.kept hk ?_, h.ll, h.wv.kept hk ?_, hp2, ho, h.gr.keep hb, h.b.trans hb, h.sz, h.le, ?_⟩
  · rintro (e | e); exact h.gv.ne_ h.hp.blk (by decide) e; exact hr h.gv (by decide) e
  · rintro (e | e); exact h.lv.ne_ h.hp.blk (by decide) e; exact hr h.lv (by decide) e
  · rintro (e | e); exact h.lb.ne_ h.hp.blk (by decide) e; exact h.n3 e
  · rintro (e | e); exact h.wv.ne_ h.hp.blk (by decide) e; exact hr h.wv (by decide) e
  · intro e
    rcases hg _ e with e1 | e1
    · exact h.n3 e1
    · have := h.lb.lt; omega
theorem OQ.turnL (h : OQ L A c left hp w0 w) (k : Nat) (x : Int) : OQ L A c (left.set k x) hp w0 (w.setCell ⟨L.lb, k, none⟩ (.int .i64 x)) := by
  have hk : Kept (fun b => b = L.lb) w (w.setCell ⟨L.lb, k, none⟩ (.int .i64 x)) := (Kept.refl (fun b => b = L.lb) w).setCell (p := ⟨L.lb, k, none⟩) (fun _ => rfl) _
  have hb := hk.to_below h.size (fun k hk e => by have := h.le.1; omega)
  refine ⟨h.gv.kept hk ?_, h.lv.kept hk ?_, ?_, by simpa using h.ll, h.wv.kept hk ?_, ⟨h.hp.blk.kept hk ?_, own_kept h.hp.row hk ?_⟩, h.ho, h.gr.keep hb, h.b.trans hb, h.sz, h.le, h.n3⟩
  · exact fun e => h.gv.ne_ h.lb (by decide) e
  · exact fun e => h.lv.ne_ h.lb (by decide) e
  · rw [← ints_set]; exact h.lb.set_ k _
  · exact fun e => h.wv.ne_ h.lb (by decide) e
  · exact fun e => h.hp.blk.ne_ h.lb (by decide) e
  · intro g hg e; rw [ob_own] at hg; exact h.n3 (by rw [hg, e])
/-- with a place for what is told -/
theorem OQ.op (h : OQ L A c left hp w0 w) : OP { L with tv := w.heap.size } none 0 A c [] left hp w0 (w.alloc (.cells #[.slice none 0 0] 28)) := by
  have h1 := h.below ((Below.refl _ w).alloc (Nat.le_refl _) (.cells #[.slice none 0 0] 28))
  refine ⟨Blk.new _ _ _, World.ownsRow_nil _ _ _ _, h1.gv, h1.lv, h1.lb, h.ll, h1.wv, h1.hp, h.ho, h1.gr, h1.b, h.sz, ⟨h.size, h.le.1, h.le.2⟩, ?_, ?_, h.n3, ?_⟩
  · have := h.lv.lt
    show w.heap.size ≠ L.lv
    omega
  · intro e; simp [ob] at e
  · intro g e; simp [ob] at e
end

def LS (N : Nat) (arcs : List ArcV) (k : Nat) (left : List Int) : Prop := left.length = N ∧ ∀ j : Nat, j < k → left[j]? = some (((ins N arcs (j : Int)).length : Nat) : Int)
theorem LS.set {N : Nat} {arcs : List ArcV} {k : Nat} {left : List Int} (h : LS N arcs k left) (hk : k < N) : LS N arcs (k + 1) (left.set k (((ins N arcs (k : Int)).length : Nat) : Int)) := by
  refine ⟨by simpa using h.1, fun j hj => ?_⟩
  by_cases e : j = k
  · subst e; rw [List.getElem?_set_self (by rw [h.1]; exact hk)]
  · rw [List.getElem?_set_ne (fun e2 => e e2.symm)]; exact h.2 j (by omega)
theorem LS.all {N : Nat} {arcs : List ArcV} {left : List Int} (h : LS N arcs N left) : left = leftL N arcs [] := by
  apply List.ext_getElem?
  intro j
  rcases Nat.lt_or_ge j N with hj | hj
  · rw [h.2 j hj, leftL_at hj, lf_nil]
  · rw [List.getElem?_eq_none (by rw [h.1]; exact hj), List.getElem?_eq_none (by rw [leftL_len]; exact hj)]

theorem below_drewN {B : Nat} {a w : World} (h : Below B a w) (n : Nat) : Below B a (w.drewN n) := ⟨h.os, h.tape, h.output, h.size, h.block⟩
theorem quiet_left {P : Program} {f : FuncId} {args : Array Value} {w : World} {n : Nat} {v : Value}
    (h : Calls P f args (w.drewN n) fun e w' => e = .returned v ∧ w.drewN n = w') : Calls P f args (w.drewN n) fun e w'' => e = .returned v ∧ ∃ m, w'' = w.drewN m :=
  h.mono fun _ _ ⟨he, hm⟩ => ⟨he, n, hm.symm⟩
theorem In_len (B g N : Nat) (arcs : List ArcV) (x : Int) (w : World) (hG : Graph w B g N arcs) (hB : B ≤ w.heap.size) (m : Nat) (hm : (ins N arcs x).length = m) :
    Calls Try.prog 27 #[.pointer (some ⟨g, 0, none⟩), .int .i64 x] w fun e w' => (∃ A c, e = .returned (.slice A m c)) ∧ Below w.heap.size w w' := by
  subst hm
  refine (In_any B g N arcs x w hG hB).mono ?_
  rintro e w' ⟨A, c, he, _, hb⟩
  exact ⟨⟨A, c, he⟩, hb⟩
def opl (h n g : Nat) (arcs : List ArcV) : OPl := { H := h, N := n, g := g, tv := 0, gv := h, lv := h + 1 + 1, lb := h + 1, wv := h + 1 + 1 + 1 + 1, sb := h + 1 + 1 + 1, arcs := arcs }

/-- what Order tells -/
def OrderTells (N : Nat) (arcs : List ArcV) (w : World) (e : Ending) (w' : World) : Prop := ∃ told, Greedy N arcs told ∧ Stuck N arcs told ∧ Below w.heap.size w w' ∧
  ((told.length < N ∧ e = .returned (.tuple #[.slice none 0 0, .bool false])) ∨ (told.length = N ∧ ∃ A c, e = .returned (.tuple #[.slice A N c, .bool true]) ∧ w'.ownsRow w.heap.size 3 1 (.slice A N c) N (told.map I)))

theorem madeInts (N : Nat) : madeCells #[.int .i64 0] N = ints (List.replicate N 0) := by
  apply Array.ext
  · simp [madeCells, ints]
  · intro j h1 h2
    simp [madeCells, ints, I, Nat.mod_one]

set_option maxRecDepth 100000 in
set_option maxHeartbeats 4000000 in
theorem Order_any (A1 A2 : Option Addr) (n c1 n2 c2 B : Nat) (sup : List Int) (arcs : List ArcV) (w : World) (h : InstR w B A1 A2 n n2 sup arcs) (hB : B ≤ w.heap.size) :
    Calls Try.prog 11 #[.agg #[.slice A1 n c1, .slice A2 n2 c2]] w (OrderTells n arcs w) := by
  have hb0 : ∀ o, Below w.heap.size w (w.alloc o) := fun o => (Below.refl _ w).alloc (Nat.le_refl _) o
  have HB0 := Lib.hid hb0
  clear hb0
  have hn := h.hn
  have hmk := make_rowN n (by omega)
  rw [madeInts] at hmk
  have hmf : ∀ (fn : Fn) (first cap : Array Value) (w : World), (Instr.makeFunc fn first cap).run Try.prog w = .ok (.func fn first cap) w := fun _ _ _ _ => rfl
  go_enter Try.func11, Try.ntmps11
  go_wp2_with fail
  refine (New_any A1 A2 n c1 n2 c2 B sup arcs _ (h.s.below ((HB0.out _).mono hB)) (h.a.below ((HB0.out _).mono hB)) (by simp; omega) h.hn h.hn2).mono ?_
  rintro e w1 ⟨g, rfl, hG, hb1⟩
  have hb2 := (HB0.out (.cells #[.slice A1 n c1, .slice A2 n2 c2] 26)).trans (hb1.mono (by simp))
  clear hb1
  have hG0 := hG.a.keep ((Below.refl _ w1).alloc (Nat.le_refl _) (.cells #[.pointer (some ⟨g, 0, none⟩)] 50))
  have HG := Lib.hid hG
  clear hG
  go_wp2_with fail
  refine (Nodes_any _ g n arcs _ hG0).mono ?_
  rintro e w1' ⟨rfl, rfl⟩
  clear hG0
  go_wp2_with fail
  have hS : OQ (opl w1.heap.size n g arcs) none 0 (List.replicate n 0) [] w1 (((((w1.alloc (.cells #[.pointer (some ⟨g, 0, none⟩)] 50)).alloc (.cells (ints (List.replicate n 0)) 3)).alloc (.cells #[.slice (some ⟨w1.heap.size + 1, 0, none⟩) n n] 28)).alloc (.cells #[.slice none 0 0] 58)).alloc (.cells #[.pointer (some ⟨w1.heap.size + 1 + 1 + 1, 0, none⟩)] 53)) := by
    have hBB : Below w1.heap.size w1 (((((w1.alloc (.cells #[.pointer (some ⟨g, 0, none⟩)] 50)).alloc (.cells (ints (List.replicate n 0)) 3)).alloc (.cells #[.slice (some ⟨w1.heap.size + 1, 0, none⟩) n n] 28)).alloc (.cells #[.slice none 0 0] 58)).alloc (.cells #[.pointer (some ⟨w1.heap.size + 1 + 1 + 1, 0, none⟩)] 53)) :=
      ((((((Below.refl _ w1).alloc (Nat.le_refl _) _).alloc (by simp) _).alloc (by simp; omega) _).alloc (by simp; omega) _).alloc (by simp; omega) _)
    refine ⟨(((((blk_newN _ _ _ (w1.heap.size) rfl).alloc _).alloc _).alloc _).alloc _), (((blk_newN _ _ _ (w1.heap.size + 1 + 1) (by simp)).alloc _).alloc _), ((((blk_newN _ _ _ (w1.heap.size + 1) (by simp)).alloc _).alloc _).alloc _), by simp [opl], blk_newN _ _ _ (w1.heap.size + 1 + 1 + 1 + 1) (by simp),
      ⟨((blk_newN _ _ _ (w1.heap.size + 1 + 1 + 1) (by simp)).alloc _), World.ownsRow_nil _ _ _ _⟩, fun k h0 hk => absurd hk (by simp), HG.out.keep hBB, hBB, Nat.le_refl _, ?_, by simp [ob]⟩
    simp [opl]; omega
  generalize hWW : (((((w1.alloc (.cells #[.pointer (some ⟨g, 0, none⟩)] 50)).alloc (.cells (ints (List.replicate n 0)) 3)).alloc (.cells #[.slice (some ⟨w1.heap.size + 1, 0, none⟩) n n] 28)).alloc (.cells #[.slice none 0 0] 58)).alloc (.cells #[.pointer (some ⟨w1.heap.size + 1 + 1 + 1, 0, none⟩)] 53)) = W at *
  clear hWW hmk
  go_loopw [18] (fun i wr => ∃ (k : Nat) (A : Option Addr) (c : Nat) (left hq : List Int), k ≤ n ∧ i = .int .i64 k ∧ OQ (opl w1.heap.size n g arcs) A c left hq w1 wr ∧ LS n arcs k left ∧ KSt n arcs k hq) (fun i _ => n - (intOf i).toNat)
  case atStart => exact ⟨0, none, 0, _, _, Nat.zero_le _, rfl, hS, ⟨by simp, fun j hj => by omega⟩, KSt.start n arcs⟩
  case round =>
    clear hS
    obtain ⟨k, A, c, left, hq, hk, rfl, hS, hL, hK⟩ := hrel
    by_cases hlt : k < n
    · have q1 : wr.cell? ⟨w1.heap.size + 1 + 1, 0, none⟩ = some (.slice (some ⟨w1.heap.size + 1, 0, none⟩) n n) := hS.lv.cell 0
      have q2 : wr.cell? ⟨w1.heap.size, 0, none⟩ = some (.pointer (some ⟨g, 0, none⟩)) := hS.gv.cell 0
      obtain ⟨m, hm⟩ : ∃ m, (ins n arcs (k : Int)).length = m := ⟨_, rfl⟩
      have hL1 := hL.set hlt
      have hKl := hK.len
      rw [hm] at hL1
      have hmn : m ≤ 1000000000 := by
        rw [← hm]; unfold ins
        exact Nat.le_trans (List.length_filter_le _ _) (by simpa [opl] using hS.gr.small.2)
      have HM := Lib.hid hm
      have HS := Lib.hid hS
      have HL := Lib.hid hL1
      have hHr := hS.size
      obtain ⟨y, hy⟩ : ∃ y, left[k]? = some y := ⟨_, List.getElem?_eq_getElem (by rw [hL.1]; exact hlt)⟩
      have HY := Lib.hid hy
      clear hm hS hL1 hL hy
      go_wp2_with fail
      go_region_held3 (fun w' => w'.cell? ⟨w1.heap.size + 1 + 1, 0, none⟩ = some (.slice (some ⟨w1.heap.size + 1, 0, none⟩) n n) ∧ w'.cell? ⟨w1.heap.size, 0, none⟩ = some (.pointer (some ⟨g, 0, none⟩))) (first | go_keep | exact ⟨k1, k2⟩)
        (first
          | (go_at_call 27; refine (In_len w1.heap.size g n arcs k _ ((HS.out.below (Below.refl _ _).drew).gr) (by exact hHr) m HM.out).mono ?_; rintro e w2 ⟨⟨Bx, cx, rfl⟩, hb2⟩; have hS2 := HS.out.below ((Below.refl _ wr).drew.trans hb2); have k1 : w2.cell? ⟨w1.heap.size + 1 + 1, 0, none⟩ = some (.slice (some ⟨w1.heap.size + 1, 0, none⟩) n n) := hS2.lv.cell 0; have k2 : w2.cell? ⟨w1.heap.size, 0, none⟩ = some (.pointer (some ⟨g, 0, none⟩)) := hS2.gv.cell 0; have k3 : w2.cell? ⟨w1.heap.size + 1, k, none⟩ = some (.int .i64 y) := (hS2.lb.cell k).trans (ints_at HY.out); have k4 : w2.frozen? ⟨w1.heap.size + 1, k, none⟩ = false := hS2.lb.frozen k))
      have hS3 := hS2.turnL k (m : Int)
      have hS3' : OQ (opl w1.heap.size n g arcs) A c (left.set k (m : Int)) hq w1 (w2.setCell ⟨w1.heap.size + 1, k, none⟩ (.int .i64 m)) := hS3
      clear hS3
      have HS3 := Lib.hid hS3'
      clear hS3'
      have k5 : w2.cell? ⟨w1.heap.size + 1 + 1 + 1 + 1, 0, none⟩ = some (.pointer (some ⟨w1.heap.size + 1 + 1 + 1, 0, none⟩)) := hS2.wv.cell 0
      by_cases hm0 : m = 0
      · subst hm0
        go_wp2_with fail
        refine (lput_any w1.heap.size (w1.heap.size + 1 + 1 + 1) A c hq _ HS3.out.hp HS3.out.size (by omega) HS3.out.ho k).mono ?_
        rintro e w5 ⟨rfl, A5, c5, hp5, h5, hO5, hP5, hK5, hg5⟩
        have hS5 := HS3.out.turnH hK5 h5 hO5 hg5
        go_wp2_with fail
        go_roundw
        case rel => exact ⟨k + 1, A5, c5, _, hp5, by omega, by go_num, hS5, HL.out, hK.put HM.out hP5⟩
        case measure => simp [intOf]; omega
      · have hm1 : ((m : Int) == 0) = false := by simp; omega
        go_wp2_with fail
        go_roundw
        case rel => exact ⟨k + 1, A, c, _, hq, by omega, by go_num, HS3.out, HL.out, hK.skip (by rw [HM.out]; exact hm0)⟩
        case measure => simp [intOf]; omega
    · have hkn : k = n := by omega
      subst hkn
      have hLL := hL.all
      subst hLL
      have hKI := hK.done
      have hOP := hS.op
      have hS2 : OP { opl w1.heap.size k g arcs with tv := wr.heap.size } none 0 A c [] (leftL k arcs []) hq w1 (wr.alloc (.cells #[.slice none 0 0] 28)) := hOP
      have HOP := Lib.hid hS2
      have q1 : (wr.alloc (.cells #[.slice none 0 0] 28)).cell? ⟨w1.heap.size + 1 + 1 + 1 + 1, 0, none⟩ = some (.pointer (some ⟨w1.heap.size + 1 + 1 + 1, 0, none⟩)) := hS2.wv.cell 0
      clear hOP hS2 hL hK hS
      go_wp2_with fail
      refine (drain_order (OInv { opl w1.heap.size k g arcs with tv := wr.heap.size } w1) (OMid { opl w1.heap.size k g arcs with tv := wr.heap.size } w1) (ODone { opl w1.heap.size k g arcs with tv := wr.heap.size } w1) (w1.heap.size + 1 + 1 + 1) _ _ _ _ (onext_any { opl w1.heap.size k g arcs with tv := wr.heap.size } w1) (odo_any { opl w1.heap.size k g arcs with tv := wr.heap.size } w1) _ _ ⟨none, 0, A, c, [], [], hq, HOP.out, hKI, rfl⟩).mono ?_
      rintro e w5 ⟨rfl, At, ct, A', c', told, ps, hS5, hK5⟩
      have q3 : w5.cell? ⟨wr.heap.size, 0, none⟩ = some (.slice At told.length ct) := hS5.tv.cell 0
      have q4 : w5.cell? ⟨w1.heap.size, 0, none⟩ = some (.pointer (some ⟨g, 0, none⟩)) := hS5.gv.cell 0
      have HGA := Lib.hid hS5.gr.a
      have HO5 := Lib.hid hS5
      have hgr := hK5.gr
      have hst := hK5.stuck
      have hgl : told.length ≤ k := hgr.len
      have hb5 : Below w.heap.size w w5 := hb2.trans (hS5.b.mono hb2.size)
      have hrow := own_mono hS5.tr hb2.size
      have HT := Lib.hid (And.intro hgr (And.intro hst (And.intro hb5 hrow)))
      clear hS5 hgr hst hb5 hrow hK5 q1
      go_wp2_with fail
      by_cases hlen : told.length < k
      · have hd : decide (told.length < k) = true := by simpa using hlen
        go_quiet ((go_at_call 26; exact quiet_left (Nodes_any _ g k arcs _ (HGA.out.keep (below_drewN (Below.refl _ _) _)))))
        go_wp2_with fail
        go_ret2
        exact ⟨told, HT.out.1, HT.out.2.1, below_drewN HT.out.2.2.1 _, .inl ⟨hlen, rfl⟩⟩
      · have hd : decide (told.length < k) = false := by simpa using hlen
        go_quiet ((go_at_call 26; exact quiet_left (Nodes_any _ g k arcs _ (HGA.out.keep (below_drewN (Below.refl _ _) _)))))
        go_wp2_with fail
        go_ret2
        have hlk : told.length = k := by omega
        have hr := HT.out.2.2.2
        refine ⟨told, HT.out.1, HT.out.2.1, below_drewN HT.out.2.2.1 _, .inr ⟨hlk, At, ct, by rw [hlk]; rfl, ?_⟩⟩
        rw [hlk] at hr
        exact hr
end Go.Proofs.Ytekajenmkpobgaa
