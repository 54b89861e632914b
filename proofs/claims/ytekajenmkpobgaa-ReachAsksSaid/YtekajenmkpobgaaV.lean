/- reach.spread, From, To. -/
import Derived.Test.YtekajenmkpobgaaPR
import Derived.Laws.EntriesVeiled
set_option linter.unusedSimpArgs false
set_option linter.unusedVariables false
namespace Go.Proofs.Ytekajenmkpobgaa
open Go.RowKit

/-- while it is drained -/
def SInv (L : SPl) (starts : List Int) (w0 : World) (k : Nat) (w : World) : Prop := ∃ A c met xs, SP L A c met xs w0 w ∧ RInv L.N (nbs L) starts met xs ∧ xs.length + cf met ≤ 1000000000 ∧ k = xs.length + 2 * cf met
def SMid (L : SPl) (starts : List Int) (w0 : World) (k : Nat) (x : Int) (w : World) : Prop := ∃ A c met ys, SP L A c met ys w0 w ∧ RInv L.N (nbs L) starts met (ys ++ [x]) ∧ ys.length + 1 + cf met ≤ 1000000000 ∧ k = ys.length + 1 + 2 * cf met
def SDone (L : SPl) (starts : List Int) (w0 w : World) : Prop := ∃ A c met, SP L A c met [] w0 w ∧ RInv L.N (nbs L) starts met []

theorem snext_any (L : SPl) (starts : List Int) (w0 : World) (k : Nat) (w : World) (h : SInv L starts w0 k w) :
    Calls Try.prog 91 #[.pointer (some ⟨L.sb, 0, none⟩)] w fun e w' => (e = .returned (.tuple #[.int .i64 0, .bool false]) ∧ SDone L starts w0 w') ∨ ∃ x, e = .returned (.tuple #[.int .i64 x, .bool true]) ∧ SMid L starts w0 k x w' := by
  obtain ⟨A, c, met, xs, hS, hR, hl, hk⟩ := h
  rcases List.eq_nil_or_concat xs with rfl | ⟨ys, x, rfl⟩
  · refine (next_none w L.H L.sb c A hS.st).mono ?_
    rintro e w' ⟨he, rfl⟩
    exact .inl ⟨he, A, c, met, hS, hR⟩
  · rw [List.concat_eq_append] at *
    simp only [List.length_append, List.length_cons, List.length_nil] at hl hk
    refine (next_some w L.H L.sb c A ys x hS.st (by omega)).mono ?_
    rintro e w' ⟨he, hst, hkp⟩
    refine .inr ⟨x, he, A, c, met, ys, ?_, hR, by omega, by omega⟩
    have hkp' : Kept (fun b => b = L.mb ∨ b = L.sb ∨ ob A = some b) w w' := hkp.mono (fun b _ e => .inr (.inl e))
    exact hS.turn hkp' (hS.mb.kept hkp (fun e => hS.mb.ne_ hS.st.blk (by decide) e)) hS.len hst
theorem sdo_any (L : SPl) (hway : L.way < 2) (starts : List Int) (w0 : World) (k : Nat) (x : Int) (w : World) (h : SMid L starts w0 k x w) :
    Calls Try.prog 53 #[.int .i64 x, .pointer (some ⟨L.av, 0, none⟩), .pointer (some ⟨L.fv, 0, none⟩), .pointer (some ⟨L.gv, 0, none⟩)] w fun e w' => e = .returned (.tuple #[]) ∧ ∃ k', k' < k ∧ SInv L starts w0 k' w' := by
  obtain ⟨A, c, met, ys, hS, hR, hl, hk⟩ := h
  refine (spread2_any L hway A c met ys w0 w hS (by omega) x).mono ?_
  rintro e w' ⟨he, A', c', hS'⟩
  have h1 := meetAll_room (nbs L x) (met, ys)
  have h2 := cf_le (nbs L x) (met, ys)
  simp only at h1 h2
  exact ⟨he, _, by omega, A', c', _, _, hS', hR.step, by omega, rfl⟩

theorem makeBools (N : Nat) (hn : N ≤ 2000000000) (W : World) : (Instr.makeSlice 31 (.int .i64 (N : Int)) (.int .i64 (N : Int))).run Try.prog W =
    .ok (.slice (some ⟨W.heap.size, 0, none⟩) N N) (W.alloc (.cells (madeCells #[.bool false] N) 4)) := by
  obtain ⟨i3, hi3, hz30, hz31, hz32⟩ := info_parts Try.info4
  have := run_make (P := Try.prog) W 31 4 i3 (.bool false) Try.underlying31 hi3 hz30 .i64 .i64 (N : Int) (N : Int) (by omega) (by omega) (by rw [hz32]; omega) (by omega)
  rw [hz31, Int.toNat_natCast, Nat.mul_one] at this
  exact this
theorem madeBools (N : Nat) : madeCells #[.bool false] N = bools (List.replicate N false) := by
  apply Array.ext
  · simp [madeCells, bools]
  · intro j h1 h2
    simp [madeCells, bools, V, Nat.mod_one]

/-- where spread's things lie -/
def spl (h N g way : Nat) (arcs : List ArcV) : SPl := { H := h, N := N, g := g, bv := h + 1 + 1 + 1, mb := h + 1 + 1, wv := h + 1 + 1 + 1 + 1 + 1, sb := h + 1 + 1 + 1 + 1, fv := h + 1 + 1 + 1 + 1 + 1 + 1, gv := h, av := h + 1, way := way, arcs := arcs }
theorem blk_newN (w : World) (t : TypeId) (cs : Array Value) (k : Nat) (hk : w.heap.size = k) : Blk (w.alloc (.cells cs t)) k t cs := by
  subst hk; exact Blk.new w t cs
set_option maxRecDepth 100000 in
set_option maxHeartbeats 2000000 in
theorem spread_any (H g N way fn : Nat) (hway : way < 2) (hfn : fn = if way = 0 then 31 else 27) (arcs : List ArcV) (As : Option Addr) (ns cs : Nat) (starts : List Int) (w : World) (hG : Graph w H g N arcs) (hH : H ≤ w.heap.size) (hr : Reads w w.heap.size 1 As ns (starts.map I)) (hns : ns ≤ 1000000000) :
    Calls Try.prog 35 #[.pointer (some ⟨g, 0, none⟩), .slice As ns cs, .func (.func fn) #[.pointer (some ⟨g, 0, none⟩)] #[]] w fun e w' => ∃ mb met, e = .returned (.slice (some ⟨mb, 0, none⟩) N N) ∧ Blk w' mb 4 (bools met) ∧ w.heap.size ≤ mb ∧
      RInv N (fun v => (intsOf (pieceOf N arcs v way)).map fun a => otherOf N arcs a v) starts met [] ∧ Below w.heap.size w w' := by
  have hmf : ∀ (fn : Fn) (first cap : Array Value) (w : World), (Instr.makeFunc fn first cap).run Try.prog w = .ok (.func fn first cap) w := fun _ _ _ _ => rfl
  have hNN := hG.small.1
  have hmk := makeBools N (by omega)
  rw [madeBools] at hmk
  have HG := Lib.hid hG
  have HF := Lib.hid hfn
  clear hfn
  go_enter Try.func35, Try.ntmps35
  go_wp2_with fail
  refine (Nodes_any H g N arcs _ (HG.out.a.keep ?_)).mono ?_
  · exact ((Below.refl _ _).alloc hH _).alloc (by simp; omega) _
  rintro e w1 ⟨rfl, rfl⟩
  go_wp2_with fail
  have hS : SP (spl w.heap.size N g way arcs) none 0 (List.replicate N false) [] w (((((((w.alloc (.cells #[.pointer (some ⟨g, 0, none⟩)] 50)).alloc (.cells #[.func (.func fn) #[.pointer (some ⟨g, 0, none⟩)] #[]] 59)).alloc (.cells (bools (List.replicate N false)) 4)).alloc (.cells #[.slice (some ⟨w.heap.size + 1 + 1, 0, none⟩) N N] 31)).alloc
      (.cells #[.slice none 0 0] 86)).alloc (.cells #[.pointer (some ⟨w.heap.size + 1 + 1 + 1 + 1, 0, none⟩)] 84)).alloc (.cells #[.func (.func 52) #[] #[.pointer (some ⟨w.heap.size + 1 + 1 + 1, 0, none⟩), .pointer (some ⟨w.heap.size + 1 + 1 + 1 + 1 + 1, 0, none⟩)]] 60)) := by
    have hB : Below w.heap.size w (((((((w.alloc (.cells #[.pointer (some ⟨g, 0, none⟩)] 50)).alloc (.cells #[.func (.func fn) #[.pointer (some ⟨g, 0, none⟩)] #[]] 59)).alloc (.cells (bools (List.replicate N false)) 4)).alloc (.cells #[.slice (some ⟨w.heap.size + 1 + 1, 0, none⟩) N N] 31)).alloc
      (.cells #[.slice none 0 0] 86)).alloc (.cells #[.pointer (some ⟨w.heap.size + 1 + 1 + 1 + 1, 0, none⟩)] 84)).alloc (.cells #[.func (.func 52) #[] #[.pointer (some ⟨w.heap.size + 1 + 1 + 1, 0, none⟩), .pointer (some ⟨w.heap.size + 1 + 1 + 1 + 1 + 1, 0, none⟩)]] 60)) :=
      ((((((((Below.refl _ w).alloc (Nat.le_refl _) _).alloc (by simp) _).alloc (by simp; omega) _).alloc (by simp; omega) _).alloc (by simp; omega) _).alloc (by simp; omega) _).alloc (by simp; omega) _)
    refine ⟨((((blk_newN _ _ _ (w.heap.size + 1 + 1 + 1) (by simp)).alloc _).alloc _).alloc _), (((((blk_newN _ _ _ (w.heap.size + 1 + 1) (by simp)).alloc _).alloc _).alloc _).alloc _), by simp [spl], ((blk_newN _ _ _ (w.heap.size + 1 + 1 + 1 + 1 + 1) (by simp)).alloc _), ⟨(((blk_newN _ _ _ (w.heap.size + 1 + 1 + 1 + 1) (by simp)).alloc _).alloc _), World.ownsRow_nil _ _ _ _⟩,
      (blk_newN _ _ _ (w.heap.size + 1 + 1 + 1 + 1 + 1 + 1) (by simp)), (((((((blk_newN _ _ _ (w.heap.size) rfl).alloc _).alloc _).alloc _).alloc _).alloc _).alloc _), ?_, (HG.out.more hH).keep hB, hB, Nat.le_refl _, ?_⟩
    · have hfn : (spl w.heap.size N g way arcs).fn = fn := by rw [HF.out]; rfl
      rw [hfn]
      exact ((((((blk_newN _ _ _ (w.heap.size + 1) (by simp)).alloc _).alloc _).alloc _).alloc _).alloc _)
    · simp [spl]; omega
  go_wp2_with fail
  generalize hWW : (((((((w.alloc (.cells #[.pointer (some ⟨g, 0, none⟩)] 50)).alloc (.cells #[.func (.func fn) #[.pointer (some ⟨g, 0, none⟩)] #[]] 59)).alloc (.cells (bools (List.replicate N false)) 4)).alloc (.cells #[.slice (some ⟨w.heap.size + 1 + 1, 0, none⟩) N N] 31)).alloc
      (.cells #[.slice none 0 0] 86)).alloc (.cells #[.pointer (some ⟨w.heap.size + 1 + 1 + 1 + 1, 0, none⟩)] 84)).alloc (.cells #[.func (.func 52) #[] #[.pointer (some ⟨w.heap.size + 1 + 1 + 1, 0, none⟩), .pointer (some ⟨w.heap.size + 1 + 1 + 1 + 1 + 1, 0, none⟩)]] 60)) = W at *
  clear hWW
  have hl : starts.length ≤ ns ∧ ns ≤ starts.length := by have := hr.1; simp at this; omega
  have hroom : ∀ k, (meetAll (starts.take k) (List.replicate N false, [])).2.length + cf (meetAll (starts.take k) (List.replicate N false, [])).1 = N := fun k => by
    rw [meetAll_room]; simp [cf_replicate]
  have HRM := Lib.hid hroom
  clear hroom hmk
  go_loopw [20] (fun i wr => ∃ (k : Nat) (A : Option Addr) (c : Nat), k ≤ ns ∧ i = .int .i64 k ∧ SP (spl w.heap.size N g way arcs) A c (meetAll (starts.take k) (List.replicate N false, [])).1 (meetAll (starts.take k) (List.replicate N false, [])).2 w wr) (fun i _ => ns - (intOf i).toNat)
  case atStart => exact ⟨0, none, 0, Nat.zero_le _, rfl, hS⟩
  case round =>
    clear hS
    obtain ⟨k, A, c, hk, rfl, hS⟩ := hrel
    by_cases hlt : k < ns
    · obtain ⟨b, off, u, rfl, hbB, hx, hcell⟩ := (hr.below hS.b).at_ hlt
      simp only [List.getElem?_map, Option.map_eq_some_iff] at hx
      obtain ⟨x, hx, rfl⟩ := hx
      have HX := Lib.hid (take_snoc starts k x hx)
      clear hx
      unfold I at hcell
      have q1 := hS.fv.cell 0
      simp only [List.getElem?_toArray, List.getElem?_cons_zero] at q1
      have q2 : wr.cell? ⟨w.heap.size + 1 + 1 + 1 + 1 + 1 + 1, 0, none⟩ = some (.func (.func 52) #[] #[.pointer (some ⟨w.heap.size + 1 + 1 + 1, 0, none⟩), .pointer (some ⟨w.heap.size + 1 + 1 + 1 + 1 + 1, 0, none⟩)]) := q1
      clear q1
      go_wp2_with fail
      refine (meet_any (spl w.heap.size N g way arcs) A c _ _ w wr hS (by have := HRM.out k; omega) x).mono ?_
      rintro e w1 ⟨rfl, A', c', hS', -, -⟩
      clear q2 hcell
      go_wp2_with fail
      go_roundw
      case rel =>
        refine ⟨k + 1, A', c', by omega, by go_num, ?_⟩
        rw [HX.out, meetAll_snoc]
        exact hS'
      case measure => simp [intOf]; omega
    · have hkk : starts.take k = starts := List.take_of_length_le (by omega)
      have hrm := HRM.out k
      rw [hkk] at hS hrm
      have q1 := hS.wv.cell 0
      simp only [List.getElem?_toArray, List.getElem?_cons_zero] at q1
      have q2 : wr.cell? ⟨w.heap.size + 1 + 1 + 1 + 1 + 1, 0, none⟩ = some (.pointer (some ⟨w.heap.size + 1 + 1 + 1 + 1, 0, none⟩)) := q1
      clear q1
      have HS := Lib.hid hS
      have HRR := Lib.hid hrm
      clear hS hrm hkk
      go_wp2_with fail
      refine (drain_spread (SInv (spl w.heap.size N g way arcs) starts w) (SMid (spl w.heap.size N g way arcs) starts w) (SDone (spl w.heap.size N g way arcs) starts w) (w.heap.size + 1 + 1 + 1 + 1) _ _ _ (snext_any (spl w.heap.size N g way arcs) starts w) (sdo_any (spl w.heap.size N g way arcs) hway starts w) _ wr ⟨A, c, _, _, HS.out, RInv.start N _ starts, by have := HRR.out; omega, rfl⟩).mono ?_
      rintro e w1 ⟨rfl, A', c', met, hS', hR⟩
      have q1 := hS'.bv.cell 0
      simp only [List.getElem?_toArray, List.getElem?_cons_zero] at q1
      have q3 : w1.cell? ⟨w.heap.size + 1 + 1 + 1, 0, none⟩ = some (.slice (some ⟨w.heap.size + 1 + 1, 0, none⟩) N N) := q1
      clear q1 q2
      go_wp2_with fail
      go_ret
      exact ⟨w.heap.size + 1 + 1, met, rfl, hS'.mb, by omega, hR, hS'.b⟩

/-- the nodes next to one, one way or the other -/
def nbW (N : Nat) (arcs : List ArcV) (way : Nat) (v : Int) : List Int := (intsOf (pieceOf N arcs v way)).map fun a => otherOf N arcs a v

/-- an instance in memory, below block B -/
structure InstR (w : World) (B : Nat) (A1 A2 : Option Addr) (n n2 : Nat) (sup : List Int) (arcs : List ArcV) : Prop where
  s : Reads w B 1 A1 n (sup.map I)
  a : Reads w B 5 A2 n2 (arcCells arcs)
  hn : n ≤ 500000000
  hn2 : n2 ≤ 500000000
theorem InstR.keep {w w' : World} {B : Nat} {A1 A2 : Option Addr} {n n2 : Nat} {sup : List Int} {arcs : List ArcV} (h : InstR w B A1 A2 n n2 sup arcs) (hb : Below B w w') : InstR w' B A1 A2 n n2 sup arcs :=
  ⟨h.s.below hb, h.a.below hb, h.hn, h.hn2⟩
theorem InstR.more {w : World} {B B' : Nat} {A1 A2 : Option Addr} {n n2 : Nat} {sup : List Int} {arcs : List ArcV} (h : InstR w B A1 A2 n n2 sup arcs) (hB : B ≤ B') : InstR w B' A1 A2 n n2 sup arcs :=
  ⟨h.s.more hB, h.a.more hB, h.hn, h.hn2⟩

set_option maxRecDepth 100000 in
set_option maxHeartbeats 2000000 in
theorem From_any (A1 A2 : Option Addr) (n c1 n2 c2 B : Nat) (sup : List Int) (arcs : List ArcV) (As : Option Addr) (ns cs : Nat) (starts : List Int) (w : World) (h : InstR w B A1 A2 n n2 sup arcs) (hB : B ≤ w.heap.size) (hr : Reads w B 1 As ns (starts.map I)) (hns : ns ≤ 1000000000) :
    Calls Try.prog 17 #[.agg #[.slice A1 n c1, .slice A2 n2 c2], .slice As ns cs] w fun e w' => ∃ mb met, e = .returned (.slice (some ⟨mb, 0, none⟩) n n) ∧ Blk w' mb 4 (bools met) ∧ w.heap.size ≤ mb ∧ RInv n (nbW n arcs 0) starts met [] ∧ Below w.heap.size w w' := by
  have hmf : ∀ (fn : Fn) (first cap : Array Value) (w : World), (Instr.makeFunc fn first cap).run Try.prog w = .ok (.func fn first cap) w := fun _ _ _ _ => rfl
  have hb0 : ∀ o, Below w.heap.size w (w.alloc o) := fun o => (Below.refl _ w).alloc (Nat.le_refl _) o
  have HB0 := Lib.hid hb0
  clear hb0
  go_enter Try.func17, Try.ntmps17
  go_wp2_with fail
  refine (New_any A1 A2 n c1 n2 c2 B sup arcs _ (h.s.below ((HB0.out _).mono hB)) (h.a.below ((HB0.out _).mono hB)) (by simp; omega) h.hn h.hn2).mono ?_
  rintro e w1 ⟨g, rfl, hG, hb1⟩
  have hb2 := (HB0.out (.cells #[.slice A1 n c1, .slice A2 n2 c2] 26)).trans (hb1.mono (by simp))
  go_wp2_with fail
  refine (spread_any _ g n 0 31 (by omega) rfl arcs As ns cs starts w1 hG (Nat.le_refl _) ((hr.below (hb2.mono hB)).more (by have := hb2.size; omega)) hns).mono ?_
  rintro e w2 ⟨mb, met, rfl, hm, hle, hR, hb3⟩
  go_wp2_with fail
  go_ret
  have := hb2.size
  exact ⟨mb, met, rfl, hm, by omega, hR, hb2.trans (hb3.mono (by omega))⟩
set_option maxRecDepth 100000 in
set_option maxHeartbeats 2000000 in
theorem To_any (A1 A2 : Option Addr) (n c1 n2 c2 B : Nat) (sup : List Int) (arcs : List ArcV) (As : Option Addr) (ns cs : Nat) (starts : List Int) (w : World) (h : InstR w B A1 A2 n n2 sup arcs) (hB : B ≤ w.heap.size) (hr : Reads w B 1 As ns (starts.map I)) (hns : ns ≤ 1000000000) :
    Calls Try.prog 24 #[.agg #[.slice A1 n c1, .slice A2 n2 c2], .slice As ns cs] w fun e w' => ∃ mb met, e = .returned (.slice (some ⟨mb, 0, none⟩) n n) ∧ Blk w' mb 4 (bools met) ∧ w.heap.size ≤ mb ∧ RInv n (nbW n arcs 1) starts met [] ∧ Below w.heap.size w w' := by
  have hmf : ∀ (fn : Fn) (first cap : Array Value) (w : World), (Instr.makeFunc fn first cap).run Try.prog w = .ok (.func fn first cap) w := fun _ _ _ _ => rfl
  have hb0 : ∀ o, Below w.heap.size w (w.alloc o) := fun o => (Below.refl _ w).alloc (Nat.le_refl _) o
  have HB0 := Lib.hid hb0
  clear hb0
  go_enter Try.func24, Try.ntmps24
  go_wp2_with fail
  refine (New_any A1 A2 n c1 n2 c2 B sup arcs _ (h.s.below ((HB0.out _).mono hB)) (h.a.below ((HB0.out _).mono hB)) (by simp; omega) h.hn h.hn2).mono ?_
  rintro e w1 ⟨g, rfl, hG, hb1⟩
  have hb2 := (HB0.out (.cells #[.slice A1 n c1, .slice A2 n2 c2] 26)).trans (hb1.mono (by simp))
  go_wp2_with fail
  refine (spread_any _ g n 1 27 (by omega) rfl arcs As ns cs starts w1 hG (Nat.le_refl _) ((hr.below (hb2.mono hB)).more (by have := hb2.size; omega)) hns).mono ?_
  rintro e w2 ⟨mb, met, rfl, hm, hle, hR, hb3⟩
  go_wp2_with fail
  go_ret
  have := hb2.size
  exact ⟨mb, met, rfl, hm, by omega, hR, hb2.trans (hb3.mono (by omega))⟩
end Go.Proofs.Ytekajenmkpobgaa
