/- Lines (10). Conditions: none. -/
import Derived.Test.YtoagphighgejnaaDoorG
import Derived.RangeFuncBox
import Derived.Maps.AppendAt
set_option linter.unusedSimpArgs false
set_option linter.unusedVariables false
namespace Go.Proofs.YtoagphighgejnaaDoor
open Go.RowKit Go.Shelf
attribute [local go_sem] Oper.semAt_some

/-- The lines of a text: cut at each end; an empty last one is none. -/
def linesL (l : List UInt8) : List (List UInt8) := if (cutL 10 l).getLast? = some [] then (cutL 10 l).dropLast else cutL 10 l

theorem infoStr : (Tryd.prog.info? 9).map (fun i => (i.zero, i.size, i.bytes)) = some (some (.string ⟨#[]⟩), 1, 16) := by kernel_rfl

/-- Between two rounds: what has come lies in the box of 'lines'; the row is the call's own, behind the boxes. -/
def LI (w : World) (pre : List ByteArray) (W : World) : Prop :=
  (∃ A c, Blk W w.heap.size 28 #[.slice A pre.length c] ∧ W.ownsRow (w.heap.size + 4) 9 1 (.slice A pre.length c) pre.length (pre.map Value.string)) ∧ Below w.heap.size w W ∧ w.heap.size + 4 ≤ W.heap.size

theorem LI_own (w : World) (B : Nat) (hB : w.heap.size + 4 ≤ B) : OwnFrom B (LI w) := by
  rintro pre X Y row ⟨⟨A, c, hb, hr⟩, hlow, hsz⟩ hg hrow
  refine ⟨⟨A, c, hb.grown hg (fun e => ?_), hr.kept hg ?_⟩, hlow.grown hg hlow.size (fun k e => ?_), Nat.le_trans hsz hg.size⟩
  · obtain ⟨hle, _⟩ := hrow _ e.symm; omega
  · rcases hr.2 with ⟨h0, _⟩ | ⟨g, cap, cur, h0, _, hgb, _⟩
    · rw [h0]; exact .inl rfl
    · refine .inr fun e' => ?_
      obtain ⟨_, o, ho, hc⟩ := hrow g (by rw [h0] at e'; simpa [Value.ownBlock] using e'.symm)
      rw [hgb] at ho; cases ho; cases hc
  · obtain ⟨hle, _⟩ := hrow k e; omega

theorem LI_set (w : World) (pre : List ByteArray) (W : World) (v : Value) (h : LI w pre W) : LI w pre (W.setCell ⟨w.heap.size + 1, 0, none⟩ v) := by
  obtain ⟨⟨A, c, hb, hr⟩, hlow, hsz⟩ := h
  exact ⟨⟨A, c, hb.far (p := ⟨w.heap.size + 1, 0, none⟩) (by show w.heap.size ≠ w.heap.size + 1; omega) _, own_far hr (p := ⟨w.heap.size + 1, 0, none⟩) (by show w.heap.size + 1 < _; omega) _⟩, hlow.setCell (p := ⟨w.heap.size + 1, 0, none⟩) (by show w.heap.size ≤ w.heap.size + 1; omega) _, by simpa using hsz⟩

theorem Reads.shorter {w : World} {B k : Nat} {A : Option Addr} {xs : List Value} (h : Reads w B 1 A (k + 1) xs) : Reads w B 1 A k (xs.take k) := by
  refine ⟨by rw [List.length_take, h.1]; omega, fun hk => ?_⟩
  obtain ⟨b, o, rfl, hb, hc⟩ := h.2 (by omega)
  refine ⟨b, o, rfl, hb, fun j u hu => hc j u ?_⟩
  have hj : j < k := by have := (List.getElem?_eq_some_iff.1 hu).1; rw [List.length_take] at this; omega
  rwa [List.getElem?_take_of_lt hj] at hu

theorem lines_of {l : List UInt8} {xs : List ByteArray} {k : Nat} {y : ByteArray} (hS : xs.map (·.data.toList) = cutL 10 l) (hk : xs.length = k + 1) (hy : xs[k]? = some y) :
    linesL l = if y.data.toList = [] then (xs.map (·.data.toList)).take k else xs.map (·.data.toList) := by
  unfold linesL
  rw [← hS, List.getLast?_eq_getElem?, List.length_map, hk, Nat.add_sub_cancel, List.getElem?_map, hy, Option.map_some]
  by_cases h : y.data.toList = []
  · rw [if_pos (by rw [h]), if_pos h, List.dropLast_eq_take, List.length_map, hk, Nat.add_sub_cancel]
  · rw [if_neg (by intro e; exact h (Option.some.inj e)), if_neg h]

set_option maxRecDepth 100000 in
set_option maxHeartbeats 2000000 in
theorem Lines_in (n : Nat) (hn : 6 ≤ n) (s : ByteArray) (hsz : s.size ≤ 4294967296) (w : World) :
    CallsIn Fence.wide n Tryd.prog 15 #[.string s] w fun e w' => ∃ A m c, e = .returned (.slice A m c) ∧ m = (linesL s.data.toList).length ∧ m ≤ c ∧ Reads w' w'.heap.size 1 A m ((linesL s.data.toList).map strV) ∧ Below w.heap.size w w' := by
  have h1 : 1 ≤ n := by omega
  have h1' : 1 ≤ n - 1 := by omega
  refine callsIn_of_wp_marks Tryd.func15 rfl trivial ?_ rfl
  simp only [Tryd.ntmps15, List.size_toArray, List.length_cons, List.length_nil, Nat.reduceAdd, Nat.reduceSub, Array.replicate_succ, Array.replicate_zero, List.push_toArray, List.append_toArray, List.nil_append, List.cons_append]
  gi_wp2_with fail
  refine ⟨trivial, (callsIn_wide.2 (SplitSeq_in s ⟨#[10]⟩ _)).mono ?_⟩
  rintro e w1 ⟨rfl, rfl⟩
  gi_wp2_with fail
  have kb := (((Blk.new w 28 #[.slice none 0 0]).alloc (.cells #[.string s] 9)).alloc (.cells #[.string ⟨#[10]⟩] 9)).alloc (.cells #[.int .i64 0] 3)
  have ks := ((Blk.new (w.alloc (.cells #[.slice none 0 0] 28)) 9 #[.string s]).alloc (.cells #[.string ⟨#[10]⟩] 9)).alloc (.cells #[.int .i64 0] 3)
  have kp := (Blk.new ((w.alloc (.cells #[.slice none 0 0] 28)).alloc (.cells #[.string s] 9)) 9 #[.string ⟨#[10]⟩]).alloc (.cells #[.int .i64 0] 3)
  have kv := Blk.new (((w.alloc (.cells #[.slice none 0 0] 28)).alloc (.cells #[.string s] 9)).alloc (.cells #[.string ⟨#[10]⟩] 9)) 3 #[.int .i64 0]
  have hb0 : Below w.heap.size w ((((w.alloc (.cells #[.slice none 0 0] 28)).alloc (.cells #[.string s] 9)).alloc (.cells #[.string ⟨#[10]⟩] 9)).alloc (.cells #[.int .i64 0] 3)) :=
    ((((Below.refl _ w).alloc (Nat.le_refl _) _).alloc (by simp) _).alloc (by simp; omega) _).alloc (by simp; omega) _
  have hs0 : ((((w.alloc (.cells #[.slice none 0 0] 28)).alloc (.cells #[.string s] 9)).alloc (.cells #[.string ⟨#[10]⟩] 9)).alloc (.cells #[.int .i64 0] 3)).heap.size = w.heap.size + 4 := by simp
  simp only [World.size_alloc] at ks kp kv
  generalize ((((w.alloc (.cells #[.slice none 0 0] 28)).alloc (.cells #[.string s] 9)).alloc (.cells #[.string ⟨#[10]⟩] 9)).alloc (.cells #[.int .i64 0] 3)) = W0 at kb ks kp kv hb0 hs0 ⊢
  refine range_state h1 (gf := 46) (lb := #[.pointer (some ⟨w.heap.size + 1 + 1, 0, none⟩), .pointer (some ⟨w.heap.size + 1, 0, none⟩), .pointer (some ⟨w.heap.size + 1 + 2, 0, none⟩)]) rfl (enters_of Tryd.func46 (by kernel_rfl) rfl)
    (encs := fun x : ByteArray => #[.string x]) (bs := w.heap.size + 1) (by omega) (T := fun b => b = w.heap.size + 1 ∨ b = w.heap.size + 1 + 1 ∨ b = w.heap.size + 1 + 2) (fun b hb => by omega)
    (S := fun ys => ys.map (·.data.toList) = cutL 10 s.data.toList) (N := (cutL 10 s.data.toList).length)
    (fun l J Jx W1 hW1 hJ hY h0 => seq1_in (n - 1) (by omega) l _ _ _ 10 s hsz _ (.inr (.inl rfl)) (.inl rfl) (.inr (.inr rfl)) (by omega) (by omega) J Jx hJ hY W1 ((hW1 _ kp.lt).trans kp) ((hW1 _ ks.lt).trans ks) ((hW1 _ kv.lt).trans kv) h0)
    (fun _ => rfl) (LI w) (LI_own w _ (by omega)) (LI_set w) ⟨⟨none, 0, kb, World.ownsRow_nil _ _ _ _⟩, hb0, by omega⟩
    (fun x => { tmps := #[.string s, undef, .slice none 0 0, .pointer (some ⟨w.heap.size, 0, none⟩), .string x, undef, .string s, .func (.func 46) #[] #[.pointer (some ⟨w.heap.size + 1 + 1, 0, none⟩), .pointer (some ⟨w.heap.size + 1, 0, none⟩), .pointer (some ⟨w.heap.size + 1 + 2, 0, none⟩)],
          .string x, undef, undef, undef, undef, undef, undef, undef, undef, undef, undef, undef, undef, undef, undef, undef, undef, undef, undef, undef, undef], defers := [] }) ?assign ?body ?done
  case assign =>
    intro l x W K hK
    gi_wp2
    exact hK
  case body =>
    rintro l pre x W ⟨⟨A, c, kb1, hr⟩, hlow, hW4⟩ hlen
    have hcl : (cutL 10 s.data.toList).length ≤ 4294967297 := by
      rw [cutL_length]
      have h1 := List.count_le_length (a := (10 : UInt8)) (l := s.data.toList)
      have h2 : s.data.toList.length = s.size := rfl
      omega
    obtain ⟨i0, hi, hz0, hz1, hz2⟩ := info_parts infoStr
    have q1 := kb1.cell 0
    simp only [List.getElem?_toArray, List.getElem?_cons_zero] at q1
    have hls := hlow.size
    have hlt := kb1.lt
    obtain ⟨k, hk⟩ : ∃ k, k = pre.length := ⟨_, rfl⟩
    have hk2 : k ≤ 4294967297 := by omega
    have hown0 : (W.alloc (.cells #[.string x] 9)).ownsRow (w.heap.size + 4) 9 1 (.slice A k c) k (pre.map Value.string) := by rw [hk]; exact hr.alloc _
    have b1 : k + 1 ≤ maxLen := by unfold maxLen; omega
    have b2 : (k + 1) * 16 ≤ 140737488355328 := by omega
    have hWs : w.heap.size + 4 ≤ (W.alloc (.cells #[.string x] 9)).heap.size := by
      simp; omega
    have HR := Lib.hid hr
    have HO := Lib.hid hown0
    have HK := Lib.hid hk
    have HKB := Lib.hid kb1
    have B1 := Lib.hid b1
    have B2 := Lib.hid b2
    have B3 := Lib.hid hWs
    rw [← hk] at q1
    clear hr hk hlen hcl kb1 kb ks kp kv hown0 b1 b2 hWs
    gi_wp2_with (gi_at_builtin; refine wpListIn_append_own _ rfl _ _ 28 rfl (w.heap.size + 4) 9 i0 (.string ⟨#[]⟩) 1 16 Tryd.underlying28 hi hz0 hz1 hz2 rfl (by decide) _ _ _ rfl HO.out ⟨W.heap.size, 0, none⟩ 1 1 [.string x] rfl rfl (cell_one_new _ _ _) (by simp [Value.oneCell']) B1.out B2.out B3.out ?_; intro v' w1 hown' hgrow _; obtain ⟨g', cap', rfl⟩ := ownsRow_succ hown'; refine Hid.out ?_)
    refine Lib.hid ?_
    replace hgrow : (W.alloc (.cells #[.string x] 9)).grownBy w1 (Value.slice A k c).ownBlock := hgrow
    have hrow : ∀ b, (Value.slice A k c).ownBlock = some b → w.heap.size + 4 ≤ b := fun b hb => (HO.out.lt b hb).1
    have kbN : Blk w1 w.heap.size 28 #[.slice A pre.length c] := (HKB.out.alloc _).grown hgrow (fun e => by have := hrow _ e.symm; omega)
    have r1 := kbN.cell 0
    have r2 := kbN.frozen 0
    simp only [List.getElem?_toArray, List.getElem?_cons_zero] at r1
    have hlt1 := kbN.lt
    have HRW := Lib.hid hrow
    have HOW := Lib.hid hown'
    have HGW := Lib.hid hgrow
    have HKN := Lib.hid kbN
    clear hrow kbN hown' hgrow
    gi_wp2_with fail
    have hgs := HGW.out.size
    rw [World.size_alloc] at hgs
    refine ⟨?_, ?_, ⟨some ⟨g', 0, none⟩, cap', ?_, ?_⟩, ?_, ?_⟩
    · refine ((KeepsOthers.alloc W _).trans (KeepsOthers.of_grownBy HGW.out fun j o ej hj => ?_)).trans (KeepsOthers.setCell _ _ _)
      rcases HO.out.2 with ⟨h0, _⟩ | ⟨g, cap, cur, h0, _, hgb, _⟩
      · rw [h0] at ej; simp [Value.ownBlock] at ej
      · rw [h0] at ej
        obtain rfl : g = j := by simpa [Value.ownBlock] using ej
        rw [hgb] at hj; cases hj; rfl
    · intro b hb
      have hbl : w.heap.size < b ∧ b < w.heap.size + 4 := by omega
      rw [Below.heap_setCell _ _ _ _ (show b ≠ w.heap.size by omega), HGW.out.block b (by rw [World.size_alloc]; omega) (fun e => by have := HRW.out b e.symm; omega), Below.heap_alloc _ _ _ (by omega)]
    · have e := HKN.out.set_ 0 (.slice (some ⟨g', 0, none⟩) (k + 1) cap')
      rw [HK.out] at e ⊢
      simpa using e
    · have e := own_far HOW.out (p := ⟨w.heap.size, 0, none⟩) (by show w.heap.size < _; omega) (.slice (some ⟨g', 0, none⟩) (k + 1) cap')
      rw [HK.out] at e ⊢
      simpa using e
    · exact ((hlow.alloc hlow.size _).grown HGW.out (by rw [World.size_alloc]; omega) (fun j e => by have := HRW.out j e; omega)).setCell (p := ⟨w.heap.size, 0, none⟩) (Nat.le_refl _) _
    · rw [World.size_setCell]; omega
  case done =>
    rintro D xs W hD hS ⟨⟨A, c, kb2, hr⟩, hlow, hW4⟩ hK
    have q1 := kb2.cell 0
    have q2 := kb2.frozen 0
    simp only [List.getElem?_toArray, List.getElem?_cons_zero] at q1
    have hlt := kb2.lt
    clear kb ks kp kv
    obtain ⟨k, hk⟩ : ∃ k, xs.length = k + 1 := by
      have h := congrArg List.length hS
      rw [List.length_map, cutL_length] at h
      exact ⟨_, h⟩
    have hkb : k ≤ 4294967296 := by
      have h := congrArg List.length hS
      rw [List.length_map, cutL_length, hk] at h
      have h1 := List.count_le_length (a := (10 : UInt8)) (l := s.data.toList)
      have h2 : s.data.toList.length = s.size := rfl
      omega
    have hr' := hr
    rw [hk] at hr' q1
    obtain ⟨g, cap, hv⟩ := ownsRow_succ hr'
    injection hv with hA _ hc'
    subst hA
    obtain ⟨y, hy⟩ : ∃ y, xs[k]? = some y := ⟨_, List.getElem?_eq_getElem (by omega)⟩
    have q3 : W.cell? ⟨g, k, none⟩ = some (.string y) := by
      have h := hr'.cells (g := g) rfl k (.string y) (by rw [List.getElem?_map, hy]; rfl)
      rwa [add_lit, Nat.zero_add] at h
    have hcap : k + 1 ≤ cap := by rw [hc'] at hr'; exact own_cap hr'
    have HS := Lib.hid hS
    have HR := Lib.hid hr
    have HR' := Lib.hid hr'
    have HK := Lib.hid hk
    have HKB := Lib.hid kb2
    have HY := Lib.hid hy
    clear hS hr hr' hk kb2 hy
    by_cases hemp : y = ⟨#[]⟩
    · subst hemp
      gi_wp2_with fail
      refine ⟨by simp, .inl ⟨_, _, rfl, run_takeDeferred ((KeepsOthers.setCell _ _ _).same D _ hK rfl), ?_⟩⟩
      refine ⟨_, results_tmp rfl _ _ _, ?_⟩
      have hl := lines_of HS.out HK.out HY.out
      rw [if_pos rfl] at hl
      have hll : (linesL s.data.toList).length = k := by rw [hl, List.length_take, List.length_map, HK.out]; omega
      have hK2 := (KeepsOthers.setCell W ⟨w.heap.size, 0, none⟩ (.slice (some ⟨g, 0, none⟩) k cap)).same D _ hK rfl
      have ho := ownsRow_putObj (own_far HR'.out (p := ⟨w.heap.size, 0, none⟩) (by show w.heap.size < _; omega) (.slice (some ⟨g, 0, none⟩) k cap)) (.deferred none) hK2 rfl
      refine ⟨some ⟨g, 0, none⟩, k, cap, rfl, hll.symm, by omega, ?_, ?_⟩
      · have hh := (Reads.of_own ho).shorter
        rw [hl]
        rw [map_strV, ← List.map_take] at hh
        exact hh
      · exact (hlow.setCell (p := ⟨w.heap.size, 0, none⟩) (Nat.le_refl _) _).trans (belowK_b (w := w) (Nat.le_refl _) _ D _ _ (by omega) hK2 rfl rfl)
    · have hne : (y.toList.isEmpty) = false := by
        rw [Lib.toList_data]
        cases hl : y.data.toList with
        | nil => exact absurd ((bs_eq_iff y []).2 hl) hemp
        | cons a b => rfl
      gi_wp2_with fail
      refine ⟨by simp, .inl ⟨_, _, rfl, run_takeDeferred hK, ?_⟩⟩
      refine ⟨_, results_tmp rfl _ _ _, ?_⟩
      have hl := lines_of HS.out HK.out HY.out
      rw [if_neg (fun e => hemp ((bs_eq_iff y []).2 e))] at hl
      have hll : (linesL s.data.toList).length = k + 1 := by rw [hl, List.length_map, HK.out]
      have ho := ownsRow_putObj HR'.out (.deferred none) hK rfl
      refine ⟨some ⟨g, 0, none⟩, k + 1, cap, rfl, hll.symm, hcap, ?_, ?_⟩
      · have hh := Reads.of_own ho
        rw [hl, ← map_strV]
        exact hh
      · exact hlow.trans (belowK_b (w := w) (Nat.le_refl _) W D _ _ (by omega) hK rfl rfl)

end Go.Proofs.YtoagphighgejnaaDoor
