/- Lines (10). Conditions: none. -/
import Derived.Test.YtoagphighgejnaaGreatDoorM
import Derived.Laws.EntriesVeiled
import Derived.RangeFuncNested
import Derived.RangeFuncBound
import Derived.RangeFuncCalls
import Derived.RangeFuncLeaves
import Derived.Shelf.Abstract
import Derived.Shelf.RegionOpen
import Derived.OwnWalkIn
import Derived.TacticsInMore
import Derived.LoopNIn
import Derived.LoopIn
import Derived.Lib.IndexBytes
import Derived.RangeFuncFrom
import Derived.RangeFuncBox
import Derived.Maps.AppendAt
set_option linter.unusedSimpArgs false
set_option linter.unusedVariables false
namespace Go.Proofs.YtoagphighgejnaaGreatDoor
open Go.RowKit Go.Shelf

/-- A text as a value. -/
def strV (l : List UInt8) : Value := .string ⟨l.toArray⟩
theorem strV_data (x : ByteArray) : strV x.data.toList = .string x := by cases x; rfl
theorem strV_inj {a b : List UInt8} (h : strV a = strV b) : a = b := by
  unfold strV at h
  injection h with h
  injection h with h
  have := congrArg Array.toList h
  simpa using this

theorem map_strV (xs : List ByteArray) : xs.map Value.string = (xs.map (·.data.toList)).map strV := by
  rw [List.map_map]
  refine List.map_congr_left fun x _ => ?_
  exact (strV_data x).symm

theorem Words_in (s : ByteArray) (hs : s.size < 4294967281) (w : World) (hE : Env w) :
    Calls Tryz.prog 41 #[.string s] w fun e w' => ∃ A n c, e = .returned (.slice A n c) ∧ n = (cutL 32 s.data.toList).length ∧ n ≤ c ∧ Reads w' w'.heap.size 1 A n ((cutL 32 s.data.toList).map strV) ∧ Below w.heap.size w w' := by
  obtain ⟨m, hm⟩ := hE.max
  obtain ⟨L, hL⟩ : ∃ L, cutL 32 s.data.toList = L := ⟨_, rfl⟩
  rw [hL]
  have HL := Lib.hid hL
  clear hL
  go_enter Tryz.func41, Tryz.ntmps41
  go_wp2_with fail
  refine (Tryz.strings_Split s ⟨#[32]⟩ m w hs hm (by decide)).mono ?_
  rintro e w' ⟨rfl, rfl⟩
  have hcut : (Lib.splitB ⟨#[32]⟩ 0 (Lib.countB s ⟨#[32]⟩) s).map (·.data.toList) = L := by
    rw [Lib.splitB_data, ← HL.out]
    exact split_cut 32 s.data.toList.length s.data.toList (Nat.le_refl _)
  have hlen : (Lib.splitB ⟨#[32]⟩ 0 (Lib.countB s ⟨#[32]⟩) s).length = Lib.countB s ⟨#[32]⟩ + 1 := Lib.splitB_all ⟨#[32]⟩ (by decide) 0 _ s rfl
  rw [map_strV, hcut]
  have hlen2 : L.length = Lib.countB s ⟨#[32]⟩ + 1 := by rw [← hlen, ← hcut, List.length_map]
  rw [← hlen2]
  have HB := Lib.hid (Blk.new w 9 (L.map strV).toArray)
  clear hcut hlen hlen2 hm
  go_wp2_with fail
  go_ret
  refine ⟨_, _, _, rfl, rfl, Nat.le_refl _, ⟨by simp, fun hn => ⟨w.heap.size, 0, rfl, by simp, fun j u hu => ?_⟩⟩, (Below.refl _ w).alloc (Nat.le_refl _) _⟩
  rw [HB.out.cell]
  rw [List.getElem?_toArray, Nat.zero_add]
  exact hu

/-- The texts joined, with something between. -/
theorem Join_in (A : Option Addr) (n c : Nat) (L : List (List UInt8)) (sep : ByteArray) (w : World) (hn : n = L.length) (hc : n ≤ c) (hr : Reads w w.heap.size 1 A n (L.map strV))
    (hlim : n ≤ 140737488355328) (hlen : (Lib.join L sep.data.toList).length ≤ 140737488355328) :
    Calls Tryz.prog 52 #[.slice A n c, .string sep] w fun e w' => e = .returned (strV (Lib.join L sep.data.toList)) ∧ Below w.heap.size w w' := by
  cases L with
  | nil =>
    obtain rfl : n = 0 := by simpa using hn
    clear hlim hlen hn hc hr
    go_enter Tryz.func52, Tryz.ntmps52
    go_wp2_with fail
    refine (Tryz.strings_Join_none A c sep w).mono ?_
    rintro e w' ⟨rfl, h2⟩
    obtain rfl := h2.symm
    go_wp2_with fail
    go_ret
    exact ⟨rfl, Below.refl _ _⟩
  | cons x L =>
    obtain ⟨b, o, rfl, hb, hcells⟩ := hr.2 (by rw [hn]; simp)
    obtain ⟨xs, hxs⟩ : ∃ xs : List ByteArray, xs = (x :: L).map (fun l => ⟨l.toArray⟩) := ⟨_, rfl⟩
    have hmap : xs.map (·.data.toList) = x :: L := by
      rw [hxs, List.map_map]
      conv => rhs; rw [← List.map_id (x :: L)]
      rfl
    have hxl : xs.length = n := by rw [hxs, List.length_map, hn]
    have hcell2 : ∀ (j : Nat) y, xs[j]? = some y → w.cell? ⟨b, o + j, none⟩ = some (.string y) := by
      intro j y hy
      refine hcells j _ ?_
      rw [hxs] at hy
      rw [List.getElem?_map] at hy ⊢
      cases hl : (x :: L)[j]? with
      | none => rw [hl] at hy; cases hy
      | some l => rw [hl] at hy; simp only [Option.map_some, Option.some.injEq] at hy; subst hy; rfl
    have HJ := Lib.hid (Tryz.strings_Join b o c xs sep w hcell2 hb (by omega) (by omega) (by rw [hmap]; exact hlen))
    rw [hmap, hxl] at HJ
    clear hcells hcell2 hr hmap hxs hxl hn hlim hlen hc
    go_enter Tryz.func52, Tryz.ntmps52
    go_wp2_with fail
    refine HJ.out.mono ?_
    rintro e w' ⟨rfl, hb2⟩
    clear HJ
    go_wp2_with fail
    go_ret
    exact ⟨rfl, hb2⟩

theorem ret_bool {a b : Bool} (h : a = b) : Ending.returned (.bool a) = .returned (.bool b) := by rw [h]
theorem eq_of_upto {α : Type} {xs ys : List α} {k : Nat} (hx : xs.length ≤ k) (hy : ys.length ≤ k) (h : ∀ j, j < k → xs[j]? = ys[j]?) : xs = ys := by
  apply List.ext_getElem?
  intro j
  rcases Nat.lt_or_ge j k with hj | hj
  · exact h j hj
  · rw [List.getElem?_eq_none (by omega), List.getElem?_eq_none (by omega)]
theorem not_eq_of_at {α : Type} {xs ys : List α} {k : Nat} {x y : α} (hx : xs[k]? = some x) (hy : ys[k]? = some y) (h : x ≠ y) : xs ≠ ys := by
  rintro rfl; rw [hx] at hy; exact h (Option.some.inj hy)

theorem bs_ne_iff (x y : List UInt8) : ((⟨x.toArray⟩ : ByteArray).toList == (⟨y.toArray⟩ : ByteArray).toList) = (x == y) := by
  rw [Lib.toList_data, Lib.toList_data]

theorem splitSeq_in (s p : ByteArray) (w : World) :
    Calls Tryz.prog 78 #[.string s, .string p, .int .i64 0] w fun e w' =>
      e = .returned (.func (.func 89) #[] #[.pointer (some ⟨w.heap.size + 1, 0, none⟩), .pointer (some ⟨w.heap.size, 0, none⟩), .pointer (some ⟨w.heap.size + 2, 0, none⟩)]) ∧
      w' = ((w.alloc (.cells #[.string s] 9)).alloc (.cells #[.string p] 9)).alloc (.cells #[.int .i64 0] 3) := by
  go_enter Tryz.func78, Tryz.ntmps78
  go_wp2
  go_ret
  exact ⟨rfl, rfl⟩

theorem SplitSeq_in (s p : ByteArray) (w : World) :
    Calls Tryz.prog 59 #[.string s, .string p] w fun e w' =>
      e = .returned (.func (.func 89) #[] #[.pointer (some ⟨w.heap.size + 1, 0, none⟩), .pointer (some ⟨w.heap.size, 0, none⟩), .pointer (some ⟨w.heap.size + 2, 0, none⟩)]) ∧
      w' = ((w.alloc (.cells #[.string s] 9)).alloc (.cells #[.string p] 9)).alloc (.cells #[.int .i64 0] 3) := by
  go_enter Tryz.func59, Tryz.ntmps59
  go_wp2_with fail
  refine (splitSeq_in s p w).mono ?_
  rintro e w' ⟨rfl, rfl⟩
  go_wp2_with fail
  go_ret
  exact ⟨rfl, rfl⟩

attribute [local go_sem] Oper.semAt_some

/-- blocks of a set lie as they lay -/
def KeepSet (T : Nat → Prop) (W W' : World) : Prop := ∀ b, T b → W'.heap[b]? = W.heap[b]?
theorem KeepSet.refl (T : Nat → Prop) (W : World) : KeepSet T W W := fun _ _ => rfl
theorem KeepSet.trans {T : Nat → Prop} {A B C : World} (h : KeepSet T A B) (k : KeepSet T B C) : KeepSet T A C := fun b hb => (k b hb).trans (h b hb)
theorem KeepSet.cell {T : Nat → Prop} {W W' : World} (h : KeepSet T W W') {p : Addr} (hp : T p.block) : W'.cell? p = W.cell? p := World.cell?_of_block (h p.block hp)
theorem KeepSet.blk {T : Nat → Prop} {W W' : World} (h : KeepSet T W W') {b : Nat} {t : TypeId} {cs : Array Value} (hb : T b) (k : Blk W b t cs) : Blk W' b t cs := (h b hb).trans k

/-- How long the text in block bs is. -/
def restLen (bs : Nat) (W : World) : Nat :=
  match W.cell? ⟨bs, 0, none⟩ with
  | some (.string x) => x.size
  | _ => 0
theorem restLen_eq {bs : Nat} {W : World} {x : ByteArray} (h : W.cell? ⟨bs, 0, none⟩ = some (.string x)) : restLen bs W = x.size := by unfold restLen; rw [h]

set_option maxRecDepth 100000 in
set_option maxHeartbeats 2000000 in
theorem seq1_in (n : Nat) (hn : 1 ≤ n) (l bp bs bv : Nat) (c : UInt8) (s : ByteArray) (hsz : s.size ≤ 4294967296) (T : Nat → Prop) (hTp : T bp) (hTs : T bs) (hTv : T bv) (hps : bp ≠ bs) (hvs : bv ≠ bs) (J Jx : List ByteArray → World → Prop)
    (hJ : ∀ pre W v, J pre W → J pre (W.setCell ⟨bs, 0, none⟩ v))
    (hY : ∀ pre x W, J pre W → pre.length < (cutL c s.data.toList).length → YieldAt Fence.wide (n - 1) Tryz.prog l #[.string x] W fun e W' =>
      (e = .returned (.bool true) ∧ J (pre ++ [x]) W' ∧ KeepSet T W W') ∨ (e = .returned (.bool false) ∧ Jx (pre ++ [x]) W'))
    (W : World) (hbp : Blk W bp 9 #[.string ⟨#[c]⟩]) (hbs : Blk W bs 9 #[.string s]) (hbv : Blk W bv 3 #[.int .i64 0]) (h0 : J [] W) :
    CallsIn Fence.wide n Tryz.prog 89 #[.func (.yield l) #[] #[], .pointer (some ⟨bp, 0, none⟩), .pointer (some ⟨bs, 0, none⟩), .pointer (some ⟨bv, 0, none⟩)] W fun e W' => (∃ v, e = .returned v) ∧
      ((∃ ys : List ByteArray, ys.map (·.data.toList) = cutL c s.data.toList ∧ J ys W') ∨ (∃ pre, True ∧ Jx pre W')) := by
  have q1 := hbp.cell 0
  have q2 := hbs.cell 0
  simp only [List.getElem?_toArray, List.getElem?_cons_zero] at q1 q2
  refine callsIn_of_wp Tryz.func89 rfl trivial ?_ rfl
  simp only [Tryz.ntmps89, List.size_toArray, List.length_cons, List.length_nil, Nat.reduceAdd, Nat.reduceSub, Array.replicate_succ, Array.replicate_zero, List.push_toArray, List.append_toArray, List.nil_append, List.cons_append]
  gi_wp2_with fail
  gi_loopw [7] (fun _ wr => ∃ (pre : List ByteArray) (x : ByteArray), cutL c s.data.toList = pre.map (·.data.toList) ++ cutL c x.data.toList ∧ x.size ≤ 4294967296 ∧ Blk wr bp 9 #[.string ⟨#[c]⟩] ∧ Blk wr bs 9 #[.string x] ∧ Blk wr bv 3 #[.int .i64 0] ∧ J pre wr) (fun _ wr => restLen bs wr)
  case atStart => exact ⟨[], s, by simp, hsz, hbp, hbs, hbv, h0⟩
  case round =>
    clear q1 q2
    obtain ⟨pre, x, hcut, hxs, kp, ks, kv, hJs⟩ := hrel
    have q1 := kp.cell 0
    have q2 := ks.cell 0
    have q3 := kv.cell 0
    have q4 := ks.frozen 0
    simp only [List.getElem?_toArray, List.getElem?_cons_zero] at q1 q2 q3
    have hmu := restLen_eq q2
    have HC := Lib.hid hcut
    clear hcut hbp hbs hbv h0
    by_cases hi : Lib.indexByte x.data.toList c < 0
    · have hm : Lib.indexByte x.data.toList c = -1 := by have := Lib.indexByte_ge x.data.toList c; omega
      have hlast : cutL c s.data.toList = (pre ++ [x]).map (·.data.toList) := by rw [HC.out, cutL_miss hm]; simp
      obtain ⟨fn, tmps, assign, body, hy, hR⟩ := hY pre x wr hJs (by rw [hlast]; simp)
      have HL := Lib.hid hlast
      clear hlast
      gi_wp2_with fail
      refine ⟨trivial, (callsIn_wide.2 (Tryz.strings_Index_one x c wr)).mono ?_⟩
      rintro e w2 ⟨rfl, h2⟩
      obtain rfl := h2.symm
      rw [hm]
      clear hi hm h2
      gi_wp2_with fail
      refine hR.mono ?_
      rintro e W3 (⟨rfl, hJ3, hk3⟩ | ⟨rfl, hJx3⟩)
      · gi_wp2_with fail
        go_end0
        exact ⟨⟨_, rfl⟩, .inl ⟨pre ++ [x], HL.out.symm, hJ3⟩⟩
      · gi_wp2_with fail
        go_end0
        exact ⟨⟨_, rfl⟩, .inr ⟨_, trivial, hJx3⟩⟩
    · obtain ⟨i, hix⟩ := Int.eq_ofNat_of_zero_le (Int.not_lt.1 hi)
      have hil : i < x.data.toList.length := (List.getElem?_eq_some_iff.1 (Lib.indexByte_some hix).1).1
      have hil' : i < x.size := hil
      obtain ⟨f, hf⟩ : ∃ f : ByteArray, f = x.extract 0 i := ⟨_, rfl⟩
      obtain ⟨g, hg⟩ : ∃ g : ByteArray, g = x.extract (i + 1) x.size := ⟨_, rfl⟩
      have hfd : f.data.toList = x.data.toList.take i := by rw [hf]; simp
      have hgd : g.data.toList = x.data.toList.drop (i + 1) := by
        rw [hg]
        have e2 : x.data.toList.length = x.size := rfl
        simp only [ByteArray.data_extract, Array.toList_extract, List.extract_eq_take_drop]
        exact List.take_of_length_le (by rw [List.length_drop]; omega)
      have hgs : g.size < x.size := by
        have e : g.size = g.data.toList.length := rfl
        rw [e, hgd, List.length_drop]
        have e2 : x.size = x.data.toList.length := rfl
        omega
      have hnext : cutL c s.data.toList = (pre ++ [f]).map (·.data.toList) ++ cutL c g.data.toList := by
        rw [HC.out, cutL_hit hix, List.map_append, List.map_singleton, hfd, hgd]; simp
      obtain ⟨fn, tmps, assign, body, hy, hR⟩ := hY pre f wr hJs (by rw [hnext]; simp)
      have HL := Lib.hid hnext
      have HF := Lib.hid hf
      have HG := Lib.hid hg
      rw [hf] at hy
      clear hnext hfd hgd hf hg
      gi_wp2_with fail
      refine ⟨trivial, (callsIn_wide.2 (Tryz.strings_Index_one x c wr)).mono ?_⟩
      rintro e w2 ⟨rfl, h2⟩
      obtain rfl := h2.symm
      rw [hix]
      clear hi h2
      gi_wp2_with fail
      refine hR.mono ?_
      rintro e W3 (⟨rfl, hJ3, hk3⟩ | ⟨rfl, hJx3⟩)
      · have kp3 := hk3.blk hTp kp
        have ks3 := hk3.blk hTs ks
        have kv3 := hk3.blk hTv kv
        have r1 := kp3.cell 0
        have r2 := ks3.cell 0
        have r4 := ks3.frozen 0
        simp only [List.getElem?_toArray, List.getElem?_cons_zero] at r1 r2
        have hlt3 := ks3.lt
        gi_wp2_with fail
        have ksN : Blk (W3.setCell ⟨bs, 0, none⟩ (.string (x.extract (i + 1) x.size))) bs 9 #[.string (x.extract (i + 1) x.size)] := ks3.set_ 0 _
        refine ⟨⟨pre ++ [f], g, HL.out, by omega, kp3.far (p := ⟨bs, 0, none⟩) hps _, by rw [HG.out]; exact ksN, kv3.far (p := ⟨bs, 0, none⟩) hvs _, hJ _ _ _ hJ3⟩, ?_⟩
        have e1 := ksN.cell 0
        simp only [List.getElem?_toArray, List.getElem?_cons_zero] at e1
        rw [restLen_eq e1, hmu, ← HG.out]
        exact hgs
      · gi_wp2_with fail
        refine bodyPost_ret (results_none rfl _ _ _) rfl ?_
        exact ⟨⟨_, rfl⟩, .inr ⟨_, trivial, hJx3⟩⟩

theorem KeepSet.put {T : Nat → Prop} {w W : World} (hT : ∀ b, T b → b < w.heap.size) {l : Nat} (hl : w.heap.size ≤ l) (o : Obj) : KeepSet T W (W.putObj l o) := fun b hb => World.putObj_heap_other (by have := hT b hb; omega)

theorem range_state {α : Type} {n : Nat} {P : Program} {g : Operand} {ps : Array Tmp} {assign body : Code} {Q : Exit → Act → World → Prop} {a : Act} {w : World} (h1 : 1 ≤ n)
    {gf : Nat} {lb : Array Value} (hg : a.eval g = .func (.func gf) #[] lb) (eg : ∀ args w, (callFunc gf args).run P w = .ok (.enter gf args) w)
    {encs : α → Array Value} {bs : Nat} (hbs : bs < w.heap.size) {T : Nat → Prop} (hT : ∀ b, T b → b < w.heap.size) {S : List α → Prop} {N : Nat}
    (hseq : ∀ (l : Nat) (J Jx : List α → World → Prop) (W1 : World), (∀ b, b < w.heap.size → W1.heap[b]? = w.heap[b]?) → (∀ pre W v, J pre W → J pre (W.setCell ⟨bs, 0, none⟩ v)) →
      (∀ pre x W, J pre W → pre.length < N → YieldAt Fence.wide (n - 1 - 1) P l (encs x) W fun e W' => (e = .returned (.bool true) ∧ J (pre ++ [x]) W' ∧ KeepSet T W W') ∨ (e = .returned (.bool false) ∧ Jx (pre ++ [x]) W')) →
      J [] W1 → CallsIn Fence.wide (n - 1) P gf (#[.func (.yield l) #[] #[]] ++ lb) W1 fun e W' => (∃ v, e = .returned v) ∧ ((∃ ys, S ys ∧ J ys W') ∨ (∃ pre, True ∧ Jx pre W')))
    (hps : ∀ x, (encs x).size = ps.size) (I : List α → World → Prop) (hI : OwnFrom w.heap.size I) (hIs : ∀ pre W v, I pre W → I pre (W.setCell ⟨bs, 0, none⟩ v)) (h0 : I [] w) (a₁ : α → Act)
    (hassign : ∀ (l : Nat) (x : α) (W : World) (K : Act → World → Prop), K (a₁ x) W →
      assign.wpIn (Fence.wide.inRound l) (n - 1 - 1) P (Exit.then K (fun _ _ _ => False)) { tmps := (ps.zip (encs x)).foldl (fun t (p, v) => t.setIfInBounds p v) a.tmps, defers := [] } W)
    (hbody : ∀ (l : Nat) (pre : List α) (x : α) (W : World), I pre W → pre.length < N → body.wpIn (Fence.wide.inRound l) (n - 1 - 1) P (ownPostK (KeepSet T) I (fun _ _ _ => False) (pre ++ [x]) W) (a₁ x) W)
    (hdone : ∀ (D : Nat) (xs : List α) (W : World), w.heap.size ≤ D → S xs → I xs W → W.heap[D]? = some (.deferred (some [])) → Q .normal { a with defers := { target := .collected D, args := #[] } :: a.defers } W) :
    (Code.rangeFunc g ps assign body).wpIn Fence.wide n P Q a w := by
  refine wpIn_rangeFunc ?_
  intro fn hfn
  rw [show Fence.wide.round = none from rfl]
  obtain ⟨rec, hrec⟩ : ∃ rec : LoopState → Option Code → Loop, rec = fun st pe => { state := st, pending := pe, fn, tmps := a.tmps, params := ps, assign, body, defers := w.heap.size } := ⟨_, rfl⟩
  obtain ⟨W1, hW1⟩ : ∃ W1, (w.alloc (.deferred (some []))).alloc (.loop (rec .ready none)) = W1 := ⟨_, rfl⟩
  have hL1 : W1.heap[w.heap.size + 1]? = some (.loop (rec .ready none)) := by
    rw [← hW1]; have := World.alloc_heap_new (w.alloc (.deferred (some []))) (.loop (rec .ready none)); rwa [World.size_alloc] at this
  have hK1 : W1.heap[w.heap.size]? = some (.deferred (some [])) := by
    rw [← hW1]; exact (Below.heap_alloc _ _ _ (by simp)).trans (World.alloc_heap_new w _)
  have hI1 : I [] W1 := by rw [← hW1]; exact hI.alloc _ (hI.alloc _ h0)
  have hb1 : ∀ b, b < w.heap.size → W1.heap[b]? = w.heap[b]? := by
    intro b hb
    rw [← hW1, Below.heap_alloc _ _ _ (by simp; omega), Below.heap_alloc _ _ _ hb]
  refine ⟨w.heap.size + 1, [{ target := .collected w.heap.size, args := #[] }], W1, { target := .fn (.func gf) lb, args := #[.func (.yield (w.heap.size + 1)) #[] #[]] }, W1, gf,
    #[.func (.yield (w.heap.size + 1)) #[] #[]] ++ lb, W1, ?_, ?_, ?_, ?_, fun _ => h1, ?_⟩
  · rw [← hW1, hrec]; exact run_enterLoop_outer _ _ _ _ _
  · simp only [resolve, hg]
    simp [go_sem]
  · intro f' hf'; exact trivial
  · simp [invoke, go_sem, eg]
  · have hset : ∀ (W : World) (v : Value) (k : Nat), w.heap.size ≤ k → (W.setCell ⟨bs, 0, none⟩ v).heap[k]? = W.heap[k]? := fun W v k hk => Below.heap_setCell W ⟨bs, 0, none⟩ v k (by show k ≠ bs; omega)
    refine (hseq (w.heap.size + 1)
      (fun pre W => I pre W ∧ W.heap[w.heap.size + 1]? = some (.loop (rec .ready none)) ∧ W.heap[w.heap.size]? = some (.deferred (some [])))
      (fun _ _ => False) W1 hb1
      (fun pre W v h => ⟨hIs pre W v h.1, (hset W v _ (by omega)).trans h.2.1, (hset W v _ (by omega)).trans h.2.2⟩)
      ?_ ⟨hI1, hL1, hK1⟩).mono ?_
    · rintro pre x W ⟨hi, hl, hk⟩ hlen
      have hlt : w.heap.size + 1 < W.heap.size := (Array.getElem?_eq_some_iff.1 hl).1
      have hy := run_yield (P := P) (args := encs x) hl (by rw [hrec]; exact hps x)
      rw [hrec] at hy
      refine ⟨fn, _, assign, body, hy, roundIn_of_wpIn hfn (hassign _ x W _ ⟨_, run_beginRound hl (by rw [hrec]), ?_⟩)⟩
      have hl2 : (W.putObj (w.heap.size + 1) (.loop { rec .ready none with state := .busy })).heap[w.heap.size + 1]? = some (.loop { rec .ready none with state := .busy }) := World.putObj_heap_same hlt
      have hk2 : (W.putObj (w.heap.size + 1) (.loop { rec .ready none with state := .busy })).heap[w.heap.size]? = some (.deferred (some [])) := (World.putObj_heap_other (by omega)).trans hk
      have hw2 : KeepSet T W (W.putObj (w.heap.size + 1) (.loop { rec .ready none with state := .busy })) := KeepSet.put hT (by omega) _
      refine wpIn_mono (hbody _ pre x _ (hI.putObj _ hi (by omega) hl rfl) hlen) ?_
      rintro e a3 W3 hp
      cases e with
      | normal =>
        obtain ⟨hk3, hkp3, hi3⟩ := hp
        have hl3 := hk3.same _ _ hl2 rfl
        have hr := run_endRound (P := P) none hl3
        rw [hrec] at hr hl3
        refine ⟨_, _, hr, .inl ⟨rfl, ⟨hI.putObj _ hi3 (by omega) hl3 rfl, ?_, (World.putObj_heap_other (by omega)).trans (hk3.same _ _ hk2 rfl)⟩, (hw2.trans hkp3).trans (KeepSet.put hT (by omega) _)⟩⟩
        rw [hrec]
        exact World.putObj_heap_same (Array.getElem?_eq_some_iff.1 hl3).1
      | ret => exact hp.2.elim
      | exit id => exact hp.2.elim
      | goto t => exact hp.2.elim
      | panic ch => exact hp.elim
      | outgrown => exact hp.elim
    · rintro e W2 ⟨⟨v, rfl⟩, (⟨xs, hS, hi, hl, hk⟩ | ⟨_, _, hf⟩)⟩
      · exact ⟨none, _, by have := run_endLoop (P := P) hl (by rw [hrec]; simp); rw [hrec] at this; exact this, hdone _ xs _ (Nat.le_refl _) hS (hI.putObj _ hi (by omega) hl rfl) ((World.putObj_heap_other (by omega)).trans hk)⟩
      · exact hf.elim

attribute [local go_sem] Oper.semAt_some

/-- The lines of a text: cut at each end; an empty last one is none. -/
def linesL (l : List UInt8) : List (List UInt8) := if (cutL 10 l).getLast? = some [] then (cutL 10 l).dropLast else cutL 10 l

theorem infoStr : (Tryz.prog.info? 9).map (fun i => (i.zero, i.size, i.bytes)) = some (some (.string ⟨#[]⟩), 1, 16) := by kernel_rfl

/-- Between two rounds: what has come lies in the box of 'lines'; the row is the call's own, behind the boxes. -/
def LI (w : World) (pre : List ByteArray) (W : World) : Prop :=
  (∃ A c, Blk W w.heap.size 34 #[.slice A pre.length c] ∧ W.ownsRow (w.heap.size + 4) 9 1 (.slice A pre.length c) pre.length (pre.map Value.string)) ∧ Below w.heap.size w W ∧ w.heap.size + 4 ≤ W.heap.size

theorem LI_own (w : World) (B : Nat) (hB : w.heap.size + 4 ≤ B) : OwnFrom B (LI w) := by
  rintro pre X Y row ⟨⟨A, c, hb, hr⟩, hlow, hsz⟩ hg hrow
  refine ⟨⟨A, c, hb.grown hg (fun e => ?_), hr.kept hg ?_⟩, hlow.grown hg hlow.size (fun k e => ?_), Nat.le_trans hsz hg.size⟩
  · obtain ⟨hle, _⟩ := hrow _ e.symm; omega
  · rcases hr.2 with ⟨h0, _⟩ | ⟨g, cap, cur, h0, _, hgb, _⟩
    · rw [h0]; exact .inl rfl
    · refine .inr fun e' => ?_
      obtain ⟨_, o, ho, hc⟩ := hrow g (by rw [h0] at e'; simpa [Value.ownBlock] using e'.symm)
      rw [hgb] at ho; cases ho; cases hc
  · obtain ⟨hle, _⟩ := hrow k e; omega

theorem LI_set (w : World) (pre : List ByteArray) (W : World) (v : Value) (h : LI w pre W) : LI w pre (W.setCell ⟨w.heap.size + 1, 0, none⟩ v) := by
  obtain ⟨⟨A, c, hb, hr⟩, hlow, hsz⟩ := h
  exact ⟨⟨A, c, hb.far (p := ⟨w.heap.size + 1, 0, none⟩) (by show w.heap.size ≠ w.heap.size + 1; omega) _, own_far hr (p := ⟨w.heap.size + 1, 0, none⟩) (by show w.heap.size + 1 < _; omega) _⟩, hlow.setCell (p := ⟨w.heap.size + 1, 0, none⟩) (by show w.heap.size ≤ w.heap.size + 1; omega) _, by simpa using hsz⟩

theorem Reads.shorter {w : World} {B k : Nat} {A : Option Addr} {xs : List Value} (h : Reads w B 1 A (k + 1) xs) : Reads w B 1 A k (xs.take k) := by
  refine ⟨by rw [List.length_take, h.1]; omega, fun hk => ?_⟩
  obtain ⟨b, o, rfl, hb, hc⟩ := h.2 (by omega)
  refine ⟨b, o, rfl, hb, fun j u hu => hc j u ?_⟩
  have hj : j < k := by have := (List.getElem?_eq_some_iff.1 hu).1; rw [List.length_take] at this; omega
  rwa [List.getElem?_take_of_lt hj] at hu

theorem lines_of {l : List UInt8} {xs : List ByteArray} {k : Nat} {y : ByteArray} (hS : xs.map (·.data.toList) = cutL 10 l) (hk : xs.length = k + 1) (hy : xs[k]? = some y) :
    linesL l = if y.data.toList = [] then (xs.map (·.data.toList)).take k else xs.map (·.data.toList) := by
  unfold linesL
  rw [← hS, List.getLast?_eq_getElem?, List.length_map, hk, Nat.add_sub_cancel, List.getElem?_map, hy, Option.map_some]
  by_cases h : y.data.toList = []
  · rw [if_pos (by rw [h]), if_pos h, List.dropLast_eq_take, List.length_map, hk, Nat.add_sub_cancel]
  · rw [if_neg (by intro e; exact h (Option.some.inj e)), if_neg h]

set_option maxRecDepth 100000 in
set_option maxHeartbeats 2000000 in
theorem Lines_in (n : Nat) (hn : 6 ≤ n) (s : ByteArray) (hsz : s.size ≤ 4294967296) (w : World) :
    CallsIn Fence.wide n Tryz.prog 40 #[.string s] w fun e w' => ∃ A m c, e = .returned (.slice A m c) ∧ m = (linesL s.data.toList).length ∧ m ≤ c ∧ Reads w' w'.heap.size 1 A m ((linesL s.data.toList).map strV) ∧ Below w.heap.size w w' := by
  have h1 : 1 ≤ n := by omega
  have h1' : 1 ≤ n - 1 := by omega
  refine callsIn_of_wp_marks Tryz.func40 rfl trivial ?_ rfl
  simp only [Tryz.ntmps40, List.size_toArray, List.length_cons, List.length_nil, Nat.reduceAdd, Nat.reduceSub, Array.replicate_succ, Array.replicate_zero, List.push_toArray, List.append_toArray, List.nil_append, List.cons_append]
  gi_wp2_with fail
  refine ⟨trivial, (callsIn_wide.2 (SplitSeq_in s ⟨#[10]⟩ _)).mono ?_⟩
  rintro e w1 ⟨rfl, rfl⟩
  gi_wp2_with fail
  have kb := (((Blk.new w 34 #[.slice none 0 0]).alloc (.cells #[.string s] 9)).alloc (.cells #[.string ⟨#[10]⟩] 9)).alloc (.cells #[.int .i64 0] 3)
  have ks := ((Blk.new (w.alloc (.cells #[.slice none 0 0] 34)) 9 #[.string s]).alloc (.cells #[.string ⟨#[10]⟩] 9)).alloc (.cells #[.int .i64 0] 3)
  have kp := (Blk.new ((w.alloc (.cells #[.slice none 0 0] 34)).alloc (.cells #[.string s] 9)) 9 #[.string ⟨#[10]⟩]).alloc (.cells #[.int .i64 0] 3)
  have kv := Blk.new (((w.alloc (.cells #[.slice none 0 0] 34)).alloc (.cells #[.string s] 9)).alloc (.cells #[.string ⟨#[10]⟩] 9)) 3 #[.int .i64 0]
  have hb0 : Below w.heap.size w ((((w.alloc (.cells #[.slice none 0 0] 34)).alloc (.cells #[.string s] 9)).alloc (.cells #[.string ⟨#[10]⟩] 9)).alloc (.cells #[.int .i64 0] 3)) :=
    ((((Below.refl _ w).alloc (Nat.le_refl _) _).alloc (by simp) _).alloc (by simp; omega) _).alloc (by simp; omega) _
  have hs0 : ((((w.alloc (.cells #[.slice none 0 0] 34)).alloc (.cells #[.string s] 9)).alloc (.cells #[.string ⟨#[10]⟩] 9)).alloc (.cells #[.int .i64 0] 3)).heap.size = w.heap.size + 4 := by simp
  simp only [World.size_alloc] at ks kp kv
  generalize ((((w.alloc (.cells #[.slice none 0 0] 34)).alloc (.cells #[.string s] 9)).alloc (.cells #[.string ⟨#[10]⟩] 9)).alloc (.cells #[.int .i64 0] 3)) = W0 at kb ks kp kv hb0 hs0 ⊢
  refine range_state h1 (gf := 89) (lb := #[.pointer (some ⟨w.heap.size + 1 + 1, 0, none⟩), .pointer (some ⟨w.heap.size + 1, 0, none⟩), .pointer (some ⟨w.heap.size + 1 + 2, 0, none⟩)]) rfl (enters_of Tryz.func89 (by kernel_rfl) rfl)
    (encs := fun x : ByteArray => #[.string x]) (bs := w.heap.size + 1) (by omega) (T := fun b => b = w.heap.size + 1 ∨ b = w.heap.size + 1 + 1 ∨ b = w.heap.size + 1 + 2) (fun b hb => by omega)
    (S := fun ys => ys.map (·.data.toList) = cutL 10 s.data.toList) (N := (cutL 10 s.data.toList).length)
    (fun l J Jx W1 hW1 hJ hY h0 => seq1_in (n - 1) (by omega) l _ _ _ 10 s hsz _ (.inr (.inl rfl)) (.inl rfl) (.inr (.inr rfl)) (by omega) (by omega) J Jx hJ hY W1 ((hW1 _ kp.lt).trans kp) ((hW1 _ ks.lt).trans ks) ((hW1 _ kv.lt).trans kv) h0)
    (fun _ => rfl) (LI w) (LI_own w _ (by omega)) (LI_set w) ⟨⟨none, 0, kb, World.ownsRow_nil _ _ _ _⟩, hb0, by omega⟩
    (fun x => { tmps := #[.string s, undef, .slice none 0 0, .pointer (some ⟨w.heap.size, 0, none⟩), .string x, undef, .string s, .func (.func 89) #[] #[.pointer (some ⟨w.heap.size + 1 + 1, 0, none⟩), .pointer (some ⟨w.heap.size + 1, 0, none⟩), .pointer (some ⟨w.heap.size + 1 + 2, 0, none⟩)],
          .string x, undef, undef, undef, undef, undef, undef, undef, undef, undef, undef, undef, undef, undef, undef, undef, undef, undef, undef, undef, undef], defers := [] }) ?assign ?body ?done
  case assign =>
    intro l x W K hK
    gi_wp2
    exact hK
  case body =>
    rintro l pre x W ⟨⟨A, c, kb1, hr⟩, hlow, hW4⟩ hlen
    have hcl : (cutL 10 s.data.toList).length ≤ 4294967297 := by
      rw [cutL_length]
      have h1 := List.count_le_length (a := (10 : UInt8)) (l := s.data.toList)
      have h2 : s.data.toList.length = s.size := rfl
      omega
    obtain ⟨i0, hi, hz0, hz1, hz2⟩ := info_parts infoStr
    have q1 := kb1.cell 0
    simp only [List.getElem?_toArray, List.getElem?_cons_zero] at q1
    have hls := hlow.size
    have hlt := kb1.lt
    obtain ⟨k, hk⟩ : ∃ k, k = pre.length := ⟨_, rfl⟩
    have hk2 : k ≤ 4294967297 := by omega
    have hown0 : (W.alloc (.cells #[.string x] 9)).ownsRow (w.heap.size + 4) 9 1 (.slice A k c) k (pre.map Value.string) := by rw [hk]; exact hr.alloc _
    have b1 : k + 1 ≤ maxLen := by unfold maxLen; omega
    have b2 : (k + 1) * 16 ≤ 140737488355328 := by omega
    have hWs : w.heap.size + 4 ≤ (W.alloc (.cells #[.string x] 9)).heap.size := by
      simp; omega
    have HR := Lib.hid hr
    have HO := Lib.hid hown0
    have HK := Lib.hid hk
    have HKB := Lib.hid kb1
    have B1 := Lib.hid b1
    have B2 := Lib.hid b2
    have B3 := Lib.hid hWs
    rw [← hk] at q1
    clear hr hk hlen hcl kb1 kb ks kp kv hown0 b1 b2 hWs
    gi_wp2_with (gi_at_builtin; refine wpListIn_append_own _ rfl _ _ 34 rfl (w.heap.size + 4) 9 i0 (.string ⟨#[]⟩) 1 16 Tryz.underlying34 hi hz0 hz1 hz2 rfl (by decide) _ _ _ rfl HO.out ⟨W.heap.size, 0, none⟩ 1 1 [.string x] rfl rfl (cell_one_new _ _ _) (by simp [Value.oneCell']) B1.out B2.out B3.out ?_; intro v' w1 hown' hgrow _; obtain ⟨g', cap', rfl⟩ := ownsRow_succ hown'; refine Hid.out ?_)
    refine Lib.hid ?_
    replace hgrow : (W.alloc (.cells #[.string x] 9)).grownBy w1 (Value.slice A k c).ownBlock := hgrow
    have hrow : ∀ b, (Value.slice A k c).ownBlock = some b → w.heap.size + 4 ≤ b := fun b hb => (HO.out.lt b hb).1
    have kbN : Blk w1 w.heap.size 34 #[.slice A pre.length c] := (HKB.out.alloc _).grown hgrow (fun e => by have := hrow _ e.symm; omega)
    have r1 := kbN.cell 0
    have r2 := kbN.frozen 0
    simp only [List.getElem?_toArray, List.getElem?_cons_zero] at r1
    have hlt1 := kbN.lt
    have HRW := Lib.hid hrow
    have HOW := Lib.hid hown'
    have HGW := Lib.hid hgrow
    have HKN := Lib.hid kbN
    clear hrow kbN hown' hgrow
    gi_wp2_with fail
    have hgs := HGW.out.size
    rw [World.size_alloc] at hgs
    refine ⟨?_, ?_, ⟨some ⟨g', 0, none⟩, cap', ?_, ?_⟩, ?_, ?_⟩
    · refine ((KeepsOthers.alloc W _).trans (KeepsOthers.of_grownBy HGW.out fun j o ej hj => ?_)).trans (KeepsOthers.setCell _ _ _)
      rcases HO.out.2 with ⟨h0, _⟩ | ⟨g, cap, cur, h0, _, hgb, _⟩
      · rw [h0] at ej; simp [Value.ownBlock] at ej
      · rw [h0] at ej
        obtain rfl : g = j := by simpa [Value.ownBlock] using ej
        rw [hgb] at hj; cases hj; rfl
    · intro b hb
      have hbl : w.heap.size < b ∧ b < w.heap.size + 4 := by omega
      rw [Below.heap_setCell _ _ _ _ (show b ≠ w.heap.size by omega), HGW.out.block b (by rw [World.size_alloc]; omega) (fun e => by have := HRW.out b e.symm; omega), Below.heap_alloc _ _ _ (by omega)]
    · have e := HKN.out.set_ 0 (.slice (some ⟨g', 0, none⟩) (k + 1) cap')
      rw [HK.out] at e ⊢
      simpa using e
    · have e := own_far HOW.out (p := ⟨w.heap.size, 0, none⟩) (by show w.heap.size < _; omega) (.slice (some ⟨g', 0, none⟩) (k + 1) cap')
      rw [HK.out] at e ⊢
      simpa using e
    · exact ((hlow.alloc hlow.size _).grown HGW.out (by rw [World.size_alloc]; omega) (fun j e => by have := HRW.out j e; omega)).setCell (p := ⟨w.heap.size, 0, none⟩) (Nat.le_refl _) _
    · rw [World.size_setCell]; omega
  case done =>
    rintro D xs W hD hS ⟨⟨A, c, kb2, hr⟩, hlow, hW4⟩ hK
    have q1 := kb2.cell 0
    have q2 := kb2.frozen 0
    simp only [List.getElem?_toArray, List.getElem?_cons_zero] at q1
    have hlt := kb2.lt
    clear kb ks kp kv
    obtain ⟨k, hk⟩ : ∃ k, xs.length = k + 1 := by
      have h := congrArg List.length hS
      rw [List.length_map, cutL_length] at h
      exact ⟨_, h⟩
    have hkb : k ≤ 4294967296 := by
      have h := congrArg List.length hS
      rw [List.length_map, cutL_length, hk] at h
      have h1 := List.count_le_length (a := (10 : UInt8)) (l := s.data.toList)
      have h2 : s.data.toList.length = s.size := rfl
      omega
    have hr' := hr
    rw [hk] at hr' q1
    obtain ⟨g, cap, hv⟩ := ownsRow_succ hr'
    injection hv with hA _ hc'
    subst hA
    obtain ⟨y, hy⟩ : ∃ y, xs[k]? = some y := ⟨_, List.getElem?_eq_getElem (by omega)⟩
    have q3 : W.cell? ⟨g, k, none⟩ = some (.string y) := by
      have h := hr'.cells (g := g) rfl k (.string y) (by rw [List.getElem?_map, hy]; rfl)
      rwa [add_lit, Nat.zero_add] at h
    have hcap : k + 1 ≤ cap := by rw [hc'] at hr'; exact own_cap hr'
    have HS := Lib.hid hS
    have HR := Lib.hid hr
    have HR' := Lib.hid hr'
    have HK := Lib.hid hk
    have HKB := Lib.hid kb2
    have HY := Lib.hid hy
    clear hS hr hr' hk kb2 hy
    by_cases hemp : y = ⟨#[]⟩
    · subst hemp
      gi_wp2_with fail
      refine ⟨by simp, .inl ⟨_, _, rfl, run_takeDeferred ((KeepsOthers.setCell _ _ _).same D _ hK rfl), ?_⟩⟩
      refine ⟨_, results_tmp rfl _ _ _, ?_⟩
      have hl := lines_of HS.out HK.out HY.out
      rw [if_pos rfl] at hl
      have hll : (linesL s.data.toList).length = k := by rw [hl, List.length_take, List.length_map, HK.out]; omega
      have hK2 := (KeepsOthers.setCell W ⟨w.heap.size, 0, none⟩ (.slice (some ⟨g, 0, none⟩) k cap)).same D _ hK rfl
      have ho := ownsRow_putObj (own_far HR'.out (p := ⟨w.heap.size, 0, none⟩) (by show w.heap.size < _; omega) (.slice (some ⟨g, 0, none⟩) k cap)) (.deferred none) hK2 rfl
      refine ⟨some ⟨g, 0, none⟩, k, cap, rfl, hll.symm, by omega, ?_, ?_⟩
      · have hh := (Reads.of_own ho).shorter
        rw [hl]
        rw [map_strV, ← List.map_take] at hh
        exact hh
      · exact (hlow.setCell (p := ⟨w.heap.size, 0, none⟩) (Nat.le_refl _) _).trans (belowK_b (w := w) (Nat.le_refl _) _ D _ _ (by omega) hK2 rfl rfl)
    · have hne : (y.toList.isEmpty) = false := by
        rw [Lib.toList_data]
        cases hl : y.data.toList with
        | nil => exact absurd ((bs_eq_iff y []).2 hl) hemp
        | cons a b => rfl
      gi_wp2_with fail
      refine ⟨by simp, .inl ⟨_, _, rfl, run_takeDeferred hK, ?_⟩⟩
      refine ⟨_, results_tmp rfl _ _ _, ?_⟩
      have hl := lines_of HS.out HK.out HY.out
      rw [if_neg (fun e => hemp ((bs_eq_iff y []).2 e))] at hl
      have hll : (linesL s.data.toList).length = k + 1 := by rw [hl, List.length_map, HK.out]
      have ho := ownsRow_putObj HR'.out (.deferred none) hK rfl
      refine ⟨some ⟨g, 0, none⟩, k + 1, cap, rfl, hll.symm, hcap, ?_, ?_⟩
      · have hh := Reads.of_own ho
        rw [hl, ← map_strV]
        exact hh
      · exact hlow.trans (belowK_b (w := w) (Nat.le_refl _) W D _ _ (by omega) hK rfl rfl)

end Go.Proofs.YtoagphighgejnaaGreatDoor
