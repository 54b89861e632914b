/- The closure of strings.splitSeq (43): the iterator over the pieces, its state in a captured cell. Conditions: none. -/
import Derived.Test.YtoagphighgejnaaDoorE
import Derived.RangeFuncNested
import Derived.RangeFuncBound
import Derived.RangeFuncCalls
import Derived.RangeFuncLeaves
import Derived.Shelf.Abstract
import Derived.Shelf.RegionOpen
import Derived.OwnWalkIn
import Derived.TacticsInMore
import Derived.LoopNIn
import Derived.LoopIn
import Derived.Lib.IndexBytes
set_option linter.unusedSimpArgs false
set_option linter.unusedVariables false
namespace Go.Proofs.YtoagphighgejnaaDoor
open Go.RowKit Go.Shelf
attribute [local go_sem] Oper.semAt_some

/-- blocks of a set lie as they lay -/
def KeepSet (T : Nat → Prop) (W W' : World) : Prop := ∀ b, T b → W'.heap[b]? = W.heap[b]?
theorem KeepSet.refl (T : Nat → Prop) (W : World) : KeepSet T W W := fun _ _ => rfl
theorem KeepSet.trans {T : Nat → Prop} {A B C : World} (h : KeepSet T A B) (k : KeepSet T B C) : KeepSet T A C := fun b hb => (k b hb).trans (h b hb)
theorem KeepSet.cell {T : Nat → Prop} {W W' : World} (h : KeepSet T W W') {p : Addr} (hp : T p.block) : W'.cell? p = W.cell? p := World.cell?_of_block (h p.block hp)
theorem KeepSet.blk {T : Nat → Prop} {W W' : World} (h : KeepSet T W W') {b : Nat} {t : TypeId} {cs : Array Value} (hb : T b) (k : Blk W b t cs) : Blk W' b t cs := (h b hb).trans k

/-- How long the text in block bs is. -/
def restLen (bs : Nat) (W : World) : Nat :=
  match W.cell? ⟨bs, 0, none⟩ with
  | some (.string x) => x.size
  | _ => 0
theorem restLen_eq {bs : Nat} {W : World} {x : ByteArray} (h : W.cell? ⟨bs, 0, none⟩ = some (.string x)) : restLen bs W = x.size := by unfold restLen; rw [h]

set_option maxRecDepth 100000 in
set_option maxHeartbeats 2000000 in
theorem seq1_in (n : Nat) (hn : 1 ≤ n) (l bp bs bv : Nat) (c : UInt8) (s : ByteArray) (hsz : s.size ≤ 4294967296) (T : Nat → Prop) (hTp : T bp) (hTs : T bs) (hTv : T bv) (hps : bp ≠ bs) (hvs : bv ≠ bs) (J Jx : List ByteArray → World → Prop)
    (hJ : ∀ pre W v, J pre W → J pre (W.setCell ⟨bs, 0, none⟩ v))
    (hY : ∀ pre x W, J pre W → pre.length < (cutL c s.data.toList).length → YieldAt Fence.wide (n - 1) Tryd.prog l #[.string x] W fun e W' =>
      (e = .returned (.bool true) ∧ J (pre ++ [x]) W' ∧ KeepSet T W W') ∨ (e = .returned (.bool false) ∧ Jx (pre ++ [x]) W'))
    (W : World) (hbp : Blk W bp 9 #[.string ⟨#[c]⟩]) (hbs : Blk W bs 9 #[.string s]) (hbv : Blk W bv 3 #[.int .i64 0]) (h0 : J [] W) :
    CallsIn Fence.wide n Tryd.prog 46 #[.func (.yield l) #[] #[], .pointer (some ⟨bp, 0, none⟩), .pointer (some ⟨bs, 0, none⟩), .pointer (some ⟨bv, 0, none⟩)] W fun e W' => (∃ v, e = .returned v) ∧
      ((∃ ys : List ByteArray, ys.map (·.data.toList) = cutL c s.data.toList ∧ J ys W') ∨ (∃ pre, True ∧ Jx pre W')) := by
  have q1 := hbp.cell 0
  have q2 := hbs.cell 0
  simp only [List.getElem?_toArray, List.getElem?_cons_zero] at q1 q2
  refine callsIn_of_wp Tryd.func46 rfl trivial ?_ rfl
  simp only [Tryd.ntmps46, List.size_toArray, List.length_cons, List.length_nil, Nat.reduceAdd, Nat.reduceSub, Array.replicate_succ, Array.replicate_zero, List.push_toArray, List.append_toArray, List.nil_append, List.cons_append]
  gi_wp2_with fail
  gi_loopw [7] (fun _ wr => ∃ (pre : List ByteArray) (x : ByteArray), cutL c s.data.toList = pre.map (·.data.toList) ++ cutL c x.data.toList ∧ x.size ≤ 4294967296 ∧ Blk wr bp 9 #[.string ⟨#[c]⟩] ∧ Blk wr bs 9 #[.string x] ∧ Blk wr bv 3 #[.int .i64 0] ∧ J pre wr) (fun _ wr => restLen bs wr)
  case atStart => exact ⟨[], s, by simp, hsz, hbp, hbs, hbv, h0⟩
  case round =>
    clear q1 q2
    obtain ⟨pre, x, hcut, hxs, kp, ks, kv, hJs⟩ := hrel
    have q1 := kp.cell 0
    have q2 := ks.cell 0
    have q3 := kv.cell 0
    have q4 := ks.frozen 0
    simp only [List.getElem?_toArray, List.getElem?_cons_zero] at q1 q2 q3
    have hmu := restLen_eq q2
    have HC := Lib.hid hcut
    clear hcut hbp hbs hbv h0
    by_cases hi : Lib.indexByte x.data.toList c < 0
    · have hm : Lib.indexByte x.data.toList c = -1 := by have := Lib.indexByte_ge x.data.toList c; omega
      have hlast : cutL c s.data.toList = (pre ++ [x]).map (·.data.toList) := by rw [HC.out, cutL_miss hm]; simp
      obtain ⟨fn, tmps, assign, body, hy, hR⟩ := hY pre x wr hJs (by rw [hlast]; simp)
      have HL := Lib.hid hlast
      clear hlast
      gi_wp2_with fail
      refine ⟨trivial, (callsIn_wide.2 (Tryd.strings_Index_one x c wr)).mono ?_⟩
      rintro e w2 ⟨rfl, h2⟩
      obtain rfl := h2.symm
      rw [hm]
      clear hi hm h2
      gi_wp2_with fail
      refine hR.mono ?_
      rintro e W3 (⟨rfl, hJ3, hk3⟩ | ⟨rfl, hJx3⟩)
      · gi_wp2_with fail
        go_end0
        exact ⟨⟨_, rfl⟩, .inl ⟨pre ++ [x], HL.out.symm, hJ3⟩⟩
      · gi_wp2_with fail
        go_end0
        exact ⟨⟨_, rfl⟩, .inr ⟨_, trivial, hJx3⟩⟩
    · obtain ⟨i, hix⟩ := Int.eq_ofNat_of_zero_le (Int.not_lt.1 hi)
      have hil : i < x.data.toList.length := (List.getElem?_eq_some_iff.1 (Lib.indexByte_some hix).1).1
      have hil' : i < x.size := hil
      obtain ⟨f, hf⟩ : ∃ f : ByteArray, f = x.extract 0 i := ⟨_, rfl⟩
      obtain ⟨g, hg⟩ : ∃ g : ByteArray, g = x.extract (i + 1) x.size := ⟨_, rfl⟩
      have hfd : f.data.toList = x.data.toList.take i := by rw [hf]; simp
      have hgd : g.data.toList = x.data.toList.drop (i + 1) := by
        rw [hg]
        have e2 : x.data.toList.length = x.size := rfl
        simp only [ByteArray.data_extract, Array.toList_extract, List.extract_eq_take_drop]
        exact List.take_of_length_le (by rw [List.length_drop]; omega)
      have hgs : g.size < x.size := by
        have e : g.size = g.data.toList.length := rfl
        rw [e, hgd, List.length_drop]
        have e2 : x.size = x.data.toList.length := rfl
        omega
      have hnext : cutL c s.data.toList = (pre ++ [f]).map (·.data.toList) ++ cutL c g.data.toList := by
        rw [HC.out, cutL_hit hix, List.map_append, List.map_singleton, hfd, hgd]; simp
      obtain ⟨fn, tmps, assign, body, hy, hR⟩ := hY pre f wr hJs (by rw [hnext]; simp)
      have HL := Lib.hid hnext
      have HF := Lib.hid hf
      have HG := Lib.hid hg
      rw [hf] at hy
      clear hnext hfd hgd hf hg
      gi_wp2_with fail
      refine ⟨trivial, (callsIn_wide.2 (Tryd.strings_Index_one x c wr)).mono ?_⟩
      rintro e w2 ⟨rfl, h2⟩
      obtain rfl := h2.symm
      rw [hix]
      clear hi h2
      gi_wp2_with fail
      refine hR.mono ?_
      rintro e W3 (⟨rfl, hJ3, hk3⟩ | ⟨rfl, hJx3⟩)
      · have kp3 := hk3.blk hTp kp
        have ks3 := hk3.blk hTs ks
        have kv3 := hk3.blk hTv kv
        have r1 := kp3.cell 0
        have r2 := ks3.cell 0
        have r4 := ks3.frozen 0
        simp only [List.getElem?_toArray, List.getElem?_cons_zero] at r1 r2
        have hlt3 := ks3.lt
        gi_wp2_with fail
        have ksN : Blk (W3.setCell ⟨bs, 0, none⟩ (.string (x.extract (i + 1) x.size))) bs 9 #[.string (x.extract (i + 1) x.size)] := ks3.set_ 0 _
        refine ⟨⟨pre ++ [f], g, HL.out, by omega, kp3.far (p := ⟨bs, 0, none⟩) hps _, by rw [HG.out]; exact ksN, kv3.far (p := ⟨bs, 0, none⟩) hvs _, hJ _ _ _ hJ3⟩, ?_⟩
        have e1 := ksN.cell 0
        simp only [List.getElem?_toArray, List.getElem?_cons_zero] at e1
        rw [restLen_eq e1, hmu, ← HG.out]
        exact hgs
      · gi_wp2_with fail
        refine bodyPost_ret (results_none rfl _ _ _) rfl ?_
        exact ⟨⟨_, rfl⟩, .inr ⟨_, trivial, hJx3⟩⟩

end Go.Proofs.YtoagphighgejnaaDoor
