/- Source (7), parses (6), known (5). Conditions: none. -/
import Derived.Test.YtoagphighgejnaaGreatDoorV10
import Derived.Test.YtoagphighgejnaaGreatDoorJ15
import Derived.Test.YtoagphighgejnaaGreatDoorF3
import Derived.Test.YtoagphighgejnaaGreatDoorFP4
import Derived.Test.YtoagphighgejnaaGreatDoorN7
set_option linter.unusedSimpArgs false
set_option linter.unusedVariables false
namespace Go.Proofs.YtoagphighgejnaaGreatDoor
open Go.RowKit Go.Shelf

/-- what the document's Parse tells -/
def RParTells (w : World) (q : ProbV × Int × Int) (e : Ending) (w' : World) : Prop := ∃ v, e = .returned (.tuple #[v, .int .i64 q.2.1, .int .i64 q.2.2]) ∧ ProbIs w' q.1 v ∧ Below w.heap.size w w'
abbrev refA (r : RdV) (e : Int) (S A H : Option Addr) (n c m c2 n3 c3 : Nat) : Array Value := pC r.max r.begun (decide (¬ r.arcs = [])) r.es.isSome r.et.isSome (r.es.getD 0) (r.et.getD 0) r.many r.sup.length e S A H n c m c2 n3 c3
theorem refA_form (r : RdV) (e : Int) (S A H : Option Addr) (n c m c2 n3 c3 : Nat) : ∃ b1 b2 b3 b4 b5 i1 i2 i3 i4, refA r e S A H n c m c2 n3 c3 = #[.bool b1, .slice S n c, .slice A m c2, .int .i64 i1, .int .i64 i2, .bool b2, .int .i64 i4, .int .i64 i3, .bool b3, .slice H n3 c3, .bool b4, .bool b5, .int .i64 e] ∧
    b1 = r.max ∧ b2 = r.begun ∧ b4 = r.es.isSome ∧ b5 = r.et.isSome ∧ i1 = r.es.getD 0 ∧ i2 = r.et.getD 0 ∧ i3 = r.many ∧ i4 = r.sup.length := ⟨_, _, _, _, _, _, _, _, _, rfl, rfl, rfl, rfl, rfl, rfl, rfl, rfl, rfl⟩
/-- a line was read: what lies in the block -/
def LineCut (B rb : Nat) (wr : World) (q : Int × RdV) (wx : World) : Prop := ∃ S A H n c m c2 n3 c3, Blk wx rb 88 (refA q.2 q.1 S A H n c m c2 n3 c3) ∧ RefS B wx q.2 S A H n c m c2 n3 c3 ∧ Kept (Rs B rb) wr wx
theorem rWords_some (s : ByteArray) (hsz : s.size ≤ 1000000) (w : World) :
    Calls Tryz.prog 13 #[.string s] w fun e w' => ∃ wb wo n cp, e = .returned (.slice (some ⟨wb, wo, none⟩) n cp) ∧ n = (cutL 32 s.data.toList).length ∧ 0 < n ∧ n ≤ cp ∧ Reads w' w'.heap.size 1 (some ⟨wb, wo, none⟩) n ((cutL 32 s.data.toList).map strV) ∧ Below w.heap.size w w' :=
  (rWords_in s hsz w).mono fun e w' ⟨A, n, cp, he, hn, hc, hr, hb⟩ => by
    have h0 : 0 < n := by
      rw [hn]
      cases h : cutL 32 s.data.toList with
      | nil => exact absurd h (cutL_ne 32 _)
      | cons x xs => simp
    obtain ⟨wb, wo, hA, _⟩ := hr.2 h0
    subst hA
    exact ⟨wb, wo, n, cp, he, hn, h0, hc, hr, hb⟩
theorem LineCut.of {B rb : Nat} {wr w2 w3 : World} {q : Int × RdV} {S A H : Option Addr} {n c m c2 n3 c3 : Nat} {cs : Array Value} (hrb : rb < B) (h0 : Blk wr rb 88 cs) {u0 u1 u2 u3 u4 u5 u6 u7 u8 u9 u10 u11 u12 : Value} (hb : Below wr.heap.size wr w2) (hk : Kept (Bs B w2) w2 w3) (hS : RefS B w3 q.2 S A H n c m c2 n3 c3)
    (hz : Blk w3 rb 88 #[u0, u1, u2, u3, u4, u5, u6, u7, u8, u9, u10, u11, u12]) {v0 v1 v2 v3 v4 v5 v6 v7 v8 v9 v10 v11 v12 : Value} (hv : refV q.2 q.1 S A H n c m c2 n3 c3 = .agg #[v0, v1, v2, v3, v4, v5, v6, v7, v8, v9, v10, v11, v12]) :
    LineCut B rb wr q (put13 w3 rb v0 v1 v2 v3 v4 v5 v6 v7 v8 v9 v10 v11 v12) := by
  refine ⟨S, A, H, n, c, m, c2, n3, c3, ?_, hS.far13_ hz v0 v1 v2 v3 v4 v5 v6 v7 v8 v9 v10 v11 v12, ((Kept.of_below hb (Rs B rb)).trans (hk.mono fun k _ h => .inr h.1)).put13 v0 v1 v2 v3 v4 v5 v6 v7 v8 v9 v10 v11 v12 (fun _ => .inl rfl)⟩
  have e : refA q.2 q.1 S A H n c m c2 n3 c3 = #[v0, v1, v2, v3, v4, v5, v6, v7, v8, v9, v10, v11, v12] := by
    unfold refV at hv
    exact Value.agg.inj hv
  rw [e]
  exact hz.put13 v0 v1 v2 v3 v4 v5 v6 v7 v8 v9 v10 v11 v12
set_option maxRecDepth 100000 in
set_option maxHeartbeats 1600000 in
theorem rParse_long (s : ByteArray) (hs : ¬ s.size ≤ 60000) (w : World) : Calls Tryz.prog 31 #[.string s] w (RParTells w (parseF s.data.toList)) := by
  have hq : parseF s.data.toList = (prob0, 3, 0) := by
    unfold parseF; rw [if_pos (by show 60000 < s.data.toList.length; have : s.data.toList.length = s.size := rfl; omega)]
  rw [hq]
  have hnl : (60000 : Int) < s.size := by omega
  clear hq hs
  have hb0 : Below w.heap.size w (w.alloc (.cells #[.bool false, .slice none 0 0, .slice none 0 0, .int .i64 0, .int .i64 0] 31)) := (Below.refl _ w).alloc (Nat.le_refl _) _
  have hP0 := Blk.new w 31 #[.bool false, .slice none 0 0, .slice none 0 0, .int .i64 0, .int .i64 0]
  have HA := Lib.hid (And.intro hb0 hP0)
  clear hb0 hP0
  go_enter Tryz.func31, Tryz.ntmps31
  go_wp2_with fail
  obtain ⟨hb0, hP0⟩ := HA.out
  clear HA
  generalize w.alloc (.cells #[.bool false, .slice none 0 0, .slice none 0 0, .int .i64 0, .int .i64 0] 31) = WF at *
  obtain ⟨⟨d0, d1, d2, d3, d4⟩, -⟩ := hP0.five
  refine bodyPost_ret (v := .tuple #[probV false none 0 0 none 0 0 0 0, .int .i64 3, .int .i64 0]) (by simp [results, Tryz.results31, go_sem, d0, d1, d2, d3, d4, probV]) rfl ?_
  exact ⟨_, rfl, prob0_is _, hb0⟩
set_option maxRecDepth 100000 in
set_option maxHeartbeats 6400000 in
theorem rParse_in (s : ByteArray) (hs : s.size ≤ 60000) (w : World) : Calls Tryz.prog 31 #[.string s] w (RParTells w (parseF s.data.toList)) := by
  obtain ⟨L, hL⟩ : ∃ L, L = linesL s.data.toList := ⟨_, rfl⟩
  obtain ⟨q, HQ⟩ : ∃ q, PIs q (parseF s.data.toList) := ⟨_, rfl⟩
  rw [← HQ]
  have hq : q = readE rd0 0 L := by
    have h : q = parseF s.data.toList := HQ
    rw [h, hL]; unfold parseF; rw [if_neg (by show ¬ 60000 < s.data.toList.length; have : s.data.toList.length = s.size := rfl; omega)]
  have HQR : PIs q (readE rd0 0 L) := hq
  have HLL := Lib.hid (show (∀ x ∈ L, x.length ≤ 60000) ∧ L.length ≤ 60001 by
    have hl : s.data.toList.length = s.size := rfl
    rw [hL]
    exact ⟨fun x hx => Nat.le_trans (lines_len _ x hx) (by omega), Nat.le_trans (lines_many _) (by omega)⟩)
  have HLN := Lib.hid (fun W => rLines_in s (by omega) W)
  rw [← hL] at HLN
  have hnl : ¬ (60000 : Int) < s.size := by omega
  clear hq hs hL HQ
  have hb0 : Below w.heap.size w (w.alloc (.cells #[.bool false, .slice none 0 0, .slice none 0 0, .int .i64 0, .int .i64 0] 31)) := (Below.refl _ w).alloc (Nat.le_refl _) _
  have hP0 := Blk.new w 31 #[.bool false, .slice none 0 0, .slice none 0 0, .int .i64 0, .int .i64 0]
  have HA := Lib.hid (And.intro hb0 hP0)
  clear hb0 hP0
  go_enter Tryz.func31, Tryz.ntmps31
  go_wp2_with fail
  generalize w.alloc (.cells #[.bool false, .slice none 0 0, .slice none 0 0, .int .i64 0, .int .i64 0] 31) = W0 at *
  refine (HLN.out _).mono ?_
  rintro e W1 ⟨LA, m0, lc, rfl, hm0, hlc, hrl, hb1⟩
  have hP1 := HA.out.2.below hb1 HA.out.2.lt
  have hbw1 := HA.out.1.trans (hb1.mono HA.out.1.size)
  have hR2 := Blk.new W1 88 #[.bool false, .slice none 0 0, .slice none 0 0, .int .i64 0, .int .i64 0, .bool false, .int .i64 0, .int .i64 0, .bool false, .slice none 0 0, .bool false, .bool false, .int .i64 0]
  have hb2 : Below W1.heap.size W1 (W1.alloc (.cells #[.bool false, .slice none 0 0, .slice none 0 0, .int .i64 0, .int .i64 0, .bool false, .int .i64 0, .int .i64 0, .bool false, .slice none 0 0, .bool false, .bool false, .int .i64 0] 88)) := (Below.refl _ W1).alloc (Nat.le_refl _) _
  have hw2 : w.heap.size < W1.heap.size := hP1.lt
  have HM0 := Lib.hid hm0
  clear hm0
  have HG := Lib.hid (And.intro hrl (And.intro hP1 hbw1))
  have H2 := Lib.hid (And.intro hR2 hb2)
  have hs2 : (W1.alloc (.cells #[.bool false, .slice none 0 0, .slice none 0 0, .int .i64 0, .int .i64 0, .bool false, .int .i64 0, .int .i64 0, .bool false, .slice none 0 0, .bool false, .bool false, .int .i64 0] 88)).heap.size = W1.heap.size + 1 := by simp
  clear HA hrl hP1 hbw1 hb1 hR2 hb2
  go_wp2_with fail
  generalize W1.alloc (.cells #[.bool false, .slice none 0 0, .slice none 0 0, .int .i64 0, .int .i64 0, .bool false, .int .i64 0, .int .i64 0, .bool false, .slice none 0 0, .bool false, .bool false, .int .i64 0] 88) = W2 at *
  have hA0 : LineCut (W1.heap.size + 1) W1.heap.size W2 (0, rd0) W2 := ⟨none, none, none, 0, 0, 0, 0, 0, 0, by
    have := H2.out.1
    have e : refA rd0 0 none none none 0 0 0 0 0 0 = #[.bool false, .slice none 0 0, .slice none 0 0, .int .i64 0, .int .i64 0, .bool false, .int .i64 0, .int .i64 0, .bool false, .slice none 0 0, .bool false, .bool false, .int .i64 0] := rfl
    show Blk W2 W1.heap.size 88 (refA rd0 0 none none none 0 0 0 0 0 0)
    rw [e]; exact this, .inl ⟨rfl, rfl, rfl, rfl, rfl, rfl, rfl, rfl, rfl, rfl⟩, Kept.refl _ _⟩
  have HA0 := Lib.hid hA0
  clear hA0
  go_loopw [7] (fun i wr => ∃ (k : Nat) (r : RdV), k ≤ m0 ∧ i = .int .i64 k ∧ Hid (LineCut (W1.heap.size + 1) W1.heap.size W2 (0, r) wr ∧ RdOk r) ∧ PIs q (readE r k (L.drop k))) (fun i _ => m0 - (intOf i).toNat)
  case atStart => exact ⟨0, rd0, Nat.zero_le _, rfl, Lib.hid ⟨HA0.out, rd0_ok⟩, HQR⟩
  case round =>
    obtain ⟨k, r, hk, rfl, HS, hqk⟩ := hrel
    clear HA0 HQR
    obtain ⟨S, A, H, n, c, m, c2, n3, c3, hR, hS, hkp⟩ := HS.out.1
    by_cases hlt : k < m0
    · obtain ⟨b, off, u, hLA, hbB, hx, hcell⟩ := HG.out.1.at_ hlt
      subst hLA
      simp only [List.getElem?_map, Option.map_eq_some_iff] at hx
      obtain ⟨t, ht, rfl⟩ := hx
      have hbW : W2.cell? ⟨b, off + k, none⟩ = some (strV t) := (H2.out.2.cell (p := ⟨b, off + k, none⟩) hbB).trans hcell
      have hcell' : wr.cell? ⟨b, off + k, none⟩ = some (.string ⟨t.toArray⟩) := by
        rw [World.cell?_of_block (hkp.block b (by omega) (by rintro (e | e) <;> omega))]; exact hbW
      have lb : b < wr.heap.size := Nat.lt_of_lt_of_le (by omega) hkp.size
      have htl : t.length ≤ 60000 := HLL.out.1 t (List.mem_of_getElem? ht)
      obtain ⟨T, hT⟩ : ∃ T : ByteArray, T = ⟨t.toArray⟩ := ⟨_, rfl⟩
      have hTd : T.data.toList = t := by rw [hT]
      have HWD := Lib.hid (fun W => rWords_some T (by rw [hT]; show t.toArray.size ≤ _; simp; omega) W)
      rw [hTd] at HWD
      rw [← hT] at hcell'
      have hqn : PIs q _ := (show q = _ from hqk).trans (read_next ht r)
      have hwl : ∀ y ∈ cutL 32 t, y.length ≤ 60000 := fun y hy => Nat.le_trans (cut_len 32 t y hy) htl
      have HLC := Lib.hid (fun (W : World) (hb : Below wr.heap.size wr W) wb wo nn cp (hr : Reads W W.heap.size 1 (some ⟨wb, wo, none⟩) nn ((cutL 32 t).map strV)) (hcp : nn ≤ cp) (hnn : nn = (cutL 32 t).length) (h0 : 0 < nn) =>
        rline_any (W1.heap.size + 1) r S A H n c m c2 n3 c3 wb wo cp nn (cutL 32 t) W (hS.on hb) HS.out.2 hr hcp hnn h0 hwl (Nat.le_trans (by rw [← hs2]; exact hkp.size) hb.size))
      obtain ⟨Q, hQ⟩ : ∃ Q, Q = lineE r (cutL 32 t) := ⟨_, rfl⟩
      have hok := fun h0 => lineE_ok HS.out.2 (cutL 32 t) h0
      rw [← hQ] at HLC hqn hok
      have HQQ := Lib.hid (And.intro (show PIs q _ from hqn) hok)
      have hk1 : IntKind.i64.wrap ((k : Int) + 1) = (k : Int) + 1 := IntWalk.i64_in _ (by have := HLL.out.2; have := HM0.out; omega)
      unfold refV pC at HLC
      unfold refA pC at hR
      obtain ⟨b1, hb1⟩ : ∃ b, b = r.max := ⟨_, rfl⟩
      obtain ⟨b2, hb2⟩ : ∃ b, b = r.begun := ⟨_, rfl⟩
      obtain ⟨b3, hb3⟩ : ∃ b, b = decide (¬ r.arcs = []) := ⟨_, rfl⟩
      obtain ⟨b4, hb4⟩ : ∃ b, b = r.es.isSome := ⟨_, rfl⟩
      obtain ⟨b5, hb5⟩ : ∃ b, b = r.et.isSome := ⟨_, rfl⟩
      obtain ⟨i1, hi1⟩ : ∃ b, b = r.es.getD 0 := ⟨_, rfl⟩
      obtain ⟨i2, hi2⟩ : ∃ b, b = r.et.getD 0 := ⟨_, rfl⟩
      obtain ⟨i3, hi3⟩ : ∃ b, b = r.many := ⟨_, rfl⟩
      obtain ⟨i4, hi4⟩ : ∃ b : Int, b = r.sup.length := ⟨_, rfl⟩
      rw [← hb1, ← hb2, ← hb3, ← hb4, ← hb5, ← hi1, ← hi2, ← hi3, ← hi4] at HLC
      have hR' : Blk wr W1.heap.size 88 #[.bool b1, .slice S n c, .slice A m c2, .int .i64 i1, .int .i64 i2, .bool b2, .int .i64 i4, .int .i64 i3, .bool b3, .slice H n3 c3, .bool b4, .bool b5, .int .i64 0] := by
        rw [hb1, hb2, hb3, hb4, hb5, hi1, hi2, hi3, hi4]; exact hR
      obtain ⟨c0, c1, c2', c3', c4, c5, c6, c7, c8, c9, c10, c11, c12⟩ := cells13 hR'
      have lrb := hR'.lt
      have HR := Lib.hid (And.intro hR' hkp)
      clear hR hS hkp hR' hb1 hb2 hb3 hb4 hb5 hi1 hi2 hi3 hi4 hqn hok hQ hwl hTd hT htl hqk hcell hbW ht HS
      go_upto_region 8 with fail
      go_cut [] from 23 to 29 (fun wx => LineCut (W1.heap.size + 1) W1.heap.size wr Q wx)
      case first =>
        go_region_law (first
          | (go_simp; go_at_call 13; (refine (HWD.out _).mono ?_; rintro e w2 ⟨wb, wo, nw, cw, rfl, hnw, hnw0, hcw, hrw, hbw⟩; have hb2 := (Below.refl _ wr).drew.trans hbw; have k0 := (hb2.cell (p := ⟨W1.heap.size, 0, none⟩) lrb).trans c0; have k1 := (hb2.cell (p := ⟨W1.heap.size, 1, none⟩) lrb).trans c1; have k2 := (hb2.cell (p := ⟨W1.heap.size, 2, none⟩) lrb).trans c2'; have k3 := (hb2.cell (p := ⟨W1.heap.size, 3, none⟩) lrb).trans c3'; have k4 := (hb2.cell (p := ⟨W1.heap.size, 4, none⟩) lrb).trans c4; have k5 := (hb2.cell (p := ⟨W1.heap.size, 5, none⟩) lrb).trans c5; have k6 := (hb2.cell (p := ⟨W1.heap.size, 6, none⟩) lrb).trans c6; have k7 := (hb2.cell (p := ⟨W1.heap.size, 7, none⟩) lrb).trans c7; have k8 := (hb2.cell (p := ⟨W1.heap.size, 8, none⟩) lrb).trans c8; have k9 := (hb2.cell (p := ⟨W1.heap.size, 9, none⟩) lrb).trans c9; have k10 := (hb2.cell (p := ⟨W1.heap.size, 10, none⟩) lrb).trans c10; have k11 := (hb2.cell (p := ⟨W1.heap.size, 11, none⟩) lrb).trans c11; have k12 := (hb2.cell (p := ⟨W1.heap.size, 12, none⟩) lrb).trans c12; have HW2 := Lib.hid (And.intro hnw (And.intro hnw0 (And.intro hcw (And.intro hrw hb2)))); clear hnw hnw0 hcw hrw hbw hb2))
          | (go_simp; go_at_call 48; (refine (HLC.out _ (by with_unfolding_all exact HW2.out.2.2.2.2) wb wo nw cw (by with_unfolding_all exact HW2.out.2.2.2.1) HW2.out.2.2.1 HW2.out.1 HW2.out.2.1).mono ?_; rintro e w3 ⟨hk3, S', A', H', n', c', m', c2'', n3', c3'', rfl, hS3⟩; have hz3 := (HR.out.1.below HW2.out.2.2.2.2 lrb).kept hk3 (fun h => absurd h.1 (by omega)); obtain ⟨d1, d2, d3, d4, d5, j1, j2, j3, j4, hd⟩ := refV_form Q.2 Q.1 S' A' H' n' c' m' c2'' n3' c3''; have HDD := Lib.hid (show QV _ _ from hd); rw [hd]; obtain ⟨z0, z1, z2, z3, z4, z5, z6, z7, z8, z9, z10, z11, z12⟩ := cells13 hz3; obtain ⟨f0, f1, f2, f3, f4, f5, f6, f7, f8, f9, f10, f11, f12⟩ := frozen13 hz3; have lz := hz3.lt; have HZ := Lib.hid (And.intro hz3 (And.intro hk3 hS3)); clear hz3 hk3 hS3 hd)))
        all_goals
          go_wp2_with fail
          go_meet
          exact LineCut.of (by omega) HR.out.1 HW2.out.2.2.2.2 HZ.out.2.1 HZ.out.2.2 HZ.out.1 HDD.out
      case rest =>
        clear c0 c1 c2' c3' c4 c5 c6 c7 c8 c9 c10 c11 c12 HLC HWD hcell'
        obtain ⟨S', A', H', n', c', m', c2'', n3', c3'', hR', hS', hk'⟩ := hcut
        have q12 : wc.cell? ⟨W1.heap.size, 12, none⟩ = some (.int .i64 Q.1) := (hR'.cell 12).trans rfl
        have lrc := hR'.lt
        have hkk := HR.out.2.trans hk'
        obtain ⟨E, hE⟩ : ∃ E, E = Q.1 := ⟨_, rfl⟩
        rw [← hE] at q12
        by_cases h0 : E = 0
        · have hq2 : PIs q (readE Q.2 (k + 1) (L.drop (k + 1))) := by
            have h : q = _ := HQQ.out.1
            rw [if_neg (by rw [← hE, h0]; simp)] at h; exact h
          have hnx : LineCut (W1.heap.size + 1) W1.heap.size W2 (0, Q.2) wc := ⟨S', A', H', n', c', m', c2'', n3', c3'', by
            rw [← hE, h0] at hR'; exact hR', hS', hkk⟩
          have HNX := Lib.hid (And.intro hnx (HQQ.out.2 (by rw [← hE]; exact h0)))
          have HQ2 := Lib.hid hq2
          rw [h0] at q12
          clear hnx hq2 hR' hS' hk' hkk hE h0 HQQ
          go_wp2_with fail
          go_roundw
          case rel => exact ⟨k + 1, Q.2, by omega, by go_num, HNX, HQ2.out⟩
          case measure => simp [intOf]; omega
        · have hP := ((HG.out.2.1.below H2.out.2 hw2).kept hkk (fun h => by rcases h with h | h <;> omega))
          obtain ⟨⟨y0, y1, y2, y3, y4⟩, g0, g1, g2, g3, g4⟩ := hP.five
          have lP := hP.lt
          have hpr : ¬ w.heap.size = W1.heap.size := by omega
          have hrp : ¬ W1.heap.size = w.heap.size := by omega
          have HP := Lib.hid (And.intro hP hkk)
          have hq2 : PIs q (prob0, E, (k : Int) + 1) := by
            have h : q = _ := HQQ.out.1
            rw [if_pos (by rw [← hE]; exact h0), ← hE] at h; exact h
          have HQ2 := Lib.hid hq2
          clear hP hkk hR' hS' hk' hE hq2 HQQ
          go_wp2_with fail
          go_region_law fail
          all_goals
            go_wp2_with fail
            have hP := HP.out.1
            have hBz := hP.put5 (.bool false) (.slice none 0 0) (.slice none 0 0) (.int .i64 0) (.int .i64 0)
            have hKz := (((Kept.of_below H2.out.2 (fun j => j = W1.heap.size ∨ j = w.heap.size ∨ W1.heap.size + 1 ≤ j)).trans (HP.out.2.mono fun k _ h => h.elim .inl (fun h => .inr (.inr h))))).put5 (b := w.heap.size) (fun _ => .inr (.inl rfl)) (.bool false) (.slice none 0 0) (.slice none 0 0) (.int .i64 0) (.int .i64 0)
            have hBx := HG.out.2.2.trans (hKz.to_below (Nat.le_of_lt hw2) (fun k hk h => by rcases h with h | h | h <;> omega))
            change bodyPost _ _ _ _ _ (put5 wc w.heap.size (.bool false) (.slice none 0 0) (.slice none 0 0) (.int .i64 0) (.int .i64 0)).drew
            generalize put5 wc w.heap.size (.bool false) (.slice none 0 0) (.slice none 0 0) (.int .i64 0) (.int .i64 0) = WF at hBz hBx ⊢
            obtain ⟨⟨d0, d1, d2, d3, d4⟩, -⟩ := hBz.five
            refine bodyPost_ret (v := .tuple #[probV false none 0 0 none 0 0 0 0, .int .i64 E, .int .i64 (k + 1)]) (by simp [results, Tryz.results31, go_sem, d0, d1, d2, d3, d4, probV]) rfl ?_
            have hqq : q = _ := HQ2.out
            rw [hqq]
            exact ⟨_, rfl, prob0_is _, hBx.drew⟩
    · have hkm : k = L.length := by have := HM0.out; omega
      have hkd : L.drop k = [] := by rw [hkm]; exact List.drop_length
      have hqf : q = ((finE r).1, (finE r).2, 0) := by
        have h1 : q = _ := hqk
        rw [hkd] at h1
        exact h1
      have HQF := Lib.hid (show PIs q _ from hqf)
      have HO := Lib.hid HS.out.2
      obtain ⟨b1, b2, b3, b4, b5, i1, i2, i3, i4, hform, e1, e2, e4, e5, g1, g2, g3, g4⟩ := refA_form r 0 S A H n c m c2 n3 c3
      have hR' : Blk wr W1.heap.size 88 #[.bool b1, .slice S n c, .slice A m c2, .int .i64 i1, .int .i64 i2, .bool b2, .int .i64 i4, .int .i64 i3, .bool b3, .slice H n3 c3, .bool b4, .bool b5, .int .i64 0] := by rw [← hform]; exact hR
      obtain ⟨c0, c1, c2', c3', c4, c5, c6, c7, c8, c9, c10, c11, c12⟩ := cells13 hR'
      have lrb := hR'.lt
      have hP := ((HG.out.2.1.below H2.out.2 hw2).kept hkp (fun h => by rcases h with h | h <;> omega))
      have HP := Lib.hid (And.intro hP hkp)
      have HEQ := Lib.hid (And.intro e1 (And.intro e2 (And.intro e4 (And.intro e5 (And.intro g1 (And.intro g2 (And.intro g3 g4)))))))
      have HRS := Lib.hid hS
      obtain ⟨bd, hbd⟩ : ∃ bd : Bool, bd = (!b2 || decide ((m : Int) < i3) || (b1 && (!b4 || !b5))) := ⟨_, rfl⟩
      have HBD := Lib.hid hbd
      have hmm : b2 = true → m = r.arcs.length := fun hb => by
        rcases hS with ⟨h, _⟩ | ⟨_, sb, hb1, h2, h3, h4, h5, h6, h7, h8⟩
        · have h' : r = rd0 := h
          rw [h'] at e2; rw [e2] at hb; cases hb
        · exact arcs_len h8.a
      have HMM := Lib.hid hmm
      clear hkm hkd hqf hqk hform e1 e2 e4 e5 g1 g2 g3 g4 hR hR' hP hkp hS hbd hmm HS
      go_upto_region 11 with fail
      go_cut [65] from 38 to 65 (fun v wx => v = .bool bd ∧ wx = wr)
      case first =>
        by_cases hl : (m : Int) < i3
        · have hd : decide ((m : Int) < i3) = true := by simpa using hl
          cases b2 <;> cases b1 <;> cases b4 <;> cases b5 <;> (go_wp2_with fail; go_meet; exact ⟨by rw [HBD.out]; simp [hd], rfl⟩)
        · have hd : decide ((m : Int) < i3) = false := by simpa using hl
          cases b2 <;> cases b1 <;> cases b4 <;> cases b5 <;> (go_wp2_with fail; go_meet; exact ⟨by rw [HBD.out]; simp [hd], rfl⟩)
      case rest =>
        obtain ⟨rfl, rfl⟩ := hcut
        have hP := HP.out.1
        obtain ⟨⟨y0, y1, y2, y3, y4⟩, g0, g1, g2, g3, g4⟩ := hP.five
        have lP := hP.lt
        have hpr : ¬ w.heap.size = W1.heap.size := by omega
        have hrp : ¬ W1.heap.size = w.heap.size := by omega
        clear hP
        cases bd
        · have hok : b2 = true ∧ ¬ (m : Int) < i3 ∧ (b1 = true → b4 = true ∧ b5 = true) := by
            have hb := HBD.out
            by_cases hl : (m : Int) < i3
            · have hd : decide ((m : Int) < i3) = true := by simpa using hl
              rw [hd] at hb
              cases b2 <;> simp at hb
            · have hd : decide ((m : Int) < i3) = false := by simpa using hl
              rw [hd] at hb
              cases b2 <;> cases b1 <;> cases b4 <;> cases b5 <;> simp [hl] at hb ⊢
          obtain rfl : b2 = true := hok.1
          obtain ⟨sb, hb, hSS, hHH, hn, hc_, hn3, hc3, hmid⟩ : ∃ sb hb, S = some ⟨sb, 0, none⟩ ∧ H = some ⟨hb, 0, none⟩ ∧ n = r.sup.length ∧ c = r.sup.length ∧ n3 = r.sup.length ∧ c3 = r.sup.length ∧ RefMid (W1.heap.size + 1) wc r sb hb m c2 A := by
            rcases HRS.out with ⟨h, _⟩ | ⟨_, h⟩
            · have h' : r = rd0 := h
              have := HEQ.out.2.1
              rw [h'] at this; cases this
            · exact h
          subst hSS hHH hn hc_
          have hfin : finE r = if ¬ r.sup.sum = 0 then (prob0, 25) else (⟨r.max, r.sup, r.arcs, r.es.getD 0, r.et.getD 0⟩, 0) := by
            obtain ⟨e1, e2, e4, e5, g1, g2, g3, g4⟩ := HEQ.out
            unfold finE
            rw [if_neg (by rw [not_or, ← e2, ← HMM.out rfl, ← g3]; exact ⟨by simp, hok.2.1⟩), if_neg (fun h => h.2 (by rw [← e4, ← e5]; exact hok.2.2 (by rw [e1]; exact h.1)))]
          have HFIN := Lib.hid hfin
          have HMID := Lib.hid hmid
          have ls2 := hmid.s.lt
          have hn64 := HO.out.n64
          clear hfin hmid hok hn3 hc3 HRS HBD
          go_wp2_with fail
          go_loopw [8, 9] (fun v i wx => ∃ j : Nat, j ≤ r.sup.length ∧ i = .int .i64 j ∧ v = .int .i64 (r.sup.take j).sum ∧ wx = wc) (fun _ i _ => r.sup.length - (intOf i).toNat)
          case atStart => exact ⟨0, Nat.zero_le _, rfl, rfl, rfl⟩
          case round =>
            obtain ⟨j, hj, rfl, rfl, rfl⟩ := hrel
            by_cases hlt2 : j < r.sup.length
            · obtain ⟨x, hx⟩ : ∃ x, r.sup[j]? = some x := ⟨_, List.getElem?_eq_getElem hlt2⟩
              have hcell := (HMID.out.s.cell j).trans (ints_at hx)
              have htk : r.sup.take (j + 1) = r.sup.take j ++ [x] := by rw [List.take_add_one, hx]; rfl
              have hsum : (r.sup.take (j + 1)).sum = (r.sup.take j).sum + x := by rw [htk, List.sum_append]; simp
              have hb1 := sum_small (r.sup.take j) 2147483648 (by decide) (fun y hy => HO.out.sup y (List.mem_of_mem_take hy))
              have hb2 := HO.out.sup x (List.mem_of_getElem? hx)
              have hle : (r.sup.take j).length ≤ 64 := by rw [List.length_take]; omega
              have hadd : IntKind.i64.wrap ((r.sup.take j).sum + x) = (r.sup.take j).sum + x := IntWalk.i64_in _ (by omega)
              have HSM := Lib.hid hsum
              clear hx htk hsum hb1 hb2 hle
              generalize (r.sup.take j).sum = SM at *
              go_wp2_with fail
              go_roundw
              case rel => exact ⟨j + 1, by omega, by go_num, by rw [HSM.out], trivial⟩
              case measure => simp [intOf]; omega
            · obtain rfl : j = r.sup.length := by omega
              rw [List.take_of_length_le (Nat.le_refl _)]
              obtain ⟨SM, hSM⟩ : ∃ SM, SM = r.sup.sum := ⟨_, rfl⟩
              rw [← hSM]
              by_cases hz : SM = 0
              · have hq2 : PIs q (⟨r.max, r.sup, r.arcs, r.es.getD 0, r.et.getD 0⟩, 0, 0) := by
                  have h : q = _ := HQF.out
                  rw [HFIN.out, if_neg (by rw [← hSM]; simpa using hz)] at h; exact h
                have HQ2 := Lib.hid hq2
                subst hz
                clear hq2 hSM hlt2 hj
                go_wp2_with fail
                have hP := HP.out.1
                have hBz := hP.put5 (.bool b1) (.slice (some ⟨sb, 0, none⟩) r.sup.length r.sup.length) (.slice A m c2) (.int .i64 i1) (.int .i64 i2)
                have hS5 := HMID.out.s.far5 (HMID.out.s.ne_ hP (by decide)) (.bool b1) (.slice (some ⟨sb, 0, none⟩) r.sup.length r.sup.length) (.slice A m c2) (.int .i64 i1) (.int .i64 i2)
                have hA5 := own_put5 HMID.out.a hP (by decide) (.bool b1) (.slice (some ⟨sb, 0, none⟩) r.sup.length r.sup.length) (.slice A m c2) (.int .i64 i1) (.int .i64 i2)
                have hKz := (((Kept.of_below H2.out.2 (fun j => j = W1.heap.size ∨ j = w.heap.size ∨ W1.heap.size + 1 ≤ j)).trans (HP.out.2.mono fun k _ h => h.elim .inl (fun h => .inr (.inr h))))).put5 (b := w.heap.size) (fun _ => .inr (.inl rfl)) (.bool b1) (.slice (some ⟨sb, 0, none⟩) r.sup.length r.sup.length) (.slice A m c2) (.int .i64 i1) (.int .i64 i2)
                have hBx := HG.out.2.2.trans (hKz.to_below (Nat.le_of_lt hw2) (fun k hk h => by rcases h with h | h | h <;> omega))
                change bodyPost _ _ _ _ _ (put5 wr w.heap.size (.bool b1) (.slice (some ⟨sb, 0, none⟩) r.sup.length r.sup.length) (.slice A m c2) (.int .i64 i1) (.int .i64 i2))
                generalize put5 wr w.heap.size (.bool b1) (.slice (some ⟨sb, 0, none⟩) r.sup.length r.sup.length) (.slice A m c2) (.int .i64 i1) (.int .i64 i2) = WF at hBz hS5 hA5 hBx ⊢
                obtain ⟨⟨d0, d1, d2, d3, d4⟩, -⟩ := hBz.five
                refine bodyPost_ret (v := .tuple #[probV b1 (some ⟨sb, 0, none⟩) r.sup.length r.sup.length A m c2 i1 i2, .int .i64 0, .int .i64 0]) (by simp [results, Tryz.results31, go_sem, d0, d1, d2, d3, d4, probV]) rfl ?_
                have hqq : q = _ := HQ2.out
                rw [hqq]
                obtain ⟨e1, e2, e4, e5, g1, g2, g3, g4⟩ := HEQ.out
                exact ⟨_, rfl, ⟨_, _, _, _, _, _, by rw [e1, g1, g2], rfl, HMM.out (by simp), Nat.le_refl _, own_cap hA5, reads_ints hS5, Reads.of_own hA5⟩, hBx⟩
              · have hq2 : PIs q (prob0, 25, 0) := by
                  have h : q = _ := HQF.out
                  rw [HFIN.out, if_pos (by rw [← hSM]; exact hz)] at h; exact h
                have HQ2 := Lib.hid hq2
                clear hq2 hSM hlt2 hj
                go_wp2_with fail
                have hP := HP.out.1
                have hBz := hP.put5 (.bool false) (.slice none 0 0) (.slice none 0 0) (.int .i64 0) (.int .i64 0)
                have hKz := (((Kept.of_below H2.out.2 (fun j => j = W1.heap.size ∨ j = w.heap.size ∨ W1.heap.size + 1 ≤ j)).trans (HP.out.2.mono fun k _ h => h.elim .inl (fun h => .inr (.inr h))))).put5 (b := w.heap.size) (fun _ => .inr (.inl rfl)) (.bool false) (.slice none 0 0) (.slice none 0 0) (.int .i64 0) (.int .i64 0)
                have hBx := HG.out.2.2.trans (hKz.to_below (Nat.le_of_lt hw2) (fun k hk h => by rcases h with h | h | h <;> omega))
                change bodyPost _ _ _ _ _ (put5 wr w.heap.size (.bool false) (.slice none 0 0) (.slice none 0 0) (.int .i64 0) (.int .i64 0))
                generalize put5 wr w.heap.size (.bool false) (.slice none 0 0) (.slice none 0 0) (.int .i64 0) (.int .i64 0) = WF at hBz hBx ⊢
                obtain ⟨⟨d0, d1, d2, d3, d4⟩, -⟩ := hBz.five
                refine bodyPost_ret (v := .tuple #[probV false none 0 0 none 0 0 0 0, .int .i64 25, .int .i64 0]) (by simp [results, Tryz.results31, go_sem, d0, d1, d2, d3, d4, probV]) rfl ?_
                have hqq : q = _ := HQ2.out
                rw [hqq]
                exact ⟨_, rfl, prob0_is _, hBx⟩
        · have hq2 : PIs q (prob0, 12, 0) := by
            have h : q = _ := HQF.out
            have hb := HBD.out
            obtain ⟨e1, e2, e4, e5, g1, g2, g3, g4⟩ := HEQ.out
            have hf : finE r = (prob0, 12) := by
              unfold finE
              by_cases hbg : b2 = true
              · by_cases hl : (m : Int) < i3
                · rw [if_pos (.inr (by rw [← HMM.out hbg, ← g3]; exact hl))]
                · rw [if_neg (by rw [not_or, ← e2, ← HMM.out hbg, ← g3]; exact ⟨by simpa using hbg, hl⟩), if_pos (by
                    rw [← e1, ← e4, ← e5]
                    have hd : decide ((m : Int) < i3) = false := by simpa using hl
                    rw [hd, hbg] at hb
                    cases b1 <;> cases b4 <;> cases b5 <;> simp at hb ⊢)]
              · rw [if_pos (.inl (by rw [← e2]; exact hbg))]
            rw [hf] at h; exact h
          have HQ2 := Lib.hid hq2
          clear hq2
          go_wp2_with fail
          have hP := HP.out.1
          have hBz := hP.put5 (.bool false) (.slice none 0 0) (.slice none 0 0) (.int .i64 0) (.int .i64 0)
          have hKz := (((Kept.of_below H2.out.2 (fun j => j = W1.heap.size ∨ j = w.heap.size ∨ W1.heap.size + 1 ≤ j)).trans (HP.out.2.mono fun k _ h => h.elim .inl (fun h => .inr (.inr h))))).put5 (b := w.heap.size) (fun _ => .inr (.inl rfl)) (.bool false) (.slice none 0 0) (.slice none 0 0) (.int .i64 0) (.int .i64 0)
          have hBx := HG.out.2.2.trans (hKz.to_below (Nat.le_of_lt hw2) (fun k hk h => by rcases h with h | h | h <;> omega))
          change bodyPost _ _ _ _ _ (put5 wc w.heap.size (.bool false) (.slice none 0 0) (.slice none 0 0) (.int .i64 0) (.int .i64 0))
          generalize put5 wc w.heap.size (.bool false) (.slice none 0 0) (.slice none 0 0) (.int .i64 0) (.int .i64 0) = WF at hBz hBx ⊢
          obtain ⟨⟨d0, d1, d2, d3, d4⟩, -⟩ := hBz.five
          refine bodyPost_ret (v := .tuple #[probV false none 0 0 none 0 0 0 0, .int .i64 12, .int .i64 0]) (by simp [results, Tryz.results31, go_sem, d0, d1, d2, d3, d4, probV]) rfl ?_
          have hqq : q = _ := HQ2.out
          rw [hqq]
          exact ⟨_, rfl, prob0_is _, hBx⟩
theorem rParse_any (s : ByteArray) (w : World) : Calls Tryz.prog 31 #[.string s] w (RParTells w (parseF s.data.toList)) := by
  by_cases hs : s.size ≤ 60000
  · exact rParse_in s hs w
  · exact rParse_long s hs w

set_option maxHeartbeats 1600000 in
set_option maxRecDepth 100000 in
theorem Nums_eq (A1 A2 : Option Addr) (n c1 c2 : Nat) (xs : List Int) (w : World) (h1 : Reads w w.heap.size 1 A1 n (xs.map I)) (h2 : Reads w w.heap.size 1 A2 n (xs.map I)) (hn : n ≤ 1000000) :
    Calls Tryz.prog 61 #[.slice A1 n c1, .slice A2 n c2] w fun e w' => e = .returned (.bool true) ∧ ∃ q, w' = w.drewN q := by
  have hl : xs.length = n := by have := h1.1; simpa using this
  have H := Lib.hid (And.intro h1 h2)
  clear h1 h2
  go_enter Tryz.func61, Tryz.ntmps61
  go_wp2_with fail
  go_loopw [5] (fun i wr => ∃ k : Nat, k ≤ n ∧ i = .int .i64 k ∧ ∃ q, wr = w.drewN q) (fun i _ => n - (intOf i).toNat)
  case atStart => exact ⟨0, Nat.zero_le _, rfl, 0, rfl⟩
  case round =>
    obtain ⟨k, hk, rfl, qd, rfl⟩ := hrel
    by_cases hlt : k < n
    · obtain ⟨b, off, u, rfl, hb, hx, hc⟩ := H.out.1.at_ hlt
      obtain ⟨b', off', u', rfl, hb', hx', hc'⟩ := H.out.2.at_ hlt
      rw [hx] at hx'
      cases hx'
      simp only [List.getElem?_map, Option.map_eq_some_iff] at hx
      obtain ⟨x, -, rfl⟩ := hx
      unfold I at hc hc'
      have hk1 : IntKind.i64.wrap ((k : Int) + 1) = (k : Int) + 1 := IntWalk.i64_in _ (by omega)
      have hxx : (x != x) = false := by simp
      have hc_ : (w.drewN qd).cell? ⟨b, off + k, none⟩ = some (.int .i64 x) := hc
      have hc2_ : (w.drewN qd).cell? ⟨b', off' + k, none⟩ = some (.int .i64 x) := hc'
      clear hl
      go_wp2_with fail
      go_quiet (fail)
      go_wp2_with fail
      go_roundw
      case rel => exact ⟨k + 1, by omega, by go_num, _, rfl⟩
      case measure => simp [intOf]; omega
    · obtain rfl : k = n := by omega
      clear hl
      go_wp2_with fail
      go_ret
      exact ⟨rfl, _, rfl⟩
theorem cell_drN {w W : World} {a : Addr} {v : Value} {q : Nat} (hW : w.drewN q = W) (h : w.cell? a = some v) : W.cell? a = some v := by subst hW; exact h
theorem below_drN (w : World) (q : Nat) : Below w.heap.size w (w.drewN q) := ⟨rfl, rfl, rfl, Nat.le_refl _, fun _ _ => rfl⟩
set_option maxHeartbeats 3200000 in
set_option maxRecDepth 100000 in
theorem Same3_eq (S1 S2 A1 A2 : Option Addr) (n m c1 c2 d1 d2 : Nat) (sup : List Int) (arcs : List ArcV) (w : World) (h1 : Reads w w.heap.size 1 S1 n (sup.map I)) (h2 : Reads w w.heap.size 1 S2 n (sup.map I)) (k1 : Reads w w.heap.size 5 A1 m (arcCells arcs)) (k2 : Reads w w.heap.size 5 A2 m (arcCells arcs)) (hn : n ≤ 1000000) (hm : m ≤ 1000000) :
    Calls Tryz.prog 44 #[.agg #[.slice S1 n c1, .slice A1 m d1], .agg #[.slice S2 n c2, .slice A2 m d2]] w fun e w' => e = .returned (.bool true) ∧ Below w.heap.size w w' := by
  have hb0 : Below w.heap.size w ((w.alloc (.cells #[.slice S1 n c1, .slice A1 m d1] 29)).alloc (.cells #[.slice S2 n c2, .slice A2 m d2] 29)) := ((Below.refl _ w).alloc (Nat.le_refl _) _).alloc (by simp) _
  have kA := (Blk.new w 29 #[.slice S1 n c1, .slice A1 m d1]).alloc (.cells #[.slice S2 n c2, .slice A2 m d2] 29)
  have kB := Blk.new (w.alloc (.cells #[.slice S1 n c1, .slice A1 m d1] 29)) 29 #[.slice S2 n c2, .slice A2 m d2]
  rw [World.size_alloc] at kB
  have HN := Lib.hid (Nums_eq S1 S2 n c1 c2 sup _ ((h1.below hb0).more hb0.size) ((h2.below hb0).more hb0.size) hn)
  have hl : arcs.length = m := by have := k1.1; rw [arcCells_length] at this; omega
  have HK := Lib.hid (And.intro (k1.below hb0) (And.intro (k2.below hb0) hl))
  have HB := Lib.hid (And.intro kA (And.intro kB hb0))
  have hmm : ((m : Int) != (m : Int)) = false := by simp
  clear h1 h2 k1 k2 hb0 kA kB hl
  go_enter Tryz.func44, Tryz.ntmps44
  have p0 := HB.out.1.cell 0
  have p1 := HB.out.1.cell 1
  have q0 := HB.out.2.1.cell 0
  have q1 := HB.out.2.1.cell 1
  simp only [List.getElem?_toArray, List.getElem?_cons_zero, List.getElem?_cons_succ] at p0 p1 q0 q1
  go_wp2_with fail
  generalize (w.alloc (.cells #[.slice S1 n c1, .slice A1 m d1] 29)).alloc (.cells #[.slice S2 n c2, .slice A2 m d2] 29) = W0 at *
  refine HN.out.mono ?_
  rintro e w1 ⟨rfl, qa, rfl⟩
  clear HN
  go_wp2_with fail
  go_loopw [5] (fun i wr => ∃ k : Nat, k ≤ m ∧ i = .int .i64 k ∧ ∃ q, wr = W0.drewN q) (fun i _ => m - (intOf i).toNat)
  case atStart => exact ⟨0, Nat.zero_le _, rfl, _, rfl⟩
  case round =>
    obtain ⟨k, hk, rfl, qd, rfl⟩ := hrel
    by_cases hlt : k < m
    · obtain ⟨a, ha⟩ : ∃ a, arcs[k]? = some a := ⟨_, List.getElem?_eq_getElem (by have := HK.out.2.2; omega)⟩
      obtain ⟨b, off, rfl, hb, x0, x1, x2, x3, x4⟩ := HK.out.1.arc ha
      obtain ⟨b', off', rfl, hb', y0, y1, y2, y3, y4⟩ := HK.out.2.1.arc ha
      have hk1 : IntKind.i64.wrap ((k : Int) + 1) = (k : Int) + 1 := IntWalk.i64_in _ (by omega)
      clear ha
      generalize hW : W0.drewN qd = W1
      have HW := Lib.hid hW
      have P0 := cell_drN hW p0
      have P1 := cell_drN hW p1
      have Q0 := cell_drN hW q0
      have Q1 := cell_drN hW q1
      have X0 := cell_drN hW x0
      have X1 := cell_drN hW x1
      have X2 := cell_drN hW x2
      have X3 := cell_drN hW x3
      have X4 := cell_drN hW x4
      have Y0 := cell_drN hW y0
      have Y1 := cell_drN hW y1
      have Y2 := cell_drN hW y2
      have Y3 := cell_drN hW y3
      have Y4 := cell_drN hW y4
      clear hW x0 x1 x2 x3 x4 y0 y1 y2 y3 y4
      go_wp2_with fail
      go_quiet (fail)
      go_wp2_with fail
      go_roundw
      case rel => exact ⟨k + 1, by omega, by go_num, qd + nq, by rw [← HW.out]; exact World.drewN_drewN _ _ _⟩
      case measure => simp [intOf]; omega
    · obtain rfl : k = m := by omega
      go_wp2_with fail
      go_ret
      exact ⟨rfl, HB.out.2.2.trans ((below_drN W0 qd).mono HB.out.2.2.size)⟩
/-- problems that are short -/
structure Short (p : ProbV) : Prop where
  n : p.sup.length ≤ 64
  m : p.arcs.length ≤ 256
set_option maxHeartbeats 3200000 in
set_option maxRecDepth 100000 in
theorem Same_eq (p : ProbV) (u v : Value) (w : World) (hu : ProbIs w p u) (hv : ProbIs w p v) (hp : Short p) :
    Calls Tryz.prog 21 #[u, v] w fun e w' => e = .returned (.bool true) ∧ Below w.heap.size w w' := by
  obtain ⟨S1, n1, c1, A1, m1, d1, rfl, hn1, hm1, -, -, r1, k1⟩ := hu
  obtain ⟨S2, n2, c2, A2, m2, d2, rfl, hn2, hm2, -, -, r2, k2⟩ := hv
  have e1 : n2 = n1 := by rw [hn1, hn2]
  have e2 : m2 = m1 := by rw [hm1, hm2]
  subst e1 e2
  have hn : n2 ≤ 1000000 := by have := hp.n; omega
  have hm : m2 ≤ 1000000 := by have := hp.m; omega
  clear hn1 hn2 hm1 hm2 hp
  have HS := Lib.hid (fun (W : World) (hb : Below w.heap.size w W) => Same3_eq S1 S2 A1 A2 n2 m2 c1 c2 d1 d2 p.sup p.arcs W ((r1.below hb).more hb.size) ((r2.below hb).more hb.size) ((k1.below hb).more hb.size) ((k2.below hb).more hb.size) hn hm)
  obtain ⟨mx, hmx⟩ : ∃ x, x = p.max := ⟨_, rfl⟩
  obtain ⟨s, hs⟩ : ∃ x, x = p.s := ⟨_, rfl⟩
  obtain ⟨t, ht⟩ : ∃ x, x = p.t := ⟨_, rfl⟩
  rw [← hmx, ← hs, ← ht]
  have hss : (s == s) = true := by simp
  have htt : (t == t) = true := by simp
  have hmm : (mx == mx) = true := by simp
  clear hmx hs ht r1 r2 k1 k2
  unfold probV
  have kA := (Blk.new w 31 #[.bool mx, .slice S1 n2 c1, .slice A1 m2 d1, .int .i64 s, .int .i64 t]).alloc (.cells #[.bool mx, .slice S2 n2 c2, .slice A2 m2 d2, .int .i64 s, .int .i64 t] 31)
  have kB := Blk.new (w.alloc (.cells #[.bool mx, .slice S1 n2 c1, .slice A1 m2 d1, .int .i64 s, .int .i64 t] 31)) 31 #[.bool mx, .slice S2 n2 c2, .slice A2 m2 d2, .int .i64 s, .int .i64 t]
  rw [World.size_alloc] at kB
  have hb0 : Below w.heap.size w ((w.alloc (.cells #[.bool mx, .slice S1 n2 c1, .slice A1 m2 d1, .int .i64 s, .int .i64 t] 31)).alloc (.cells #[.bool mx, .slice S2 n2 c2, .slice A2 m2 d2, .int .i64 s, .int .i64 t] 31)) := ((Below.refl _ w).alloc (Nat.le_refl _) _).alloc (by simp) _
  have HB := Lib.hid hb0
  obtain ⟨⟨q0, q1, q2, q3, q4⟩, -⟩ := kA.five
  obtain ⟨⟨p0, p1, p2, p3, p4⟩, -⟩ := kB.five
  clear kA kB hb0
  go_enter Tryz.func21, Tryz.ntmps21
  go_wp2_with fail
  generalize (w.alloc (.cells #[.bool mx, .slice S1 n2 c1, .slice A1 m2 d1, .int .i64 s, .int .i64 t] 31)).alloc (.cells #[.bool mx, .slice S2 n2 c2, .slice A2 m2 d2, .int .i64 s, .int .i64 t] 31) = W0 at *
  refine (HS.out _ HB.out).mono ?_
  rintro e w1 ⟨rfl, hb1⟩
  have HB1 := Lib.hid (HB.out.trans (hb1.mono HB.out.size))
  clear hb1
  go_wp2_with fail
  go_ret
  exact ⟨rfl, HB1.out⟩

theorem src_cells : ∀ J : Fin 20, ∃ Y : ByteArray, (#[Value.string ⟨#[112, 32, 109, 105, 110, 32, 50, 32, 49]⟩, Value.string ⟨#[112, 32, 109, 97, 120, 32, 51, 32, 50]⟩, Value.string ⟨#[110, 32, 49, 32, 51]⟩, Value.string ⟨#[110, 32, 50, 32, 45, 51]⟩, Value.string ⟨#[110, 32, 49, 32, 115]⟩, Value.string ⟨#[110, 32, 51, 32, 116]⟩, Value.string ⟨#[97, 32, 49, 32, 50, 32, 48, 32, 53, 32, 45, 55]⟩, Value.string ⟨#[97, 32, 49, 32, 50, 32, 52]⟩, Value.string ⟨#[97, 32, 50, 32, 51, 32, 45, 49]⟩, Value.string ⟨#[99, 32, 120]⟩, Value.string ⟨#[]⟩, Value.string ⟨#[110, 32, 49, 32, 115, 32, 116]⟩, Value.string ⟨#[97, 32, 51, 32, 49, 32, 48]⟩, Value.string ⟨#[112, 32, 109, 105, 110, 32, 50, 32, 48]⟩, Value.string ⟨#[97, 32, 49, 32, 50, 32, 51, 32, 50, 32, 49]⟩, Value.string ⟨#[110, 32, 52, 32, 49]⟩, Value.string ⟨#[97, 32, 49, 32, 50, 32, 48, 32, 45, 49, 32, 50, 49, 52, 55, 52, 56, 51, 54, 52, 57]⟩, Value.string ⟨#[112, 32, 109, 105, 110, 32, 48, 32, 49]⟩, Value.string ⟨#[110, 32, 48, 49, 32, 50]⟩, Value.string ⟨#[97, 32, 49, 32, 32, 50, 32, 51]⟩] : Array Value)[J.val]? = some (.string Y) ∧ Y.size ≤ 21
  | ⟨0, _⟩ => ⟨_, rfl, by decide⟩
  | ⟨1, _⟩ => ⟨_, rfl, by decide⟩
  | ⟨2, _⟩ => ⟨_, rfl, by decide⟩
  | ⟨3, _⟩ => ⟨_, rfl, by decide⟩
  | ⟨4, _⟩ => ⟨_, rfl, by decide⟩
  | ⟨5, _⟩ => ⟨_, rfl, by decide⟩
  | ⟨6, _⟩ => ⟨_, rfl, by decide⟩
  | ⟨7, _⟩ => ⟨_, rfl, by decide⟩
  | ⟨8, _⟩ => ⟨_, rfl, by decide⟩
  | ⟨9, _⟩ => ⟨_, rfl, by decide⟩
  | ⟨10, _⟩ => ⟨_, rfl, by decide⟩
  | ⟨11, _⟩ => ⟨_, rfl, by decide⟩
  | ⟨12, _⟩ => ⟨_, rfl, by decide⟩
  | ⟨13, _⟩ => ⟨_, rfl, by decide⟩
  | ⟨14, _⟩ => ⟨_, rfl, by decide⟩
  | ⟨15, _⟩ => ⟨_, rfl, by decide⟩
  | ⟨16, _⟩ => ⟨_, rfl, by decide⟩
  | ⟨17, _⟩ => ⟨_, rfl, by decide⟩
  | ⟨18, _⟩ => ⟨_, rfl, by decide⟩
  | ⟨19, _⟩ => ⟨_, rfl, by decide⟩
  | ⟨j + 20, h⟩ => absurd h (by omega)

set_option maxHeartbeats 1600000 in
set_option maxRecDepth 100000 in
theorem Source_in (A : Option Addr) (n c : Nat) (ys : List Int) (w : World) (hr : Reads w w.heap.size 1 A n (ys.map (fun x : Int => .int .u8 x))) (hy : ∀ x ∈ ys, 0 ≤ x ∧ x ≤ 255) (hn : n ≤ 9223372036854775807) :
    Calls Tryz.prog 23 #[.slice A n c] w fun e w' => ∃ T : ByteArray, e = .returned (.string T) ∧ T.size ≤ 230 ∧ Below w.heap.size w w' := by
  have HY := Lib.hid hy
  clear hy
  go_enter Tryz.func23, Tryz.ntmps23
  go_wp2_with fail
  have kb := Blk.new w 9 #[.string ⟨#[112, 32, 109, 105, 110, 32, 50, 32, 49]⟩, .string ⟨#[112, 32, 109, 97, 120, 32, 51, 32, 50]⟩, .string ⟨#[110, 32, 49, 32, 51]⟩, .string ⟨#[110, 32, 50, 32, 45, 51]⟩, .string ⟨#[110, 32, 49, 32, 115]⟩, .string ⟨#[110, 32, 51, 32, 116]⟩, .string ⟨#[97, 32, 49, 32, 50, 32, 48, 32, 53, 32, 45, 55]⟩, .string ⟨#[97, 32, 49, 32, 50, 32, 52]⟩, .string ⟨#[97, 32, 50, 32, 51, 32, 45, 49]⟩, .string ⟨#[99, 32, 120]⟩, .string ⟨#[]⟩, .string ⟨#[110, 32, 49, 32, 115, 32, 116]⟩, .string ⟨#[97, 32, 51, 32, 49, 32, 48]⟩, .string ⟨#[112, 32, 109, 105, 110, 32, 50, 32, 48]⟩, .string ⟨#[97, 32, 49, 32, 50, 32, 51, 32, 50, 32, 49]⟩, .string ⟨#[110, 32, 52, 32, 49]⟩, .string ⟨#[97, 32, 49, 32, 50, 32, 48, 32, 45, 49, 32, 50, 49, 52, 55, 52, 56, 51, 54, 52, 57]⟩, .string ⟨#[112, 32, 109, 105, 110, 32, 48, 32, 49]⟩, .string ⟨#[110, 32, 48, 49, 32, 50]⟩, .string ⟨#[97, 32, 49, 32, 32, 50, 32, 51]⟩]
  have hr0 := hr.alloc (Nat.le_refl _) (.cells #[.string ⟨#[112, 32, 109, 105, 110, 32, 50, 32, 49]⟩, .string ⟨#[112, 32, 109, 97, 120, 32, 51, 32, 50]⟩, .string ⟨#[110, 32, 49, 32, 51]⟩, .string ⟨#[110, 32, 50, 32, 45, 51]⟩, .string ⟨#[110, 32, 49, 32, 115]⟩, .string ⟨#[110, 32, 51, 32, 116]⟩, .string ⟨#[97, 32, 49, 32, 50, 32, 48, 32, 53, 32, 45, 55]⟩, .string ⟨#[97, 32, 49, 32, 50, 32, 52]⟩, .string ⟨#[97, 32, 50, 32, 51, 32, 45, 49]⟩, .string ⟨#[99, 32, 120]⟩, .string ⟨#[]⟩, .string ⟨#[110, 32, 49, 32, 115, 32, 116]⟩, .string ⟨#[97, 32, 51, 32, 49, 32, 48]⟩, .string ⟨#[112, 32, 109, 105, 110, 32, 50, 32, 48]⟩, .string ⟨#[97, 32, 49, 32, 50, 32, 51, 32, 50, 32, 49]⟩, .string ⟨#[110, 32, 52, 32, 49]⟩, .string ⟨#[97, 32, 49, 32, 50, 32, 48, 32, 45, 49, 32, 50, 49, 52, 55, 52, 56, 51, 54, 52, 57]⟩, .string ⟨#[112, 32, 109, 105, 110, 32, 48, 32, 49]⟩, .string ⟨#[110, 32, 48, 49, 32, 50]⟩, .string ⟨#[97, 32, 49, 32, 32, 50, 32, 51]⟩] 9)
  have hb0 : Below w.heap.size w (w.alloc (.cells #[.string ⟨#[112, 32, 109, 105, 110, 32, 50, 32, 49]⟩, .string ⟨#[112, 32, 109, 97, 120, 32, 51, 32, 50]⟩, .string ⟨#[110, 32, 49, 32, 51]⟩, .string ⟨#[110, 32, 50, 32, 45, 51]⟩, .string ⟨#[110, 32, 49, 32, 115]⟩, .string ⟨#[110, 32, 51, 32, 116]⟩, .string ⟨#[97, 32, 49, 32, 50, 32, 48, 32, 53, 32, 45, 55]⟩, .string ⟨#[97, 32, 49, 32, 50, 32, 52]⟩, .string ⟨#[97, 32, 50, 32, 51, 32, 45, 49]⟩, .string ⟨#[99, 32, 120]⟩, .string ⟨#[]⟩, .string ⟨#[110, 32, 49, 32, 115, 32, 116]⟩, .string ⟨#[97, 32, 51, 32, 49, 32, 48]⟩, .string ⟨#[112, 32, 109, 105, 110, 32, 50, 32, 48]⟩, .string ⟨#[97, 32, 49, 32, 50, 32, 51, 32, 50, 32, 49]⟩, .string ⟨#[110, 32, 52, 32, 49]⟩, .string ⟨#[97, 32, 49, 32, 50, 32, 48, 32, 45, 49, 32, 50, 49, 52, 55, 52, 56, 51, 54, 52, 57]⟩, .string ⟨#[112, 32, 109, 105, 110, 32, 48, 32, 49]⟩, .string ⟨#[110, 32, 48, 49, 32, 50]⟩, .string ⟨#[97, 32, 49, 32, 32, 50, 32, 51]⟩] 9)) := (Below.refl _ w).alloc (Nat.le_refl _) _
  have HK : Hid (∀ J : Nat, J < 20 → ∃ Y : ByteArray, (w.alloc (.cells #[.string ⟨#[112, 32, 109, 105, 110, 32, 50, 32, 49]⟩, .string ⟨#[112, 32, 109, 97, 120, 32, 51, 32, 50]⟩, .string ⟨#[110, 32, 49, 32, 51]⟩, .string ⟨#[110, 32, 50, 32, 45, 51]⟩, .string ⟨#[110, 32, 49, 32, 115]⟩, .string ⟨#[110, 32, 51, 32, 116]⟩, .string ⟨#[97, 32, 49, 32, 50, 32, 48, 32, 53, 32, 45, 55]⟩, .string ⟨#[97, 32, 49, 32, 50, 32, 52]⟩, .string ⟨#[97, 32, 50, 32, 51, 32, 45, 49]⟩, .string ⟨#[99, 32, 120]⟩, .string ⟨#[]⟩, .string ⟨#[110, 32, 49, 32, 115, 32, 116]⟩, .string ⟨#[97, 32, 51, 32, 49, 32, 48]⟩, .string ⟨#[112, 32, 109, 105, 110, 32, 50, 32, 48]⟩, .string ⟨#[97, 32, 49, 32, 50, 32, 51, 32, 50, 32, 49]⟩, .string ⟨#[110, 32, 52, 32, 49]⟩, .string ⟨#[97, 32, 49, 32, 50, 32, 48, 32, 45, 49, 32, 50, 49, 52, 55, 52, 56, 51, 54, 52, 57]⟩, .string ⟨#[112, 32, 109, 105, 110, 32, 48, 32, 49]⟩, .string ⟨#[110, 32, 48, 49, 32, 50]⟩, .string ⟨#[97, 32, 49, 32, 32, 50, 32, 51]⟩] 9)).cell? ⟨w.heap.size, J, none⟩ = some (.string Y) ∧ Y.size ≤ 21) := Lib.hid (fun J hJ => by
    obtain ⟨Y, h1, h2⟩ := src_cells ⟨J, hJ⟩
    exact ⟨Y, (kb.cell J).trans h1, h2⟩)
  clear kb hr
  generalize (w.alloc (.cells #[.string ⟨#[112, 32, 109, 105, 110, 32, 50, 32, 49]⟩, .string ⟨#[112, 32, 109, 97, 120, 32, 51, 32, 50]⟩, .string ⟨#[110, 32, 49, 32, 51]⟩, .string ⟨#[110, 32, 50, 32, 45, 51]⟩, .string ⟨#[110, 32, 49, 32, 115]⟩, .string ⟨#[110, 32, 51, 32, 116]⟩, .string ⟨#[97, 32, 49, 32, 50, 32, 48, 32, 53, 32, 45, 55]⟩, .string ⟨#[97, 32, 49, 32, 50, 32, 52]⟩, .string ⟨#[97, 32, 50, 32, 51, 32, 45, 49]⟩, .string ⟨#[99, 32, 120]⟩, .string ⟨#[]⟩, .string ⟨#[110, 32, 49, 32, 115, 32, 116]⟩, .string ⟨#[97, 32, 51, 32, 49, 32, 48]⟩, .string ⟨#[112, 32, 109, 105, 110, 32, 50, 32, 48]⟩, .string ⟨#[97, 32, 49, 32, 50, 32, 51, 32, 50, 32, 49]⟩, .string ⟨#[110, 32, 52, 32, 49]⟩, .string ⟨#[97, 32, 49, 32, 50, 32, 48, 32, 45, 49, 32, 50, 49, 52, 55, 52, 56, 51, 54, 52, 57]⟩, .string ⟨#[112, 32, 109, 105, 110, 32, 48, 32, 49]⟩, .string ⟨#[110, 32, 48, 49, 32, 50]⟩, .string ⟨#[97, 32, 49, 32, 32, 50, 32, 51]⟩] 9)) = W0 at hr0 hb0 HK ⊢
  go_loopw [4, 5] (fun t i wr => ∃ (k : Nat) (T : ByteArray), k ≤ 10 ∧ k ≤ n ∧ i = .int .i64 k ∧ t = .string T ∧ T.size ≤ 23 * k ∧ ∃ q, wr = W0.drewN q) (fun _ i _ => 10 - (Lib.intOf i).toNat)
  case atStart => exact ⟨0, ⟨#[]⟩, by omega, Nat.zero_le _, rfl, rfl, by decide, 0, rfl⟩
  case round =>
    obtain ⟨k, T, hk, hkn, rfl, rfl, hTs, q, rfl⟩ := hrel
    by_cases hlt : k < n
    · by_cases hl24 : k < 10
      · obtain ⟨b, off, u, rfl, -, hx, hcell⟩ := hr0.at_ hlt
        simp only [List.getElem?_map, Option.map_eq_some_iff] at hx
        obtain ⟨x, hx, rfl⟩ := hx
        have hx2 := HY.out x (List.mem_of_getElem? hx)
        have hx0 := hx2.1
        have hx1 := hx2.2
        obtain ⟨J, hJ, hJx⟩ : ∃ J : Nat, J < 20 ∧ x.tmod 20 = (J : Int) := ⟨(x % 20).toNat, by omega, by rw [Int.tmod_eq_emod_of_nonneg hx0]; omega⟩
        have hJx2 : x % 20 = (J : Int) := by rw [← Int.tmod_eq_emod_of_nonneg hx0]; exact hJx
        obtain ⟨Y, hYc, hYs⟩ := HK.out J hJ
        have hTs2 : T.size ≤ 230 := by omega
        clear hx hx2
        go_wp2
        refine ⟨⟨k + 1, _, by omega, by omega, rfl, rfl, ?_, q, rfl⟩, by simp [Lib.intOf]; omega⟩
        have h1 : (⟨#[10]⟩ : ByteArray).size = 1 := rfl
        simp only [ByteArray.size_append]; omega
      · obtain rfl : k = 10 := by omega
        go_wp2
        go_ret
        exact ⟨T, rfl, by omega, hb0.trans ((below_drewN W0 q).mono hb0.size)⟩
    · go_wp2
      go_ret
      exact ⟨T, rfl, by omega, hb0.trans ((below_drewN W0 q).mono hb0.size)⟩

/-- the errors that there are -/
def ErrOk (k : Int) : Prop := 0 ≤ k ∧ k ≤ 255
theorem headE_er (r : RdV) (ws : List (List UInt8)) : ErrOk (headE r ws).1 := by
  unfold headE; split
  · repeat' split
    all_goals (constructor <;> (simp only; decide))
  · constructor <;> (simp only; decide)
theorem nodeE_er (r : RdV) (ws : List (List UInt8)) : ErrOk (nodeE r ws).1 := by
  unfold nodeE; split
  · repeat' split
    all_goals (constructor <;> (simp only; decide))
  · constructor <;> (simp only; decide)
theorem endE_er (r : RdV) (ws : List (List UInt8)) : ErrOk (endE r ws).1 := by
  unfold endE; split
  · repeat' split
    all_goals (constructor <;> (simp only; decide))
  · constructor <;> (simp only; decide)
theorem arcE_er (r : RdV) (ws : List (List UInt8)) : ErrOk (arcE r ws).1 := by
  unfold arcE; split
  · unfold arcMaxE; split
    · repeat' split
      all_goals (constructor <;> (simp only; decide))
    · constructor <;> (simp only; decide)
  · unfold arcMinE; split
    · repeat' split
      all_goals (constructor <;> (simp only; decide))
    · constructor <;> (simp only; decide)
theorem lineE_er (r : RdV) (ws : List (List UInt8)) : ErrOk (lineE r ws).1 := by
  have c0 : ErrOk 0 := by constructor <;> decide
  have c10 : ErrOk 10 := by constructor <;> decide
  have c12 : ErrOk 12 := by constructor <;> decide
  unfold lineE
  split
  · exact c0
  split
  · exact headE_er r ws
  split
  · split
    · exact c12
    split
    · exact endE_er r ws
    · exact nodeE_er r ws
  split
  · split
    · exact c12
    · exact arcE_er r ws
  · exact c10
theorem finE_er (r : RdV) : ErrOk (finE r).2 := by
  unfold finE; repeat' split
  all_goals (constructor <;> (simp only; decide))
theorem readE_er : ∀ (ts : List (List UInt8)) (r : RdV) (k : Nat), ErrOk (readE r k ts).2.1
  | [], r, k => by unfold readE; exact finE_er r
  | t :: ts, r, k => by
    unfold readE; split
    · exact lineE_er r _
    · exact readE_er ts _ _
theorem parseF_er (s : List UInt8) : ErrOk (parseF s).2.1 := by
  unfold parseF; split
  · constructor <;> (simp only; decide)
  · exact readE_er _ _ _
theorem parse_short (s : List UInt8) : Short (parseF s).1 := by
  rcases parse_fits s with ⟨_, _, h⟩ | ⟨_, h, _⟩
  · exact ⟨h.n64, h.m256⟩
  · rw [h]; exact ⟨by decide, by decide⟩
set_option maxHeartbeats 3200000 in
set_option maxRecDepth 100000 in
theorem parses_in (s : ByteArray) (w : World) (hE : Env w) : Calls Tryz.prog 16 #[.string s] w fun e w' => e = .returned (.bool true) ∧ Below w.heap.size w w' := by
  have HP := Lib.hid (Parse_any s w hE)
  have HR := Lib.hid (fun W => rParse_any s W)
  have hsh := parse_short s.data.toList
  have her := parseF_er s.data.toList
  obtain ⟨q, hq⟩ : ∃ q, q = parseF s.data.toList := ⟨_, rfl⟩
  rw [← hq] at HP HR hsh her
  obtain ⟨p, k, l⟩ := q
  simp only [ParTells, RParTells] at HP HR hsh her
  obtain ⟨k0, k1⟩ := her
  have hkw : IntKind.i64.wrap k = k := IntWalk.i64_in _ (by omega)
  have hkk : (k == k) = true := by simp
  have hll : (l == l) = true := by simp
  clear hq hE
  go_enter Tryz.func16, Tryz.ntmps16
  go_wp2_with fail
  refine HP.out.mono ?_
  rintro e w1 ⟨v, rfl, hv, hb1⟩
  clear HP
  have HS := Lib.hid (fun W u1 u2 h1 h2 => Same_eq p u1 u2 W h1 h2 hsh)
  obtain ⟨S1, n1, c1, A1, m1, d1, rfl, hn1, hm1, hc1, hd1, r1, a1⟩ := hv
  obtain ⟨mx, hmx⟩ : ∃ x, x = p.max := ⟨_, rfl⟩
  obtain ⟨ps, hps⟩ : ∃ x, x = p.s := ⟨_, rfl⟩
  obtain ⟨pt, hpt⟩ : ∃ x, x = p.t := ⟨_, rfl⟩
  rw [← hmx, ← hps, ← hpt]
  unfold probV
  have hP1 := Blk.new w1 31 #[.bool mx, .slice S1 n1 c1, .slice A1 m1 d1, .int .i64 ps, .int .i64 pt]
  have hb2 : Below w1.heap.size w1 (w1.alloc (.cells #[.bool mx, .slice S1 n1 c1, .slice A1 m1 d1, .int .i64 ps, .int .i64 pt] 31)) := (Below.refl _ w1).alloc (Nat.le_refl _) _
  have H1 := Lib.hid (And.intro hP1 (And.intro hb2 (And.intro hb1 (And.intro hn1 (And.intro hm1 (And.intro hc1 (And.intro hd1 (And.intro r1 a1))))))))
  have HV := Lib.hid (And.intro hmx (And.intro hps hpt))
  clear hP1 hb2 hb1 hn1 hm1 hc1 hd1 r1 a1 hmx hps hpt hsh
  go_wp2_with fail
  generalize w1.alloc (.cells #[.bool mx, .slice S1 n1 c1, .slice A1 m1 d1, .int .i64 ps, .int .i64 pt] 31) = W1 at *
  refine (HR.out _).mono ?_
  rintro e w2 ⟨v, rfl, hv, hb3⟩
  obtain ⟨S2, n2, c2, A2, m2, d2, rfl, hn2, hm2, hc2, hd2, r2, a2⟩ := hv
  rw [← HV.out.1, ← HV.out.2.1, ← HV.out.2.2]
  unfold probV
  have hb4 : Below w2.heap.size w2 (w2.alloc (.cells #[.bool mx, .slice S2 n2 c2, .slice A2 m2 d2, .int .i64 ps, .int .i64 pt] 31)) := (Below.refl _ w2).alloc (Nat.le_refl _) _
  have hQ2 := Blk.new w2 31 #[.bool mx, .slice S2 n2 c2, .slice A2 m2 d2, .int .i64 ps, .int .i64 pt]
  have hP2 := (H1.out.1.below hb3 H1.out.1.lt).alloc (.cells #[.bool mx, .slice S2 n2 c2, .slice A2 m2 d2, .int .i64 ps, .int .i64 pt] 31)
  have hb13 := H1.out.2.1.trans ((hb3.trans (hb4.mono hb3.size)).mono H1.out.2.1.size)
  have HS1 := Lib.hid (HS.out (w2.alloc (.cells #[.bool mx, .slice S2 n2 c2, .slice A2 m2 d2, .int .i64 ps, .int .i64 pt] 31)) (probV p.max S1 n1 c1 A1 m1 d1 p.s p.t) (probV p.max S2 n2 c2 A2 m2 d2 p.s p.t)
    ⟨_, _, _, _, _, _, rfl, H1.out.2.2.2.1, H1.out.2.2.2.2.1, H1.out.2.2.2.2.2.1, H1.out.2.2.2.2.2.2.1, (H1.out.2.2.2.2.2.2.2.1.below hb13).more hb13.size, (H1.out.2.2.2.2.2.2.2.2.below hb13).more hb13.size⟩
    ⟨_, _, _, _, _, _, rfl, hn2, hm2, hc2, hd2, (r2.below hb4).more hb4.size, (a2.below hb4).more hb4.size⟩)
  rw [← HV.out.1, ← HV.out.2.1, ← HV.out.2.2] at HS1
  unfold probV at HS1
  have HB := Lib.hid (H1.out.2.2.1.trans (hb13.mono H1.out.2.2.1.size))
  obtain ⟨⟨x0, x1, x2, x3, x4⟩, -⟩ := hP2.five
  obtain ⟨⟨y0, y1, y2, y3, y4⟩, -⟩ := hQ2.five
  clear HS H1 HV HR hb3 hb4 hQ2 hP2 hb13 hn2 hm2 hc2 hd2 r2 a2
  go_wp2_with fail
  generalize w2.alloc (.cells #[.bool mx, .slice S2 n2 c2, .slice A2 m2 d2, .int .i64 ps, .int .i64 pt] 31) = W2 at *
  refine HS1.out.mono ?_
  rintro e w3 ⟨rfl, hb5⟩
  have HB3 := Lib.hid (HB.out.trans (hb5.mono HB.out.size))
  clear hb5 x0 x1 x2 x3 x4 y0 y1 y2 y3 y4
  go_wp2_with fail
  go_ret
  exact ⟨rfl, HB3.out⟩
def pknown : ProbV := ⟨false, [3, -3], [⟨0, 1, 0, infC, 5⟩], 0, 0⟩
theorem parse_k1 : parseF (⟨#[99, 32, 97, 10, 112, 32, 109, 105, 110, 32, 50, 32, 49, 10, 110, 32, 49, 32, 51, 10, 110, 32, 50, 32, 45, 51, 10, 97, 32, 49, 32, 50, 32, 48, 32, 45, 49, 32, 53, 10]⟩ : ByteArray).data.toList = (pknown, 0, 0) := by decide +kernel
theorem parse_k2 : parseF (⟨#[112, 32, 109, 105, 110, 32, 50, 32, 49, 10, 110, 32, 49, 32, 51, 10, 110, 32, 49, 32, 45, 51, 10]⟩ : ByteArray).data.toList = (prob0, 13, 3) := by decide +kernel
set_option maxHeartbeats 3200000 in
set_option maxRecDepth 100000 in
theorem known_in (w : World) (hE : Env w) : Calls Tryz.prog 11 #[] w fun e w' => e = .returned (.bool true) ∧ Below w.heap.size w w' := by
  have HP := Lib.hid (Parse_any ⟨#[99, 32, 97, 10, 112, 32, 109, 105, 110, 32, 50, 32, 49, 10, 110, 32, 49, 32, 51, 10, 110, 32, 50, 32, 45, 51, 10, 97, 32, 49, 32, 50, 32, 48, 32, 45, 49, 32, 53, 10]⟩ w hE)
  rw [parse_k1] at HP
  have HQ := Lib.hid (fun W (hb : Below w.heap.size w W) => Parse_any ⟨#[112, 32, 109, 105, 110, 32, 50, 32, 49, 10, 110, 32, 49, 32, 51, 10, 110, 32, 49, 32, 45, 51, 10]⟩ W (hE.on hb))
  rw [parse_k2] at HQ
  simp only [ParTells] at HP HQ
  go_enter Tryz.func11, Tryz.ntmps11
  go_wp2_with fail
  refine HP.out.mono ?_
  rintro e w1 ⟨v, rfl, hv, hb1⟩
  obtain ⟨S1, n1, c1, A1, m1, d1, rfl, hn1, hm1, hc1, hd1, r1, a1⟩ := hv
  have hP1 := Blk.new w1 31 #[.bool false, .slice S1 n1 c1, .slice A1 m1 d1, .int .i64 0, .int .i64 0]
  have hb2 : Below w1.heap.size w1 (w1.alloc (.cells #[.bool false, .slice S1 n1 c1, .slice A1 m1 d1, .int .i64 0, .int .i64 0] 31)) := (Below.refl _ w1).alloc (Nat.le_refl _) _
  have hbw := hb1.trans (hb2.mono hb1.size)
  have HI1 := Lib.hid (show ProbIs (w1.alloc (.cells #[.bool false, .slice S1 n1 c1, .slice A1 m1 d1, .int .i64 0, .int .i64 0] 31)) pknown (probV false S1 n1 c1 A1 m1 d1 0 0) from ⟨S1, n1, c1, A1, m1, d1, rfl, hn1, hm1, hc1, hd1, (r1.below hb2).more hb2.size, (a1.below hb2).more hb2.size⟩)
  have H1 := Lib.hid (And.intro hP1 hbw)
  clear hP1 hb2 hb1 hbw hn1 hm1 hc1 hd1 r1 a1 HP
  unfold probV
  simp only [pknown]
  go_wp2_with fail
  generalize w1.alloc (.cells #[.bool false, .slice S1 n1 c1, .slice A1 m1 d1, .int .i64 0, .int .i64 0] 31) = W1 at *
  refine (HQ.out _ H1.out.2).mono ?_
  rintro e w2 ⟨v, rfl, hv, hb3⟩
  obtain ⟨S2, n2, c2, A2, m2, d2, rfl, hn2, hm2, hc2, hd2, r2, a2⟩ := hv
  have hI2 : ProbIs w2 pknown (probV false S1 n1 c1 A1 m1 d1 0 0) := by
    obtain ⟨x1, x2, x3, x4, x5, x6, x7, x8, x9, x10, x11, x12, x13⟩ := HI1.out
    exact ⟨x1, x2, x3, x4, x5, x6, x7, x8, x9, x10, x11, (x12.below hb3).more hb3.size, (x13.below hb3).more hb3.size⟩
  have hP2 := H1.out.1.below hb3 H1.out.1.lt
  have hbw2 := H1.out.2.trans (hb3.mono H1.out.2.size)
  have H2 := Lib.hid (And.intro hP2 (And.intro hbw2 hI2))
  clear H1 HI1 hn2 hm2 hc2 hd2 r2 a2 hb3 hP2 hbw2 hI2 HQ
  unfold probV
  simp only [prob0]
  obtain ⟨⟨x0, x1, x2, x3, x4⟩, -⟩ := H2.out.1.five
  have lx := H2.out.1.lt
  have hb4 : Below w2.heap.size w2 ((((w2.alloc (.cells #[.bool false, .slice S2 n2 c2, .slice A2 m2 d2, .int .i64 0, .int .i64 0] 31)).alloc (.cells #[.int .i64 3, .int .i64 (-3)] 2)).alloc (.cells #[.int .i64 0, .int .i64 1, .int .i64 0, .int .i64 4611686018427387904, .int .i64 5] 42)).alloc (.cells #[.bool false, .slice (some ⟨w2.heap.size + 1, 0, none⟩) 2 2, .slice (some ⟨w2.heap.size + 1 + 1, 0, none⟩) 1 1, .int .i64 0, .int .i64 0] 31)) := ((((Below.refl _ w2).alloc (Nat.le_refl _) _).alloc (by simp) _).alloc (by simp; omega) _).alloc (by simp; omega) _
  have hbI := ((Blk.new (w2.alloc (.cells #[.bool false, .slice S2 n2 c2, .slice A2 m2 d2, .int .i64 0, .int .i64 0] 31)) 2 #[.int .i64 3, .int .i64 (-3)]).alloc (.cells #[.int .i64 0, .int .i64 1, .int .i64 0, .int .i64 4611686018427387904, .int .i64 5] 42)).alloc (.cells #[.bool false, .slice (some ⟨w2.heap.size + 1, 0, none⟩) 2 2, .slice (some ⟨w2.heap.size + 1 + 1, 0, none⟩) 1 1, .int .i64 0, .int .i64 0] 31)
  have hbA := (Blk.new ((w2.alloc (.cells #[.bool false, .slice S2 n2 c2, .slice A2 m2 d2, .int .i64 0, .int .i64 0] 31)).alloc (.cells #[.int .i64 3, .int .i64 (-3)] 2)) 42 #[.int .i64 0, .int .i64 1, .int .i64 0, .int .i64 4611686018427387904, .int .i64 5]).alloc (.cells #[.bool false, .slice (some ⟨w2.heap.size + 1, 0, none⟩) 2 2, .slice (some ⟨w2.heap.size + 1 + 1, 0, none⟩) 1 1, .int .i64 0, .int .i64 0] 31)
  have hb7 := Blk.new (((w2.alloc (.cells #[.bool false, .slice S2 n2 c2, .slice A2 m2 d2, .int .i64 0, .int .i64 0] 31)).alloc (.cells #[.int .i64 3, .int .i64 (-3)] 2)).alloc (.cells #[.int .i64 0, .int .i64 1, .int .i64 0, .int .i64 4611686018427387904, .int .i64 5] 42)) 31 #[.bool false, .slice (some ⟨w2.heap.size + 1, 0, none⟩) 2 2, .slice (some ⟨w2.heap.size + 1 + 1, 0, none⟩) 1 1, .int .i64 0, .int .i64 0]
  simp only [World.size_alloc] at hbI hbA hb7
  have HS := Lib.hid (Same_eq pknown (probV false S1 n1 c1 A1 m1 d1 0 0) (.agg #[.bool false, .slice (some ⟨w2.heap.size + 1, 0, none⟩) 2 2, .slice (some ⟨w2.heap.size + 1 + 1, 0, none⟩) 1 1, .int .i64 0, .int .i64 0]) ((((w2.alloc (.cells #[.bool false, .slice S2 n2 c2, .slice A2 m2 d2, .int .i64 0, .int .i64 0] 31)).alloc (.cells #[.int .i64 3, .int .i64 (-3)] 2)).alloc (.cells #[.int .i64 0, .int .i64 1, .int .i64 0, .int .i64 4611686018427387904, .int .i64 5] 42)).alloc (.cells #[.bool false, .slice (some ⟨w2.heap.size + 1, 0, none⟩) 2 2, .slice (some ⟨w2.heap.size + 1 + 1, 0, none⟩) 1 1, .int .i64 0, .int .i64 0] 31)) (by
      obtain ⟨y1, y2, y3, y4, y5, y6, y7, y8, y9, y10, y11, y12, y13⟩ := H2.out.2.2
      exact ⟨y1, y2, y3, y4, y5, y6, y7, y8, y9, y10, y11, (y12.below hb4).more hb4.size, (y13.below hb4).more hb4.size⟩)
    ⟨some ⟨w2.heap.size + 1, 0, none⟩, 2, 2, some ⟨w2.heap.size + 1 + 1, 0, none⟩, 1, 1, rfl, rfl, rfl, by decide, by decide, reads_ints (l := [3, -3]) hbI, ⟨rfl, fun _ => ⟨_, 0, rfl, hbA.lt, fun j u hu => by rw [Nat.zero_add, hbA.cell, List.getElem?_toArray]; exact hu⟩⟩⟩ ⟨by decide, by decide⟩)
  unfold probV at HS
  have HB := Lib.hid (H2.out.2.1.trans (hb4.mono H2.out.2.1.size))
  obtain ⟨⟨y0, y1, y2, y3, y4⟩, -⟩ := hb7.five
  have X0 := (hb4.cell (p := ⟨w1.heap.size, 0, none⟩) lx).trans x0
  have X1 := (hb4.cell (p := ⟨w1.heap.size, 1, none⟩) lx).trans x1
  have X2 := (hb4.cell (p := ⟨w1.heap.size, 2, none⟩) lx).trans x2
  have X3 := (hb4.cell (p := ⟨w1.heap.size, 3, none⟩) lx).trans x3
  have X4 := (hb4.cell (p := ⟨w1.heap.size, 4, none⟩) lx).trans x4
  clear hb4 hbI hbA hb7 H2 x0 x1 x2 x3 x4
  go_wp2_with fail
  refine HS.out.mono ?_
  rintro e w5 ⟨rfl, hb5⟩
  have HB3 := Lib.hid (HB.out.trans (hb5.mono HB.out.size))
  clear hb5 X0 X1 X2 X3 X4 y0 y1 y2 y3 y4 HS HB
  go_wp2_with fail
  go_ret
  exact ⟨rfl, HB3.out⟩
end Go.Proofs.YtoagphighgejnaaGreatDoor
