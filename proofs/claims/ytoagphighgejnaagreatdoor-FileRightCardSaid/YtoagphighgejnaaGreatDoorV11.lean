/- The document's answer: Parse (12). Conditions: none. -/
import Derived.Test.YtoagphighgejnaaGreatDoorV10
import Derived.Test.YtoagphighgejnaaGreatDoorJ15
import Derived.Test.YtoagphighgejnaaGreatDoorF3
set_option linter.unusedSimpArgs false
set_option linter.unusedVariables false
namespace Go.Proofs.YtoagphighgejnaaGreatDoor
open Go.RowKit Go.Shelf

/-- what the document's Parse tells -/
def RParTells (w : World) (q : ProbV × Int × Int) (e : Ending) (w' : World) : Prop := ∃ v, e = .returned (.tuple #[v, .int .i64 q.2.1, .int .i64 q.2.2]) ∧ ProbIs w' q.1 v ∧ Below w.heap.size w w'
abbrev refA (r : RdV) (e : Int) (S A H : Option Addr) (n c m c2 n3 c3 : Nat) : Array Value := pC r.max r.begun (decide (¬ r.arcs = [])) r.es.isSome r.et.isSome (r.es.getD 0) (r.et.getD 0) r.many r.sup.length e S A H n c m c2 n3 c3
theorem refA_form (r : RdV) (e : Int) (S A H : Option Addr) (n c m c2 n3 c3 : Nat) : ∃ b1 b2 b3 b4 b5 i1 i2 i3 i4, refA r e S A H n c m c2 n3 c3 = #[.bool b1, .slice S n c, .slice A m c2, .int .i64 i1, .int .i64 i2, .bool b2, .int .i64 i4, .int .i64 i3, .bool b3, .slice H n3 c3, .bool b4, .bool b5, .int .i64 e] ∧
    b1 = r.max ∧ b2 = r.begun ∧ b4 = r.es.isSome ∧ b5 = r.et.isSome ∧ i1 = r.es.getD 0 ∧ i2 = r.et.getD 0 ∧ i3 = r.many ∧ i4 = r.sup.length := ⟨_, _, _, _, _, _, _, _, _, rfl, rfl, rfl, rfl, rfl, rfl, rfl, rfl, rfl⟩
/-- a line was read: what lies in the block -/
def LineCut (B rb : Nat) (wr : World) (q : Int × RdV) (wx : World) : Prop := ∃ S A H n c m c2 n3 c3, Blk wx rb 88 (refA q.2 q.1 S A H n c m c2 n3 c3) ∧ RefS B wx q.2 S A H n c m c2 n3 c3 ∧ Kept (Rs B rb) wr wx
theorem rWords_some (s : ByteArray) (hsz : s.size ≤ 1000000) (w : World) :
    Calls Tryz.prog 13 #[.string s] w fun e w' => ∃ wb wo n cp, e = .returned (.slice (some ⟨wb, wo, none⟩) n cp) ∧ n = (cutL 32 s.data.toList).length ∧ 0 < n ∧ n ≤ cp ∧ Reads w' w'.heap.size 1 (some ⟨wb, wo, none⟩) n ((cutL 32 s.data.toList).map strV) ∧ Below w.heap.size w w' :=
  (rWords_in s hsz w).mono fun e w' ⟨A, n, cp, he, hn, hc, hr, hb⟩ => by
    have h0 : 0 < n := by
      rw [hn]
      cases h : cutL 32 s.data.toList with
      | nil => exact absurd h (cutL_ne 32 _)
      | cons x xs => simp
    obtain ⟨wb, wo, hA, _⟩ := hr.2 h0
    subst hA
    exact ⟨wb, wo, n, cp, he, hn, h0, hc, hr, hb⟩
theorem LineCut.of {B rb : Nat} {wr w2 w3 : World} {q : Int × RdV} {S A H : Option Addr} {n c m c2 n3 c3 : Nat} {cs : Array Value} (hrb : rb < B) (h0 : Blk wr rb 88 cs) {u0 u1 u2 u3 u4 u5 u6 u7 u8 u9 u10 u11 u12 : Value} (hb : Below wr.heap.size wr w2) (hk : Kept (Bs B w2) w2 w3) (hS : RefS B w3 q.2 S A H n c m c2 n3 c3)
    (hz : Blk w3 rb 88 #[u0, u1, u2, u3, u4, u5, u6, u7, u8, u9, u10, u11, u12]) {v0 v1 v2 v3 v4 v5 v6 v7 v8 v9 v10 v11 v12 : Value} (hv : refV q.2 q.1 S A H n c m c2 n3 c3 = .agg #[v0, v1, v2, v3, v4, v5, v6, v7, v8, v9, v10, v11, v12]) :
    LineCut B rb wr q (put13 w3 rb v0 v1 v2 v3 v4 v5 v6 v7 v8 v9 v10 v11 v12) := by
  refine ⟨S, A, H, n, c, m, c2, n3, c3, ?_, hS.far13_ hz v0 v1 v2 v3 v4 v5 v6 v7 v8 v9 v10 v11 v12, ((Kept.of_below hb (Rs B rb)).trans (hk.mono fun k _ h => .inr h.1)).put13 v0 v1 v2 v3 v4 v5 v6 v7 v8 v9 v10 v11 v12 (fun _ => .inl rfl)⟩
  have e : refA q.2 q.1 S A H n c m c2 n3 c3 = #[v0, v1, v2, v3, v4, v5, v6, v7, v8, v9, v10, v11, v12] := by
    unfold refV at hv
    exact Value.agg.inj hv
  rw [e]
  exact hz.put13 v0 v1 v2 v3 v4 v5 v6 v7 v8 v9 v10 v11 v12
set_option maxRecDepth 100000 in
set_option maxHeartbeats 1600000 in
theorem rParse_long (s : ByteArray) (hs : ¬ s.size ≤ 60000) (w : World) : Calls Tryz.prog 31 #[.string s] w (RParTells w (parseF s.data.toList)) := by
  have hq : parseF s.data.toList = (prob0, 3, 0) := by
    unfold parseF; rw [if_pos (by show 60000 < s.data.toList.length; have : s.data.toList.length = s.size := rfl; omega)]
  rw [hq]
  have hnl : (60000 : Int) < s.size := by omega
  clear hq hs
  have hb0 : Below w.heap.size w (w.alloc (.cells #[.bool false, .slice none 0 0, .slice none 0 0, .int .i64 0, .int .i64 0] 31)) := (Below.refl _ w).alloc (Nat.le_refl _) _
  have hP0 := Blk.new w 31 #[.bool false, .slice none 0 0, .slice none 0 0, .int .i64 0, .int .i64 0]
  have HA := Lib.hid (And.intro hb0 hP0)
  clear hb0 hP0
  go_enter Tryz.func31, Tryz.ntmps31
  go_wp2_with fail
  obtain ⟨hb0, hP0⟩ := HA.out
  clear HA
  generalize w.alloc (.cells #[.bool false, .slice none 0 0, .slice none 0 0, .int .i64 0, .int .i64 0] 31) = WF at *
  obtain ⟨⟨d0, d1, d2, d3, d4⟩, -⟩ := hP0.five
  refine bodyPost_ret (v := .tuple #[probV false none 0 0 none 0 0 0 0, .int .i64 3, .int .i64 0]) (by simp [results, Tryz.results31, go_sem, d0, d1, d2, d3, d4, probV]) rfl ?_
  exact ⟨_, rfl, prob0_is _, hb0⟩
set_option maxRecDepth 100000 in
set_option maxHeartbeats 6400000 in
theorem rParse_in (s : ByteArray) (hs : s.size ≤ 60000) (w : World) : Calls Tryz.prog 31 #[.string s] w (RParTells w (parseF s.data.toList)) := by
  obtain ⟨L, hL⟩ : ∃ L, L = linesL s.data.toList := ⟨_, rfl⟩
  obtain ⟨q, HQ⟩ : ∃ q, PIs q (parseF s.data.toList) := ⟨_, rfl⟩
  rw [← HQ]
  have hq : q = readE rd0 0 L := by
    have h : q = parseF s.data.toList := HQ
    rw [h, hL]; unfold parseF; rw [if_neg (by show ¬ 60000 < s.data.toList.length; have : s.data.toList.length = s.size := rfl; omega)]
  have HQR : PIs q (readE rd0 0 L) := hq
  have HLL := Lib.hid (show (∀ x ∈ L, x.length ≤ 60000) ∧ L.length ≤ 60001 by
    have hl : s.data.toList.length = s.size := rfl
    rw [hL]
    exact ⟨fun x hx => Nat.le_trans (lines_len _ x hx) (by omega), Nat.le_trans (lines_many _) (by omega)⟩)
  have HLN := Lib.hid (fun W => rLines_in s (by omega) W)
  rw [← hL] at HLN
  have hnl : ¬ (60000 : Int) < s.size := by omega
  clear hq hs hL HQ
  have hb0 : Below w.heap.size w (w.alloc (.cells #[.bool false, .slice none 0 0, .slice none 0 0, .int .i64 0, .int .i64 0] 31)) := (Below.refl _ w).alloc (Nat.le_refl _) _
  have hP0 := Blk.new w 31 #[.bool false, .slice none 0 0, .slice none 0 0, .int .i64 0, .int .i64 0]
  have HA := Lib.hid (And.intro hb0 hP0)
  clear hb0 hP0
  go_enter Tryz.func31, Tryz.ntmps31
  go_wp2_with fail
  generalize w.alloc (.cells #[.bool false, .slice none 0 0, .slice none 0 0, .int .i64 0, .int .i64 0] 31) = W0 at *
  refine (HLN.out _).mono ?_
  rintro e W1 ⟨LA, m0, lc, rfl, hm0, hlc, hrl, hb1⟩
  have hP1 := HA.out.2.below hb1 HA.out.2.lt
  have hbw1 := HA.out.1.trans (hb1.mono HA.out.1.size)
  have hR2 := Blk.new W1 88 #[.bool false, .slice none 0 0, .slice none 0 0, .int .i64 0, .int .i64 0, .bool false, .int .i64 0, .int .i64 0, .bool false, .slice none 0 0, .bool false, .bool false, .int .i64 0]
  have hb2 : Below W1.heap.size W1 (W1.alloc (.cells #[.bool false, .slice none 0 0, .slice none 0 0, .int .i64 0, .int .i64 0, .bool false, .int .i64 0, .int .i64 0, .bool false, .slice none 0 0, .bool false, .bool false, .int .i64 0] 88)) := (Below.refl _ W1).alloc (Nat.le_refl _) _
  have hw2 : w.heap.size < W1.heap.size := hP1.lt
  have HM0 := Lib.hid hm0
  clear hm0
  have HG := Lib.hid (And.intro hrl (And.intro hP1 hbw1))
  have H2 := Lib.hid (And.intro hR2 hb2)
  have hs2 : (W1.alloc (.cells #[.bool false, .slice none 0 0, .slice none 0 0, .int .i64 0, .int .i64 0, .bool false, .int .i64 0, .int .i64 0, .bool false, .slice none 0 0, .bool false, .bool false, .int .i64 0] 88)).heap.size = W1.heap.size + 1 := by simp
  clear HA hrl hP1 hbw1 hb1 hR2 hb2
  go_wp2_with fail
  generalize W1.alloc (.cells #[.bool false, .slice none 0 0, .slice none 0 0, .int .i64 0, .int .i64 0, .bool false, .int .i64 0, .int .i64 0, .bool false, .slice none 0 0, .bool false, .bool false, .int .i64 0] 88) = W2 at *
  have hA0 : LineCut (W1.heap.size + 1) W1.heap.size W2 (0, rd0) W2 := ⟨none, none, none, 0, 0, 0, 0, 0, 0, by
    have := H2.out.1
    have e : refA rd0 0 none none none 0 0 0 0 0 0 = #[.bool false, .slice none 0 0, .slice none 0 0, .int .i64 0, .int .i64 0, .bool false, .int .i64 0, .int .i64 0, .bool false, .slice none 0 0, .bool false, .bool false, .int .i64 0] := rfl
    show Blk W2 W1.heap.size 88 (refA rd0 0 none none none 0 0 0 0 0 0)
    rw [e]; exact this, .inl ⟨rfl, rfl, rfl, rfl, rfl, rfl, rfl, rfl, rfl, rfl⟩, Kept.refl _ _⟩
  have HA0 := Lib.hid hA0
  clear hA0
  go_loopw [7] (fun i wr => ∃ (k : Nat) (r : RdV), k ≤ m0 ∧ i = .int .i64 k ∧ Hid (LineCut (W1.heap.size + 1) W1.heap.size W2 (0, r) wr ∧ RdOk r) ∧ PIs q (readE r k (L.drop k))) (fun i _ => m0 - (intOf i).toNat)
  case atStart => exact ⟨0, rd0, Nat.zero_le _, rfl, Lib.hid ⟨HA0.out, rd0_ok⟩, HQR⟩
  case round =>
    obtain ⟨k, r, hk, rfl, HS, hqk⟩ := hrel
    clear HA0 HQR
    obtain ⟨S, A, H, n, c, m, c2, n3, c3, hR, hS, hkp⟩ := HS.out.1
    by_cases hlt : k < m0
    · obtain ⟨b, off, u, hLA, hbB, hx, hcell⟩ := HG.out.1.at_ hlt
      subst hLA
      simp only [List.getElem?_map, Option.map_eq_some_iff] at hx
      obtain ⟨t, ht, rfl⟩ := hx
      have hbW : W2.cell? ⟨b, off + k, none⟩ = some (strV t) := (H2.out.2.cell (p := ⟨b, off + k, none⟩) hbB).trans hcell
      have hcell' : wr.cell? ⟨b, off + k, none⟩ = some (.string ⟨t.toArray⟩) := by
        rw [World.cell?_of_block (hkp.block b (by omega) (by rintro (e | e) <;> omega))]; exact hbW
      have lb : b < wr.heap.size := Nat.lt_of_lt_of_le (by omega) hkp.size
      have htl : t.length ≤ 60000 := HLL.out.1 t (List.mem_of_getElem? ht)
      obtain ⟨T, hT⟩ : ∃ T : ByteArray, T = ⟨t.toArray⟩ := ⟨_, rfl⟩
      have hTd : T.data.toList = t := by rw [hT]
      have HWD := Lib.hid (fun W => rWords_some T (by rw [hT]; show t.toArray.size ≤ _; simp; omega) W)
      rw [hTd] at HWD
      rw [← hT] at hcell'
      have hqn : PIs q _ := (show q = _ from hqk).trans (read_next ht r)
      have hwl : ∀ y ∈ cutL 32 t, y.length ≤ 60000 := fun y hy => Nat.le_trans (cut_len 32 t y hy) htl
      have HLC := Lib.hid (fun (W : World) (hb : Below wr.heap.size wr W) wb wo nn cp (hr : Reads W W.heap.size 1 (some ⟨wb, wo, none⟩) nn ((cutL 32 t).map strV)) (hcp : nn ≤ cp) (hnn : nn = (cutL 32 t).length) (h0 : 0 < nn) =>
        rline_any (W1.heap.size + 1) r S A H n c m c2 n3 c3 wb wo cp nn (cutL 32 t) W (hS.on hb) HS.out.2 hr hcp hnn h0 hwl (Nat.le_trans (by rw [← hs2]; exact hkp.size) hb.size))
      obtain ⟨Q, hQ⟩ : ∃ Q, Q = lineE r (cutL 32 t) := ⟨_, rfl⟩
      have hok := fun h0 => lineE_ok HS.out.2 (cutL 32 t) h0
      rw [← hQ] at HLC hqn hok
      have HQQ := Lib.hid (And.intro (show PIs q _ from hqn) hok)
      have hk1 : IntKind.i64.wrap ((k : Int) + 1) = (k : Int) + 1 := IntWalk.i64_in _ (by have := HLL.out.2; have := HM0.out; omega)
      unfold refV pC at HLC
      unfold refA pC at hR
      obtain ⟨b1, hb1⟩ : ∃ b, b = r.max := ⟨_, rfl⟩
      obtain ⟨b2, hb2⟩ : ∃ b, b = r.begun := ⟨_, rfl⟩
      obtain ⟨b3, hb3⟩ : ∃ b, b = decide (¬ r.arcs = []) := ⟨_, rfl⟩
      obtain ⟨b4, hb4⟩ : ∃ b, b = r.es.isSome := ⟨_, rfl⟩
      obtain ⟨b5, hb5⟩ : ∃ b, b = r.et.isSome := ⟨_, rfl⟩
      obtain ⟨i1, hi1⟩ : ∃ b, b = r.es.getD 0 := ⟨_, rfl⟩
      obtain ⟨i2, hi2⟩ : ∃ b, b = r.et.getD 0 := ⟨_, rfl⟩
      obtain ⟨i3, hi3⟩ : ∃ b, b = r.many := ⟨_, rfl⟩
      obtain ⟨i4, hi4⟩ : ∃ b : Int, b = r.sup.length := ⟨_, rfl⟩
      rw [← hb1, ← hb2, ← hb3, ← hb4, ← hb5, ← hi1, ← hi2, ← hi3, ← hi4] at HLC
      have hR' : Blk wr W1.heap.size 88 #[.bool b1, .slice S n c, .slice A m c2, .int .i64 i1, .int .i64 i2, .bool b2, .int .i64 i4, .int .i64 i3, .bool b3, .slice H n3 c3, .bool b4, .bool b5, .int .i64 0] := by
        rw [hb1, hb2, hb3, hb4, hb5, hi1, hi2, hi3, hi4]; exact hR
      obtain ⟨c0, c1, c2', c3', c4, c5, c6, c7, c8, c9, c10, c11, c12⟩ := cells13 hR'
      have lrb := hR'.lt
      have HR := Lib.hid (And.intro hR' hkp)
      clear hR hS hkp hR' hb1 hb2 hb3 hb4 hb5 hi1 hi2 hi3 hi4 hqn hok hQ hwl hTd hT htl hqk hcell hbW ht HS
      go_upto_region 8 with fail
      go_cut [] from 23 to 29 (fun wx => LineCut (W1.heap.size + 1) W1.heap.size wr Q wx)
      case first =>
        go_region_law (first
          | (go_simp; go_at_call 13; (refine (HWD.out _).mono ?_; rintro e w2 ⟨wb, wo, nw, cw, rfl, hnw, hnw0, hcw, hrw, hbw⟩; have hb2 := (Below.refl _ wr).drew.trans hbw; have k0 := (hb2.cell (p := ⟨W1.heap.size, 0, none⟩) lrb).trans c0; have k1 := (hb2.cell (p := ⟨W1.heap.size, 1, none⟩) lrb).trans c1; have k2 := (hb2.cell (p := ⟨W1.heap.size, 2, none⟩) lrb).trans c2'; have k3 := (hb2.cell (p := ⟨W1.heap.size, 3, none⟩) lrb).trans c3'; have k4 := (hb2.cell (p := ⟨W1.heap.size, 4, none⟩) lrb).trans c4; have k5 := (hb2.cell (p := ⟨W1.heap.size, 5, none⟩) lrb).trans c5; have k6 := (hb2.cell (p := ⟨W1.heap.size, 6, none⟩) lrb).trans c6; have k7 := (hb2.cell (p := ⟨W1.heap.size, 7, none⟩) lrb).trans c7; have k8 := (hb2.cell (p := ⟨W1.heap.size, 8, none⟩) lrb).trans c8; have k9 := (hb2.cell (p := ⟨W1.heap.size, 9, none⟩) lrb).trans c9; have k10 := (hb2.cell (p := ⟨W1.heap.size, 10, none⟩) lrb).trans c10; have k11 := (hb2.cell (p := ⟨W1.heap.size, 11, none⟩) lrb).trans c11; have k12 := (hb2.cell (p := ⟨W1.heap.size, 12, none⟩) lrb).trans c12; have HW2 := Lib.hid (And.intro hnw (And.intro hnw0 (And.intro hcw (And.intro hrw hb2)))); clear hnw hnw0 hcw hrw hbw hb2))
          | (go_simp; go_at_call 48; (refine (HLC.out _ (by with_unfolding_all exact HW2.out.2.2.2.2) wb wo nw cw (by with_unfolding_all exact HW2.out.2.2.2.1) HW2.out.2.2.1 HW2.out.1 HW2.out.2.1).mono ?_; rintro e w3 ⟨hk3, S', A', H', n', c', m', c2'', n3', c3'', rfl, hS3⟩; have hz3 := (HR.out.1.below HW2.out.2.2.2.2 lrb).kept hk3 (fun h => absurd h.1 (by omega)); obtain ⟨d1, d2, d3, d4, d5, j1, j2, j3, j4, hd⟩ := refV_form Q.2 Q.1 S' A' H' n' c' m' c2'' n3' c3''; have HDD := Lib.hid (show QV _ _ from hd); rw [hd]; obtain ⟨z0, z1, z2, z3, z4, z5, z6, z7, z8, z9, z10, z11, z12⟩ := cells13 hz3; obtain ⟨f0, f1, f2, f3, f4, f5, f6, f7, f8, f9, f10, f11, f12⟩ := frozen13 hz3; have lz := hz3.lt; have HZ := Lib.hid (And.intro hz3 (And.intro hk3 hS3)); clear hz3 hk3 hS3 hd)))
        all_goals
          go_wp2_with fail
          go_meet
          exact LineCut.of (by omega) HR.out.1 HW2.out.2.2.2.2 HZ.out.2.1 HZ.out.2.2 HZ.out.1 HDD.out
      case rest =>
        clear c0 c1 c2' c3' c4 c5 c6 c7 c8 c9 c10 c11 c12 HLC HWD hcell'
        obtain ⟨S', A', H', n', c', m', c2'', n3', c3'', hR', hS', hk'⟩ := hcut
        have q12 : wc.cell? ⟨W1.heap.size, 12, none⟩ = some (.int .i64 Q.1) := (hR'.cell 12).trans rfl
        have lrc := hR'.lt
        have hkk := HR.out.2.trans hk'
        obtain ⟨E, hE⟩ : ∃ E, E = Q.1 := ⟨_, rfl⟩
        rw [← hE] at q12
        by_cases h0 : E = 0
        · have hq2 : PIs q (readE Q.2 (k + 1) (L.drop (k + 1))) := by
            have h : q = _ := HQQ.out.1
            rw [if_neg (by rw [← hE, h0]; simp)] at h; exact h
          have hnx : LineCut (W1.heap.size + 1) W1.heap.size W2 (0, Q.2) wc := ⟨S', A', H', n', c', m', c2'', n3', c3'', by
            rw [← hE, h0] at hR'; exact hR', hS', hkk⟩
          have HNX := Lib.hid (And.intro hnx (HQQ.out.2 (by rw [← hE]; exact h0)))
          have HQ2 := Lib.hid hq2
          rw [h0] at q12
          clear hnx hq2 hR' hS' hk' hkk hE h0 HQQ
          go_wp2_with fail
          go_roundw
          case rel => exact ⟨k + 1, Q.2, by omega, by go_num, HNX, HQ2.out⟩
          case measure => simp [intOf]; omega
        · have hP := ((HG.out.2.1.below H2.out.2 hw2).kept hkk (fun h => by rcases h with h | h <;> omega))
          obtain ⟨⟨y0, y1, y2, y3, y4⟩, g0, g1, g2, g3, g4⟩ := hP.five
          have lP := hP.lt
          have hpr : ¬ w.heap.size = W1.heap.size := by omega
          have hrp : ¬ W1.heap.size = w.heap.size := by omega
          have HP := Lib.hid (And.intro hP hkk)
          have hq2 : PIs q (prob0, E, (k : Int) + 1) := by
            have h : q = _ := HQQ.out.1
            rw [if_pos (by rw [← hE]; exact h0), ← hE] at h; exact h
          have HQ2 := Lib.hid hq2
          clear hP hkk hR' hS' hk' hE hq2 HQQ
          go_wp2_with fail
          go_region_law fail
          all_goals
            go_wp2_with fail
            have hP := HP.out.1
            have hBz := hP.put5 (.bool false) (.slice none 0 0) (.slice none 0 0) (.int .i64 0) (.int .i64 0)
            have hKz := (((Kept.of_below H2.out.2 (fun j => j = W1.heap.size ∨ j = w.heap.size ∨ W1.heap.size + 1 ≤ j)).trans (HP.out.2.mono fun k _ h => h.elim .inl (fun h => .inr (.inr h))))).put5 (b := w.heap.size) (fun _ => .inr (.inl rfl)) (.bool false) (.slice none 0 0) (.slice none 0 0) (.int .i64 0) (.int .i64 0)
            have hBx := HG.out.2.2.trans (hKz.to_below (Nat.le_of_lt hw2) (fun k hk h => by rcases h with h | h | h <;> omega))
            change bodyPost _ _ _ _ _ (put5 wc w.heap.size (.bool false) (.slice none 0 0) (.slice none 0 0) (.int .i64 0) (.int .i64 0)).drew
            generalize put5 wc w.heap.size (.bool false) (.slice none 0 0) (.slice none 0 0) (.int .i64 0) (.int .i64 0) = WF at hBz hBx ⊢
            obtain ⟨⟨d0, d1, d2, d3, d4⟩, -⟩ := hBz.five
            refine bodyPost_ret (v := .tuple #[probV false none 0 0 none 0 0 0 0, .int .i64 E, .int .i64 (k + 1)]) (by simp [results, Tryz.results31, go_sem, d0, d1, d2, d3, d4, probV]) rfl ?_
            have hqq : q = _ := HQ2.out
            rw [hqq]
            exact ⟨_, rfl, prob0_is _, hBx.drew⟩
    · have hkm : k = L.length := by have := HM0.out; omega
      have hkd : L.drop k = [] := by rw [hkm]; exact List.drop_length
      have hqf : q = ((finE r).1, (finE r).2, 0) := by
        have h1 : q = _ := hqk
        rw [hkd] at h1
        exact h1
      have HQF := Lib.hid (show PIs q _ from hqf)
      have HO := Lib.hid HS.out.2
      obtain ⟨b1, b2, b3, b4, b5, i1, i2, i3, i4, hform, e1, e2, e4, e5, g1, g2, g3, g4⟩ := refA_form r 0 S A H n c m c2 n3 c3
      have hR' : Blk wr W1.heap.size 88 #[.bool b1, .slice S n c, .slice A m c2, .int .i64 i1, .int .i64 i2, .bool b2, .int .i64 i4, .int .i64 i3, .bool b3, .slice H n3 c3, .bool b4, .bool b5, .int .i64 0] := by rw [← hform]; exact hR
      obtain ⟨c0, c1, c2', c3', c4, c5, c6, c7, c8, c9, c10, c11, c12⟩ := cells13 hR'
      have lrb := hR'.lt
      have hP := ((HG.out.2.1.below H2.out.2 hw2).kept hkp (fun h => by rcases h with h | h <;> omega))
      have HP := Lib.hid (And.intro hP hkp)
      have HEQ := Lib.hid (And.intro e1 (And.intro e2 (And.intro e4 (And.intro e5 (And.intro g1 (And.intro g2 (And.intro g3 g4)))))))
      have HRS := Lib.hid hS
      obtain ⟨bd, hbd⟩ : ∃ bd : Bool, bd = (!b2 || decide ((m : Int) < i3) || (b1 && (!b4 || !b5))) := ⟨_, rfl⟩
      have HBD := Lib.hid hbd
      have hmm : b2 = true → m = r.arcs.length := fun hb => by
        rcases hS with ⟨h, _⟩ | ⟨_, sb, hb1, h2, h3, h4, h5, h6, h7, h8⟩
        · have h' : r = rd0 := h
          rw [h'] at e2; rw [e2] at hb; cases hb
        · exact arcs_len h8.a
      have HMM := Lib.hid hmm
      clear hkm hkd hqf hqk hform e1 e2 e4 e5 g1 g2 g3 g4 hR hR' hP hkp hS hbd hmm HS
      go_upto_region 11 with fail
      go_cut [65] from 38 to 65 (fun v wx => v = .bool bd ∧ wx = wr)
      case first =>
        by_cases hl : (m : Int) < i3
        · have hd : decide ((m : Int) < i3) = true := by simpa using hl
          cases b2 <;> cases b1 <;> cases b4 <;> cases b5 <;> (go_wp2_with fail; go_meet; exact ⟨by rw [HBD.out]; simp [hd], rfl⟩)
        · have hd : decide ((m : Int) < i3) = false := by simpa using hl
          cases b2 <;> cases b1 <;> cases b4 <;> cases b5 <;> (go_wp2_with fail; go_meet; exact ⟨by rw [HBD.out]; simp [hd], rfl⟩)
      case rest =>
        obtain ⟨rfl, rfl⟩ := hcut
        have hP := HP.out.1
        obtain ⟨⟨y0, y1, y2, y3, y4⟩, g0, g1, g2, g3, g4⟩ := hP.five
        have lP := hP.lt
        have hpr : ¬ w.heap.size = W1.heap.size := by omega
        have hrp : ¬ W1.heap.size = w.heap.size := by omega
        clear hP
        cases bd
        · have hok : b2 = true ∧ ¬ (m : Int) < i3 ∧ (b1 = true → b4 = true ∧ b5 = true) := by
            have hb := HBD.out
            by_cases hl : (m : Int) < i3
            · have hd : decide ((m : Int) < i3) = true := by simpa using hl
              rw [hd] at hb
              cases b2 <;> simp at hb
            · have hd : decide ((m : Int) < i3) = false := by simpa using hl
              rw [hd] at hb
              cases b2 <;> cases b1 <;> cases b4 <;> cases b5 <;> simp [hl] at hb ⊢
          obtain rfl : b2 = true := hok.1
          obtain ⟨sb, hb, hSS, hHH, hn, hc_, hn3, hc3, hmid⟩ : ∃ sb hb, S = some ⟨sb, 0, none⟩ ∧ H = some ⟨hb, 0, none⟩ ∧ n = r.sup.length ∧ c = r.sup.length ∧ n3 = r.sup.length ∧ c3 = r.sup.length ∧ RefMid (W1.heap.size + 1) wc r sb hb m c2 A := by
            rcases HRS.out with ⟨h, _⟩ | ⟨_, h⟩
            · have h' : r = rd0 := h
              have := HEQ.out.2.1
              rw [h'] at this; cases this
            · exact h
          subst hSS hHH hn hc_
          have hfin : finE r = if ¬ r.sup.sum = 0 then (prob0, 25) else (⟨r.max, r.sup, r.arcs, r.es.getD 0, r.et.getD 0⟩, 0) := by
            obtain ⟨e1, e2, e4, e5, g1, g2, g3, g4⟩ := HEQ.out
            unfold finE
            rw [if_neg (by rw [not_or, ← e2, ← HMM.out rfl, ← g3]; exact ⟨by simp, hok.2.1⟩), if_neg (fun h => h.2 (by rw [← e4, ← e5]; exact hok.2.2 (by rw [e1]; exact h.1)))]
          have HFIN := Lib.hid hfin
          have HMID := Lib.hid hmid
          have ls2 := hmid.s.lt
          have hn64 := HO.out.n64
          clear hfin hmid hok hn3 hc3 HRS HBD
          go_wp2_with fail
          go_loopw [8, 9] (fun v i wx => ∃ j : Nat, j ≤ r.sup.length ∧ i = .int .i64 j ∧ v = .int .i64 (r.sup.take j).sum ∧ wx = wc) (fun _ i _ => r.sup.length - (intOf i).toNat)
          case atStart => exact ⟨0, Nat.zero_le _, rfl, rfl, rfl⟩
          case round =>
            obtain ⟨j, hj, rfl, rfl, rfl⟩ := hrel
            by_cases hlt2 : j < r.sup.length
            · obtain ⟨x, hx⟩ : ∃ x, r.sup[j]? = some x := ⟨_, List.getElem?_eq_getElem hlt2⟩
              have hcell := (HMID.out.s.cell j).trans (ints_at hx)
              have htk : r.sup.take (j + 1) = r.sup.take j ++ [x] := by rw [List.take_add_one, hx]; rfl
              have hsum : (r.sup.take (j + 1)).sum = (r.sup.take j).sum + x := by rw [htk, List.sum_append]; simp
              have hb1 := sum_small (r.sup.take j) 2147483648 (by decide) (fun y hy => HO.out.sup y (List.mem_of_mem_take hy))
              have hb2 := HO.out.sup x (List.mem_of_getElem? hx)
              have hle : (r.sup.take j).length ≤ 64 := by rw [List.length_take]; omega
              have hadd : IntKind.i64.wrap ((r.sup.take j).sum + x) = (r.sup.take j).sum + x := IntWalk.i64_in _ (by omega)
              have HSM := Lib.hid hsum
              clear hx htk hsum hb1 hb2 hle
              generalize (r.sup.take j).sum = SM at *
              go_wp2_with fail
              go_roundw
              case rel => exact ⟨j + 1, by omega, by go_num, by rw [HSM.out], trivial⟩
              case measure => simp [intOf]; omega
            · obtain rfl : j = r.sup.length := by omega
              rw [List.take_of_length_le (Nat.le_refl _)]
              obtain ⟨SM, hSM⟩ : ∃ SM, SM = r.sup.sum := ⟨_, rfl⟩
              rw [← hSM]
              by_cases hz : SM = 0
              · have hq2 : PIs q (⟨r.max, r.sup, r.arcs, r.es.getD 0, r.et.getD 0⟩, 0, 0) := by
                  have h : q = _ := HQF.out
                  rw [HFIN.out, if_neg (by rw [← hSM]; simpa using hz)] at h; exact h
                have HQ2 := Lib.hid hq2
                subst hz
                clear hq2 hSM hlt2 hj
                go_wp2_with fail
                have hP := HP.out.1
                have hBz := hP.put5 (.bool b1) (.slice (some ⟨sb, 0, none⟩) r.sup.length r.sup.length) (.slice A m c2) (.int .i64 i1) (.int .i64 i2)
                have hS5 := HMID.out.s.far5 (HMID.out.s.ne_ hP (by decide)) (.bool b1) (.slice (some ⟨sb, 0, none⟩) r.sup.length r.sup.length) (.slice A m c2) (.int .i64 i1) (.int .i64 i2)
                have hA5 := own_put5 HMID.out.a hP (by decide) (.bool b1) (.slice (some ⟨sb, 0, none⟩) r.sup.length r.sup.length) (.slice A m c2) (.int .i64 i1) (.int .i64 i2)
                have hKz := (((Kept.of_below H2.out.2 (fun j => j = W1.heap.size ∨ j = w.heap.size ∨ W1.heap.size + 1 ≤ j)).trans (HP.out.2.mono fun k _ h => h.elim .inl (fun h => .inr (.inr h))))).put5 (b := w.heap.size) (fun _ => .inr (.inl rfl)) (.bool b1) (.slice (some ⟨sb, 0, none⟩) r.sup.length r.sup.length) (.slice A m c2) (.int .i64 i1) (.int .i64 i2)
                have hBx := HG.out.2.2.trans (hKz.to_below (Nat.le_of_lt hw2) (fun k hk h => by rcases h with h | h | h <;> omega))
                change bodyPost _ _ _ _ _ (put5 wr w.heap.size (.bool b1) (.slice (some ⟨sb, 0, none⟩) r.sup.length r.sup.length) (.slice A m c2) (.int .i64 i1) (.int .i64 i2))
                generalize put5 wr w.heap.size (.bool b1) (.slice (some ⟨sb, 0, none⟩) r.sup.length r.sup.length) (.slice A m c2) (.int .i64 i1) (.int .i64 i2) = WF at hBz hS5 hA5 hBx ⊢
                obtain ⟨⟨d0, d1, d2, d3, d4⟩, -⟩ := hBz.five
                refine bodyPost_ret (v := .tuple #[probV b1 (some ⟨sb, 0, none⟩) r.sup.length r.sup.length A m c2 i1 i2, .int .i64 0, .int .i64 0]) (by simp [results, Tryz.results31, go_sem, d0, d1, d2, d3, d4, probV]) rfl ?_
                have hqq : q = _ := HQ2.out
                rw [hqq]
                obtain ⟨e1, e2, e4, e5, g1, g2, g3, g4⟩ := HEQ.out
                exact ⟨_, rfl, ⟨_, _, _, _, _, _, by rw [e1, g1, g2], rfl, HMM.out (by simp), Nat.le_refl _, own_cap hA5, reads_ints hS5, Reads.of_own hA5⟩, hBx⟩
              · have hq2 : PIs q (prob0, 25, 0) := by
                  have h : q = _ := HQF.out
                  rw [HFIN.out, if_pos (by rw [← hSM]; exact hz)] at h; exact h
                have HQ2 := Lib.hid hq2
                clear hq2 hSM hlt2 hj
                go_wp2_with fail
                have hP := HP.out.1
                have hBz := hP.put5 (.bool false) (.slice none 0 0) (.slice none 0 0) (.int .i64 0) (.int .i64 0)
                have hKz := (((Kept.of_below H2.out.2 (fun j => j = W1.heap.size ∨ j = w.heap.size ∨ W1.heap.size + 1 ≤ j)).trans (HP.out.2.mono fun k _ h => h.elim .inl (fun h => .inr (.inr h))))).put5 (b := w.heap.size) (fun _ => .inr (.inl rfl)) (.bool false) (.slice none 0 0) (.slice none 0 0) (.int .i64 0) (.int .i64 0)
                have hBx := HG.out.2.2.trans (hKz.to_below (Nat.le_of_lt hw2) (fun k hk h => by rcases h with h | h | h <;> omega))
                change bodyPost _ _ _ _ _ (put5 wr w.heap.size (.bool false) (.slice none 0 0) (.slice none 0 0) (.int .i64 0) (.int .i64 0))
                generalize put5 wr w.heap.size (.bool false) (.slice none 0 0) (.slice none 0 0) (.int .i64 0) (.int .i64 0) = WF at hBz hBx ⊢
                obtain ⟨⟨d0, d1, d2, d3, d4⟩, -⟩ := hBz.five
                refine bodyPost_ret (v := .tuple #[probV false none 0 0 none 0 0 0 0, .int .i64 25, .int .i64 0]) (by simp [results, Tryz.results31, go_sem, d0, d1, d2, d3, d4, probV]) rfl ?_
                have hqq : q = _ := HQ2.out
                rw [hqq]
                exact ⟨_, rfl, prob0_is _, hBx⟩
        · have hq2 : PIs q (prob0, 12, 0) := by
            have h : q = _ := HQF.out
            have hb := HBD.out
            obtain ⟨e1, e2, e4, e5, g1, g2, g3, g4⟩ := HEQ.out
            have hf : finE r = (prob0, 12) := by
              unfold finE
              by_cases hbg : b2 = true
              · by_cases hl : (m : Int) < i3
                · rw [if_pos (.inr (by rw [← HMM.out hbg, ← g3]; exact hl))]
                · rw [if_neg (by rw [not_or, ← e2, ← HMM.out hbg, ← g3]; exact ⟨by simpa using hbg, hl⟩), if_pos (by
                    rw [← e1, ← e4, ← e5]
                    have hd : decide ((m : Int) < i3) = false := by simpa using hl
                    rw [hd, hbg] at hb
                    cases b1 <;> cases b4 <;> cases b5 <;> simp at hb ⊢)]
              · rw [if_pos (.inl (by rw [← e2]; exact hbg))]
            rw [hf] at h; exact h
          have HQ2 := Lib.hid hq2
          clear hq2
          go_wp2_with fail
          have hP := HP.out.1
          have hBz := hP.put5 (.bool false) (.slice none 0 0) (.slice none 0 0) (.int .i64 0) (.int .i64 0)
          have hKz := (((Kept.of_below H2.out.2 (fun j => j = W1.heap.size ∨ j = w.heap.size ∨ W1.heap.size + 1 ≤ j)).trans (HP.out.2.mono fun k _ h => h.elim .inl (fun h => .inr (.inr h))))).put5 (b := w.heap.size) (fun _ => .inr (.inl rfl)) (.bool false) (.slice none 0 0) (.slice none 0 0) (.int .i64 0) (.int .i64 0)
          have hBx := HG.out.2.2.trans (hKz.to_below (Nat.le_of_lt hw2) (fun k hk h => by rcases h with h | h | h <;> omega))
          change bodyPost _ _ _ _ _ (put5 wc w.heap.size (.bool false) (.slice none 0 0) (.slice none 0 0) (.int .i64 0) (.int .i64 0))
          generalize put5 wc w.heap.size (.bool false) (.slice none 0 0) (.slice none 0 0) (.int .i64 0) (.int .i64 0) = WF at hBz hBx ⊢
          obtain ⟨⟨d0, d1, d2, d3, d4⟩, -⟩ := hBz.five
          refine bodyPost_ret (v := .tuple #[probV false none 0 0 none 0 0 0 0, .int .i64 12, .int .i64 0]) (by simp [results, Tryz.results31, go_sem, d0, d1, d2, d3, d4, probV]) rfl ?_
          have hqq : q = _ := HQ2.out
          rw [hqq]
          exact ⟨_, rfl, prob0_is _, hBx⟩
theorem rParse_any (s : ByteArray) (w : World) : Calls Tryz.prog 31 #[.string s] w (RParTells w (parseF s.data.toList)) := by
  by_cases hs : s.size ≤ 60000
  · exact rParse_in s hs w
  · exact rParse_long s hs w
end Go.Proofs.YtoagphighgejnaaGreatDoor
