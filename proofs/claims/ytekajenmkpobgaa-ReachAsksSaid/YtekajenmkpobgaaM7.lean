/- The law ReachOn. -/
import Derived.Test.YtekajenmkpobgaaM8
set_option linter.unusedSimpArgs false
set_option linter.unusedVariables false
namespace Go.Proofs.Ytekajenmkpobgaa
open Go.RowKit Go.Shelf

/-- where the law stands behind its first calls -/
structure NL (N m ca sb ib tb H ns cs : Nat) (A As : Option Addr) (sup : List Int) (arcs : List ArcV) (sm : List Int) (met : List Bool) (w wx : World) : Prop where
  g : InstG N w ib sb m ca A sup arcs wx
  s : wx.ownsRow H 3 1 (.slice As ns cs) ns (sm.map I)
  t : Blk wx tb 4 (bools met)
theorem NL.below {N m ca sb ib tb H ns cs : Nat} {A As : Option Addr} {sup : List Int} {arcs : List ArcV} {sm : List Int} {met : List Bool} {w wx wy : World} (h : NL N m ca sb ib tb H ns cs A As sup arcs sm met w wx) (hb : Below wx.heap.size wx wy) :
    NL N m ca sb ib tb H ns cs A As sup arcs sm met w wy := ⟨h.g.below hb, own_below h.s hb, h.t.below hb h.t.lt⟩

/-- is s a node, and marked? -/
def gB (N : Nat) (met : List Bool) (s : Int) : Bool := hasB N s && (met[s.toNat]?.getD false)
theorem gB_iff {N : Nat} {met : List Bool} {s : Int} (hl : met.length = N) : gB N met s = true ↔ hasB N s = true ∧ inS met s := by
  unfold gB inS
  rw [Bool.and_eq_true]
  constructor
  · rintro ⟨h1, h2⟩
    refine ⟨h1, ?_, ?_⟩
    · simp [hasB] at h1; exact h1.1
    · cases h3 : met[s.toNat]? with
      | none => simp [h3] at h2
      | some b => simp [h3] at h2; rw [h2]
  · rintro ⟨h1, _, h2⟩
    exact ⟨h1, by rw [h2]; rfl⟩
theorem someOf_le (es : List Int) : (someOf es).length ≤ 6 := by simp [someOf]; omega

set_option maxRecDepth 100000 in
set_option maxHeartbeats 4000000 in
theorem ReachOn_any (A D E : Option Addr) (n c nd cd ne ce B : Nat) (cs ds es : List Int) (w : World) (hr : Reads w B 1 A n (cs.map U)) (hy : Byt cs) (hd : Reads w B 1 D nd (ds.map U)) (hyd : Byt ds) (he : Reads w B 1 E ne (es.map U)) (hye : Byt es) (hB : B ≤ w.heap.size)
    (hn : n ≤ 9223372036854775807) (hnd : nd ≤ 9223372036854775807) (hne : ne ≤ 9223372036854775807) :
    Calls Try.prog 7 #[.slice A n c, .slice D nd cd, .slice E ne ce] w fun e w' => e = .returned (.bool true) ∧ Below w.heap.size w w' := by
  have hN0 := nOf_pos ds
  have hN1 := nOf_le ds
  go_enter Try.func7, Try.ntmps7
  go_wp2_with fail
  refine (Inst_any A D n c nd cd B cs ds w hr hy hd hyd hB hn hnd).mono ?_
  rintro e w1 ⟨ib, sb, m, ca, A', sup, arcs, rfl, hM⟩
  generalize nOf ds = N at *
  have hm18 := hM.m18
  have hfit := hM.fit hy hN0
  have hI2 := (hM.g.below ((Below.refl _ w1).alloc (Nat.le_refl _) (.cells #[.slice (some ⟨sb, 0, none⟩) N N, .slice A' m ca] 26))).move (Blk.new w1 26 _) hM.size
  have hlen := hI2.len
  have HFIT := Lib.hid hfit
  have HLEN := Lib.hid hlen
  clear hM hfit hlen
  go_wp2_with fail
  have hjl : w1.heap.size < (w1.alloc (.cells #[.slice (some ⟨sb, 0, none⟩) N N, .slice A' m ca] 26)).heap.size := by simp
  generalize w1.alloc (.cells #[.slice (some ⟨sb, 0, none⟩) N N, .slice A' m ca] 26) = W at *
  refine (Some_any E ne ce B es W (he.below (hI2.b.mono hB)) hye (by have := hI2.size; omega) hne).mono ?_
  rintro e w2 ⟨As, c2, rfl, hsm, hb2⟩
  have hsl := someOf_le es
  generalize hsme : someOf es = sm at *
  clear hsme
  generalize hns : sm.length = ns at *
  have HNS := Lib.hid hns
  clear hns
  have hI3 := hI2.below hb2
  have q0 := hI3.i.cell 0
  have q1 := hI3.i.cell 1
  simp only [List.getElem?_toArray, List.getElem?_cons_zero, List.getElem?_cons_succ] at q0 q1
  go_wp2_with fail
  refine (From_any _ _ N N m ca w2.heap.size sup arcs As ns c2 sm w2 (hI3.reads (by omega) (by omega)) (Nat.le_refl _) (Reads.of_own hsm) (by omega)).mono ?_
  rintro e w3 ⟨tb, met, rfl, hmt, hle3, hR, hb3⟩
  have hS : NL N m ca sb w1.heap.size tb W.heap.size ns c2 A' As sup arcs sm met w w3 := ⟨hI3.below hb3, own_below hsm hb3, hmt⟩
  have HR := Lib.hid hR
  clear hI3 hI2 hsm hmt q0 q1 hb2 hb3 hle3 hR
  have q0 := hS.g.i.cell 0
  have q1 := hS.g.i.cell 1
  simp only [List.getElem?_toArray, List.getElem?_cons_zero, List.getElem?_cons_succ] at q0 q1
  have z1 : ((N : Int) != (N : Int)) = false := by simp
  go_wp2_with fail
  go_loop [10] (fun i => ∃ k : Nat, k ≤ m ∧ i = .int .i64 k) (fun i => m - (intOf i).toNat)
  case atStart => exact ⟨0, Nat.zero_le _, rfl⟩
  case round =>
    obtain ⟨k, hk, rfl⟩ := hrel
    by_cases hlt : k < m
    · obtain ⟨x, hx⟩ : ∃ x, arcs[k]? = some x := ⟨_, List.getElem?_eq_getElem (by have := HLEN.out; omega)⟩
      have hxm := List.mem_of_getElem? hx
      have hf := HFIT.out x hxm
      obtain ⟨b, off, rfl, hb, e0, e1, -⟩ := (Reads.of_own hS.g.a).arc hx
      obtain ⟨f1, f2, f3, f4⟩ := fit_bounds hf
      obtain ⟨nf, hnf⟩ := Int.eq_ofNat_of_zero_le f1
      obtain ⟨nt, hnt⟩ := Int.eq_ofNat_of_zero_le f3
      have hstep := (Rch.one (nb0_iff.2 ⟨x, hxm, hf, hnf, hnt⟩))
      rw [hnf] at e0 f2
      rw [hnt] at e1 f4
      have hfN : nf < N := by omega
      have htN : nt < N := by omega
      obtain ⟨b1, hb1, i1⟩ := met_at HR.out.len hfN
      obtain ⟨b2, hb2, i2⟩ := met_at HR.out.len htN
      have s1 : w3.cell? ⟨tb, nf, none⟩ = some (.bool b1) := (hS.t.cell nf).trans (bools_of hb1)
      have s2 : w3.cell? ⟨tb, nt, none⟩ = some (.bool b2) := (hS.t.cell nt).trans (bools_of hb2)
      have himp : b1 = true → b2 = true := by
        rw [i1, i2, From_iff HR.out, From_iff HR.out]
        rintro ⟨s, h1, h2, h3⟩
        exact ⟨s, h1, h2, h3.trans hstep⟩
      clear hb1 hb2 i1 i2 hstep hnf hnt f1 f2 f3 f4 hf hxm hx
      cases b1
      · clear himp
        go_wp2_with fail
        go_round
        case rel => exact ⟨k + 1, by omega, by go_num⟩
        case measure => simp [intOf]; omega
      · have hb2 := himp rfl
        subst hb2
        clear himp
        go_wp2_with fail
        go_round
        case rel => exact ⟨k + 1, by omega, by go_num⟩
        case measure => simp [intOf]; omega
    · go_wp2_with fail
      go_loopw [11] (fun i wr => ∃ k : Nat, k ≤ N ∧ i = .int .i64 k ∧ NL N m ca sb w1.heap.size tb W.heap.size ns c2 A' As sup arcs sm met w wr) (fun i _ => N - (intOf i).toNat)
      case atStart => exact ⟨0, Nat.zero_le _, rfl, hS⟩
      case round =>
        clear hS q0 q1 hlt hk
        obtain ⟨v, hk, rfl, hS⟩ := hrel
        have q0 := hS.g.i.cell 0
        have q1 := hS.g.i.cell 1
        simp only [List.getElem?_toArray, List.getElem?_cons_zero, List.getElem?_cons_succ] at q0 q1
        by_cases hlt : v < N
        · have hS1 := hS.below ((Below.refl _ wr).alloc (Nat.le_refl _) (.cells #[.int .i64 (v : Int)] 3))
          have hst : Blk (wr.alloc (.cells #[.int .i64 (v : Int)] 3)) wr.heap.size 3 #[.int .i64 (v : Int)] := Blk.new _ _ _
          go_wp2_with fail
          generalize wr.alloc (.cells #[.int .i64 (v : Int)] 3) = W1 at *
          refine (To_any _ _ N N m ca W1.heap.size sup arcs _ 1 1 [(v : Int)] W1 (hS1.g.reads (by omega) (by omega)) (Nat.le_refl _) (blk_reads (xs := [.int .i64 (v : Int)]) hst hst.lt rfl) (by omega)).mono ?_
          rintro e w4 ⟨fb, met2, rfl, hmf, hle4, hR2, hb4⟩
          have hS2 := hS1.below hb4
          obtain ⟨bv, hbv, iv⟩ := met_at HR.out.len hlt
          have hall : bv = sm.any (gB N met2) := by
            rw [Bool.eq_iff_iff, iv, From_iff HR.out, List.any_eq_true]
            constructor
            · rintro ⟨s, h1, h2, h3⟩
              exact ⟨s, h1, (gB_iff hR2.len).2 ⟨h2, (To_iff hR2 s).2 ((one_start (P := fun t => Rch (nb0 N arcs) s t) hlt).2 h3)⟩⟩
            · rintro ⟨s, h1, h2⟩
              obtain ⟨h3, h4⟩ := (gB_iff hR2.len).1 h2
              exact ⟨s, h1, h3, (one_start (P := fun t => Rch (nb0 N arcs) s t) hlt).1 ((To_iff hR2 s).1 h4)⟩
          have s0 : w4.cell? ⟨tb, v, none⟩ = some (.bool bv) := (hS2.t.cell v).trans (bools_of hbv)
          have HA := Lib.hid hall
          have HR2 := Lib.hid hR2
          clear hS1 hS hst q0 q1 hle4 hb4 hbv iv hall hR2
          go_wp2_with fail
          go_loop [13, 14] (fun r i => ∃ k : Nat, k ≤ ns ∧ i = .int .i64 k ∧ r = .bool ((sm.take k).any (gB N met2))) (fun _ i => ns - (intOf i).toNat)
          case atStart => exact ⟨0, Nat.zero_le _, rfl, rfl⟩
          case round =>
            obtain ⟨k, hkk, rfl, rfl⟩ := hrel
            by_cases hlk : k < ns
            · obtain ⟨s, hs⟩ : ∃ s, sm[k]? = some s := ⟨_, List.getElem?_eq_getElem (by have := HNS.out; omega)⟩
              have HAS := Lib.hid (any_snoc sm (gB N met2) k s hs)
              cases hb : (sm.take k).any (gB N met2)
              · rw [hb] at HAS
                clear hb
                obtain ⟨b, off, u, rfl, -, hx, hcell⟩ := (Reads.of_own hS2.s).at_ hlk
                simp only [List.getElem?_map, hs, Option.map_some, Option.some.injEq] at hx
                subst hx
                unfold I at hcell
                clear hs
                by_cases hs0 : 0 ≤ s
                · obtain ⟨j, hj⟩ := Int.eq_ofNat_of_zero_le hs0
                  subst hj
                  clear hs0
                  by_cases hjN : j < N
                  · obtain ⟨b3, hb3, -⟩ := met_at HR2.out.len hjN
                    have s1 : w4.cell? ⟨fb, j, none⟩ = some (.bool b3) := (hmf.cell j).trans (bools_of hb3)
                    have hg : gB N met2 (j : Int) = b3 := by simp [gB, hb3, hasB, hjN]
                    rw [hg] at HAS
                    clear hg hb3
                    go_wp2_with fail
                    go_round
                    case rel => exact ⟨k + 1, by omega, by go_num, by rw [HAS.out]; simp⟩
                    case measure => simp [intOf]; omega
                  · have hg : gB N met2 (j : Int) = false := by simp [gB, hasB, hjN]
                    rw [hg] at HAS
                    clear hg
                    go_wp2_with fail
                    go_round
                    case rel => exact ⟨k + 1, by omega, by go_num, by rw [HAS.out]; simp⟩
                    case measure => simp [intOf]; omega
                · have hg : gB N met2 s = false := by simp [gB, hasB]; omega
                  rw [hg] at HAS
                  have c0 : decide (0 ≤ s) = false := by simpa using hs0
                  clear hg hs0
                  go_wp2_with fail
                  go_round
                  case rel => exact ⟨k + 1, by omega, by go_num, by rw [HAS.out]; simp⟩
                  case measure => simp [intOf]; omega
              · rw [hb] at HAS
                clear hb hs
                go_wp2_with fail
                go_round
                case rel => exact ⟨k + 1, by omega, by go_num, by rw [HAS.out]; simp⟩
                case measure => simp [intOf]; omega
            · have hkk2 : (sm.take k).any (gB N met2) = bv := by
                rw [List.take_of_length_le (by have := HNS.out; omega)]; exact HA.out.symm
              rw [hkk2]
              clear hkk2
              have HS2 := Lib.hid hS2
              clear hS2 hmf
              cases bv
              · go_wp2_with fail
                go_roundw
                case rel => exact ⟨v + 1, by omega, by go_num, HS2.out⟩
                case measure => simp [intOf]; omega
              · go_wp2_with fail
                go_roundw
                case rel => exact ⟨v + 1, by omega, by go_num, HS2.out⟩
                case measure => simp [intOf]; omega
        · go_wp2_with fail
          refine (known_any wr).mono ?_
          rintro e w4 ⟨rfl, hb4⟩
          go_wp2_with fail
          go_ret
          exact ⟨rfl, hS.g.b.trans (hb4.mono hS.g.size)⟩
end Go.Proofs.Ytekajenmkpobgaa
