/- The law ReachAsks. -/
import Derived.Test.YtekajenmkpobgaaF7
set_option linter.unusedSimpArgs false
set_option linter.unusedVariables false
namespace Go.Proofs.Ytekajenmkpobgaa
open Go.RowKit Go.Shelf

set_option maxHeartbeats 400000 in
theorem Size_any (A1 A2 : Option Addr) (n c1 n2 c2 : Nat) (w : World) (hn : n ≤ 100000000000000) (hn2 : n2 ≤ 100000000000000) :
    Calls Try.prog 22 #[.agg #[.slice A1 n c1, .slice A2 n2 c2]] w fun e w' => e = .returned (.int .i64 ((n : Int) + 2 * (n2 : Int))) ∧ Below w.heap.size w w' := by
  go_enter Try.func22, Try.ntmps22
  go_wp2_with fail
  go_ret
  exact ⟨rfl, (Below.refl _ w).alloc (Nat.le_refl _) _⟩

/-- while the law asks -/
structure ZL (n c1 n2 c2 B ns nc nd ne N m ca sb jb : Nat) (A1 A2 As C D E A : Option Addr) (sup : List Int) (arcs : List ArcV) (starts cs ds es : List Int) (sup2 : List Int) (arcs2 : List ArcV) (w wx : World) : Prop where
  i : Blk wx w.heap.size 26 #[.slice A1 n c1, .slice A2 n2 c2]
  r : InstR wx B A1 A2 n n2 sup arcs
  s : Reads wx B 1 As ns (starts.map I)
  c : Reads wx B 1 C nc (cs.map U)
  d : Reads wx B 1 D nd (ds.map U)
  e : Reads wx B 1 E ne (es.map U)
  g : InstG N w jb sb m ca A sup2 arcs2 wx
  hB : B ≤ w.heap.size
section
variable {n c1 n2 c2 B ns nc nd ne N m ca sb jb : Nat} {A1 A2 As C D E A : Option Addr} {sup : List Int} {arcs : List ArcV} {starts cs ds es : List Int} {sup2 : List Int} {arcs2 : List ArcV} {w wx wy : World}
theorem ZL.below (h : ZL n c1 n2 c2 B ns nc nd ne N m ca sb jb A1 A2 As C D E A sup arcs starts cs ds es sup2 arcs2 w wx) (hb : Below wx.heap.size wx wy) : ZL n c1 n2 c2 B ns nc nd ne N m ca sb jb A1 A2 As C D E A sup arcs starts cs ds es sup2 arcs2 w wy := by
  have hB : B ≤ wx.heap.size := Nat.le_trans h.hB h.g.size
  exact ⟨h.i.below hb h.i.lt, h.r.keep (hb.mono hB), h.s.below (hb.mono hB), h.c.below (hb.mono hB), h.d.below (hb.mono hB), h.e.below (hb.mono hB), h.g.below hb, h.hB⟩
theorem ZL.sz (h : ZL n c1 n2 c2 B ns nc nd ne N m ca sb jb A1 A2 As C D E A sup arcs starts cs ds es sup2 arcs2 w wx) : B ≤ wx.heap.size := Nat.le_trans h.hB h.g.size
end

set_option maxRecDepth 100000 in
set_option maxHeartbeats 8000000 in
theorem ReachAsks_any (A1 A2 As C D E : Option Addr) (n c1 n2 c2 ns cs0 nc cc nd cd ne ce B : Nat) (sup : List Int) (arcs : List ArcV) (starts cs ds es : List Int) (w : World) (hs1 : Reads w B 1 A1 n (sup.map I)) (hs2 : Reads w B 5 A2 n2 (arcCells arcs)) (hn : n ≤ 100000000000000) (hn2 : n2 ≤ 100000000000000)
    (hs : Reads w B 1 As ns (starts.map I)) (hns : ns ≤ 9223372036854775807) (hc : Reads w B 1 C nc (cs.map U)) (hyc : Byt cs) (hnc : nc ≤ 9223372036854775807) (hd : Reads w B 1 D nd (ds.map U)) (hyd : Byt ds) (hnd : nd ≤ 9223372036854775807) (he : Reads w B 1 E ne (es.map U)) (hye : Byt es) (hne : ne ≤ 9223372036854775807) (hB : B ≤ w.heap.size) :
    Calls Try.prog 6 #[.agg #[.slice A1 n c1, .slice A2 n2 c2], .slice As ns cs0, .slice C nc cc, .slice D nd cd, .slice E ne ce] w fun e w' => e = .returned (.bool true) ∧ Below w.heap.size w w' := by
  have hbx : Blk (w.alloc (.cells #[.slice A1 n c1, .slice A2 n2 c2] 26)) w.heap.size 26 #[.slice A1 n c1, .slice A2 n2 c2] := Blk.new _ _ _
  have hb0 : Below w.heap.size w (w.alloc (.cells #[.slice A1 n c1, .slice A2 n2 c2] 26)) := (Below.refl _ w).alloc (Nat.le_refl _) _
  go_enter Try.func6, Try.ntmps6
  go_wp2_with fail
  generalize w.alloc (.cells #[.slice A1 n c1, .slice A2 n2 c2] 26) = W at *
  refine (Size_any A1 A2 n c1 n2 c2 W hn hn2).mono ?_
  rintro e w1 ⟨rfl, hb1⟩
  have hbw1 : Below w.heap.size w w1 := hb0.trans (hb1.mono hb0.size)
  have hbx1 := hbx.below hb1 hbx.lt
  clear hbx hb0 hb1
  by_cases h120 : n + 2 * n2 ≤ 120
  · have d1 : decide ((120 : Int) < (n : Int) + 2 * (n2 : Int)) = false := by simp; omega
    by_cases h40 : ns ≤ 40
    · have d2 : decide ((40 : Int) < (ns : Int)) = false := by simp; omega
      have d3 : decide (40 < ns) = false := by simp; omega
      go_wp2_with fail
      refine (known_any w1).mono ?_
      rintro e w2 ⟨rfl, hb2⟩
      have hbw2 : Below w.heap.size w w2 := hbw1.trans (hb2.mono hbw1.size)
      have hbx2 := hbx1.below hb2 hbx1.lt
      have hsz2 := hbw2.size
      clear hbx1 hbw1 hb2
      go_wp2_with fail
      refine (Inst_any C D nc cc nd cd B cs ds w2 (hc.below (hbw2.mono hB)) hyc (hd.below (hbw2.mono hB)) hyd (by omega) hnc hnd).mono ?_
      rintro e w3 ⟨ib, sb, m, ca, A', sup2, arcs2, rfl, hM⟩
      have hN1 := nOf_le ds
      have hm18 := hM.m18
      have HFO := Lib.hid (fun (X : World) (hb : Below w.heap.size w X) => Forth_any C D nc cc nd cd B cs ds X (hc.below (hb.mono hB)) hyc (hd.below (hb.mono hB)) hyd (Nat.le_trans hB hb.size) hnc hnd)
      generalize nOf ds = N at *
      have hbw3 : Below w.heap.size w w3 := hbw2.trans (hM.b.mono hsz2)
      have hG3 : InstG N w ib sb m ca A' sup2 arcs2 w3 := ⟨hM.i, hM.s, hM.sl, own_mono hM.a hsz2, hbw3, by have := hM.l1; omega, by have := hM.l2; omega⟩
      have hG4 := (hG3.below ((Below.refl _ w3).alloc (Nat.le_refl _) (.cells #[.slice (some ⟨sb, 0, none⟩) N N, .slice A' m ca] 26))).move (Blk.new w3 26 _) hbw3.size
      have hbx4 := (hbx2.below hM.b hbx2.lt).alloc (.cells #[.slice (some ⟨sb, 0, none⟩) N N, .slice A' m ca] 26)
      clear hM hG3
      go_wp2_with fail
      generalize w3.alloc (.cells #[.slice (some ⟨sb, 0, none⟩) N N, .slice A' m ca] 26) = W3 at *
      have hT : ZL n c1 n2 c2 B ns nc nd ne N m ca sb w3.heap.size A1 A2 As C D E A' sup arcs starts cs ds es sup2 arcs2 w W3 :=
        ⟨hbx4, ⟨hs1.below (hG4.b.mono hB), hs2.below (hG4.b.mono hB), by omega, by omega⟩, hs.below (hG4.b.mono hB), hc.below (hG4.b.mono hB), hd.below (hG4.b.mono hB), he.below (hG4.b.mono hB), hG4, hB⟩
      have HT := Lib.hid hT
      have q0 := hT.i.cell 0
      have q1 := hT.i.cell 1
      have q2 := hT.g.i.cell 0
      have q3 := hT.g.i.cell 1
      simp only [List.getElem?_toArray, List.getElem?_cons_zero, List.getElem?_cons_succ] at q0 q1 q2 q3
      have hsl := someOf_le es
      have HSM := Lib.hid (fun (X : World) (hb : Below w.heap.size w X) => Some_any E ne ce B es X (he.below (hb.mono hB)) hye (Nat.le_trans hB hb.size) hne)
      generalize someOf es = sm at *
      obtain ⟨nsm, hnsm⟩ : ∃ k, k = sm.length := ⟨_, rfl⟩
      rw [← hnsm] at HSM hsl
      clear hnsm hT hbx4 hG4 hbx2 hbw3
      go_wp2_with fail
      have hT := HT.out.below (Below.refl _ W3).drew
      go_region_held3 (fun w' => w'.cell? ⟨w.heap.size, 0, none⟩ = some (.slice A1 n c1) ∧ w'.cell? ⟨w.heap.size, 1, none⟩ = some (.slice A2 n2 c2) ∧ w'.cell? ⟨w3.heap.size, 0, none⟩ = some (.slice (some ⟨sb, 0, none⟩) N N) ∧ w'.cell? ⟨w3.heap.size, 1, none⟩ = some (.slice A' m ca)) (first | go_keep | exact ⟨k1, k2, k3, k4⟩)
        (first
          | (go_at_call 23; first
              | ((with_reducible refine (asks_any A1 A2 n c1 n2 c2 B sup arcs As ns cs0 starts _ hT.r hT.sz hT.s (by omega)).mono ?_); rintro e wn ⟨rfl, hb⟩; have hT := hT.below hb; have k1 := hT.i.cell 0; have k2 := hT.i.cell 1; have k3 := hT.g.i.cell 0; have k4 := hT.g.i.cell 1)
              | ((with_reducible refine (asks_any (some ⟨sb, 0, none⟩) A' N N m ca _ sup2 arcs2 As ns cs0 starts _ (hT.g.reads (by omega) (by omega)) (Nat.le_refl _) (hT.s.more hT.sz) (by omega)).mono ?_); rintro e wn ⟨rfl, hb⟩; have hT := hT.below hb; have k1 := hT.i.cell 0; have k2 := hT.i.cell 1; have k3 := hT.g.i.cell 0; have k4 := hT.g.i.cell 1)
              | ((with_reducible refine (asks_any (some ⟨sb, 0, none⟩) A' N N m ca _ sup2 arcs2 Asm nsm csm sm _ (hT.g.reads (by omega) (by omega)) (Nat.le_refl _) hsmr (by omega)).mono ?_); rintro e wn ⟨rfl, hb⟩; have hT := hT.below hb; have k1 := hT.i.cell 0; have k2 := hT.i.cell 1; have k3 := hT.g.i.cell 0; have k4 := hT.g.i.cell 1)
              | ((with_reducible refine (asks_any (some ⟨sbF, 0, none⟩) AF N N mF caF _ supF arcsF Asm nsm csm sm _ (hF.reads (by omega) (by omega)) (Nat.le_refl _) hsmr (by omega)).mono ?_); rintro e wn ⟨rfl, hb⟩; have hT := hT.below hb; have k1 := hT.i.cell 0; have k2 := hT.i.cell 1; have k3 := hT.g.i.cell 0; have k4 := hT.g.i.cell 1))
          | (go_at_call 10; refine (HFO.out _ hT.g.b).mono ?_; rintro e wn ⟨ibF, sbF, mF, caF, AF, supF, arcsF, rfl, hF, hmF, -⟩; have hT := hT.below hF.b; have k1 := hT.i.cell 0; have k2 := hT.i.cell 1; have k3 := hT.g.i.cell 0; have k4 := hT.g.i.cell 1)
          | (go_at_call 16; refine (HSM.out _ hT.g.b).mono ?_; rintro e wn ⟨Asm, csm, rfl, hsmo, hb⟩; have hT := hT.below hb; have hsmr := Reads.of_own hsmo; (try have hF := hF.below hb); have k1 := hT.i.cell 0; have k2 := hT.i.cell 1; have k3 := hT.g.i.cell 0; have k4 := hT.g.i.cell 1))
      go_wp2_with fail
      go_ret
      exact ⟨rfl, hT.g.b⟩
    · have d2 : decide ((40 : Int) < (ns : Int)) = true := by simp; omega
      have d3 : decide (40 < ns) = true := by simp; omega
      go_wp2_with fail
      refine (known_any w1).mono ?_
      rintro e w2 ⟨rfl, hb2⟩
      go_wp2_with fail
      go_ret
      exact ⟨rfl, hbw1.trans (hb2.mono hbw1.size)⟩
  · have d1 : decide ((120 : Int) < (n : Int) + 2 * (n2 : Int)) = true := by simp; omega
    go_wp2_with fail
    refine (known_any w1).mono ?_
    rintro e w2 ⟨rfl, hb2⟩
    go_wp2_with fail
    go_ret
    exact ⟨rfl, hbw1.trans (hb2.mono hbw1.size)⟩
end Go.Proofs.Ytekajenmkpobgaa
