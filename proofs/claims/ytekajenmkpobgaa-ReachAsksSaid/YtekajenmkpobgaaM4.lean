/- The law ReachMore. -/
import Derived.Test.YtekajenmkpobgaaM7
set_option linter.unusedSimpArgs false
set_option linter.unusedVariables false
namespace Go.Proofs.Ytekajenmkpobgaa
open Go.RowKit Go.Shelf

theorem fit_ft {N : Nat} {x y : ArcV} (h : x.ft = y.ft) : fitB N x = fitB N y := by
  unfold ArcV.ft at h
  injection h with h1 h2
  unfold fitB
  rw [h1, h2]
theorem nb0_ft {N : Nat} {arcs arcs' : List ArcV} (h : arcs.map ArcV.ft = arcs'.map ArcV.ft) {u v : Int} (hv : v ∈ nb0 N arcs u) : v ∈ nb0 N arcs' u := by
  obtain ⟨x, hx, hf, h1, h2⟩ := nb0_iff.1 hv
  have hm : x.ft ∈ arcs'.map ArcV.ft := by rw [← h]; exact List.mem_map_of_mem hx
  obtain ⟨y, hy, e⟩ := List.mem_map.1 hm
  refine nb0_iff.2 ⟨y, hy, by rw [fit_ft e]; exact hf, ?_, ?_⟩
  · unfold ArcV.ft at e; injection e with e1 e2; rw [e1, h1]
  · unfold ArcV.ft at e; injection e with e1 e2; rw [e2, h2]
theorem Rch_ft {N : Nat} {arcs arcs' : List ArcV} (h : arcs.map ArcV.ft = arcs'.map ArcV.ft) (u v : Int) : Rch (nb0 N arcs) u v ↔ Rch (nb0 N arcs') u v :=
  ⟨Rch.sub (fun _ _ => nb0_ft h), Rch.sub (fun _ _ => nb0_ft h.symm)⟩
theorem map_set_ft {arcs : List ArcV} {k : Nat} {x y : ArcV} (hx : arcs[k]? = some x) (h : y.ft = x.ft) : (arcs.set k y).map ArcV.ft = arcs.map ArcV.ft := by
  rw [List.map_set]
  apply List.ext_getElem?
  intro i
  by_cases e : k = i
  · subst e
    rw [List.getElem?_set_self (by simpa using lt_of_at' hx), List.getElem?_map, hx, h]; rfl
  · rw [List.getElem?_set_ne e]

/-- the nodes that are marked, as they come -/
def agOf (met : List Bool) (k : Nat) : List Int := ((List.range k).filter fun i => met[i]?.getD false).map fun i : Nat => (i : Int)
theorem agOf_snoc (met : List Bool) (k : Nat) {b : Bool} (h : met[k]? = some b) : agOf met (k + 1) = if b then agOf met k ++ [(k : Int)] else agOf met k := by
  unfold agOf
  rw [List.range_succ, List.filter_append, List.map_append]
  cases b <;> simp [h]
theorem agOf_len (met : List Bool) (k : Nat) : (agOf met k).length ≤ k := by
  unfold agOf
  rw [List.length_map]
  exact Nat.le_trans (List.length_filter_le _ _) (by simp)
theorem agOf_mem {met : List Bool} {N : Nat} (hl : met.length = N) {v : Int} : v ∈ agOf met N ↔ inS met v := by
  unfold agOf inS
  rw [List.mem_map]
  constructor
  · rintro ⟨i, hi, rfl⟩
    rw [List.mem_filter] at hi
    refine ⟨by omega, ?_⟩
    simp only [Int.toNat_natCast]
    have h2 := hi.2
    cases h3 : met[i]? with
    | none => simp [h3] at h2
    | some b => simp [h3] at h2; rw [h2]
  · rintro ⟨h1, h2⟩
    have h3 := lt_of_at' h2
    exact ⟨v.toNat, by rw [List.mem_filter, List.mem_range]; exact ⟨by omega, by rw [h2]; rfl⟩, by omega⟩
/-- from what is come to, nothing more -/
theorem again_same {N : Nat} {arcs : List ArcV} {st : List Int} {met met3 : List Bool} (h : RInv N (nbW N arcs 0) st met []) (h3 : RInv N (nbW N arcs 0) (agOf met N) met3 []) : met3 = met := by
  refine met_ext h3.len h.len fun v hv => ?_
  rw [From_iff h3]
  constructor
  · rintro ⟨s, h1, h2, hr⟩
    obtain ⟨t, g1, g2, g3⟩ := (From_iff h s).1 ((agOf_mem h.len).1 h1)
    exact (From_iff h v).2 ⟨t, g1, g2, g3.trans hr⟩
  · intro hi
    exact ⟨v, (agOf_mem h.len).2 hi, hv, Rch.refl _ _⟩
theorem other_same {N : Nat} {arcs arcs' : List ArcV} {st : List Int} {met met' : List Bool} (hft : arcs.map ArcV.ft = arcs'.map ArcV.ft) (h : RInv N (nbW N arcs 0) st met []) (h' : RInv N (nbW N arcs' 0) st met' []) : met' = met := by
  refine met_ext h'.len h.len fun v hv => ?_
  rw [From_iff h', From_iff h]
  constructor
  · rintro ⟨s, h1, h2, hr⟩; exact ⟨s, h1, h2, (Rch_ft hft s v).2 hr⟩
  · rintro ⟨s, h1, h2, hr⟩; exact ⟨s, h1, h2, (Rch_ft hft s v).1 hr⟩
theorem more_sub {N : Nat} {arcs : List ArcV} {a b : List Int} {met met' : List Bool} (h : RInv N (nbW N arcs 0) a met []) (h' : RInv N (nbW N arcs 0) (a ++ b) met' []) {v : Int} (hv : inS met v) : inS met' v := by
  obtain ⟨s, h1, h2, h3⟩ := (From_iff h v).1 hv
  exact (From_iff h' v).2 ⟨s, List.mem_append_left _ h1, h2, h3⟩

/-- two marks that are the same -/
theorem bools_same {w : World} {a b n n' : Nat} {l l' : List Bool} (ha : Blk w a 4 (bools l)) (hb : Blk w b 4 (bools l')) (h : l = l') (hl : l.length = n) (hl' : l'.length = n') (hn : n ≤ 1000) :
    Calls Try.prog 18 #[.slice (some ⟨a, 0, none⟩) n n, .slice (some ⟨b, 0, none⟩) n' n'] w fun e w' => e = .returned (.bool true) ∧ ∃ k, w' = w.drewN k := by
  subst h
  refine (Bools_any _ _ n n n' n' w.heap.size w.heap.size l l w (blk_reads ha ha.lt (by simpa using hl)) (blk_reads hb hb.lt (by simpa using hl')) (by omega)).mono ?_
  rintro e w' ⟨rfl, h⟩
  exact ⟨by simp, h⟩
theorem ints_same {w : World} {a b n n' : Nat} {l l' : List Int} (ha : Blk w a 3 (ints l)) (hb : Blk w b 3 (ints l')) (h : l = l') (hl : l.length = n) (hl' : l'.length = n') (hn : n ≤ 1000) :
    Calls Try.prog 20 #[.slice (some ⟨a, 0, none⟩) n n, .slice (some ⟨b, 0, none⟩) n' n'] w fun e w' => e = .returned (.bool true) ∧ ∃ k, w' = w.drewN k := by
  subst h
  refine (Ints_any _ _ n n n' n' w.heap.size w.heap.size l l w (blk_reads ha ha.lt (by simpa using hl)) (blk_reads hb hb.lt (by simpa using hl')) (by omega)).mono ?_
  rintro e w' ⟨rfl, h⟩
  exact ⟨by simp, h⟩
structure QA (N m ca sb ib na cA : Nat) (A As : Option Addr) (sup : List Int) (arcs : List ArcV) (sa : List Int) (w wx : World) : Prop where
  g : InstG N w ib sb m ca A sup arcs wx
  a : wx.ownsRow w.heap.size 3 1 (.slice As na cA) na (sa.map I)
theorem QA.below {N m ca sb ib na cA : Nat} {A As : Option Addr} {sup : List Int} {arcs : List ArcV} {sa : List Int} {w wx wy : World} (h : QA N m ca sb ib na cA A As sup arcs sa w wx) (hb : Below wx.heap.size wx wy) : QA N m ca sb ib na cA A As sup arcs sa w wy :=
  ⟨h.g.below hb, own_below h.a hb⟩
structure QC (N m ca sb ib nl cl t1 t2 : Nat) (A Al : Option Addr) (sup : List Int) (arcs : List ArcV) (al : List Int) (met1 met2 : List Bool) (w wx : World) : Prop where
  g : InstG N w ib sb m ca A sup arcs wx
  l : wx.ownsRow w.heap.size 3 1 (.slice Al nl cl) nl (al.map I)
  t1 : Blk wx t1 4 (bools met1)
  t2 : Blk wx t2 4 (bools met2)
theorem QC.below {N m ca sb ib nl cl t1 t2 : Nat} {A Al : Option Addr} {sup : List Int} {arcs : List ArcV} {al : List Int} {met1 met2 : List Bool} {w wx wy : World} (h : QC N m ca sb ib nl cl t1 t2 A Al sup arcs al met1 met2 w wx) (hb : Below wx.heap.size wx wy) :
    QC N m ca sb ib nl cl t1 t2 A Al sup arcs al met1 met2 w wy := ⟨h.g.below hb, own_below h.l hb, h.t1.below hb h.t1.lt, h.t2.below hb h.t2.lt⟩

set_option maxRecDepth 100000 in
set_option maxHeartbeats 4000000 in
theorem ReachMore_any (A D E F : Option Addr) (n c nd cd ne ce nf cf B : Nat) (cs ds es fs : List Int) (w : World) (hr : Reads w B 1 A n (cs.map U)) (hy : Byt cs) (hd : Reads w B 1 D nd (ds.map U)) (hyd : Byt ds) (he : Reads w B 1 E ne (es.map U)) (hye : Byt es)
    (hf : Reads w B 1 F nf (fs.map U)) (hyf : Byt fs) (hB : B ≤ w.heap.size) (hn : n ≤ 9223372036854775807) (hnd : nd ≤ 9223372036854775807) (hne : ne ≤ 9223372036854775807) (hnf : nf ≤ 9223372036854775807) :
    Calls Try.prog 4 #[.slice A n c, .slice D nd cd, .slice E ne ce, .slice F nf cf] w fun e w' => e = .returned (.bool true) ∧ Below w.heap.size w w' := by
  have hN0 := nOf_pos ds
  have hN1 := nOf_le ds
  have HINST := Lib.hid (fun (W : World) (hb : Below w.heap.size w W) => Inst_any A D n c nd cd B cs ds W (hr.below (hb.mono hB)) hy (hd.below (hb.mono hB)) hyd (Nat.le_trans hB hb.size) hn hnd)
  obtain ⟨i0, hi, hz0, hz1, hz2⟩ := info_parts Try.info3
  go_enter Try.func4, Try.ntmps4
  go_wp2_with fail
  refine (HINST.out w (Below.refl _ _)).mono ?_
  rintro e w1 ⟨ib, sb, m, ca, A', sup, arcs, rfl, hM⟩
  generalize nOf ds = N at *
  have hm18 := hM.m18
  have hft := hM.ft
  have hI2 := (hM.g.below ((Below.refl _ w1).alloc (Nat.le_refl _) (.cells #[.slice (some ⟨sb, 0, none⟩) N N, .slice A' m ca] 26))).move (Blk.new w1 26 _) hM.size
  have HFT := Lib.hid hft
  clear hM hft
  go_wp2_with fail
  generalize w1.alloc (.cells #[.slice (some ⟨sb, 0, none⟩) N N, .slice A' m ca] 26) = W at *
  have hsW := hI2.size
  have hse := someOf_le es
  have hsf := someOf_le fs
  refine (Some_any E ne ce B es W (he.below (hI2.b.mono hB)) hye (by omega) hne).mono ?_
  rintro e w2 ⟨As, cA, rfl, hsm, hb2⟩
  have hQ2 : QA N m ca sb w1.heap.size (someOf es).length cA A' As sup arcs (someOf es) w w2 := ⟨hI2.below hb2, own_mono hsm hsW⟩
  have hs2 := hb2.size
  clear hsm hI2 hb2
  go_wp2_with fail
  refine (Some_any E ne ce B es w2 (he.below (hQ2.g.b.mono hB)) hye (by omega) hne).mono ?_
  rintro e w3 ⟨Al0, cl0, rfl, hl3, hb3⟩
  have hQ3 := hQ2.below hb3
  have hs3 := hb3.size
  go_wp2_with fail
  refine (Some_any F nf cf B fs w3 (hf.below (hQ3.g.b.mono hB)) hyf (by omega) hnf).mono ?_
  rintro e w4 ⟨Af, cf4, rfl, hf4, hb4⟩
  have hl4 := own_below hl3 hb4
  have hs4 := hb4.size
  have hb24 : Below w2.heap.size w2 w4 := hb3.trans (hb4.mono hs3)
  clear hl3 hQ3 hb3 hb4
  generalize someOf es = sa at *
  generalize someOf fs = sf at *
  obtain ⟨na, hna⟩ : ∃ na, na = sa.length := ⟨_, rfl⟩
  obtain ⟨nf', hnf'⟩ : ∃ nf', nf' = sf.length := ⟨_, rfl⟩
  rw [← hna] at hl4 hQ2 hse ⊢
  rw [← hnf'] at hf4 hsf ⊢
  have HNA := Lib.hid (And.intro hna hnf')
  clear hna hnf'
  go_wp2_with (at_builtin; refine wpList_append_any _ rfl (.tmp 25) (.tmp 27) _ rfl w2.heap.size 3 i0 _ 1 8 Try.underlying28 hi hz0 hz1 hz2 rfl (by omega) (.slice Al0 na cl0) na (sa.map I) rfl hl4 w4.heap.size Af nf' cf4 (sf.map I) rfl (Reads.of_own hf4) ?c2 ?c3 ?c4 ?c5 ?_)
  case c2 => intro u hu; obtain ⟨x, -, rfl⟩ := List.mem_map.1 hu; rfl
  case c3 => unfold maxLen; omega
  case c4 => omega
  case c5 => omega
  intro v' w5 hown hg5 hat
  have hb45 : Below w2.heap.size w4 w5 := (Below.refl _ w4).grown hg5 (by omega) (fun j hj => (hl4.lt j hj).1)
  have hQ5 := hQ2.below (hb24.trans hb45)
  obtain ⟨Al, cl, rfl⟩ := own_form hown
  rw [← List.map_append] at hown
  have hlen5 : na + nf' ≤ 12 := by omega
  generalize hnl : na + nf' = nl at *
  have HAL := Lib.hid (show sa.length + sf.length = nl by have := HNA.out; omega)
  have hl5 := own_mono hown hQ2.g.size
  have hs5 := hg5.size
  have q0 := hQ5.g.i.cell 0
  have q1 := hQ5.g.i.cell 1
  simp only [List.getElem?_toArray, List.getElem?_cons_zero, List.getElem?_cons_succ] at q0 q1
  clear hown hg5 hat hl4 hf4 hb24 hb45 hQ2 hnl
  go_wp2_with fail
  refine (From_any _ _ N N m ca w5.heap.size sup arcs As na cA sa w5 (hQ5.g.reads (by omega) (by omega)) (Nat.le_refl _) (Reads.of_own hQ5.a) (by omega)).mono ?_
  rintro e w6 ⟨t1, met1, rfl, hm1, hle6, hR1, hb6⟩
  have hI6 := hQ5.g.below hb6
  have hl6 := own_below hl5 hb6
  clear q0 q1 hQ5 hl5
  have q0 := hI6.i.cell 0
  have q1 := hI6.i.cell 1
  simp only [List.getElem?_toArray, List.getElem?_cons_zero, List.getElem?_cons_succ] at q0 q1
  go_wp2_with fail
  refine (From_any _ _ N N m ca w6.heap.size sup arcs Al nl cl (sa ++ sf) w6 (hI6.reads (by omega) (by omega)) (Nat.le_refl _) (Reads.of_own hl6) (by omega)).mono ?_
  rintro e w7 ⟨t2, met2, rfl, hm2, hle7, hR2, hb7⟩
  have hQ7 : QC N m ca sb w1.heap.size nl cl t1 t2 A' Al sup arcs (sa ++ sf) met1 met2 w w7 := ⟨hI6.below hb7, own_below hl6 hb7, hm1.below hb7 hm1.lt, hm2⟩
  have HR := Lib.hid (And.intro hR1 hR2)
  have hs67 := hb7.size
  have hs56 := hb6.size
  clear q0 q1 hI6 hl6 hR1 hR2 hm1 hm2 hb6 hb7 hle6 hle7
  go_wp2_with fail
  go_loopw [14, 15] (fun v i wr => ∃ k : Nat, k ≤ N ∧ i = .int .i64 k ∧ wr.ownsRow w7.heap.size 3 1 v (agOf met2 k).length ((agOf met2 k).map I) ∧ Below w7.heap.size w7 wr) (fun _ i _ => N - (intOf i).toNat)
  case atStart => exact ⟨0, Nat.zero_le _, rfl, World.ownsRow_nil _ _ _ _, Below.refl _ _⟩
  case round =>
    obtain ⟨k, hk, rfl, hown, hbw⟩ := hrel
    have hQr := hQ7.below hbw
    have hsz := hbw.size
    have hal := agOf_len met2 k
    by_cases hlt : k < N
    · obtain ⟨b1, hb1, j1⟩ := met_at HR.out.1.len hlt
      obtain ⟨b2, hb2, j2⟩ := met_at HR.out.2.len hlt
      have himp : b1 = true → b2 = true := by
        rw [j1, j2]; exact more_sub HR.out.1 HR.out.2
      have s1 : wr.cell? ⟨t1, k, none⟩ = some (.bool b1) := (hQr.t1.cell k).trans (bools_of hb1)
      have s2 : wr.cell? ⟨t2, k, none⟩ = some (.bool b2) := (hQr.t2.cell k).trans (bools_of hb2)
      have HAG := Lib.hid (agOf_snoc met2 k hb2)
      have HB := Lib.hid (And.intro hb1 hb2)
      clear hb1 hb2 j1 j2
      cases b2
      · have hb1 : b1 = false := by
          cases b1 with
          | false => rfl
          | true => exact absurd (himp rfl) (by simp)
        subst hb1
        clear himp
        go_wp2_with fail
        go_roundw
        case rel =>
          refine ⟨k + 1, by omega, by go_num, ?_, hbw⟩
          rw [HAG.out]; exact hown
        case measure => simp [intOf]; omega
      · clear himp
        go_wp2_with (at_builtin; refine wpList_append_own _ rfl _ _ 28 rfl w7.heap.size 3 i0 (.int .i64 0) 1 8 Try.underlying28 hi hz0 hz1 hz2 rfl (by decide) _ _ _ rfl (hown.alloc _) ⟨wr.heap.size, 0, none⟩ 1 1 [.int .i64 (k : Int)] rfl rfl ?d1 ?d2 ?d3 ?d4 ?d5 ?_)
        case d2 => simp [Value.oneCell']
        case d3 => unfold maxLen; omega
        case d4 => omega
        case d5 => omega
        intro v' w8 hown' hgrow _
        have hb8 : Below w7.heap.size w7 w8 := (hbw.alloc hsz _).grown hgrow (by simp; omega) (fun j hj => (hown.lt j hj).1)
        have hQ8 := hQ7.below hb8
        have r1 : w8.cell? ⟨t1, k, none⟩ = some (.bool b1) := (hQ8.t1.cell k).trans (bools_of HB.out.1)
        have r2 : w8.cell? ⟨t2, k, none⟩ = some (.bool true) := (hQ8.t2.cell k).trans (bools_of HB.out.2)
        have hown2 : w8.ownsRow w7.heap.size 3 1 v' (agOf met2 (k + 1)).length ((agOf met2 (k + 1)).map I) := by
          rw [HAG.out]
          simpa [I] using hown'
        clear hown' hgrow s1 s2
        cases b1
        · go_wp2_with fail
          go_roundw
          case rel => exact ⟨k + 1, by omega, by go_num, hown2, hb8⟩
          case measure => simp [intOf]; omega
        · go_wp2_with fail
          go_roundw
          case rel => exact ⟨k + 1, by omega, by go_num, hown2, hb8⟩
          case measure => simp [intOf]; omega
    · have hkN : k = N := by omega
      subst hkN
      obtain ⟨Ag, cg, hag⟩ := own_form hown
      subst hag
      obtain ⟨ng, hng⟩ : ∃ ng, ng = (agOf met2 k).length := ⟨_, rfl⟩
      rw [← hng] at hown hal ⊢
      clear hng
      go_wp2_with fail
      refine (HINST.out wr hQr.g.b).mono ?_
      rintro e w8 ⟨ib8, sb8, m8, ca8, A8, sup8, arcs8, rfl, hM8⟩
      have hm8 := hM8.m18
      have hft8 := hM8.ft
      have hI8 := (hM8.g.below ((Below.refl _ w8).alloc (Nat.le_refl _) (.cells #[.slice (some ⟨sb8, 0, none⟩) k k, .slice A8 m8 ca8] 26))).move (Blk.new w8 26 _) hM8.size
      clear hM8 hlt
      go_wp2_with fail
      generalize w8.alloc (.cells #[.slice (some ⟨sb8, 0, none⟩) k k, .slice A8 m8 ca8] 26) = W8 at *
      go_loopw [17] (fun i wx => ∃ (j : Nat) (arcs' : List ArcV), j ≤ m8 ∧ i = .int .i64 j ∧ InstG k wr w8.heap.size sb8 m8 ca8 A8 sup8 arcs' wx ∧ arcs'.map ArcV.ft = ftOf k cs) (fun i _ => m8 - (intOf i).toNat)
      case atStart => exact ⟨0, arcs8, Nat.zero_le _, rfl, hI8, hft8⟩
      case round =>
        clear hI8 hft8
        obtain ⟨j, arcs', hj, rfl, hI, hft'⟩ := hrel
        have HF' := Lib.hid hft'
        clear hft'
        have q1 := hI.i.cell 1
        simp only [List.getElem?_toArray, List.getElem?_cons_zero, List.getElem?_cons_succ] at q1
        by_cases hlt : j < m8
        · obtain ⟨x, hx⟩ : ∃ x, arcs'[j]? = some x := ⟨_, List.getElem?_eq_getElem (by rw [hI.len]; exact hlt)⟩
          obtain ⟨b, off, rfl, hb, -, -, -, e3, e4⟩ := (Reads.of_own hI.a).arc hx
          have hoff := own_zero hI.a
          subst hoff
          simp only [Nat.zero_add] at e3 e4
          have z3 := own_frozen hI.a (j * 5 + 3)
          have z4 := own_frozen hI.a (j * 5 + 4)
          have nbi : ¬ b = w8.heap.size := fun e => own_blk_ne hI.a hI.i (by decide) (by rw [← e]; rfl)
          have nib : ¬ w8.heap.size = b := fun e => nbi e.symm
          have h1 := hI.set5 j 3 x { x with cap := 0 } hx (by omega) (.int .i64 0) rfl
          have h2 := h1.set5 j 4 { x with cap := 0 } { x with cap := 0, cost := 1 } (List.getElem?_set_self (lt_of_at' hx)) (by omega) (.int .i64 1) rfl
          have hft2 : (((arcs'.set j { x with cap := 0 }).set j { x with cap := 0, cost := 1 })).map ArcV.ft = ftOf k cs := by
            rw [List.set_set]; exact (map_set_ft hx (y := { x with cap := 0, cost := 1 }) rfl).trans HF'.out
          have HH := Lib.hid (And.intro h2 hft2)
          clear h1 h2 hft2 hI hx
          go_wp2_with fail
          go_roundw
          case rel => exact ⟨j + 1, _, by omega, by go_num, HH.out.1, HH.out.2⟩
          case measure => simp [intOf]; omega
        · have hQx := hQr.below hI.b
          have hox := own_below hown hI.b
          have HQX := Lib.hid (And.intro hQx (And.intro hox hI))
          clear hQx hox hI
          go_wp2_with fail
          refine (known_any _).mono ?_
          rintro e w9 ⟨rfl, hb9⟩
          have hQ9 := HQX.out.1.below hb9
          have hox9 := own_below HQX.out.2.1 hb9
          have hI9 := HQX.out.2.2.below hb9
          clear q1
          have q0 := hQ9.g.i.cell 0
          have q1 := hQ9.g.i.cell 1
          simp only [List.getElem?_toArray, List.getElem?_cons_zero, List.getElem?_cons_succ] at q0 q1
          have z1 : ((k : Int) == (k : Int)) = true := by simp
          go_wp2_with fail
          refine (From_any _ _ k k m ca w9.heap.size sup arcs Ag ng cg (agOf met2 k) w9 (hQ9.g.reads (by omega) (by omega)) (Nat.le_refl _) (Reads.of_own hox9) (by omega)).mono ?_
          rintro e w10 ⟨t3, met3, rfl, hm3, -, hR3, hb10⟩
          have e3 := again_same HR.out.2 hR3
          have hl3 := hR3.len
          have hQ10 := hQ9.below hb10
          have hI10 := hI9.below hb10
          have HE := Lib.hid (And.intro e3 hl3)
          clear e3 hR3 q0 q1 hl3
          go_wp2_with fail
          refine (bools_same hm3 hQ10.t2 HE.out.1 HE.out.2 HR.out.2.len (by omega)).mono ?_
          rintro e w11 ⟨rfl, q, rfl⟩
          have hQ11 : QC k m ca sb w1.heap.size nl cl t1 t2 A' Al sup arcs (sa ++ sf) met1 met2 w (w10.drewN q) := hQ10.below (below_dN _ _)
          have hI11 : InstG k _ w8.heap.size sb8 m8 ca8 A8 sup8 arcs' (w10.drewN q) := hI10.below (below_dN _ _)
          generalize w10.drewN q = w11 at *
          have q0 := hI11.i.cell 0
          have q1 := hI11.i.cell 1
          simp only [List.getElem?_toArray, List.getElem?_cons_zero, List.getElem?_cons_succ] at q0 q1
          clear hQ10 hI10 hQ9 hI9 hm3
          go_wp2_with fail
          refine (From_any _ _ k k m8 ca8 w11.heap.size sup8 arcs' Al nl cl (sa ++ sf) w11 (hI11.reads (by omega) (by omega)) (Nat.le_refl _) (Reads.of_own hQ11.l) (by omega)).mono ?_
          rintro e w12 ⟨t4, met4, rfl, hm4, -, hR4, hb12⟩
          have e4 := other_same (HFT.out.trans HF'.out.symm) HR.out.2 hR4
          have hl4 := hR4.len
          have hQ12 := hQ11.below hb12
          have HE4 := Lib.hid (And.intro e4 hl4)
          clear e4 hR4 q0 q1 hl4
          go_wp2_with fail
          refine (bools_same hm4 hQ12.t2 HE4.out.1 HE4.out.2 HR.out.2.len (by omega)).mono ?_
          rintro e w13 ⟨rfl, q2, rfl⟩
          go_wp2_with fail
          go_ret
          exact ⟨rfl, below_drewN hQ12.g.b _⟩
end Go.Proofs.Ytekajenmkpobgaa
