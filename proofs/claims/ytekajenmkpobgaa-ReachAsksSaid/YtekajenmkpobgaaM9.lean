/- The law ReachTurned. -/
import Derived.Test.YtekajenmkpobgaaM4
set_option linter.unusedSimpArgs false
set_option linter.unusedVariables false
namespace Go.Proofs.Ytekajenmkpobgaa
open Go.RowKit Go.Shelf

/-- the ends, the other way round -/
def swp (p : Int × Int) : Int × Int := (p.2, p.1)
def turned (l : List (Int × Int)) (k : Nat) : List (Int × Int) := (l.take k).map swp ++ l.drop k
theorem turned_zero (l : List (Int × Int)) : turned l 0 = l := by simp [turned]
theorem turned_all (l : List (Int × Int)) {k : Nat} (h : l.length ≤ k) : turned l k = l.map swp := by simp [turned, List.take_of_length_le h, List.drop_of_length_le h]
theorem turned_len (l : List (Int × Int)) (k : Nat) : (turned l k).length = l.length := by simp [turned]; omega
theorem turned_at (l : List (Int × Int)) {k : Nat} {p : Int × Int} (h : l[k]? = some p) : (turned l k)[k]? = some p := by
  have hk := lt_of_at' h
  unfold turned
  rw [List.getElem?_append_right (by simp; omega), List.getElem?_drop]
  simp [Nat.min_eq_left (Nat.le_of_lt hk), h]
theorem turned_set (l : List (Int × Int)) {k : Nat} {p : Int × Int} (h : l[k]? = some p) : (turned l k).set k (swp p) = turned l (k + 1) := by
  have hk := lt_of_at' h
  unfold turned
  rw [List.set_append, if_neg (by simp; omega), take_snoc l k p h, List.map_append, List.append_assoc]
  congr 1
  have e1 : k - ((l.take k).map swp).length = 0 := by simp; omega
  rw [e1, List.drop_eq_getElem_cons hk]
  rfl

theorem fit_swp {N : Nat} {x y : ArcV} (h : y.ft = swp x.ft) : fitB N y = fitB N x := by
  unfold ArcV.ft swp at h
  injection h with h1 h2
  simp only at h1 h2
  unfold fitB
  rw [h1, h2, Bool.eq_iff_iff]
  simp only [Bool.and_eq_true, decide_eq_true_eq]
  omega
theorem swp_swp (p : Int × Int) : swp (swp p) = p := rfl
theorem ft_turn {arcs arcs' : List ArcV} (h : arcs'.map ArcV.ft = (arcs.map ArcV.ft).map swp) : arcs.map ArcV.ft = (arcs'.map ArcV.ft).map swp := by
  rw [h, List.map_map]
  have : (swp ∘ swp) = id := rfl
  rw [this, List.map_id]
theorem nb0_turn {N : Nat} {arcs arcs' : List ArcV} (h : arcs'.map ArcV.ft = (arcs.map ArcV.ft).map swp) {u v : Int} (hv : v ∈ nb0 N arcs' u) : u ∈ nb0 N arcs v := by
  obtain ⟨y, hy, hf, h1, h2⟩ := nb0_iff.1 hv
  have hm : y.ft ∈ (arcs.map ArcV.ft).map swp := by rw [← h]; exact List.mem_map_of_mem hy
  obtain ⟨p, hp, e⟩ := List.mem_map.1 hm
  obtain ⟨x, hx, rfl⟩ := List.mem_map.1 hp
  refine nb0_iff.2 ⟨x, hx, by rw [← fit_swp e.symm]; exact hf, ?_, ?_⟩
  · have := congrArg Prod.snd e
    simp only [swp, ArcV.ft] at this
    rw [this, h2]
  · have := congrArg Prod.fst e
    simp only [swp, ArcV.ft] at this
    rw [this, h1]
theorem Rch_turn {N : Nat} {arcs arcs' : List ArcV} (h : arcs'.map ArcV.ft = (arcs.map ArcV.ft).map swp) (u v : Int) : Rch (nb0 N arcs') u v ↔ Rch (nb0 N arcs) v u :=
  ⟨Rch.rev (fun _ _ hv => nb0_turn h hv), Rch.rev (fun _ _ hv => nb0_turn (ft_turn h) hv)⟩
theorem Mut_turn {N : Nat} {arcs arcs' : List ArcV} (h : arcs'.map ArcV.ft = (arcs.map ArcV.ft).map swp) (u v : Int) : Mut N arcs' u v ↔ Mut N arcs u v := by
  unfold Mut
  rw [Rch_turn h, Rch_turn h]
  exact And.comm
theorem met_turn {N : Nat} {arcs arcs' : List ArcV} (h : arcs'.map ArcV.ft = (arcs.map ArcV.ft).map swp) {st : List Int} {met met' : List Bool} (h1 : RInv N (nbW N arcs 0) st met []) (h2 : RInv N (nbW N arcs' 1) st met' []) : met = met' := by
  refine met_ext h1.len h2.len fun v hv => ?_
  rw [From_iff h1, To_iff h2]
  constructor
  · rintro ⟨s, a, b, hr⟩; exact ⟨s, a, b, (Rch_turn h v s).2 hr⟩
  · rintro ⟨s, a, b, hr⟩; exact ⟨s, a, b, (Rch_turn h v s).1 hr⟩
theorem met_turn' {N : Nat} {arcs arcs' : List ArcV} (h : arcs'.map ArcV.ft = (arcs.map ArcV.ft).map swp) {st : List Int} {met met' : List Bool} (h1 : RInv N (nbW N arcs 1) st met []) (h2 : RInv N (nbW N arcs' 0) st met' []) : met = met' := by
  refine met_ext h1.len h2.len fun v hv => ?_
  rw [To_iff h1, From_iff h2]
  constructor
  · rintro ⟨s, a, b, hr⟩; exact ⟨s, a, b, (Rch_turn h s v).2 hr⟩
  · rintro ⟨s, a, b, hr⟩; exact ⟨s, a, b, (Rch_turn h s v).1 hr⟩
theorem low_same {N : Nat} {arcs arcs' : List ArcV} (h : ∀ u v, Mut N arcs' u v ↔ Mut N arcs u v) {ofl ofl' : List Int} (h1 : LowAll N arcs ofl) (h2 : LowAll N arcs' ofl') : ofl = ofl' := by
  apply List.ext_getElem?
  intro k
  rcases Nat.lt_or_ge k N with hk | hk
  · have hh : hasB N (k : Int) = true := by simp [hasB]; omega
    obtain ⟨m, e, l⟩ := h1.2 k hh
    obtain ⟨m', e', l'⟩ := h2.2 k hh
    simp only [Int.toNat_natCast] at e e'
    rw [e, e']
    have g1 := l.2.2 m' ((h _ _).1 l'.1) l'.2.1
    have g2 := l'.2.2 m ((h _ _).2 l.1) l.2.1
    congr 1
    omega
  · rw [List.getElem?_eq_none (by rw [h1.1]; exact hk), List.getElem?_eq_none (by rw [h2.1]; exact hk)]
theorem back_turn {N : Nat} {arcs arcs' : List ArcV} (h : arcs'.map ArcV.ft = (arcs.map ArcV.ft).map swp) {ofl ofl' : List Int} (h1 : LowAll N arcs ofl) (h2 : LowAll N arcs' ofl') : arcs.map (backOf N ofl) = arcs'.map (backOf N ofl') := by
  have hlen : arcs'.length = arcs.length := by
    have := congrArg List.length h
    simpa using this
  apply List.ext_getElem?
  intro k
  rcases Nat.lt_or_ge k arcs.length with hk | hk
  · rw [List.getElem?_map, List.getElem?_map, List.getElem?_eq_getElem hk, List.getElem?_eq_getElem (by omega)]
    have e : (arcs'[k]'(by omega)).ft = swp (arcs[k]).ft := by
      have := congrArg (fun l => l[k]?) h
      simp only [List.getElem?_map, List.getElem?_eq_getElem hk, List.getElem?_eq_getElem (show k < arcs'.length by omega), Option.map_some, Option.some.injEq] at this
      exact this
    simp only [Option.map_some]
    congr 1
    rw [Bool.eq_iff_iff, back_iff h1, back_iff h2, fit_swp e, Mut_turn h]
    have e1 := congrArg Prod.fst e
    have e2 := congrArg Prod.snd e
    simp only [swp, ArcV.ft] at e1 e2
    rw [e1, e2]
    exact and_congr_right fun _ => ⟨Mut.symm, Mut.symm⟩
  · rw [List.getElem?_eq_none (by simpa using hk), List.getElem?_eq_none (by simp; omega)]

/-- two instances in memory, and some nodes -/
structure TL (N m ca sb ib m2 ca2 sb2 ib2 ns cs : Nat) (A A2 As : Option Addr) (sup sup2 : List Int) (arcs arcs2 : List ArcV) (sm : List Int) (w wx : World) : Prop where
  g : InstG N w ib sb m ca A sup arcs wx
  h : InstG N w ib2 sb2 m2 ca2 A2 sup2 arcs2 wx
  s : wx.ownsRow w.heap.size 3 1 (.slice As ns cs) ns (sm.map I)
  n7 : N ≤ 7
  m18 : m ≤ 18
  m28 : m2 ≤ 18
  s6 : ns ≤ 6
section
variable {N m ca sb ib m2 ca2 sb2 ib2 ns cs : Nat} {A A2 As : Option Addr} {sup sup2 : List Int} {arcs arcs2 : List ArcV} {sm : List Int} {w wx wy : World}
theorem TL.below (h : TL N m ca sb ib m2 ca2 sb2 ib2 ns cs A A2 As sup sup2 arcs arcs2 sm w wx) (hb : Below wx.heap.size wx wy) : TL N m ca sb ib m2 ca2 sb2 ib2 ns cs A A2 As sup sup2 arcs arcs2 sm w wy :=
  ⟨h.g.below hb, h.h.below hb, own_below h.s hb, h.n7, h.m18, h.m28, h.s6⟩
theorem TL.from1 (h : TL N m ca sb ib m2 ca2 sb2 ib2 ns cs A A2 As sup sup2 arcs arcs2 sm w wx) : Calls Try.prog 17 #[.agg #[.slice (some ⟨sb, 0, none⟩) N N, .slice A m ca], .slice As ns cs] wx fun e w' => ∃ mb met, e = .returned (.slice (some ⟨mb, 0, none⟩) N N) ∧ Blk w' mb 4 (bools met) ∧ RInv N (nbW N arcs 0) sm met [] ∧ Below wx.heap.size wx w' := by
  have := h.n7; have := h.m18; have := h.s6
  refine (From_any _ _ N N m ca wx.heap.size sup arcs As ns cs sm wx (h.g.reads (by omega) (by omega)) (Nat.le_refl _) (Reads.of_own h.s) (by omega)).mono ?_
  rintro e w' ⟨mb, met, he, h1, _, h2, h3⟩
  exact ⟨mb, met, he, h1, h2, h3⟩
theorem TL.from2 (h : TL N m ca sb ib m2 ca2 sb2 ib2 ns cs A A2 As sup sup2 arcs arcs2 sm w wx) : Calls Try.prog 17 #[.agg #[.slice (some ⟨sb2, 0, none⟩) N N, .slice A2 m2 ca2], .slice As ns cs] wx fun e w' => ∃ mb met, e = .returned (.slice (some ⟨mb, 0, none⟩) N N) ∧ Blk w' mb 4 (bools met) ∧ RInv N (nbW N arcs2 0) sm met [] ∧ Below wx.heap.size wx w' := by
  have := h.n7; have := h.m28; have := h.s6
  refine (From_any _ _ N N m2 ca2 wx.heap.size sup2 arcs2 As ns cs sm wx (h.h.reads (by omega) (by omega)) (Nat.le_refl _) (Reads.of_own h.s) (by omega)).mono ?_
  rintro e w' ⟨mb, met, he, h1, _, h2, h3⟩
  exact ⟨mb, met, he, h1, h2, h3⟩
theorem TL.to1 (h : TL N m ca sb ib m2 ca2 sb2 ib2 ns cs A A2 As sup sup2 arcs arcs2 sm w wx) : Calls Try.prog 24 #[.agg #[.slice (some ⟨sb, 0, none⟩) N N, .slice A m ca], .slice As ns cs] wx fun e w' => ∃ mb met, e = .returned (.slice (some ⟨mb, 0, none⟩) N N) ∧ Blk w' mb 4 (bools met) ∧ RInv N (nbW N arcs 1) sm met [] ∧ Below wx.heap.size wx w' := by
  have := h.n7; have := h.m18; have := h.s6
  refine (To_any _ _ N N m ca wx.heap.size sup arcs As ns cs sm wx (h.g.reads (by omega) (by omega)) (Nat.le_refl _) (Reads.of_own h.s) (by omega)).mono ?_
  rintro e w' ⟨mb, met, he, h1, _, h2, h3⟩
  exact ⟨mb, met, he, h1, h2, h3⟩
theorem TL.to2 (h : TL N m ca sb ib m2 ca2 sb2 ib2 ns cs A A2 As sup sup2 arcs arcs2 sm w wx) : Calls Try.prog 24 #[.agg #[.slice (some ⟨sb2, 0, none⟩) N N, .slice A2 m2 ca2], .slice As ns cs] wx fun e w' => ∃ mb met, e = .returned (.slice (some ⟨mb, 0, none⟩) N N) ∧ Blk w' mb 4 (bools met) ∧ RInv N (nbW N arcs2 1) sm met [] ∧ Below wx.heap.size wx w' := by
  have := h.n7; have := h.m28; have := h.s6
  refine (To_any _ _ N N m2 ca2 wx.heap.size sup2 arcs2 As ns cs sm wx (h.h.reads (by omega) (by omega)) (Nat.le_refl _) (Reads.of_own h.s) (by omega)).mono ?_
  rintro e w' ⟨mb, met, he, h1, _, h2, h3⟩
  exact ⟨mb, met, he, h1, h2, h3⟩
theorem TL.strong1 (h : TL N m ca sb ib m2 ca2 sb2 ib2 ns cs A A2 As sup sup2 arcs arcs2 sm w wx) : Calls Try.prog 21 #[.agg #[.slice (some ⟨sb, 0, none⟩) N N, .slice A m ca]] wx fun e w' => ∃ mb ofl, e = .returned (.slice (some ⟨mb, 0, none⟩) N N) ∧ Blk w' mb 3 (ints ofl) ∧ LowAll N arcs ofl ∧ Below wx.heap.size wx w' := by
  have := h.n7; have := h.m18
  refine (Strong_any _ _ N N m ca wx.heap.size sup arcs wx (h.g.reads (by omega) (by omega)) (Nat.le_refl _)).mono ?_
  rintro e w' ⟨mb, met, he, h1, _, h2, h3⟩
  exact ⟨mb, met, he, h1, h2, h3⟩
theorem TL.strong2 (h : TL N m ca sb ib m2 ca2 sb2 ib2 ns cs A A2 As sup sup2 arcs arcs2 sm w wx) : Calls Try.prog 21 #[.agg #[.slice (some ⟨sb2, 0, none⟩) N N, .slice A2 m2 ca2]] wx fun e w' => ∃ mb ofl, e = .returned (.slice (some ⟨mb, 0, none⟩) N N) ∧ Blk w' mb 3 (ints ofl) ∧ LowAll N arcs2 ofl ∧ Below wx.heap.size wx w' := by
  have := h.n7; have := h.m28
  refine (Strong_any _ _ N N m2 ca2 wx.heap.size sup2 arcs2 wx (h.h.reads (by omega) (by omega)) (Nat.le_refl _)).mono ?_
  rintro e w' ⟨mb, met, he, h1, _, h2, h3⟩
  exact ⟨mb, met, he, h1, h2, h3⟩
theorem TL.back1 (h : TL N m ca sb ib m2 ca2 sb2 ib2 ns cs A A2 As sup sup2 arcs arcs2 sm w wx) : Calls Try.prog 12 #[.agg #[.slice (some ⟨sb, 0, none⟩) N N, .slice A m ca]] wx fun e w' => ∃ mb ofl, e = .returned (.slice (some ⟨mb, 0, none⟩) m m) ∧ Blk w' mb 4 (bools (arcs.map (backOf N ofl))) ∧ LowAll N arcs ofl ∧ Below wx.heap.size wx w' := by
  have := h.n7; have := h.m18
  refine (Back_any _ _ N N m ca wx.heap.size sup arcs wx (h.g.reads (by omega) (by omega)) (Nat.le_refl _)).mono ?_
  rintro e w' ⟨mb, met, he, h1, _, h2, h3⟩
  exact ⟨mb, met, he, h1, h2, h3⟩
theorem TL.back2 (h : TL N m ca sb ib m2 ca2 sb2 ib2 ns cs A A2 As sup sup2 arcs arcs2 sm w wx) : Calls Try.prog 12 #[.agg #[.slice (some ⟨sb2, 0, none⟩) N N, .slice A2 m2 ca2]] wx fun e w' => ∃ mb ofl, e = .returned (.slice (some ⟨mb, 0, none⟩) m2 m2) ∧ Blk w' mb 4 (bools (arcs2.map (backOf N ofl))) ∧ LowAll N arcs2 ofl ∧ Below wx.heap.size wx w' := by
  have := h.n7; have := h.m28
  refine (Back_any _ _ N N m2 ca2 wx.heap.size sup2 arcs2 wx (h.h.reads (by omega) (by omega)) (Nat.le_refl _)).mono ?_
  rintro e w' ⟨mb, met, he, h1, _, h2, h3⟩
  exact ⟨mb, met, he, h1, h2, h3⟩
end

set_option maxRecDepth 100000 in
set_option maxHeartbeats 8000000 in
theorem ReachTurned_any (A D E : Option Addr) (n c nd cd ne ce B : Nat) (cs ds es : List Int) (w : World) (hr : Reads w B 1 A n (cs.map U)) (hy : Byt cs) (hd : Reads w B 1 D nd (ds.map U)) (hyd : Byt ds) (he : Reads w B 1 E ne (es.map U)) (hye : Byt es) (hB : B ≤ w.heap.size)
    (hn : n ≤ 9223372036854775807) (hnd : nd ≤ 9223372036854775807) (hne : ne ≤ 9223372036854775807) :
    Calls Try.prog 9 #[.slice A n c, .slice D nd cd, .slice E ne ce] w fun e w' => e = .returned (.bool true) ∧ Below w.heap.size w w' := by
  have hN0 := nOf_pos ds
  have hN1 := nOf_le ds
  have HINST := Lib.hid (fun (W : World) (hb : Below w.heap.size w W) => Inst_any A D n c nd cd B cs ds W (hr.below (hb.mono hB)) hy (hd.below (hb.mono hB)) hyd (Nat.le_trans hB hb.size) hn hnd)
  go_enter Try.func9, Try.ntmps9
  go_wp2_with fail
  refine (HINST.out w (Below.refl _ _)).mono ?_
  rintro e w1 ⟨ib, sb, m, ca, A', sup, arcs, rfl, hM⟩
  generalize nOf ds = N at *
  have hm18 := hM.m18
  have hft := hM.ft
  have hI2 := (hM.g.below ((Below.refl _ w1).alloc (Nat.le_refl _) (.cells #[.slice (some ⟨sb, 0, none⟩) N N, .slice A' m ca] 26))).move (Blk.new w1 26 _) hM.size
  have HFT := Lib.hid hft
  clear hM hft
  go_wp2_with fail
  generalize w1.alloc (.cells #[.slice (some ⟨sb, 0, none⟩) N N, .slice A' m ca] 26) = W at *
  refine (HINST.out W hI2.b).mono ?_
  rintro e w8 ⟨ib8, sb8, m8, ca8, A8, sup8, arcs8, rfl, hM8⟩
  have hm8 := hM8.m18
  have hft8 : arcs8.map ArcV.ft = turned (arcs.map ArcV.ft) 0 := by rw [turned_zero, HFT.out, hM8.ft]
  have hI8 := (hM8.g.below ((Below.refl _ w8).alloc (Nat.le_refl _) (.cells #[.slice (some ⟨sb8, 0, none⟩) N N, .slice A8 m8 ca8] 26))).move (Blk.new w8 26 _) hM8.size
  have hmm : arcs.length = arcs8.length := by
    have := congrArg List.length hft8
    rw [turned_len] at this
    simpa using this.symm
  have hl1 := hI2.len
  have hl8 := hI8.len
  have HL := Lib.hid (And.intro hl1 (show m8 = m by omega))
  have hmm2 : m8 ≤ m ∧ m ≤ m8 := by omega
  clear hM8 hl1 hl8 hmm
  go_wp2_with fail
  generalize w8.alloc (.cells #[.slice (some ⟨sb8, 0, none⟩) N N, .slice A8 m8 ca8] 26) = W8 at *
  go_loopw [9] (fun i wr => ∃ (j : Nat) (arcs' : List ArcV), j ≤ m8 ∧ i = .int .i64 j ∧ InstG N W w8.heap.size sb8 m8 ca8 A8 sup8 arcs' wr ∧ arcs'.map ArcV.ft = turned (arcs.map ArcV.ft) j) (fun i _ => m8 - (intOf i).toNat)
  case atStart => exact ⟨0, arcs8, Nat.zero_le _, rfl, hI8, hft8⟩
  case round =>
    clear hI8 hft8
    obtain ⟨j, arcs', hj, rfl, hI, hft'⟩ := hrel
    have HF' := Lib.hid hft'
    clear hft'
    have hg := hI2.below hI.b
    have q1 := hI.i.cell 1
    have r1 := hg.i.cell 1
    simp only [List.getElem?_toArray, List.getElem?_cons_zero, List.getElem?_cons_succ] at q1 r1
    by_cases hlt : j < m8
    · obtain ⟨x, hx⟩ : ∃ x, arcs'[j]? = some x := ⟨_, List.getElem?_eq_getElem (by rw [hI.len]; exact hlt)⟩
      obtain ⟨y, hy⟩ : ∃ y, arcs[j]? = some y := ⟨_, List.getElem?_eq_getElem (by rw [HL.out.1]; omega)⟩
      obtain ⟨b, off, rfl, hb, e0, e1, -⟩ := (Reads.of_own hI.a).arc hx
      have hoff := own_zero hI.a
      subst hoff
      obtain ⟨b', off', rfl, hb', g0, g1, -⟩ := (Reads.of_own hg.a).arc hy
      have hoff' := own_zero hg.a
      subst hoff'
      simp only [Nat.zero_add] at e0 e1 g0 g1
      have z0 := own_frozen hI.a (j * 5)
      have z1 := own_frozen hI.a (j * 5 + 1)
      have hxy : x.ft = y.ft := by
        have h1 := turned_at (arcs.map ArcV.ft) (k := j) (p := y.ft) (by rw [List.getElem?_map, hy]; rfl)
        rw [← HF'.out, List.getElem?_map, hx] at h1
        simpa using h1
      have hlow := (hI.a.lt b (by simp [Value.ownBlock])).1
      have hb'l : b' < W.heap.size := by
        have := (hI2.a.lt b' (by simp [Value.ownBlock])).2
        omega
      have nbb : ¬ b = b' := by omega
      have nbb' : ¬ b' = b := by omega
      have nbi : ¬ b = w8.heap.size := fun e => own_blk_ne hI.a hI.i (by decide) (by rw [← e]; rfl)
      have nib : ¬ w8.heap.size = b := fun e => nbi e.symm
      have nbj : ¬ b = w1.heap.size := by have := hI2.i.lt; omega
      have njb : ¬ w1.heap.size = b := fun e => nbj e.symm
      have jm : j < m := by omega
      have h1 := hI.set5 j 0 x { x with f := y.t } hx (by omega) (.int .i64 y.t) rfl
      have hft2 : ((arcs'.set j { x with f := y.t }).set j { x with f := y.t, t := y.f }).map ArcV.ft = turned (arcs.map ArcV.ft) (j + 1) := by
        rw [List.set_set, List.map_set, HF'.out, ← turned_set (arcs.map ArcV.ft) (k := j) (p := y.ft) (by rw [List.getElem?_map, hy]; rfl)]
        rfl
      have h1X : InstG N W w8.heap.size sb8 m8 ca8 (some ⟨b, 0, none⟩) sup8 (arcs'.set j { x with f := y.t }) (wr.setCell ⟨b, j * 5, none⟩ (.int .i64 y.t)).drew := h1.below ((Below.refl _ _).drew)
      have HH := Lib.hid hft2
      have HY := Lib.hid (And.intro hx hy)
      have H1X := Lib.hid h1X
      clear h1 hft2 hI hx hy hxy hg h1X
      go_wp2_with fail
      go_still_tail 11, (by kernel_rfl)
      change wpList _ _ _ _ _ wr.drew
      go_wp2_with fail
      have h1X := H1X.out
      clear H1X e0 e1 g0 g1 z0 z1 q1 r1
      generalize (wr.setCell ⟨b, j * 5, none⟩ (.int .i64 y.t)).drew = X at *
      have hgX := hI2.below h1X.b
      have q1 := h1X.i.cell 1
      have r1 := hgX.i.cell 1
      simp only [List.getElem?_toArray, List.getElem?_cons_zero, List.getElem?_cons_succ] at q1 r1
      obtain ⟨b2, off2, hbe, -, e0, e1, -⟩ := (Reads.of_own h1X.a).arc (List.getElem?_set_self (lt_of_at' HY.out.1))
      injection hbe with hbe
      injection hbe with hbe1 hbe2
      subst hbe1 hbe2
      obtain ⟨b3, off3, hbe, -, g0, g1, -⟩ := (Reads.of_own hgX.a).arc HY.out.2
      injection hbe with hbe
      injection hbe with hbe1 hbe2
      subst hbe1 hbe2
      simp only [Nat.zero_add] at e0 e1 g0 g1
      have z0 := own_frozen h1X.a (j * 5)
      have z1 := own_frozen h1X.a (j * 5 + 1)
      have h2 := h1X.set5 j 1 { x with f := y.t } { x with f := y.t, t := y.f } (List.getElem?_set_self (lt_of_at' HY.out.1)) (by omega) (.int .i64 y.f) rfl
      have H2 := Lib.hid (h2.below ((Below.refl _ _).drew))
      clear h2 h1X hgX
      go_still_tail 11, (by kernel_rfl)
      change wpList _ _ _ _ _ X.drew
      go_wp2_with fail
      go_roundw
      case rel => exact ⟨j + 1, _, by omega, by go_num, H2.out, HH.out⟩
      case measure => simp [intOf]; omega
    · have hall : arcs'.map ArcV.ft = (arcs.map ArcV.ft).map swp := by
        rw [HF'.out, turned_all _ (by have := HL.out; simp; omega)]
      have HALL := Lib.hid hall
      clear hall
      go_wp2_with fail
      refine (Some_any E ne ce B es wr (he.below (hg.b.mono hB)) hye (by have := hg.size; omega) hne).mono ?_
      rintro e w9 ⟨As, c9, rfl, hsm, hb9⟩
      have hsl := someOf_le es
      generalize someOf es = sm at *
      obtain ⟨ns, hns⟩ : ∃ ns, ns = sm.length := ⟨_, rfl⟩
      rw [← hns] at hsm hsl ⊢
      clear hns
      have hT : TL N m ca sb w1.heap.size m8 ca8 sb8 w8.heap.size ns c9 A' A8 As sup sup8 arcs arcs' sm w w9 :=
        ⟨hg.below hb9, ⟨(hI.below hb9).i, (hI.below hb9).s, hI.sl, own_mono (own_below hI.a hb9) hI2.size, hg.b.trans (hb9.mono hg.size), by have := hI.l1; have := hI2.size; omega, by have := hI.l2; have := hI2.size; omega⟩, own_mono hsm hg.size, hN1, hm18, hm8, hsl⟩
      have HT := Lib.hid hT
      have q0 := hT.g.i.cell 0
      have q1 := hT.g.i.cell 1
      have r0 := hT.h.i.cell 0
      have r1 := hT.h.i.cell 1
      simp only [List.getElem?_toArray, List.getElem?_cons_zero, List.getElem?_cons_succ] at q0 q1 r0 r1
      clear hT hsm hg hI hI2 hb9
      go_wp2_with fail
      go_region_held3 (fun w' => w'.cell? ⟨w1.heap.size, 0, none⟩ = some (.slice (some ⟨sb, 0, none⟩) N N) ∧ w'.cell? ⟨w1.heap.size, 1, none⟩ = some (.slice A' m ca) ∧ w'.cell? ⟨w8.heap.size, 0, none⟩ = some (.slice (some ⟨sb8, 0, none⟩) N N) ∧ w'.cell? ⟨w8.heap.size, 1, none⟩ = some (.slice A8 m8 ca8)) (first | go_keep | exact ⟨k1, k2, k3, k4⟩)
        (first
          | (go_at_call 13; refine (known_any _).mono ?_; rintro e w10 ⟨rfl, hb⟩; have hT := HT.out.below ((Below.refl _ w9).drew.trans hb); have k1 := hT.g.i.cell 0; have k2 := hT.g.i.cell 1; have k3 := hT.h.i.cell 0; have k4 := hT.h.i.cell 1)
          | (go_at_call 17; first | ((with_reducible refine (hT.from1).mono ?_); rintro e wn ⟨tA, mA, rfl, hA, hRA, hb⟩; have hT := hT.below hb; have k1 := hT.g.i.cell 0; have k2 := hT.g.i.cell 1; have k3 := hT.h.i.cell 0; have k4 := hT.h.i.cell 1) | ((with_reducible refine (hT.from2).mono ?_); rintro e wn ⟨tB, mB, rfl, hBB, hRB, hb⟩; have hA := hA.below hb hA.lt; have hT := hT.below hb; have HE := Lib.hid (And.intro (met_turn' HALL.out hRA hRB) (And.intro hRA.len hRB.len)); have k1 := hT.g.i.cell 0; have k2 := hT.g.i.cell 1; have k3 := hT.h.i.cell 0; have k4 := hT.h.i.cell 1))
          | (go_at_call 24; first | ((with_reducible refine (hT.to1).mono ?_); rintro e wn ⟨tA, mA, rfl, hA, hRA, hb⟩; have hT := hT.below hb; have k1 := hT.g.i.cell 0; have k2 := hT.g.i.cell 1; have k3 := hT.h.i.cell 0; have k4 := hT.h.i.cell 1) | ((with_reducible refine (hT.to2).mono ?_); rintro e wn ⟨tB, mB, rfl, hBB, hRB, hb⟩; have hA := hA.below hb hA.lt; have hT := hT.below hb; have HE := Lib.hid (And.intro (met_turn HALL.out hRA hRB) (And.intro hRA.len hRB.len)); have k1 := hT.g.i.cell 0; have k2 := hT.g.i.cell 1; have k3 := hT.h.i.cell 0; have k4 := hT.h.i.cell 1))
          | (go_at_call 21; first | ((with_reducible refine (hT.strong1).mono ?_); rintro e wn ⟨tA, mA, rfl, hA, hRA, hb⟩; have hT := hT.below hb; have k1 := hT.g.i.cell 0; have k2 := hT.g.i.cell 1; have k3 := hT.h.i.cell 0; have k4 := hT.h.i.cell 1) | ((with_reducible refine (hT.strong2).mono ?_); rintro e wn ⟨tB, mB, rfl, hBB, hRB, hb⟩; have hA := hA.below hb hA.lt; have hT := hT.below hb; have HE := Lib.hid (And.intro (low_same (Mut_turn HALL.out) hRA hRB) (And.intro hRA.1 hRB.1)); have k1 := hT.g.i.cell 0; have k2 := hT.g.i.cell 1; have k3 := hT.h.i.cell 0; have k4 := hT.h.i.cell 1))
          | (go_at_call 12; first | ((with_reducible refine (hT.back1).mono ?_); rintro e wn ⟨tA, mA, rfl, hA, hRA, hb⟩; have hT := hT.below hb; have k1 := hT.g.i.cell 0; have k2 := hT.g.i.cell 1; have k3 := hT.h.i.cell 0; have k4 := hT.h.i.cell 1) | ((with_reducible refine (hT.back2).mono ?_); rintro e wn ⟨tB, mB, rfl, hBB, hRB, hb⟩; have hA := hA.below hb hA.lt; have hT := hT.below hb; have HE := Lib.hid (And.intro (back_turn HALL.out hRA hRB) (And.intro (show (arcs.map (backOf N mA)).length = m from (by rw [List.length_map]; exact HL.out.1)) (show (arcs'.map (backOf N mB)).length = m8 from (by rw [List.length_map]; exact hT.h.len)))); have k1 := hT.g.i.cell 0; have k2 := hT.g.i.cell 1; have k3 := hT.h.i.cell 0; have k4 := hT.h.i.cell 1))
          | (go_at_call 18; refine (bools_same hA hBB HE.out.1 HE.out.2.1 HE.out.2.2 (by omega)).mono ?_; rintro e wn ⟨rfl, q, rfl⟩; have hT := hT.below (below_dN _ q); have k1 := hT.g.i.cell 0; have k2 := hT.g.i.cell 1; have k3 := hT.h.i.cell 0; have k4 := hT.h.i.cell 1)
          | (go_at_call 20; refine (ints_same hA hBB HE.out.1 HE.out.2.1 HE.out.2.2 (by omega)).mono ?_; rintro e wn ⟨rfl, q, rfl⟩; have hT := hT.below (below_dN _ q); have k1 := hT.g.i.cell 0; have k2 := hT.g.i.cell 1; have k3 := hT.h.i.cell 0; have k4 := hT.h.i.cell 1))
      go_wp2_with fail
      go_ret
      exact ⟨rfl, hT.g.b⟩
end Go.Proofs.Ytekajenmkpobgaa
