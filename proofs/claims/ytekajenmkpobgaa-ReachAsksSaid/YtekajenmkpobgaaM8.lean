/- The law ReachStrong. -/
import Derived.Test.YtekajenmkpobgaaM3
set_option linter.unusedSimpArgs false
set_option linter.unusedVariables false
namespace Go.Proofs.Ytekajenmkpobgaa
open Go.RowKit Go.Shelf

/-- where the law stands behind its first calls -/
structure SL (N m ca sb ib ofb mb : Nat) (A : Option Addr) (sup : List Int) (arcs : List ArcV) (ofl : List Int) (w wx : World) : Prop where
  g : InstG N w ib sb m ca A sup arcs wx
  o : Blk wx ofb 3 (ints ofl)
  k : Blk wx mb 4 (bools (arcs.map (backOf N ofl)))
theorem SL.below {N m ca sb ib ofb mb : Nat} {A : Option Addr} {sup : List Int} {arcs : List ArcV} {ofl : List Int} {w wx wy : World} (h : SL N m ca sb ib ofb mb A sup arcs ofl w wx) (hb : Below wx.heap.size wx wy) : SL N m ca sb ib ofb mb A sup arcs ofl w wy :=
  ⟨h.g.below hb, h.o.below hb h.o.lt, h.k.below hb h.k.lt⟩

theorem met_at {met : List Bool} {N k : Nat} (hl : met.length = N) (hk : k < N) : ∃ b, met[k]? = some b ∧ (b = true ↔ inS met (k : Int)) := by
  refine ⟨_, List.getElem?_eq_getElem (by omega), ?_⟩
  rw [inS_nat, List.getElem?_eq_getElem (by omega)]
  simp
theorem bools_of {met : List Bool} {k : Nat} {b : Bool} (h : met[k]? = some b) : (bools met)[k]? = some (.bool b) := by simp [bools, h, V]
theorem one_start {N : Nat} {P : Int → Prop} {v : Nat} (hv : v < N) : (∃ s ∈ [(v : Int)], hasB N s = true ∧ P s) ↔ P (v : Int) := by
  constructor
  · rintro ⟨s, hs, _, h⟩
    have : s = v := by simpa using hs
    exact this ▸ h
  · intro h
    exact ⟨v, by simp, by simp [hasB]; omega, h⟩

set_option maxRecDepth 100000 in
set_option maxHeartbeats 4000000 in
theorem ReachStrong_any (A D : Option Addr) (n c nd cd B : Nat) (cs ds : List Int) (w : World) (hr : Reads w B 1 A n (cs.map U)) (hy : Byt cs) (hd : Reads w B 1 D nd (ds.map U)) (hyd : Byt ds) (hB : B ≤ w.heap.size) (hn : n ≤ 9223372036854775807) (hnd : nd ≤ 9223372036854775807) :
    Calls Try.prog 8 #[.slice A n c, .slice D nd cd] w fun e w' => e = .returned (.bool true) ∧ Below w.heap.size w w' := by
  have hN0 := nOf_pos ds
  have hN1 := nOf_le ds
  go_enter Try.func8, Try.ntmps8
  go_wp2_with fail
  refine (Inst_any A D n c nd cd B cs ds w hr hy hd hyd hB hn hnd).mono ?_
  rintro e w1 ⟨ib, sb, m, ca, A', sup, arcs, rfl, hM⟩
  generalize nOf ds = N at *
  have hm18 := hM.m18
  have hfit := hM.fit hy hN0
  have hI2 := (hM.g.below ((Below.refl _ w1).alloc (Nat.le_refl _) (.cells #[.slice (some ⟨sb, 0, none⟩) N N, .slice A' m ca] 26))).move (Blk.new w1 26 _) hM.size
  have hlen := hI2.len
  have HFIT := Lib.hid hfit
  have HLEN := Lib.hid hlen
  clear hM hfit hlen
  go_wp2_with fail
  have hjl : w1.heap.size < (w1.alloc (.cells #[.slice (some ⟨sb, 0, none⟩) N N, .slice A' m ca] 26)).heap.size := by simp
  generalize w1.alloc (.cells #[.slice (some ⟨sb, 0, none⟩) N N, .slice A' m ca] 26) = W at *
  refine (Strong_any _ _ N N m ca W.heap.size sup arcs W (hI2.reads (by omega) (by omega)) (Nat.le_refl _)).mono ?_
  rintro e w2 ⟨ofb, ofl, rfl, hof, hle2, hlow, hb2⟩
  have hI3 := hI2.below hb2
  have q0 := hI3.i.cell 0
  have q1 := hI3.i.cell 1
  simp only [List.getElem?_toArray, List.getElem?_cons_zero, List.getElem?_cons_succ] at q0 q1
  go_wp2_with fail
  refine (Back_any _ _ N N m ca w2.heap.size sup arcs w2 (hI3.reads (by omega) (by omega)) (Nat.le_refl _)).mono ?_
  rintro e w3 ⟨mb, ofl2, rfl, hmb, hle3, hlow2, hb3⟩
  have heq : arcs.map (backOf N ofl2) = arcs.map (backOf N ofl) := by
    apply List.map_congr_left
    intro x hx
    rw [Bool.eq_iff_iff, back_iff hlow2, back_iff hlow]
  rw [heq] at hmb
  have hS : SL N m ca sb w1.heap.size ofb mb A' sup arcs ofl w w3 := ⟨hI3.below hb3, hof.below hb3 hof.lt, hmb⟩
  have HLOW := Lib.hid hlow
  clear heq hmb hI3 hI2 hof hlow hlow2 q0 q1
  have q0 := hS.g.i.cell 0
  have q1 := hS.g.i.cell 1
  simp only [List.getElem?_toArray, List.getElem?_cons_zero, List.getElem?_cons_succ] at q0 q1
  have z1 : ((N : Int) != (N : Int)) = false := by simp
  have z2 : ((m : Int) != (m : Int)) = false := by simp
  go_wp2_with fail
  go_loopw [8] (fun i wr => ∃ k : Nat, k ≤ N ∧ i = .int .i64 k ∧ SL N m ca sb w1.heap.size ofb mb A' sup arcs ofl w wr) (fun i _ => N - (intOf i).toNat)
  case atStart => exact ⟨0, Nat.zero_le _, rfl, hS⟩
  case round =>
    clear hS q0 q1 hle2 hle3 hb2 hb3
    obtain ⟨v, hk, rfl, hS⟩ := hrel
    have q0 := hS.g.i.cell 0
    have q1 := hS.g.i.cell 1
    simp only [List.getElem?_toArray, List.getElem?_cons_zero, List.getElem?_cons_succ] at q0 q1
    by_cases hlt : v < N
    · have hS1 := hS.below ((Below.refl _ wr).alloc (Nat.le_refl _) (.cells #[.int .i64 (v : Int)] 3))
      have hst : Blk (wr.alloc (.cells #[.int .i64 (v : Int)] 3)) wr.heap.size 3 #[.int .i64 (v : Int)] := Blk.new _ _ _
      go_wp2_with fail
      generalize wr.alloc (.cells #[.int .i64 (v : Int)] 3) = W1 at *
      refine (From_any _ _ N N m ca W1.heap.size sup arcs _ 1 1 [(v : Int)] W1 (hS1.g.reads (by omega) (by omega)) (Nat.le_refl _) (blk_reads (xs := [.int .i64 (v : Int)]) hst hst.lt rfl) (by omega)).mono ?_
      rintro e w4 ⟨tb, met1, rfl, hmt, hle4, hR1, hb4⟩
      have hS2 := hS1.below hb4
      have r0 := hS2.g.i.cell 0
      have r1 := hS2.g.i.cell 1
      simp only [List.getElem?_toArray, List.getElem?_cons_zero, List.getElem?_cons_succ] at r0 r1
      clear q0 q1 hS1 hS hst
      have hS3 := hS2.below ((Below.refl _ w4).alloc (Nat.le_refl _) (.cells #[.int .i64 (v : Int)] 3))
      have hmt3 := hmt.alloc (.cells #[.int .i64 (v : Int)] 3)
      have hst : Blk (w4.alloc (.cells #[.int .i64 (v : Int)] 3)) w4.heap.size 3 #[.int .i64 (v : Int)] := Blk.new _ _ _
      go_wp2_with fail
      generalize w4.alloc (.cells #[.int .i64 (v : Int)] 3) = W2 at *
      refine (To_any _ _ N N m ca W2.heap.size sup arcs _ 1 1 [(v : Int)] W2 (hS3.g.reads (by omega) (by omega)) (Nat.le_refl _) (blk_reads (xs := [.int .i64 (v : Int)]) hst hst.lt rfl) (by omega)).mono ?_
      rintro e w5 ⟨fb, met2, rfl, hmf, hle5, hR2, hb5⟩
      have hS4 := hS3.below hb5
      have hmt4 := hmt3.below hb5 hmt3.lt
      have HR := Lib.hid (And.intro hR1 hR2)
      clear hS2 hS3 hmt hmt3 hst r0 r1 hR1 hR2 hle4 hb4 hle5 hb5
      obtain ⟨ov, hov, hlv⟩ := HLOW.out.2 (v : Int) (by simp [hasB]; omega)
      simp only [Int.toNat_natCast] at hov
      have hovb := hlv.2.1
      simp only [hasB, Bool.and_eq_true, decide_eq_true_eq] at hovb
      obtain ⟨nn, hnn⟩ := Int.eq_ofNat_of_zero_le hovb.1
      subst hnn
      have hnN : nn < N := by omega
      have hle : nn ≤ v := by
        have := hlv.2.2 v (Mut.refl N arcs v) (by simp [hasB]; omega)
        omega
      have hself : ofl[nn]? = some (nn : Int) := by
        have h1 := (low_iff HLOW.out (u := (nn : Int)) (v := (v : Int)) (by simp [hasB]; omega) (by simp [hasB]; omega)).2 hlv.1
        simp only [Int.toNat_natCast] at h1
        rw [h1]; exact hov
      have HV := Lib.hid (And.intro hov (And.intro hself hlv))
      clear hov hself hlv hovb
      go_wp2_with fail
      go_loopw [11] (fun i wr => ∃ (k q : Nat), k ≤ N ∧ i = .int .i64 k ∧ wr = w5.drewN q) (fun i _ => N - (intOf i).toNat)
      case atStart => exact ⟨0, 0, Nat.zero_le _, rfl, rfl⟩
      case round =>
        obtain ⟨k, q, hkk, rfl, rfl⟩ := hrel
        have hS5 : SL N m ca sb w1.heap.size ofb mb A' sup arcs ofl w (w5.drewN q) := hS4.below (below_dN _ _)
        have hmt5 := hmt4.drewN q
        have hmf5 := hmf.drewN q
        generalize hX : w5.drewN q = X at *
        have HX := Lib.hid hX
        clear hX
        have s0 : X.cell? ⟨ofb, v, none⟩ = some (.int .i64 (nn : Int)) := (hS5.o.cell v).trans (ints_at HV.out.1)
        by_cases hlk : k < N
        · obtain ⟨ok, hok, -⟩ := HLOW.out.2 (k : Int) (by simp [hasB]; omega)
          simp only [Int.toNat_natCast] at hok
          obtain ⟨b1, hb1, i1⟩ := met_at HR.out.1.len hlk
          obtain ⟨b2, hb2, i2⟩ := met_at HR.out.2.len hlk
          have s1 : X.cell? ⟨ofb, k, none⟩ = some (.int .i64 ok) := (hS5.o.cell k).trans (ints_at hok)
          have s2 : X.cell? ⟨tb, k, none⟩ = some (.bool b1) := (hmt5.cell k).trans (bools_of hb1)
          have s3 : X.cell? ⟨fb, k, none⟩ = some (.bool b2) := (hmf5.cell k).trans (bools_of hb2)
          have hiff : (nn : Int) = ok ↔ b1 = true ∧ b2 = true := by
            rw [i1, i2, From_iff HR.out.1, To_iff HR.out.2, one_start (P := fun s => Rch (nb0 N arcs) s (k : Int)) hlt, one_start (P := fun s => Rch (nb0 N arcs) (k : Int) s) hlt]
            have h1 := low_iff HLOW.out (u := (v : Int)) (v := (k : Int)) (by simp [hasB]; omega) (by simp [hasB]; omega)
            simp only [Int.toNat_natCast] at h1
            rw [HV.out.1, hok] at h1
            simp only [Option.some.injEq] at h1
            exact h1
          clear hok hb1 hb2 i1 i2
          cases b1
          · have c1 : ((nn : Int) == ok) = false := by simpa using hiff
            clear hiff
            go_wp2_with fail
            go_quiet (fail)
            go_wp2_with fail
            go_roundw
            case rel => exact ⟨k + 1, _, by omega, by go_num, by rw [← HX.out, World.drewN_drewN]⟩
            case measure => simp [intOf]; omega
          · cases b2
            · have c1 : ((nn : Int) == ok) = false := by simpa using hiff
              clear hiff
              go_wp2_with fail
              go_quiet (fail)
              go_wp2_with fail
              go_roundw
              case rel => exact ⟨k + 1, _, by omega, by go_num, by rw [← HX.out, World.drewN_drewN]⟩
              case measure => simp [intOf]; omega
            · have c1 : ((nn : Int) == ok) = true := by simpa using hiff
              clear hiff
              go_wp2_with fail
              go_quiet (fail)
              go_wp2_with fail
              go_roundw
              case rel => exact ⟨k + 1, _, by omega, by go_num, by rw [← HX.out, World.drewN_drewN]⟩
              case measure => simp [intOf]; omega
        · have s1 : X.cell? ⟨ofb, nn, none⟩ = some (.int .i64 (nn : Int)) := (hS5.o.cell nn).trans (ints_at HV.out.2.1)
          have c1 : decide ((v : Int) < (nn : Int)) = false := by simp; omega
          have c2 : decide (v < nn) = false := by simp; omega
          have c3 : ((nn : Int) != (nn : Int)) = false := by simp
          have c4 : decide ((nn : Int) < 0) = false := by simp
          have HS5 := Lib.hid hS5
          clear hS5 hS4 hmt4 hmf hmt5 hmf5
          go_wp2_with fail
          go_quiet (fail)
          go_wp2_with fail
          go_roundw
          case rel => exact ⟨v + 1, by omega, by go_num, HS5.out.below (below_dN _ _)⟩
          case measure => simp [intOf]; omega
    · go_wp2_with fail
      go_loopw [12] (fun i wx => ∃ (k q : Nat), k ≤ m ∧ i = .int .i64 k ∧ wx = wr.drewN q) (fun i _ => m - (intOf i).toNat)
      case atStart => exact ⟨0, 0, Nat.zero_le _, rfl, rfl⟩
      case round =>
        clear hlt hk
        obtain ⟨k, q, hk, rfl, rfl⟩ := hrel
        have hS5 : SL N m ca sb w1.heap.size ofb mb A' sup arcs ofl w (wr.drewN q) := hS.below (below_dN _ _)
        clear q0 q1
        generalize hX : wr.drewN q = X at *
        have HX := Lib.hid hX
        clear hX
        have q1 := hS5.g.i.cell 1
        simp only [List.getElem?_toArray, List.getElem?_cons_zero, List.getElem?_cons_succ] at q1
        by_cases hlt : k < m
        · obtain ⟨x, hx⟩ : ∃ x, arcs[k]? = some x := ⟨_, List.getElem?_eq_getElem (by have := HLEN.out; omega)⟩
          obtain ⟨b, off, rfl, hb, e0, e1, -⟩ := (Reads.of_own hS5.g.a).arc hx
          have hf := HFIT.out x (List.mem_of_getElem? hx)
          have s0 : X.cell? ⟨mb, k, none⟩ = some (.bool (backOf N ofl x)) := (hS5.k.cell k).trans (bools_map_at arcs _ k x hx)
          obtain ⟨f1, f2, f3, f4⟩ := fit_bounds hf
          obtain ⟨nf, hnf⟩ := Int.eq_ofNat_of_zero_le f1
          obtain ⟨nt, hnt⟩ := Int.eq_ofNat_of_zero_le f3
          obtain ⟨y1, hy1⟩ : ∃ y, ofl[nf]? = some y := ⟨_, List.getElem?_eq_getElem (by have := HLOW.out.1; omega)⟩
          obtain ⟨y2, hy2⟩ : ∃ y, ofl[nt]? = some y := ⟨_, List.getElem?_eq_getElem (by have := HLOW.out.1; omega)⟩
          have hbk : backOf N ofl x = (y1 == y2) := by
            simp [backOf, hf, hnf, hnt, hy1, hy2]
          rw [hbk] at s0
          rw [hnf] at e0 f2
          rw [hnt] at e1 f4
          have hfN : nf < N := by omega
          have htN : nt < N := by omega
          have s1 : X.cell? ⟨ofb, nf, none⟩ = some (.int .i64 y1) := (hS5.o.cell nf).trans (ints_at hy1)
          have s2 : X.cell? ⟨ofb, nt, none⟩ = some (.int .i64 y2) := (hS5.o.cell nt).trans (ints_at hy2)
          clear hbk hnf hnt f1 f2 f3 f4 hy1 hy2 hf hx
          cases hc : (y1 == y2)
          · rw [hc] at s0
            go_wp2_with fail
            go_quiet (fail)
            go_wp2_with fail
            go_roundw
            case rel => exact ⟨k + 1, _, by omega, by go_num, by rw [← HX.out, World.drewN_drewN]⟩
            case measure => simp [intOf]; omega
          · rw [hc] at s0
            go_wp2_with fail
            go_quiet (fail)
            go_wp2_with fail
            go_roundw
            case rel => exact ⟨k + 1, _, by omega, by go_num, by rw [← HX.out, World.drewN_drewN]⟩
            case measure => simp [intOf]; omega
        · go_wp2_with fail
          refine (known_any X).mono ?_
          rintro e w4 ⟨rfl, hb4⟩
          go_wp2_with fail
          go_ret
          exact ⟨rfl, hS5.g.b.trans (hb4.mono hS5.g.size)⟩
end Go.Proofs.Ytekajenmkpobgaa
