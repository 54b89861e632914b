/- The document's answer: Reach, From, To. -/
import Derived.Test.YtekajenmkpobgaaF1
import Derived.Test.YtekajenmkpobgaaPF
set_option linter.unusedSimpArgs false
set_option linter.unusedVariables false
namespace Go.Proofs.Ytekajenmkpobgaa
open Go.RowKit Go.Shelf

/-- while Reach runs -/
structure RSt (n c1 n2 c2 : Nat) (A1 A2 : Option Addr) (met : List Bool) (w wx : World) : Prop where
  i : Blk wx w.heap.size 26 #[.slice A1 n c1, .slice A2 n2 c2]
  m : Blk wx (w.heap.size + 1) 4 (bools met)
  b : Below w.heap.size w wx
section
variable {n c1 n2 c2 : Nat} {A1 A2 : Option Addr} {met : List Bool} {w wx wy : World}
theorem RSt.below (h : RSt n c1 n2 c2 A1 A2 met w wx) (hb : Below wx.heap.size wx wy) : RSt n c1 n2 c2 A1 A2 met w wy := ⟨h.i.below hb h.i.lt, h.m.below hb h.m.lt, h.b.trans (hb.mono h.b.size)⟩
theorem RSt.set (h : RSt n c1 n2 c2 A1 A2 met w wx) (k : Nat) : RSt n c1 n2 c2 A1 A2 (met.set k true) w (wx.setCell ⟨w.heap.size + 1, k, none⟩ (.bool true)) := by
  refine ⟨h.i.far (p := ⟨w.heap.size + 1, k, none⟩) (show w.heap.size ≠ w.heap.size + 1 by omega) _, ?_, h.b.setCell (p := ⟨w.heap.size + 1, k, none⟩) (show w.heap.size ≤ w.heap.size + 1 by omega) _⟩
  rw [← bools_set]; exact h.m.set_ k _
end
theorem arcTells_yes {n : Nat} {x : ArcV} (h : fitB n x = true) : arcTells n x = .tuple #[.agg #[.int .i64 x.f, .int .i64 x.t, .int .i64 x.lo, .int .i64 x.cap, .int .i64 x.cost], .bool true] := by unfold arcTells; rw [if_pos h]
theorem arcTells_no {n : Nat} {x : ArcV} (h : fitB n x = false) : arcTells n x = .tuple #[.agg #[.int .i64 0, .int .i64 0, .int .i64 0, .int .i64 0, .int .i64 0], .bool false] := by unfold arcTells; rw [h]; rfl

set_option maxRecDepth 100000 in
set_option maxHeartbeats 2000000 in
theorem rReach_any (A1 A2 : Option Addr) (n c1 n2 c2 B : Nat) (sup : List Int) (arcs : List ArcV) (As : Option Addr) (ns cs : Nat) (starts : List Int) (b : Bool) (w : World) (h : InstR w B A1 A2 n n2 sup arcs) (hB : B ≤ w.heap.size) (hr : Reads w B 1 As ns (starts.map I)) (hns : ns ≤ 1000000000) :
    Calls Try.prog 55 #[.agg #[.slice A1 n c1, .slice A2 n2 c2], .slice As ns cs, .bool b] w fun e w' => ∃ mb met, e = .returned (.slice (some ⟨mb, 0, none⟩) n n) ∧ Blk w' mb 4 (bools met) ∧ (met.length = n ∧ ∀ v, inS met v ↔ ∃ s ∈ starts, hasB n s = true ∧ Rch (nbB n arcs b) s v) ∧ Below w.heap.size w w' := by
  have hn := h.hn
  have hn2 := h.hn2
  have hlen := h.len
  have hmk := makeBools n (by omega)
  rw [madeBools] at hmk
  have HI := Lib.hid h
  have HLEN := Lib.hid hlen
  have hsl : starts.length ≤ ns ∧ ns ≤ starts.length := by have := hr.1; simp at this; omega
  clear h hlen
  go_enter Try.func55, Try.ntmps55
  go_wp2_with fail
  have hS : RSt n c1 n2 c2 A1 A2 (List.replicate n false) w ((w.alloc (.cells #[.slice A1 n c1, .slice A2 n2 c2] 26)).alloc (.cells (bools (List.replicate n false)) 4)) :=
    ⟨(Blk.new w 26 _).alloc _, blk_newN _ _ _ _ (World.size_alloc _ _), ((Below.refl _ w).alloc (Nat.le_refl _) _).alloc (by simp) _⟩
  generalize (w.alloc (.cells #[.slice A1 n c1, .slice A2 n2 c2] 26)).alloc (.cells (bools (List.replicate n false)) 4) = W at *
  clear hmk
  go_loopw [8] (fun i wr => ∃ (k : Nat) (met : List Bool), k ≤ ns ∧ i = .int .i64 k ∧ RSt n c1 n2 c2 A1 A2 met w wr ∧ RR n arcs b (starts.take k) met) (fun i _ => ns - (intOf i).toNat)
  case atStart => exact ⟨0, _, Nat.zero_le _, rfl, hS, RR.none n arcs b⟩
  case round =>
    clear hS
    obtain ⟨k, met, hk, rfl, hS, hR⟩ := hrel
    by_cases hlt : k < ns
    · obtain ⟨bb, off, u, rfl, hbB, hx, hcell⟩ := (hr.below (hS.b.mono hB)).at_ hlt
      simp only [List.getElem?_map, Option.map_eq_some_iff] at hx
      obtain ⟨s, hs, rfl⟩ := hx
      unfold I at hcell
      have hR1 := hR.mark hs
      have hml := hR.len
      clear hs hR
      by_cases hs0 : 0 ≤ s
      · obtain ⟨j, hj⟩ := Int.eq_ofNat_of_zero_le hs0
        subst hj
        clear hs0
        by_cases hjn : j < n
        · have hmk : markB n met (j : Int) = met.set j true := by simp [markB, hasB, hjn]
          rw [hmk] at hR1
          have q1 : ∃ u, wr.cell? ⟨w.heap.size + 1, j, none⟩ = some u := by
            rw [hS.m.cell]; exact ⟨_, Array.getElem?_eq_getElem (by simp [bools]; omega)⟩
          obtain ⟨u1, q1⟩ := q1
          have f1 := hS.m.frozen j
          have HR1 := Lib.hid (And.intro hR1 (hS.set j))
          clear hR1 hmk hS hml
          go_wp2_with fail
          go_roundw
          case rel => exact ⟨k + 1, _, by omega, by go_num, HR1.out.2, HR1.out.1⟩
          case measure => simp [intOf]; omega
        · have hmk : markB n met (j : Int) = met := by simp [markB, hasB, hjn]
          rw [hmk] at hR1
          have HR1 := Lib.hid (And.intro hR1 hS)
          clear hR1 hmk hS hml
          go_wp2_with fail
          go_roundw
          case rel => exact ⟨k + 1, _, by omega, by go_num, HR1.out.2, HR1.out.1⟩
          case measure => simp [intOf]; omega
      · have hmk : markB n met s = met := by
          have : hasB n s = false := by simp [hasB]; omega
          simp [markB, this]
        rw [hmk] at hR1
        have c0 : decide (0 ≤ s) = false := by simpa using hs0
        have HR1 := Lib.hid (And.intro hR1 hS)
        clear hR1 hmk hS hml hs0
        go_wp2_with fail
        go_roundw
        case rel => exact ⟨k + 1, _, by omega, by go_num, HR1.out.2, HR1.out.1⟩
        case measure => simp [intOf]; omega
    · have hR0 : RR n arcs b starts met := by
        rw [List.take_of_length_le (by omega)] at hR
        exact hR
      have hO := ROut.start hR0
      clear hR hR0
      go_wp2_with fail
      clear hlt hk
      go_loopw [9] (fun i wr => ∃ (r : Nat) (met : List Bool), r ≤ n ∧ i = .int .i64 r ∧ RSt n c1 n2 c2 A1 A2 met w wr ∧ ROut n arcs b starts r met) (fun i _ => n - (intOf i).toNat)
      case atStart => exact ⟨0, met, Nat.zero_le _, rfl, hS, hO⟩
      case round =>
        clear hS hO
        obtain ⟨r, met0, hr1, rfl, hS, hO⟩ := hrel
        by_cases hlt : r < n
        · have q1 := hS.i.cell 1
          simp only [List.getElem?_toArray, List.getElem?_cons_zero, List.getElem?_cons_succ] at q1
          have HO := Lib.hid hO
          have hIn := RIn.start hO.rr
          clear hO
          go_wp2_with fail
          go_loopw [10] (fun i wx => ∃ (a : Nat) (met : List Bool), a ≤ n2 ∧ i = .int .i64 a ∧ RSt n c1 n2 c2 A1 A2 met w wx ∧ RIn n arcs b starts met0 a met) (fun i _ => n2 - (intOf i).toNat)
          case atStart => exact ⟨0, met0, Nat.zero_le _, rfl, hS, hIn⟩
          case round =>
            clear hS hIn q1
            obtain ⟨a, met, ha, rfl, hS, hIn⟩ := hrel
            have q0 := hS.i.cell 0
            have q1 := hS.i.cell 1
            simp only [List.getElem?_toArray, List.getElem?_cons_zero, List.getElem?_cons_succ] at q0 q1
            by_cases hla : a < n2
            · obtain ⟨x, hx⟩ : ∃ x, arcs[a]? = some x := ⟨_, List.getElem?_eq_getElem (by have := HLEN.out; omega)⟩
              have hIn1 := hIn.next hx
              have hml := hIn.r.len
              have HIN := Lib.hid hIn1
              have hsz := hS.b.size
              clear hIn hIn1
              go_wp2_with fail
              refine (rArc_any A1 A2 n c1 n2 c2 B sup arcs _ (HI.out.keep (hS.b.mono hB)) (by omega) a x hx).mono ?_
              rintro e w3 ⟨rfl, hb3⟩
              have hS3 := hS.below hb3
              clear hS q0 q1 hx
              cases hf : fitB n x
              · have hst : stepB n b met x = met := by unfold stepB; rw [hf]; simp
                rw [hst] at HIN
                rw [arcTells_no hf]
                clear hst hf
                have HS3 := Lib.hid (hS3.below ((Below.refl _ w3).alloc (Nat.le_refl _) (.cells #[.int .i64 0, .int .i64 0, .int .i64 0, .int .i64 0, .int .i64 0] 36)))
                clear hS3
                go_wp2_with fail
                go_roundw
                case rel => exact ⟨a + 1, _, by omega, by go_num, HS3.out, HIN.out⟩
                case measure => simp [intOf]; omega
              · rw [arcTells_yes hf]
                obtain ⟨f1, f2, f3, f4⟩ := fit_bounds hf
                obtain ⟨nf, hnf⟩ := Int.eq_ofNat_of_zero_le f1
                obtain ⟨nt, hnt⟩ := Int.eq_ofNat_of_zero_le f3
                have hfN : nf < n := by omega
                have htN : nt < n := by omega
                rw [hnf, hnt]
                obtain ⟨bf, hbf⟩ : ∃ bf, met[nf]? = some bf := ⟨_, List.getElem?_eq_getElem (by omega)⟩
                obtain ⟨bt, hbt⟩ : ∃ bt, met[nt]? = some bt := ⟨_, List.getElem?_eq_getElem (by omega)⟩
                have p1 : w3.cell? ⟨w.heap.size + 1, nf, none⟩ = some (.bool bf) := (hS3.m.cell nf).trans (bools_of hbf)
                have p2 : w3.cell? ⟨w.heap.size + 1, nt, none⟩ = some (.bool bt) := (hS3.m.cell nt).trans (bools_of hbt)
                have g1 := hS3.m.frozen nf
                have g2 := hS3.m.frozen nt
                have lm := hS3.m.lt
                have nm1 : ¬ w.heap.size + 1 = w3.heap.size := by omega
                have nm2 : ¬ w3.heap.size = w.heap.size + 1 := by omega
                cases b
                · cases bf
                  · have hst : stepB n false met x = met := by unfold stepB; rw [hf]; simp [srcB, hnf, hbf]
                    rw [hst] at HIN
                    have HS3 := Lib.hid hS3
                    clear hst hf hS3 hnf hnt hbf hbt f1 f2 f3 f4
                    go_wp2_with fail
                    go_roundw
                    case rel => exact ⟨a + 1, _, by omega, by go_num, HS3.out.below ((Below.refl _ _).alloc (Nat.le_refl _) _), HIN.out⟩
                    case measure => simp [intOf]; omega
                  · have hst : stepB n false met x = met.set nt true := by unfold stepB; rw [hf]; simp [srcB, dstB, hnf, hnt, hbf]
                    rw [hst] at HIN
                    have HS3 := Lib.hid (hS3.set nt)
                    clear hst hf hS3 hnf hnt hbf hbt f1 f2 f3 f4
                    go_wp2_with fail
                    go_roundw
                    case rel => exact ⟨a + 1, _, by omega, by go_num, HS3.out.below ((Below.refl _ _).alloc (Nat.le_refl _) _), HIN.out⟩
                    case measure => simp [intOf]; omega
                · cases bt
                  · have hst : stepB n true met x = met := by unfold stepB; rw [hf]; simp [srcB, hnt, hbt]
                    rw [hst] at HIN
                    have HS3 := Lib.hid hS3
                    clear hst hf hS3 hnf hnt hbf hbt f1 f2 f3 f4
                    go_wp2_with fail
                    go_roundw
                    case rel => exact ⟨a + 1, _, by omega, by go_num, HS3.out.below ((Below.refl _ _).alloc (Nat.le_refl _) _), HIN.out⟩
                    case measure => simp [intOf]; omega
                  · have hst : stepB n true met x = met.set nf true := by unfold stepB; rw [hf]; simp [srcB, dstB, hnf, hnt, hbt]
                    rw [hst] at HIN
                    have HS3 := Lib.hid (hS3.set nf)
                    clear hst hf hS3 hnf hnt hbf hbt f1 f2 f3 f4
                    go_wp2_with fail
                    go_roundw
                    case rel => exact ⟨a + 1, _, by omega, by go_num, HS3.out.below ((Below.refl _ _).alloc (Nat.le_refl _) _), HIN.out⟩
                    case measure => simp [intOf]; omega
            · have hIn2 : RIn n arcs b starts met0 arcs.length met := by
                have := HLEN.out
                rw [show arcs.length = a by omega]; exact hIn
              have hO2 := HO.out.next hIn2
              have HO2 := Lib.hid (And.intro hO2 hS)
              clear hIn hIn2 hO2 hS
              go_wp2_with fail
              go_roundw
              case rel => exact ⟨r + 1, met, by omega, by go_num, HO2.out.2, HO2.out.1⟩
              case measure => simp [intOf]; omega
        · have hrn : r = n := by omega
          subst hrn
          go_wp2_with fail
          go_ret
          exact ⟨w.heap.size + 1, met0, rfl, hS.m, ⟨hO.rr.len, hO.done⟩, hS.b⟩

set_option maxRecDepth 100000 in
set_option maxHeartbeats 1000000 in
theorem rFrom_any (A1 A2 : Option Addr) (n c1 n2 c2 B : Nat) (sup : List Int) (arcs : List ArcV) (As : Option Addr) (ns cs : Nat) (starts : List Int) (w : World) (h : InstR w B A1 A2 n n2 sup arcs) (hB : B ≤ w.heap.size) (hr : Reads w B 1 As ns (starts.map I)) (hns : ns ≤ 1000000000) :
    Calls Try.prog 37 #[.agg #[.slice A1 n c1, .slice A2 n2 c2], .slice As ns cs] w fun e w' => ∃ mb met, e = .returned (.slice (some ⟨mb, 0, none⟩) n n) ∧ Blk w' mb 4 (bools met) ∧ (met.length = n ∧ ∀ v, inS met v ↔ ∃ s ∈ starts, hasB n s = true ∧ Rch (nb0 n arcs) s v) ∧ Below w.heap.size w w' := by
  have hb0 : Below w.heap.size w (w.alloc (.cells #[.slice A1 n c1, .slice A2 n2 c2] 26)) := (Below.refl _ w).alloc (Nat.le_refl _) _
  have hs0 : w.heap.size ≤ (w.alloc (.cells #[.slice A1 n c1, .slice A2 n2 c2] 26)).heap.size := hb0.size
  go_enter Try.func37, Try.ntmps37
  go_wp2_with fail
  generalize w.alloc (.cells #[.slice A1 n c1, .slice A2 n2 c2] 26) = W at *
  refine (rReach_any A1 A2 n c1 n2 c2 B sup arcs As ns cs starts false W (h.keep (hb0.mono hB)) (by omega) (hr.below (hb0.mono hB)) hns).mono ?_
  rintro e w1 ⟨mb, met, rfl, h1, h2, h3⟩
  go_wp2_with fail
  go_ret
  exact ⟨mb, met, rfl, h1, h2, hb0.trans (h3.mono hs0)⟩
set_option maxRecDepth 100000 in
set_option maxHeartbeats 1000000 in
theorem rTo_any (A1 A2 : Option Addr) (n c1 n2 c2 B : Nat) (sup : List Int) (arcs : List ArcV) (As : Option Addr) (ns cs : Nat) (starts : List Int) (w : World) (h : InstR w B A1 A2 n n2 sup arcs) (hB : B ≤ w.heap.size) (hr : Reads w B 1 As ns (starts.map I)) (hns : ns ≤ 1000000000) :
    Calls Try.prog 38 #[.agg #[.slice A1 n c1, .slice A2 n2 c2], .slice As ns cs] w fun e w' => ∃ mb met, e = .returned (.slice (some ⟨mb, 0, none⟩) n n) ∧ Blk w' mb 4 (bools met) ∧ (met.length = n ∧ ∀ v, inS met v ↔ ∃ s ∈ starts, hasB n s = true ∧ Rch (nb0 n arcs) v s) ∧ Below w.heap.size w w' := by
  have hb0 : Below w.heap.size w (w.alloc (.cells #[.slice A1 n c1, .slice A2 n2 c2] 26)) := (Below.refl _ w).alloc (Nat.le_refl _) _
  have hs0 : w.heap.size ≤ (w.alloc (.cells #[.slice A1 n c1, .slice A2 n2 c2] 26)).heap.size := hb0.size
  go_enter Try.func38, Try.ntmps38
  go_wp2_with fail
  generalize w.alloc (.cells #[.slice A1 n c1, .slice A2 n2 c2] 26) = W at *
  refine (rReach_any A1 A2 n c1 n2 c2 B sup arcs As ns cs starts true W (h.keep (hb0.mono hB)) (by omega) (hr.below (hb0.mono hB)) hns).mono ?_
  rintro e w1 ⟨mb, met, rfl, h1, ⟨h2, h4⟩, h3⟩
  go_wp2_with fail
  go_ret
  refine ⟨mb, met, rfl, h1, ⟨h2, fun v => ?_⟩, hb0.trans (h3.mono hs0)⟩
  rw [h4 v]
  constructor
  · rintro ⟨s, g1, g2, g3⟩; exact ⟨s, g1, g2, (Rch_b s v).1 g3⟩
  · rintro ⟨s, g1, g2, g3⟩; exact ⟨s, g1, g2, (Rch_b s v).2 g3⟩
end Go.Proofs.Ytekajenmkpobgaa
