/- The document's answer: Strong, free, Order, Back. -/
import Derived.Test.YtekajenmkpobgaaF2
set_option linter.unusedSimpArgs false
set_option linter.unusedVariables false
namespace Go.Proofs.Ytekajenmkpobgaa
open Go.RowKit Go.Shelf

/-- the first k numbers of groups -/
def LowUp (n : Nat) (arcs : List ArcV) (k : Nat) (ofl : List Int) : Prop := ofl.length = k ∧ ∀ u : Nat, u < k → ∃ m, ofl[u]? = some m ∧ IsLow n arcs (u : Int) m
theorem LowUp.next {n : Nat} {arcs : List ArcV} {k : Nat} {ofl : List Int} {m : Int} (h : LowUp n arcs k ofl) (hm : IsLow n arcs (k : Int) m) : LowUp n arcs (k + 1) (ofl ++ [m]) := by
  refine ⟨by simp [h.1], fun u hu => ?_⟩
  rcases Nat.lt_or_ge u k with h1 | h1
  · rw [List.getElem?_append_left (by rw [h.1]; exact h1)]; exact h.2 u h1
  · have : u = k := by omega
    subst this
    refine ⟨m, ?_, hm⟩
    rw [List.getElem?_append_right (by rw [h.1]; exact Nat.le_refl _), h.1]
    simp
theorem LowUp.all {n : Nat} {arcs : List ArcV} {ofl : List Int} (h : LowUp n arcs n ofl) : LowAll n arcs ofl := by
  refine ⟨h.1, fun v hv => ?_⟩
  have h1 := has_lt hv
  obtain ⟨m, e, l⟩ := h.2 v.toNat h1.2
  rw [show ((v.toNat : Nat) : Int) = v by omega] at l
  exact ⟨m, e, l⟩

set_option maxRecDepth 100000 in
set_option maxHeartbeats 2000000 in
theorem rStrong_any (A1 A2 : Option Addr) (n c1 n2 c2 B : Nat) (sup : List Int) (arcs : List ArcV) (w : World) (h : InstR w B A1 A2 n n2 sup arcs) (hB : B ≤ w.heap.size) :
    Calls Try.prog 39 #[.agg #[.slice A1 n c1, .slice A2 n2 c2]] w fun e w' => ∃ A c ofl, e = .returned (.slice A n c) ∧ w'.ownsRow w.heap.size 3 1 (.slice A n c) n (ofl.map I) ∧ LowAll n arcs ofl ∧ Below w.heap.size w w' := by
  have hn := h.hn
  have hn2 := h.hn2
  obtain ⟨i0, hi, hz0, hz1, hz2⟩ := info_parts Try.info3
  have HI := Lib.hid h
  clear h
  go_enter Try.func39, Try.ntmps39
  go_wp2_with fail
  have hbx : Blk (w.alloc (.cells #[.slice A1 n c1, .slice A2 n2 c2] 26)) w.heap.size 26 #[.slice A1 n c1, .slice A2 n2 c2] := Blk.new _ _ _
  have hb0 : Below w.heap.size w (w.alloc (.cells #[.slice A1 n c1, .slice A2 n2 c2] 26)) := (Below.refl _ w).alloc (Nat.le_refl _) _
  generalize w.alloc (.cells #[.slice A1 n c1, .slice A2 n2 c2] 26) = W at *
  go_loopw [3, 4] (fun v i wr => ∃ (k : Nat) (ofl : List Int), k ≤ n ∧ i = .int .i64 k ∧ wr.ownsRow w.heap.size 3 1 v k (ofl.map I) ∧ LowUp n arcs k ofl ∧ Blk wr w.heap.size 26 #[.slice A1 n c1, .slice A2 n2 c2] ∧ Below w.heap.size w wr) (fun _ i _ => n - (intOf i).toNat)
  case atStart => exact ⟨0, [], Nat.zero_le _, rfl, World.ownsRow_nil _ _ _ _, ⟨rfl, fun u hu => by omega⟩, hbx, hb0⟩
  case round =>
    clear hbx hb0
    obtain ⟨v, ofl, hv, rfl, hown, hL, hbx, hb⟩ := hrel
    have q0 := hbx.cell 0
    have q1 := hbx.cell 1
    simp only [List.getElem?_toArray, List.getElem?_cons_zero, List.getElem?_cons_succ] at q0 q1
    have hsz := hb.size
    by_cases hlt : v < n
    · have hst : Blk (wr.alloc (.cells #[.int .i64 (v : Int)] 3)) wr.heap.size 3 #[.int .i64 (v : Int)] := Blk.new _ _ _
      have hb1 : Below wr.heap.size wr (wr.alloc (.cells #[.int .i64 (v : Int)] 3)) := (Below.refl _ wr).alloc (Nat.le_refl _) _
      go_wp2_with fail
      generalize wr.alloc (.cells #[.int .i64 (v : Int)] 3) = W1 at *
      have hs1 := hb1.size
      have hI1 := (HI.out.keep ((hb.mono hB).trans (hb1.mono (by omega)))).more (B' := W1.heap.size) (by omega)
      refine (rFrom_any A1 A2 n c1 n2 c2 W1.heap.size sup arcs _ 1 1 [(v : Int)] W1 hI1 (Nat.le_refl _) (blk_reads (xs := [.int .i64 (v : Int)]) hst hst.lt rfl) (by omega)).mono ?_
      rintro e w4 ⟨tb, met1, rfl, hmt, ⟨hl1, hR1⟩, hb4⟩
      have hs4 := hb4.size
      have hb04 : Below wr.heap.size wr w4 := hb1.trans (hb4.mono hs1)
      have hbx4 := hbx.below hb04 hbx.lt
      have hown4 := own_below hown hb04
      clear q0 q1 hst hbx hown hb4 hb1 hI1
      have q0 := hbx4.cell 0
      have q1 := hbx4.cell 1
      simp only [List.getElem?_toArray, List.getElem?_cons_zero, List.getElem?_cons_succ] at q0 q1
      have hst : Blk (w4.alloc (.cells #[.int .i64 (v : Int)] 3)) w4.heap.size 3 #[.int .i64 (v : Int)] := Blk.new _ _ _
      have hb5 : Below w4.heap.size w4 (w4.alloc (.cells #[.int .i64 (v : Int)] 3)) := (Below.refl _ w4).alloc (Nat.le_refl _) _
      go_wp2_with fail
      generalize w4.alloc (.cells #[.int .i64 (v : Int)] 3) = W2 at *
      have hs5 := hb5.size
      have hbw4 : Below w.heap.size w w4 := hb.trans (hb04.mono hsz)
      have hI2 := (HI.out.keep ((hbw4.mono hB).trans (hb5.mono (by omega)))).more (B' := W2.heap.size) (by omega)
      refine (rTo_any A1 A2 n c1 n2 c2 W2.heap.size sup arcs _ 1 1 [(v : Int)] W2 hI2 (Nat.le_refl _) (blk_reads (xs := [.int .i64 (v : Int)]) hst hst.lt rfl) (by omega)).mono ?_
      rintro e w6 ⟨fb, met2, rfl, hmf, ⟨hl2, hR2⟩, hb6⟩
      have hs6 := hb6.size
      have hb46 : Below w4.heap.size w4 w6 := hb5.trans (hb6.mono hs5)
      have hbx6 := hbx4.below hb46 hbx4.lt
      have hown6 := own_below hown4 hb46
      have hmt6 := hmt.below hb46 hmt.lt
      have hbw6 : Below w.heap.size w w6 := hbw4.trans (hb46.mono (by omega))
      have hmut : ∀ j : Nat, j < n → ∃ b1 b2, met1[j]? = some b1 ∧ met2[j]? = some b2 ∧ (Mut n arcs (j : Int) (v : Int) ↔ b1 = true ∧ b2 = true) := by
        intro j hj
        obtain ⟨b1, g1, i1⟩ := met_at hl1 hj
        obtain ⟨b2, g2, i2⟩ := met_at hl2 hj
        refine ⟨b1, b2, g1, g2, ?_⟩
        rw [i1, i2, hR1, hR2, one_start (P := fun s => Rch (nb0 n arcs) s (j : Int)) hlt, one_start (P := fun s => Rch (nb0 n arcs) (j : Int) s) hlt]
        exact And.comm
      have HM := Lib.hid hmut
      have HLL := Lib.hid hL
      clear q0 q1 hst hbx4 hown4 hb46 hb5 hb6 hI2 hmt hmut hR1 hR2 hL hl1 hl2
      go_wp2_with fail
      go_loop [7, 8] (fun l i => ∃ j ll : Nat, j ≤ v ∧ i = .int .i64 j ∧ l = .int .i64 ll ∧ ll ≤ v ∧ Mut n arcs (ll : Int) (v : Int) ∧ ∀ u : Nat, u < j → Mut n arcs (u : Int) (v : Int) → ll ≤ u) (fun _ i => v - (intOf i).toNat)
      case atStart => exact ⟨0, v, Nat.zero_le _, rfl, rfl, Nat.le_refl _, Mut.refl _ _ _, fun u hu => by omega⟩
      case round =>
        obtain ⟨j, ll, hj, rfl, rfl, hll, hmu, hmin⟩ := hrel
        have HMI := Lib.hid (And.intro hmu hmin)
        clear hmu hmin
        by_cases hlj : j < v
        · obtain ⟨b1, b2, g1, g2, giff⟩ := HM.out j (by omega)
          have s1 : w6.cell? ⟨tb, j, none⟩ = some (.bool b1) := (hmt6.cell j).trans (bools_of g1)
          have s2 : w6.cell? ⟨fb, j, none⟩ = some (.bool b2) := (hmf.cell j).trans (bools_of g2)
          have GI := Lib.hid giff
          have jn : j < n := by omega
          clear g1 g2 giff
          have hkeep : (¬ (b1 = true ∧ b2 = true)) → ∀ u : Nat, u < j + 1 → Mut n arcs (u : Int) (v : Int) → ll ≤ u := by
            intro hno u hu hm
            rcases Nat.lt_or_ge u j with h1 | h1
            · exact HMI.out.2 u h1 hm
            · have : u = j := by omega
              subst this
              exact absurd (GI.out.1 hm) hno
          have HK := Lib.hid hkeep
          clear hkeep
          cases b1
          · go_wp2_with fail
            go_round
            case rel => exact ⟨j + 1, ll, by omega, by go_num, rfl, hll, HMI.out.1, HK.out (by simp)⟩
            case measure => simp [intOf]; omega
          · cases b2
            · go_wp2_with fail
              go_round
              case rel => exact ⟨j + 1, ll, by omega, by go_num, rfl, hll, HMI.out.1, HK.out (by simp)⟩
              case measure => simp [intOf]; omega
            · by_cases hjl : ll ≤ j
              · go_wp2_with fail
                go_round
                case rel =>
                  refine ⟨j + 1, ll, by omega, by go_num, rfl, hll, HMI.out.1, fun u hu hm => ?_⟩
                  rcases Nat.lt_or_ge u j with h1 | h1
                  · exact HMI.out.2 u h1 hm
                  · omega
                case measure => simp [intOf]; omega
              · go_wp2_with fail
                go_round
                case rel =>
                  refine ⟨j + 1, j, by omega, by go_num, rfl, by omega, GI.out.2 ⟨rfl, rfl⟩, fun u hu hm => ?_⟩
                  rcases Nat.lt_or_ge u j with h1 | h1
                  · have := HMI.out.2 u h1 hm
                    omega
                  · exact h1
                case measure => simp [intOf]; omega
        · have hlow : IsLow n arcs (v : Int) (ll : Int) := by
            refine ⟨HMI.out.1, by simp [hasB]; omega, fun u hu hh => ?_⟩
            have h1 := has_lt hh
            rcases Nat.lt_or_ge u.toNat v with h2 | h2
            · have := HMI.out.2 u.toNat (by omega) (by rw [show ((u.toNat : Nat) : Int) = u by omega]; exact hu)
              omega
            · omega
          have HLN := Lib.hid (HLL.out.next hlow)
          clear hlow
          go_wp2_with (at_builtin; refine wpList_append_own _ rfl _ _ 28 rfl w.heap.size 3 i0 (.int .i64 0) 1 8 Try.underlying28 hi hz0 hz1 hz2 rfl (by decide) _ _ _ rfl (hown6.alloc _) ⟨w6.heap.size, 0, none⟩ 1 1 [.int .i64 (ll : Int)] rfl rfl ?e1 ?e2 ?e3 ?e4 ?e5 ?_)
          case e2 => simp [Value.oneCell']
          case e3 => unfold maxLen; omega
          case e4 => omega
          case e5 => omega
          intro v' w8 hown' hgrow _
          have hb8 : Below w.heap.size w w8 := (hbw6.alloc (by omega) _).grown hgrow (by simp; omega) (fun j hj => (hown6.lt j hj).1)
          have hbx8 := (hbx6.alloc (.cells #[.int .i64 (ll : Int)] 3)).grown hgrow (fun e => own_blk_ne hown6 hbx6 (by decide) e.symm)
          have hown8 : w8.ownsRow w.heap.size 3 1 v' (v + 1) ((ofl ++ [(ll : Int)]).map I) := by
            simpa [I] using hown'
          have H8 := Lib.hid (And.intro hb8 (And.intro hbx8 hown8))
          clear hb8 hbx8 hown8 hown' hgrow hown6 hbx6
          go_wp2_with fail
          go_roundw
          case rel => exact ⟨v + 1, _, by omega, by go_num, H8.out.2.2, HLN.out, H8.out.2.1, H8.out.1⟩
          case measure => simp [intOf]; omega
    · go_wp2_with fail
      go_ret
      have hvn : v = n := by omega
      subst hvn
      obtain ⟨A, c, rfl⟩ := own_form hown
      exact ⟨A, c, ofl, rfl, hown, hL.all, hb⟩

/-- is every arc into v out of one that was told? -/
def FreeB (n : Nat) (arcs : List ArcV) (tl : List Bool) (v : Int) : Prop := ∀ x ∈ arcs, fitB n x = true → x.t = v → inS tl x.f
theorem FreeB_iff {n : Nat} {arcs : List ArcV} {tl : List Bool} {T : List Int} (h : ∀ v, inS tl v ↔ v ∈ T) (v : Int) : FreeB n arcs tl v ↔ Free n arcs T v := by
  unfold FreeB Free
  constructor
  · intro h1 x h2 h3 h4; exact (h _).1 (h1 x h2 h3 h4)
  · intro h1 x h2 h3 h4; exact (h _).2 (h1 x h2 h3 h4)

def FreeTells (n : Nat) (arcs : List ArcV) (tl : List Bool) (v : Int) (w : World) (e : Ending) (w' : World) : Prop := ∃ b : Bool, e = .returned (.bool b) ∧ (b = true ↔ FreeB n arcs tl v) ∧ Below w.heap.size w w'

set_option maxRecDepth 100000 in
set_option maxHeartbeats 2000000 in
theorem rfree_any (A1 A2 : Option Addr) (n c1 n2 c2 B : Nat) (sup : List Int) (arcs : List ArcV) (tb : Nat) (tl : List Bool) (v : Nat) (w : World) (h : InstR w B A1 A2 n n2 sup arcs) (hB : B ≤ w.heap.size) (ht : Blk w tb 4 (bools tl)) (hl : tl.length = n) :
    Calls Try.prog 54 #[.agg #[.slice A1 n c1, .slice A2 n2 c2], .slice (some ⟨tb, 0, none⟩) n n, .int .i64 (v : Int)] w (FreeTells n arcs tl (v : Int) w) := by
  have hn := h.hn
  have hn2 := h.hn2
  have hlen := h.len
  have HI := Lib.hid h
  have HLEN := Lib.hid hlen
  have hll : tl.length ≤ n ∧ n ≤ tl.length := by omega
  have HLL := Lib.hid hl
  clear h hlen hl
  go_enter Try.func54, Try.ntmps54
  go_wp2_with fail
  have hbx : Blk (w.alloc (.cells #[.slice A1 n c1, .slice A2 n2 c2] 26)) w.heap.size 26 #[.slice A1 n c1, .slice A2 n2 c2] := Blk.new _ _ _
  have hb0 : Below w.heap.size w (w.alloc (.cells #[.slice A1 n c1, .slice A2 n2 c2] 26)) := (Below.refl _ w).alloc (Nat.le_refl _) _
  generalize w.alloc (.cells #[.slice A1 n c1, .slice A2 n2 c2] 26) = W at *
  go_loopw [7] (fun i wr => ∃ a : Nat, a ≤ n2 ∧ i = .int .i64 a ∧ Blk wr w.heap.size 26 #[.slice A1 n c1, .slice A2 n2 c2] ∧ Below w.heap.size w wr ∧ ∀ k x, k < a → arcs[k]? = some x → fitB n x = true → x.t = (v : Int) → inS tl x.f) (fun i _ => n2 - (intOf i).toNat)
  case atStart => exact ⟨0, Nat.zero_le _, rfl, hbx, hb0, fun k x hk => by omega⟩
  case round =>
    clear hbx hb0
    obtain ⟨a, ha, rfl, hbx, hb, hK⟩ := hrel
    have q0 := hbx.cell 0
    have q1 := hbx.cell 1
    simp only [List.getElem?_toArray, List.getElem?_cons_zero, List.getElem?_cons_succ] at q0 q1
    have hsz := hb.size
    have HK := Lib.hid hK
    clear hK
    by_cases hlt : a < n2
    · obtain ⟨x, hx⟩ : ∃ x, arcs[a]? = some x := ⟨_, List.getElem?_eq_getElem (by have := HLEN.out; omega)⟩
      go_wp2_with fail
      refine (rArc_any A1 A2 n c1 n2 c2 B sup arcs _ (HI.out.keep (hb.mono hB)) (by omega) a x hx).mono ?_
      rintro e w3 ⟨rfl, hb3⟩
      have hbx3 := hbx.below hb3 hbx.lt
      have hbw3 : Below w.heap.size w w3 := hb.trans (hb3.mono hsz)
      have ht3 := ht.below hbw3 ht.lt
      have hs3 := hbw3.size
      have HX := Lib.hid hx
      clear hbx q0 q1 hx hb
      have hnext : (fitB n x = true → x.t = (v : Int) → inS tl x.f) → ∀ k y, k < a + 1 → arcs[k]? = some y → fitB n y = true → y.t = (v : Int) → inS tl y.f := by
        intro h1 k y hk hy
        rcases Nat.lt_or_ge k a with h2 | h2
        · exact HK.out k y h2 hy
        · have : k = a := by omega
          subst this
          rw [HX.out] at hy
          cases hy
          exact h1
      have HN := Lib.hid hnext
      clear hnext
      cases hf : fitB n x
      · rw [arcTells_no hf]
        rw [hf] at HN
        have H3 := Lib.hid (And.intro hbx3 hbw3)
        clear hf hbx3 hbw3
        go_wp2_with fail
        go_roundw
        case rel => exact ⟨a + 1, by omega, by go_num, H3.out.1.alloc _, H3.out.2.alloc hs3 _, HN.out (by simp)⟩
        case measure => simp [intOf]; omega
      · rw [arcTells_yes hf]
        obtain ⟨f1, f2, f3, f4⟩ := fit_bounds hf
        obtain ⟨nf, hnf⟩ := Int.eq_ofNat_of_zero_le f1
        obtain ⟨nt, hnt⟩ := Int.eq_ofNat_of_zero_le f3
        have hfN : nf < n := by omega
        have HF := Lib.hid (And.intro hf (And.intro hnf hnt))
        rw [hnf, hnt]
        obtain ⟨bf, hbf⟩ : ∃ bf, tl[nf]? = some bf := ⟨_, List.getElem?_eq_getElem (by omega)⟩
        have p1 : w3.cell? ⟨tb, nf, none⟩ = some (.bool bf) := (ht3.cell nf).trans (bools_of hbf)
        have lt3 := ht3.lt
        have HB := Lib.hid hbf
        have H3 := Lib.hid (And.intro hbx3 hbw3)
        clear hf hnf hnt f1 f2 f3 f4 hbf hbx3 hbw3
        by_cases htv : nt = v
        · have d1 : ((nt : Int) == (v : Int)) = true := by simp; omega
          cases bf
          · go_wp2_with fail
            go_ret
            refine ⟨false, rfl, ?_, H3.out.2.alloc hs3 _⟩
            constructor
            · intro hh; cases hh
            · intro hh
              have := (hh x (List.mem_of_getElem? HX.out) HF.out.1 (by rw [HF.out.2.2, htv])).2
              rw [HF.out.2.1, Int.toNat_natCast, HB.out] at this
              cases this
          · go_wp2_with fail
            go_roundw
            case rel => exact ⟨a + 1, by omega, by go_num, H3.out.1.alloc _, H3.out.2.alloc hs3 _, HN.out (fun _ _ => ⟨by rw [HF.out.2.1]; omega, by rw [HF.out.2.1, Int.toNat_natCast, HB.out]⟩)⟩
            case measure => simp [intOf]; omega
        · have d1 : ((nt : Int) == (v : Int)) = false := by simp; omega
          go_wp2_with fail
          go_roundw
          case rel => exact ⟨a + 1, by omega, by go_num, H3.out.1.alloc _, H3.out.2.alloc hs3 _, HN.out (fun _ hh => absurd hh (by rw [HF.out.2.2]; omega))⟩
          case measure => simp [intOf]; omega
    · go_wp2_with fail
      go_ret
      refine ⟨true, rfl, ?_, hb⟩
      constructor
      · intro _ x hx hf ht
        obtain ⟨k, hk, e⟩ := List.getElem_of_mem hx
        exact HK.out k x (by have := HLEN.out; omega) (by rw [List.getElem?_eq_getElem hk, e]) hf ht
      · intro _; rfl

/-- a node that may come next -/
def Cand (n : Nat) (arcs : List ArcV) (tl : List Bool) (u : Nat) : Prop := ¬ inS tl (u : Int) ∧ FreeB n arcs tl (u : Int)
/-- the least of those from j on -/
def NextIs (n : Nat) (arcs : List ArcV) (tl : List Bool) (j : Nat) (x : Int) : Prop :=
  (x = -1 ∧ ∀ u : Nat, j ≤ u → u < n → ¬ Cand n arcs tl u) ∨ ∃ u : Nat, x = u ∧ j ≤ u ∧ u < n ∧ Cand n arcs tl u ∧ ∀ t : Nat, j ≤ t → t < u → ¬ Cand n arcs tl t
theorem NextIs.start (n : Nat) (arcs : List ArcV) (tl : List Bool) : NextIs n arcs tl n (-1) := .inl ⟨rfl, fun u h1 h2 => by omega⟩
theorem NextIs.yes {n : Nat} {arcs : List ArcV} {tl : List Bool} {j : Nat} (hj : j < n) (hc : Cand n arcs tl j) : NextIs n arcs tl j (j : Int) := .inr ⟨j, rfl, Nat.le_refl _, hj, hc, fun t h1 h2 => by omega⟩
theorem NextIs.no {n : Nat} {arcs : List ArcV} {tl : List Bool} {j : Nat} {x : Int} (h : NextIs n arcs tl (j + 1) x) (hc : ¬ Cand n arcs tl j) : NextIs n arcs tl j x := by
  rcases h with ⟨h1, h2⟩ | ⟨u, h1, h2, h3, h4, h5⟩
  · refine .inl ⟨h1, fun u h3 h4 => ?_⟩
    by_cases e : u = j
    · rw [e]; exact hc
    · exact h2 u (by omega) h4
  · refine .inr ⟨u, h1, by omega, h3, h4, fun t g1 g2 => ?_⟩
    by_cases e : t = j
    · rw [e]; exact hc
    · exact h5 t (by omega) g2
section
variable {n : Nat} {arcs : List ArcV} {tl : List Bool} {out : List Int}
theorem NextIs.stuck (h : NextIs n arcs tl 0 (-1)) (hT : ∀ v, inS tl v ↔ v ∈ out) : Stuck n arcs out := by
  rcases h with ⟨_, h2⟩ | ⟨u, h1, _⟩
  · intro y hy hn hf
    have h3 := has_lt hy
    refine h2 y.toNat (by omega) h3.2 ⟨?_, ?_⟩
    · rw [show ((y.toNat : Nat) : Int) = y by omega, hT]; exact hn
    · rw [show ((y.toNat : Nat) : Int) = y by omega]; exact (FreeB_iff hT y).2 hf
  · omega
theorem NextIs.least {u : Nat} (h : NextIs n arcs tl 0 (u : Int)) (hT : ∀ v, inS tl v ↔ v ∈ out) : LeastFree n arcs out (u : Int) ∧ u < n := by
  rcases h with ⟨h1, _⟩ | ⟨t, h1, _, h3, h4, h5⟩
  · omega
  · have : t = u := by omega
    subst this
    refine ⟨⟨by simp [hasB]; omega, fun hm => h4.1 ((hT _).2 hm), (FreeB_iff hT _).1 h4.2, fun y g1 g2 g3 => ?_⟩, h3⟩
    have g4 := has_lt g1
    rcases Nat.lt_or_ge y.toNat t with g5 | g5
    · exfalso
      refine h5 y.toNat (by omega) g5 ⟨?_, ?_⟩
      · rw [show ((y.toNat : Nat) : Int) = y by omega, hT]; exact g2
      · rw [show ((y.toNat : Nat) : Int) = y by omega]; exact (FreeB_iff hT y).2 g3
    · omega
end

set_option maxRecDepth 100000 in
set_option maxHeartbeats 2000000 in
theorem rOrder_any (A1 A2 : Option Addr) (n c1 n2 c2 B : Nat) (sup : List Int) (arcs : List ArcV) (w : World) (h : InstR w B A1 A2 n n2 sup arcs) (hB : B ≤ w.heap.size) :
    Calls Try.prog 36 #[.agg #[.slice A1 n c1, .slice A2 n2 c2]] w (OrderTells n arcs w) := by
  have hn := h.hn
  have hn2 := h.hn2
  obtain ⟨i0, hi, hz0, hz1, hz2⟩ := info_parts Try.info3
  have hmk := makeBools n (by omega)
  rw [madeBools] at hmk
  have HI := Lib.hid h
  clear h
  go_enter Try.func36, Try.ntmps36
  go_wp2_with fail
  have hS : RSt n c1 n2 c2 A1 A2 (List.replicate n false) w ((w.alloc (.cells #[.slice A1 n c1, .slice A2 n2 c2] 26)).alloc (.cells (bools (List.replicate n false)) 4)) :=
    ⟨(Blk.new w 26 _).alloc _, blk_newN _ _ _ _ (World.size_alloc _ _), ((Below.refl _ w).alloc (Nat.le_refl _) _).alloc (by simp) _⟩
  generalize (w.alloc (.cells #[.slice A1 n c1, .slice A2 n2 c2] 26)).alloc (.cells (bools (List.replicate n false)) 4) = W at *
  clear hmk
  go_loopg [5] n (fun g v wr => ∃ (out : List Int) (tl : List Bool) (A : Option Addr) (c : Nat), g + out.length = n ∧ v = .slice A out.length c ∧ wr.ownsRow w.heap.size 3 1 (.slice A out.length c) out.length (out.map I) ∧ RSt n c1 n2 c2 A1 A2 tl w wr ∧ tl.length = n ∧ (∀ v, inS tl v ↔ v ∈ out) ∧ Greedy n arcs out)
  case atStart => exact ⟨[], _, none, 0, by simp, rfl, World.ownsRow_nil _ _ _ _, hS, by simp, fun v => ⟨fun h => absurd h (not_inS_replicate n v), fun h => by cases h⟩, Greedy.nil n arcs⟩
  case round =>
    clear hS
    obtain ⟨out, tl, A, c, hg, rfl, hown, hS, hl, hT, hG⟩ := hrel
    have q0 := hS.i.cell 0
    simp only [List.getElem?_toArray, List.getElem?_cons_zero, List.getElem?_cons_succ] at q0
    have hol := hG.len
    have HT := Lib.hid (And.intro hl (And.intro hT hG))
    clear hl hT hG
    by_cases hlt : out.length < n
    · obtain ⟨n', hn'⟩ : ∃ n', n = n' + 1 := ⟨n - 1, by omega⟩
      have HN := Lib.hid hn'
      clear hn'
      go_wp2_with fail
      go_loopw [6, 7] (fun nx i wx => ∃ (j : Nat) (x : Int), j ≤ n ∧ ((j = 0 ∧ i = .int .i64 (-1)) ∨ ∃ j', j = j' + 1 ∧ i = .int .i64 (j' : Int)) ∧ nx = .int .i64 x ∧ NextIs n arcs tl j x ∧ RSt n c1 n2 c2 A1 A2 tl w wx ∧ wx.ownsRow w.heap.size 3 1 (.slice A out.length c) out.length (out.map I)) (fun _ i _ => (intOf i + 1).toNat)
      case atStart => exact ⟨n, -1, Nat.le_refl _, .inr ⟨n', HN.out, by rw [show ((n : Int) - 1) = (n' : Int) by have := HN.out; omega]⟩, rfl, NextIs.start n arcs tl, hS, hown⟩
      case round =>
        clear hS hown q0
        obtain ⟨j, x, hj, hor, rfl, hN, hS, hown⟩ := hrel
        have HNX := Lib.hid hN
        clear hN
        have q0 := hS.i.cell 0
        have q1 := hS.i.cell 1
        simp only [List.getElem?_toArray, List.getElem?_cons_zero, List.getElem?_cons_succ] at q0 q1
        have hsz := hS.b.size
        rcases hor with ⟨hj0, rfl⟩ | ⟨j', hj1, rfl⟩
        · subst hj0
          by_cases hx0 : x < 0
          · have d1 : decide (x < 0) = true := by simpa using hx0
            have hx1 : x = -1 := by
              rcases HNX.out with ⟨h1, _⟩ | ⟨u, h1, _⟩
              · exact h1
              · omega
            have hst : Stuck n arcs out := by
              have := HNX.out
              rw [hx1] at this
              exact this.stuck HT.out.2.1
            have HST := Lib.hid hst
            clear hst hx1
            go_wp2_with fail
            go_ret2
            exact ⟨out, HT.out.2.2, HST.out, hS.b, .inl ⟨hlt, rfl⟩⟩
          · obtain ⟨u, hu⟩ := Int.eq_ofNat_of_zero_le (show 0 ≤ x by omega)
            subst hu
            have hle := HNX.out.least HT.out.2.1
            have hun := hle.2
            have hml := HT.out.1
            have q2 : ∃ y, wr.cell? ⟨w.heap.size + 1, u, none⟩ = some y := by
              rw [hS.m.cell]; exact ⟨_, Array.getElem?_eq_getElem (by simp [bools]; omega)⟩
            obtain ⟨y, q2⟩ := q2
            have f2 := hS.m.frozen u
            have hS1 := hS.set u
            have hown1 := own_other hown (p := ⟨w.heap.size + 1, u, none⟩) (own_blk_ne hown hS.m (by decide)) (.bool true)
            have hT1 : ∀ v, inS (tl.set u true) v ↔ v ∈ out ++ [(u : Int)] := by
              intro v
              have := inS_setI (met := tl) (n := n) HT.out.1 (d := (u : Int)) (by simp [hasB]; omega) v
              rw [Int.toNat_natCast] at this
              rw [this, HT.out.2.1, List.mem_append, List.mem_singleton]
            have HH := Lib.hid (And.intro hT1 (And.intro (HT.out.2.2.snoc hle.1) hS1))
            have hs1 := hS1.b.size
            clear hT1 hle hS1 hx0 hml
            go_wp2_with (at_builtin; refine wpList_append_own _ rfl _ _ 28 rfl w.heap.size 3 i0 (.int .i64 0) 1 8 Try.underlying28 hi hz0 hz1 hz2 rfl (by decide) _ _ _ rfl (hown1.alloc _) ⟨wr.heap.size, 0, none⟩ 1 1 [.int .i64 (u : Int)] rfl rfl ?e1 ?e2 ?e3 ?e4 ?e5 ?_)
            case e1 =>
              intro j z hz
              rw [add_lit, (blk_newN (wr.setCell ⟨w.heap.size + 1, u, none⟩ (.bool true)) 3 #[.int .i64 (u : Int)] wr.heap.size (by simp [World.setCell])).cell]
              simpa using hz
            case e2 => simp [Value.oneCell']
            case e3 => unfold maxLen; omega
            case e4 => omega
            case e5 => simp; omega
            intro v' w8 hown' hgrow _
            have hi8 := (HH.out.2.2.i.alloc (.cells #[.int .i64 (u : Int)] 3)).grown hgrow (fun e => own_blk_ne hown1 HH.out.2.2.i (by decide) e.symm)
            have hm8 := (HH.out.2.2.m.alloc (.cells #[.int .i64 (u : Int)] 3)).grown hgrow (fun e => own_blk_ne hown1 HH.out.2.2.m (by decide) e.symm)
            have hb8 : Below w.heap.size w w8 := (HH.out.2.2.b.alloc (o := .cells #[.int .i64 (u : Int)] 3) hs1).grown hgrow (by simp; omega) (fun j hj => (hown1.lt j hj).1)
            have hown8 : w8.ownsRow w.heap.size 3 1 v' (out ++ [(u : Int)]).length ((out ++ [(u : Int)]).map I) := by
              simpa [I] using hown'
            obtain ⟨A8, c8, rfl⟩ := own_form hown8
            have H8 := Lib.hid (And.intro (show RSt n c1 n2 c2 A1 A2 (tl.set u true) w w8 from ⟨hi8, hm8, hb8⟩) hown8)
            clear hi8 hm8 hb8 hown8 hown' hgrow hown1 hown
            go_wp2_with fail
            go_roundg (gk - 1)
            case measure => omega
            case rel => exact ⟨out ++ [(u : Int)], tl.set u true, A8, c8, by simp; omega, rfl, H8.out.2, H8.out.1, by simpa using HT.out.1, HH.out.1, HH.out.2.1⟩
        · subst hj1
          have jn : j' < n := by omega
          obtain ⟨bt, hbt⟩ : ∃ bt, tl[j']? = some bt := ⟨_, List.getElem?_eq_getElem (by have := HT.out.1; omega)⟩
          have p1 : wr.cell? ⟨w.heap.size + 1, j', none⟩ = some (.bool bt) := (hS.m.cell j').trans (bools_of hbt)
          have HBT := Lib.hid hbt
          have hcnt : (j' = 0 ∧ (Value.int .i64 ((j' : Int) - 1)) = .int .i64 (-1)) ∨ ∃ k, j' = k + 1 ∧ (Value.int .i64 ((j' : Int) - 1)) = .int .i64 (k : Int) := by
            rcases Nat.eq_zero_or_pos j' with h0 | h0
            · exact .inl ⟨h0, by rw [h0]; rfl⟩
            · exact .inr ⟨j' - 1, by omega, by rw [show ((j' : Int) - 1) = ((j' - 1 : Nat) : Int) by omega]⟩
          have HC := Lib.hid hcnt
          clear hbt hcnt
          cases bt
          · go_wp2_with fail
            refine (rfree_any A1 A2 n c1 n2 c2 B sup arcs (w.heap.size + 1) tl j' wr (HI.out.keep (hS.b.mono hB)) (by omega) hS.m HT.out.1).mono ?_
            rintro e w5 ⟨fb, rfl, hfb, hb5⟩
            have hS5 := hS.below hb5
            have hown5 := own_below hown hb5
            have HS5 := Lib.hid (And.intro hS5 (And.intro hown5 hfb))
            clear hS hown hS5 hown5 hfb p1 q0 q1
            cases fb
            · go_wp2_with fail
              go_roundw
              case rel => exact ⟨j', x, by omega, HC.out, rfl, HNX.out.no (fun hc => (by have := HS5.out.2.2.2 hc.2; cases this)), HS5.out.1, HS5.out.2.1⟩
              case measure => simp [intOf]
            · go_wp2_with fail
              go_roundw
              case rel => exact ⟨j', (j' : Int), by omega, HC.out, rfl, NextIs.yes jn ⟨(fun hin => by have := hin.2; rw [Int.toNat_natCast, HBT.out] at this; cases this), HS5.out.2.2.1 (by trivial)⟩, HS5.out.1, HS5.out.2.1⟩
              case measure => simp [intOf]
          · go_wp2_with fail
            go_roundw
            case rel => exact ⟨j', x, by omega, HC.out, rfl, HNX.out.no (fun hc => hc.1 ⟨by omega, by rw [Int.toNat_natCast]; exact HBT.out⟩), hS, hown⟩
            case measure => simp [intOf]
    · have hln : out.length = n := by omega
      have hst : Stuck n arcs out := fun y hy hn _ => hn (List.mem_iff_getElem?.2 (HT.out.2.2.all hln y hy))
      have HST := Lib.hid (And.intro hst hln)
      clear hst hln
      go_wp2_with fail
      go_ret2
      refine ⟨out, HT.out.2.2, HST.out.1, hS.b, .inr ⟨HST.out.2, A, c, by rw [HST.out.2]; rfl, ?_⟩⟩
      have := hown
      rw [HST.out.2] at this
      exact this

/-- what is told of the first arcs -/
def BackUp (n : Nat) (arcs : List ArcV) (a : Nat) (l : List Bool) : Prop := l.length = a ∧ ∀ k x, k < a → arcs[k]? = some x → ∃ b, l[k]? = some b ∧ (b = true ↔ fitB n x = true ∧ Rch (nb0 n arcs) x.t x.f)
theorem BackUp.next {n : Nat} {arcs : List ArcV} {a : Nat} {l : List Bool} {x : ArcV} {b : Bool} (h : BackUp n arcs a l) (hx : arcs[a]? = some x) (hb : b = true ↔ fitB n x = true ∧ Rch (nb0 n arcs) x.t x.f) : BackUp n arcs (a + 1) (l ++ [b]) := by
  refine ⟨by simp [h.1], fun k y hk hy => ?_⟩
  rcases Nat.lt_or_ge k a with h1 | h1
  · rw [List.getElem?_append_left (by rw [h.1]; exact h1)]; exact h.2 k y h1 hy
  · have : k = a := by omega
    subst this
    rw [hx] at hy
    cases hy
    exact ⟨b, by rw [List.getElem?_append_right (by rw [h.1]; exact Nat.le_refl _), h.1]; simp, hb⟩
theorem BackUp.all {n : Nat} {arcs : List ArcV} {l : List Bool} {ofl : List Int} (h : BackUp n arcs arcs.length l) (hL : LowAll n arcs ofl) : arcs.map (backOf n ofl) = l := by
  apply List.ext_getElem?
  intro k
  rcases Nat.lt_or_ge k arcs.length with hk | hk
  · obtain ⟨b, e, hb⟩ := h.2 k _ hk (List.getElem?_eq_getElem hk)
    rw [e, List.getElem?_map, List.getElem?_eq_getElem hk, Option.map_some]
    congr 1
    rw [Bool.eq_iff_iff, back_iff hL, hb]
    refine and_congr_right fun hf => ?_
    exact ⟨fun hm => hm.2, fun hr => ⟨arc_rch (List.getElem_mem hk) hf, hr⟩⟩
  · rw [List.getElem?_eq_none (by simpa using hk), List.getElem?_eq_none (by rw [h.1]; exact hk)]

def BackCut (n c1 n2 c2 : Nat) (A1 A2 : Option Addr) (arcs : List ArcV) (a : Nat) (w : World) (s3 : Value) (wx : World) : Prop := ∃ l, wx.ownsRow w.heap.size 4 1 s3 (a + 1) (l.map V) ∧ BackUp n arcs (a + 1) l ∧ Blk wx w.heap.size 26 #[.slice A1 n c1, .slice A2 n2 c2] ∧ Below w.heap.size w wx

set_option maxRecDepth 100000 in
set_option maxHeartbeats 2000000 in
theorem rBack_any (A1 A2 : Option Addr) (n c1 n2 c2 B : Nat) (sup : List Int) (arcs : List ArcV) (w : World) (h : InstR w B A1 A2 n n2 sup arcs) (hB : B ≤ w.heap.size) :
    Calls Try.prog 40 #[.agg #[.slice A1 n c1, .slice A2 n2 c2]] w fun e w' => ∃ A c l, e = .returned (.slice A n2 c) ∧ w'.ownsRow w.heap.size 4 1 (.slice A n2 c) n2 (l.map V) ∧ BackUp n arcs n2 l ∧ Below w.heap.size w w' := by
  have hn := h.hn
  have hn2 := h.hn2
  have hlen := h.len
  obtain ⟨i0, hi, hz0, hz1, hz2⟩ := info_parts Try.info4
  have HI := Lib.hid h
  have HLEN := Lib.hid hlen
  clear h hlen
  go_enter Try.func40, Try.ntmps40
  go_wp2_with fail
  have hbx : Blk (w.alloc (.cells #[.slice A1 n c1, .slice A2 n2 c2] 26)) w.heap.size 26 #[.slice A1 n c1, .slice A2 n2 c2] := Blk.new _ _ _
  have hb0 : Below w.heap.size w (w.alloc (.cells #[.slice A1 n c1, .slice A2 n2 c2] 26)) := (Below.refl _ w).alloc (Nat.le_refl _) _
  generalize w.alloc (.cells #[.slice A1 n c1, .slice A2 n2 c2] 26) = W at *
  go_loopw [3, 4] (fun v i wr => ∃ (k : Nat) (l : List Bool), k ≤ n2 ∧ i = .int .i64 k ∧ wr.ownsRow w.heap.size 4 1 v k (l.map V) ∧ BackUp n arcs k l ∧ Blk wr w.heap.size 26 #[.slice A1 n c1, .slice A2 n2 c2] ∧ Below w.heap.size w wr) (fun _ i _ => n2 - (intOf i).toNat)
  case atStart => exact ⟨0, [], Nat.zero_le _, rfl, World.ownsRow_nil _ _ _ _, ⟨rfl, fun k x hk => by omega⟩, hbx, hb0⟩
  case round =>
    clear hbx hb0
    obtain ⟨a, l, ha, rfl, hown, hL, hbx, hb⟩ := hrel
    have q0 := hbx.cell 0
    have q1 := hbx.cell 1
    simp only [List.getElem?_toArray, List.getElem?_cons_zero, List.getElem?_cons_succ] at q0 q1
    have hsz := hb.size
    by_cases hlt : a < n2
    · obtain ⟨x, hx⟩ : ∃ x, arcs[a]? = some x := ⟨_, List.getElem?_eq_getElem (by have := HLEN.out; omega)⟩
      go_wp2_with fail
      refine (rArc_any A1 A2 n c1 n2 c2 B sup arcs _ (HI.out.keep (hb.mono hB)) (by omega) a x hx).mono ?_
      rintro e w3 ⟨rfl, hb3⟩
      have hbx3 := hbx.below hb3 hbx.lt
      have hbw3 : Below w.heap.size w w3 := hb.trans (hb3.mono hsz)
      have hown3 := own_below hown hb3
      have hs3 := hbw3.size
      have HX := Lib.hid hx
      have HLL := Lib.hid hL
      clear hbx q0 q1 hx hb hown hL
      cases hf : fitB n x
      · rw [arcTells_no hf]
        have hnx : BackUp n arcs (a + 1) (l ++ [false]) := HLL.out.next HX.out (by rw [hf]; simp)
        have HNX := Lib.hid hnx
        clear hf hnx
        go_wp2_with fail
        have hbx4 := hbx3.alloc (.cells #[.int .i64 0, .int .i64 0, .int .i64 0, .int .i64 0, .int .i64 0] 36)
        have hbw4 : Below w.heap.size w (w3.alloc (.cells #[.int .i64 0, .int .i64 0, .int .i64 0, .int .i64 0, .int .i64 0] 36)) := hbw3.alloc hs3 _
        have hown4 := hown3.alloc (.cells #[.int .i64 0, .int .i64 0, .int .i64 0, .int .i64 0, .int .i64 0] 36)
        generalize w3.alloc (.cells #[.int .i64 0, .int .i64 0, .int .i64 0, .int .i64 0, .int .i64 0] 36) = W3 at *
        have hs4 := hbw4.size
        clear hbx3 hbw3 hown3
        refine wp_region_any (by kernel_rfl) ?_
        refine wpAny_take (i := 0) (v := u3) rfl (by kernel_rfl) (by kernel_rfl) (by kernel_rfl) (fun _ _ _ h => h) (Or.inl ⟨by kernel_rfl, by intro w; go_simp⟩) ?_
        refine wpAny_take (i := 1) (v := .bool false) rfl (by kernel_rfl) (by kernel_rfl) (by kernel_rfl) (fun _ _ _ h => h) (Or.inl ⟨by kernel_rfl, by intro w; go_simp⟩) ?_
        refine wpAny_take (i := 2) (v := .bool false) rfl (by kernel_rfl) (by kernel_rfl) (by kernel_rfl) (fun _ _ _ h => h) (Or.inl ⟨by kernel_rfl, by intro w; go_simp⟩) ?_
        refine wpAny_take (i := 3) (v := undef) rfl (by kernel_rfl) (by kernel_rfl) (by kernel_rfl) (fun _ _ _ h => h) (Or.inr ⟨by kernel_rfl, rfl⟩) ?_
        refine wpAny_take (i := 4) (v := undef) rfl (by kernel_rfl) (by kernel_rfl) (by kernel_rfl) (fun _ _ _ h => h) (Or.inr ⟨by kernel_rfl, rfl⟩) ?_
        refine wpAny_take (i := 5) (v := undef) rfl (by kernel_rfl) (by kernel_rfl) (by kernel_rfl) (fun _ _ _ h => h) (Or.inr ⟨by kernel_rfl, rfl⟩) ?_
        refine wpAny_take (i := 6) (v := undef) rfl (by kernel_rfl) (by kernel_rfl) (by kernel_rfl) (fun _ _ _ h => h) (Or.inr ⟨by kernel_rfl, rfl⟩) ?_
        refine wpAny_take (i := 7) (v := undef) rfl (by kernel_rfl) (by kernel_rfl) (by kernel_rfl) (fun _ _ _ h => h) (Or.inr ⟨by kernel_rfl, rfl⟩) ?_
        refine wpAny_take (i := 8) (v := undef) rfl (by kernel_rfl) (by kernel_rfl) (by kernel_rfl) (fun _ _ _ h => h) (Or.inr ⟨by kernel_rfl, rfl⟩) ?_
        refine wpAny_take (i := 9) (v := undef) rfl (by kernel_rfl) (by kernel_rfl) (by kernel_rfl) (fun _ _ _ h => h) (Or.inr ⟨by kernel_rfl, rfl⟩) ?_
        refine wpAny_take (i := 10) (v := undef) rfl (by kernel_rfl) (by kernel_rfl) (by kernel_rfl) (fun _ _ _ h => h) (Or.inr ⟨by kernel_rfl, rfl⟩) ?_
        refine wpAny_take (i := 11) (v := undef) rfl (by kernel_rfl) (by kernel_rfl) (by kernel_rfl) (fun _ _ _ h => h) (Or.inr ⟨by kernel_rfl, rfl⟩) ?_
        refine wpAny_take (i := 12) (v := .bool false) rfl (by kernel_rfl) (by kernel_rfl) (by kernel_rfl) (fun _ _ _ h => h) (Or.inl ⟨by kernel_rfl, by intro w; go_simp⟩) ?_
        refine wpAny_ready (rs := [13]) (by kernel_rfl) (by simp) ?_
        refine AllReady.cons rfl (fun K hK => ?_) AllReady.nil
        · go_simp
          refine hK _ _ ?_
          refine wpAny_ready (rs := [14]) (by kernel_rfl) (by simp) ?_
          refine AllReady.cons rfl (fun K hK => ?_) AllReady.nil
          refine step_append_any _ (by rfl) (.tmp 20) (.tmp 33) 31 (by rfl) w.heap.size 4 i0 (.bool false) 1 1 Try.underlying31 hi hz0 hz1 hz2 rfl (by decide) u3 a (l.map V) (by rfl) ((own_below hown4 (Below.refl _ _).drew).alloc _) (W3.heap.size + 1) (some ⟨W3.heap.size, 0, none⟩) 1 1 [.bool false] (by rfl) (reads_new W3.drew 4 _ 1 1 rfl) (by simp [Value.oneCell']) (by unfold maxLen; omega) (by omega) (by simp; omega) ?_
          intro v' w5 hown5 hgrow5 hat5
          refine hK _ _ ?_
          refine wpAny_take (i := 15) (v := v') rfl (by kernel_rfl) (by kernel_rfl) (by kernel_rfl) (fun _ _ _ h => h) (Or.inl ⟨by kernel_rfl, by intro w; go_simp⟩) ?_
          refine wpAny_done (by kernel_rfl) ?_ _
          go_wp2_with fail
          go_roundw
          case rel =>
            refine ⟨a + 1, _, by omega, by go_num, ?_, HNX.out, (hbx4.alloc _).drew.grown hgrow5 (fun e => own_blk_ne hown4 hbx4 (by decide) e.symm), ((hbw4.alloc hs4 _).drew).grown hgrow5 (by simp; omega) (fun j hj => (hown4.lt j hj).1)⟩
            rw [List.map_append]; exact hown5
          case measure => simp [intOf]; omega
      · rw [arcTells_yes hf]
        obtain ⟨f1, f2, f3, f4⟩ := fit_bounds hf
        obtain ⟨nf, hnf⟩ := Int.eq_ofNat_of_zero_le f1
        obtain ⟨nt, hnt⟩ := Int.eq_ofNat_of_zero_le f3
        have hfN : nf < n := by omega
        have htN : nt < n := by omega
        rw [hnf, hnt]
        have HF := Lib.hid (And.intro hf (And.intro hnf hnt))
        clear hf hnf hnt f1 f2 f3 f4
        go_wp2_with fail
        have hbx4 := hbx3.alloc (.cells #[.int .i64 (nf : Int), .int .i64 (nt : Int), .int .i64 x.lo, .int .i64 x.cap, .int .i64 x.cost] 36)
        have hbw4 : Below w.heap.size w (w3.alloc (.cells #[.int .i64 (nf : Int), .int .i64 (nt : Int), .int .i64 x.lo, .int .i64 x.cap, .int .i64 x.cost] 36)) := hbw3.alloc hs3 _
        have hown4 := hown3.alloc (.cells #[.int .i64 (nf : Int), .int .i64 (nt : Int), .int .i64 x.lo, .int .i64 x.cap, .int .i64 x.cost] 36)
        have hab : Blk (w3.alloc (.cells #[.int .i64 (nf : Int), .int .i64 (nt : Int), .int .i64 x.lo, .int .i64 x.cap, .int .i64 x.cost] 36)) w3.heap.size 36 #[.int .i64 (nf : Int), .int .i64 (nt : Int), .int .i64 x.lo, .int .i64 x.cap, .int .i64 x.cost] := Blk.new _ _ _
        generalize w3.alloc (.cells #[.int .i64 (nf : Int), .int .i64 (nt : Int), .int .i64 x.lo, .int .i64 x.cap, .int .i64 x.cost] 36) = W3 at *
        have hs4 := hbw4.size
        have lab := hab.lt
        have lbx := hbx4.lt
        clear hbx3 hbw3 hown3
        have q0 := hbx4.cell 0
        have q1 := hbx4.cell 1
        have p0 := hab.cell 0
        have p1 := hab.cell 1
        simp only [List.getElem?_toArray, List.getElem?_cons_zero, List.getElem?_cons_succ] at q0 q1 p0 p1
        have hbX : Below W3.heap.size W3 (W3.alloc (.cells #[.int .i64 (nt : Int)] 3)).drew := ((Below.refl _ W3).alloc (Nat.le_refl _) _).drew
        have hstX : Blk (W3.alloc (.cells #[.int .i64 (nt : Int)] 3)).drew W3.heap.size 3 #[.int .i64 (nt : Int)] := (Blk.new W3 3 _).drew
        have hszX : (W3.alloc (.cells #[.int .i64 (nt : Int)] 3)).drew.heap.size = W3.heap.size + 1 := by simp
        have HXX := Lib.hid (And.intro hbX (And.intro hstX hszX))
        have HB4 := Lib.hid (And.intro hbx4 (And.intro hbw4 (And.intro hown4 hab)))
        clear hbX hstX hszX hbx4 hbw4 hown4 hab
        go_region_law
          (first
            | (refine step_append_any _ (by rfl) (.tmp 20) (.tmp 33) 31 (by rfl) w.heap.size 4 i0 (.bool false) 1 1 Try.underlying31 hi hz0 hz1 hz2 rfl (by decide) u3 a (l.map V) (by rfl) (H6.out.2.2.1.alloc _) (w6.heap.size + 1) (some ⟨w6.heap.size, 0, none⟩) 1 1 [.bool bb] (by rfl) (reads_new w6 4 _ 1 1 rfl) (by simp [Value.oneCell']) (by unfold maxLen; omega) (by omega) (by have := H6.out.2.1.size; simp; omega) ?_; intro v' w8 hown8 hgrow8 hat8; have hbx8 := (H6.out.1.alloc _).grown hgrow8 (fun e => own_blk_ne H6.out.2.2.1 H6.out.1 (by decide) e.symm); have hab8 := (H6.out.2.2.2.alloc _).grown hgrow8 (fun e => own_blk_ne H6.out.2.2.1 H6.out.2.2.2 (by decide) e.symm); have k1 := hbx8.cell 0; have k2 := hbx8.cell 1; have k3 := hab8.cell 0; have k4 := hab8.cell 1)
            | (go_simp; go_at_call 37; refine (rFrom_any A1 A2 n c1 n2 c2 (W3.heap.size + 1) sup arcs _ 1 1 [(nt : Int)] _ (by exact (HI.out.keep ((HB4.out.2.1.mono hB).trans (HXX.out.1.mono (by omega)))).more (by omega)) (by have := HXX.out.2.2; omega) (by exact blk_reads (xs := [.int .i64 (nt : Int)]) HXX.out.2.1 (by omega) rfl) (by omega)).mono ?_; rintro e w6 ⟨mb, met, rfl, hmt, ⟨hlm, hRm⟩, hb6⟩; obtain ⟨bb, hbb, ibb⟩ := met_at hlm hfN; have s6 : w6.cell? ⟨mb, nf, none⟩ = some (.bool bb) := (hmt.cell nf).trans (bools_of hbb); have hb36 : Below W3.heap.size W3 w6 := HXX.out.1.trans (hb6.mono (by have := HXX.out.2.2; omega)); have H6 := Lib.hid (And.intro (HB4.out.1.below hb36 lbx) (And.intro (HB4.out.2.1.trans (hb36.mono hs4)) (And.intro (own_below HB4.out.2.2.1 hb36) (HB4.out.2.2.2.below hb36 lab)))); have HNX := Lib.hid (HLL.out.next HX.out (show bb = true ↔ fitB n x = true ∧ Rch (nb0 n arcs) x.t x.f from (by rw [ibb, hRm, one_start (P := fun s => Rch (nb0 n arcs) s (nf : Int)) htN, HF.out.2.1, HF.out.2.2]; exact ⟨fun h => ⟨HF.out.1, h⟩, fun h => h.2⟩))); have k1 := H6.out.1.cell 0; have k2 := H6.out.1.cell 1; have k3 := H6.out.2.2.2.cell 0; have k4 := H6.out.2.2.2.cell 1; clear hlm hRm hbb ibb))
        all_goals
          go_wp2_with fail
          go_roundw
          case rel =>
            refine ⟨a + 1, _, by omega, by go_num, ?_, HNX.out, hbx8, (H6.out.2.1.alloc H6.out.2.1.size _).grown hgrow8 (by have := H6.out.2.1.size; simp; omega) (fun j hj => (H6.out.2.2.1.lt j hj).1)⟩
            rw [List.map_append]; exact hown8
          case measure => simp [intOf]; omega
    · go_wp2_with fail
      go_ret
      have han : a = n2 := by omega
      subst han
      obtain ⟨A, c, rfl⟩ := own_form hown
      exact ⟨A, c, l, rfl, hown, hL, hb⟩
end Go.Proofs.Ytekajenmkpobgaa
