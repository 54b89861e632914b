/- reach.strong: one node's work. -/
import Derived.Test.YtekajenmkpobgaaY
set_option linter.unusedSimpArgs false
set_option linter.unusedVariables false
namespace Go.Proofs.Ytekajenmkpobgaa
open Go.RowKit

/-- numbers, group, newest -/
abbrev SSt := List Int × List Int × List Int
def isNeg (ofl : List Int) (n : Int) : Bool := decide ((ofl[n.toNat]?.getD 0) < 0)
def sStep (first : Int) (s : SSt) (n : Int) : SSt := if isNeg s.1 n then (s.1.set n.toNat first, s.2.1 ++ [n], s.2.2 ++ [n]) else s
def sAll (first : Int) : List Int → SSt → SSt
  | [], s => s
  | n :: l, s => sAll first l (sStep first s n)
theorem sAll_snoc (first : Int) (l : List Int) (n : Int) (s : SSt) : sAll first (l ++ [n]) s = sStep first (sAll first l s) n := by
  induction l generalizing s with
  | nil => rfl
  | cons a l ih => exact ih _
theorem sStep_len (first : Int) (s : SSt) (n : Int) : (sStep first s n).1.length = s.1.length := by unfold sStep; split <;> simp
theorem sAll_len (first : Int) (l : List Int) (s : SSt) : (sAll first l s).1.length = s.1.length := by
  induction l generalizing s with
  | nil => rfl
  | cons a l ih => rw [sAll, ih, sStep_len]
/-- how many have no number yet -/
def nfc (ofl : List Int) : Nat := ofl.countP (fun x => decide (x < 0))
theorem nfc_set {ofl : List Int} {k : Nat} {x first : Int} (h : ofl[k]? = some x) (hx : x < 0) (hf : 0 ≤ first) : nfc (ofl.set k first) + 1 = nfc ofl := by
  unfold nfc
  induction ofl generalizing k with
  | nil => simp at h
  | cons b l ih =>
    cases k with
    | zero =>
      simp at h; subst h
      have h1 : ¬ first < 0 := by omega
      simp [hx, h1]
    | succ k =>
      simp at h
      have := ih h
      simp only [List.set_cons_succ, List.countP_cons]
      omega
theorem isNeg_at {ofl : List Int} {n : Int} (h : isNeg ofl n = true) : ∃ x, ofl[n.toNat]? = some x ∧ x < 0 := by
  unfold isNeg at h
  cases hx : ofl[n.toNat]? with
  | none => rw [hx] at h; simp at h
  | some x => rw [hx] at h; exact ⟨x, rfl, by simpa using h⟩
theorem sStep_room (first : Int) (hf : 0 ≤ first) (s : SSt) (n : Int) : (sStep first s n).2.1.length + nfc (sStep first s n).1 = s.2.1.length + nfc s.1 ∧ (sStep first s n).2.2.length + nfc (sStep first s n).1 = s.2.2.length + nfc s.1 ∧ nfc (sStep first s n).1 ≤ nfc s.1 := by
  unfold sStep
  by_cases h : isNeg s.1 n = true
  · rw [if_pos h]
    obtain ⟨x, hx, hn⟩ := isNeg_at h
    have := nfc_set hx hn hf
    simp
    omega
  · rw [if_neg h]; simp
theorem sAll_room (first : Int) (hf : 0 ≤ first) (l : List Int) (s : SSt) : (sAll first l s).2.1.length + nfc (sAll first l s).1 = s.2.1.length + nfc s.1 ∧ (sAll first l s).2.2.length + nfc (sAll first l s).1 = s.2.2.length + nfc s.1 ∧ nfc (sAll first l s).1 ≤ nfc s.1 := by
  induction l generalizing s with
  | nil => exact ⟨rfl, rfl, Nat.le_refl _⟩
  | cons a l ih =>
    obtain ⟨h1, h2, h3⟩ := ih (sStep first s a)
    obtain ⟨g1, g2, g3⟩ := sStep_room first hf s a
    exact ⟨h1.trans g1, h2.trans g2, Nat.le_trans h3 g3⟩

theorem smeet_any {L : GSl} (d : GSd L) {A : Option Addr} {c : Nat} {Ag : Option Addr} {cg : Nat} {s : SSt} {w0 w : World} (h : GS L A c Ag cg s.1 s.2.1 s.2.2 w0 w) (hl1 : s.2.1.length ≤ 1000000000) (hl2 : s.2.2.length ≤ 1000000000) (n : Int) (hn : hasB L.N n = true) :
    Calls Try.prog 48 #[.int .i64 n, .pointer (some ⟨L.ofv, 0, none⟩), .pointer (some ⟨L.fv, 0, none⟩), .pointer (some ⟨L.gpv, 0, none⟩), .pointer (some ⟨L.wv, 0, none⟩)] w fun e w' => e = .returned (.tuple #[]) ∧
      ∃ A' c' Ag' cg', GS L A' c' Ag' cg' (sStep L.first s n).1 (sStep L.first s n).2.1 (sStep L.first s n).2.2 w0 w' ∧ Kept (fun b => b = L.ofb ∨ b = L.gpv ∨ b = L.sb ∨ ob A = some b ∨ ob Ag = some b) w w' ∧
        (∀ b, ob A' = some b ∨ ob Ag' = some b → ob A = some b ∨ ob Ag = some b ∨ w.heap.size ≤ b) := by
  simp only [hasB, Bool.and_eq_true, decide_eq_true_eq] at hn
  obtain ⟨k, rfl⟩ := Int.eq_ofNat_of_zero_le hn.1
  have hk : k < s.1.length := by have := h.len; omega
  obtain ⟨x, hx⟩ : ∃ x, s.1[k]? = some x := ⟨_, List.getElem?_eq_getElem hk⟩
  by_cases hneg : x < 0
  · refine (smeet_new d h k x hx hneg hl1 hl2).mono ?_
    rintro e w' ⟨he, A', c', Ag', cg', hG, hkk, ho⟩
    have hi : isNeg s.1 (k : Int) = true := by simp [isNeg, hx, hneg]
    refine ⟨he, A', c', Ag', cg', ?_, hkk, ho⟩
    simp only [sStep, hi, if_true, Int.toNat_natCast]
    exact hG
  · refine (smeet_old h k x hx (by omega)).mono ?_
    rintro e w' ⟨he, rfl⟩
    have hi : ¬ isNeg s.1 (k : Int) = true := by simp [isNeg, hx]; omega
    refine ⟨he, A, c, Ag, cg, ?_, Kept.refl _ _, fun b hb => by rcases hb with h | h; exact .inl h; exact .inr (.inl h)⟩
    simp only [sStep, if_neg hi]
    exact h

def nb1 (N : Nat) (arcs : List ArcV) : Int → List Int := nbW N arcs 1
theorem ins_mem {N : Nat} {arcs : List ArcV} {u : Int} {a : Nat} (h : a ∈ ins N arcs u) : ∃ x, arcs[a]? = some x ∧ fitB N x = true ∧ x.t = u := by
  unfold ins at h
  rw [List.mem_filter] at h
  obtain ⟨_, h2⟩ := h
  cases hx : arcs[a]? with
  | none => rw [hx] at h2; cases h2
  | some x =>
    rw [hx] at h2
    simp only [Bool.and_eq_true, beq_iff_eq] at h2
    exact ⟨x, rfl, h2.1, h2.2⟩
theorem other_in {N : Nat} {arcs : List ArcV} {u : Int} {a : Nat} {x : ArcV} (h : arcs[a]? = some x) (hf : fitB N x = true) (hu : x.t = u) : otherOf N arcs a u = x.f := by
  unfold otherOf
  rw [arcAt_of h hf]
  simp only
  by_cases e : x.f = u
  · rw [if_pos e, hu, e]
  · rw [if_neg e, if_pos hu]
theorem nb1_has {N : Nat} {arcs : List ArcV} {u v : Int} (h : v ∈ nb1 N arcs u) : hasB N v = true ∧ hasB N u = true := by
  unfold nb1 nbW pieceOf at h
  obtain ⟨a, ha, rfl⟩ := List.mem_map.1 h
  obtain ⟨k, hk, rfl⟩ := List.mem_map.1 ha
  obtain ⟨x, hx, hf, hu⟩ := ins_mem hk
  rw [other_in hx hf hu]
  obtain ⟨b1, b2, b3, b4⟩ := fit_bounds hf
  subst hu
  simp [hasB]
  omega

set_option maxRecDepth 100000 in
set_option maxHeartbeats 2000000 in
theorem strong2_any {L : GSl} (d : GSd L) (hf : 0 ≤ L.first) {A : Option Addr} {c : Nat} {Ag : Option Addr} {cg : Nat} {s : SSt} {w0 w : World} (h : GS L A c Ag cg s.1 s.2.1 s.2.2 w0 w) (hl1 : s.2.1.length + nfc s.1 ≤ 1000000000) (hl2 : s.2.2.length + nfc s.1 ≤ 1000000000) (v : Int) :
    Calls Try.prog 50 #[.int .i64 v, .pointer (some ⟨L.gv, 0, none⟩), .pointer (some ⟨L.mtv, 0, none⟩)] w fun e w' => e = .returned (.tuple #[]) ∧
      ∃ A' c' Ag' cg', GS L A' c' Ag' cg' (sAll L.first (nb1 L.N L.arcs v) s).1 (sAll L.first (nb1 L.N L.arcs v) s).2.1 (sAll L.first (nb1 L.N L.arcs v) s).2.2 w0 w' := by
  have q1 := h.gv.cell 0
  simp only [List.getElem?_toArray, List.getElem?_cons_zero] at q1
  obtain ⟨ps, hps⟩ : ∃ ps, ps = pieceOf L.N L.arcs v 1 := ⟨_, rfl⟩
  have hnb : nb1 L.N L.arcs v = (intsOf ps).map fun a => otherOf L.N L.arcs a v := by unfold nb1 nbW; rw [hps]
  have hhas : ∀ u ∈ nb1 L.N L.arcs v, hasB L.N u = true := fun u hu => (nb1_has hu).1
  rw [hnb] at hhas ⊢
  have hpl : ps.length ≤ 1000000000 := by
    have := h.gr.small.2
    rw [hps]; unfold pieceOf outs ins
    split <;> exact Nat.le_trans (List.length_filter_le _ _) (by simpa using this)
  have HPS := Lib.hid hps
  have HHAS := Lib.hid hhas
  have hH : L.H ≤ w.heap.size := by have := h.sz; have := d.l2; omega
  clear hps hnb hhas
  go_enter Try.func50, Try.ntmps50
  go_wp2_with fail
  refine (In_any L.H L.g L.N L.arcs v w h.gr hH).mono ?_
  rintro e w1 ⟨B, cb, rfl, ho, hb⟩
  rw [← HPS.out] at ho
  rw [← HPS.out]
  clear q1
  go_wp2_with fail
  go_loopw [10] (fun i wr => ∃ (k : Nat) (A' : Option Addr) (c' : Nat) (Ag' : Option Addr) (cg' : Nat), k ≤ ps.length ∧ i = .int .i64 k ∧ GS L A' c' Ag' cg' (sAll L.first (((intsOf ps).take k).map fun a => otherOf L.N L.arcs a v) s).1 (sAll L.first (((intsOf ps).take k).map fun a => otherOf L.N L.arcs a v) s).2.1 (sAll L.first (((intsOf ps).take k).map fun a => otherOf L.N L.arcs a v) s).2.2 w0 wr ∧
    wr.ownsRow w.heap.size 3 1 (.slice B ps.length cb) ps.length ((intsOf ps).map I) ∧ (∀ g, ob A' = some g ∨ ob Ag' = some g → ob B ≠ some g)) (fun i _ => ps.length - (intOf i).toNat)
  case atStart =>
    refine ⟨0, A, c, Ag, cg, Nat.zero_le _, rfl, h.below d hb, ho, fun g hg e => ?_⟩
    have e1 := (ho.lt g (by rw [ob_own]; exact e)).1
    rcases hg with hg | hg
    · have e2 := (h.rowA g hg).2; omega
    · have e2 := (h.rowG g hg).2; omega
  case round =>
    obtain ⟨k, A', c', Ag', cg', hk, rfl, hS, hrow, hob⟩ := hrel
    by_cases hlt : k < ps.length
    · obtain ⟨b, off, u, rfl, hbB, hx, hcell⟩ := (Reads.of_own hrow).at_ hlt
      simp only [List.getElem?_map, Option.map_eq_some_iff] at hx
      obtain ⟨a, hx, rfl⟩ := hx
      have hhx := HHAS.out (otherOf L.N L.arcs a v) (List.mem_map.2 ⟨a, List.mem_of_getElem? hx, rfl⟩)
      have HHX := Lib.hid hhx
      have HX := Lib.hid (take_snoc (intsOf ps) k a hx)
      clear hx hhx
      unfold I at hcell
      have q1 := hS.mt.cell 0
      have q2 := hS.gv.cell 0
      simp only [List.getElem?_toArray, List.getElem?_cons_zero] at q1 q2
      have hroom := sAll_room L.first hf (((intsOf ps).take k).map fun a => otherOf L.N L.arcs a v) s
      have hm1 : (sAll L.first (((intsOf ps).take k).map fun a => otherOf L.N L.arcs a v) s).2.1.length ≤ 1000000000 := by omega
      have hm2 : (sAll L.first (((intsOf ps).take k).map fun a => otherOf L.N L.arcs a v) s).2.2.length ≤ 1000000000 := by omega
      have hHr : L.H ≤ wr.heap.size := by have := hS.sz; have := d.l2; omega
      have HS := Lib.hid hS
      have HO := Lib.hid hob
      have HR := Lib.hid hrow
      have HL1 := Lib.hid hm1
      have HL2 := Lib.hid hm2
      clear hS hob hroom hm1 hm2 hrow
      go_wp2_with fail
      go_region_held3 (fun w' => w'.cell? ⟨L.mtv, 0, none⟩ = some (.func (.func 48) #[] #[.pointer (some ⟨L.ofv, 0, none⟩), .pointer (some ⟨L.fv, 0, none⟩), .pointer (some ⟨L.gpv, 0, none⟩), .pointer (some ⟨L.wv, 0, none⟩)]) ∧ w'.cell? ⟨L.gv, 0, none⟩ = some (.pointer (some ⟨L.g, 0, none⟩))) (first | go_keep | exact ⟨k1, k2⟩)
        (first
          | (go_at_call 32; refine (Other_any L.H L.g L.N L.arcs _ ((HS.out.below d (Below.refl _ _).drew).gr.a) (by exact hHr) a v).mono ?_; rintro e w2 ⟨rfl, hb2⟩; have k1 := (hb2.cell (p := ⟨L.mtv, 0, none⟩) HS.out.mt.lt).trans q1; have k2 := (hb2.cell (p := ⟨L.gv, 0, none⟩) HS.out.gv.lt).trans q2)
          | (go_at_call 48; refine (smeet_any d (HS.out.below d ((Below.refl _ _).drew.trans hb2)) HL1.out HL2.out _ HHX.out).mono ?_; rintro e w3 ⟨rfl, A3, c3, Ag3, cg3, hS3, hk3, hg3⟩; have k1 := (hS3.mt.cell 0); have k2 := (hS3.gv.cell 0)))
      have hb2' : Below wr.heap.size wr w2 := (Below.refl _ wr).drew.trans hb2
      have hS2 := HS.out.below d hb2'
      have hr2 := own_below HR.out hb2'
      have hrl : ∀ g, ob (some (⟨b, off, none⟩ : Addr)) = some g → L.Hb ≤ g := fun g hg => by
        have := (hr2.lt g (by rw [ob_own]; exact hg)).1
        have := h.sz
        omega
      obtain ⟨a1, a2, a3, a4, a5, a6, a7, a8⟩ := d.l1
      have hr3 := own_kept hr2 hk3 (by
        rintro g hg
        rw [ob_own] at hg
        have hgl := hrl g hg
        rintro (e | e | e | e | e)
        · omega
        · omega
        · omega
        · exact HO.out g (.inl e) hg
        · exact HO.out g (.inr e) hg)
      have hob3 : ∀ g, ob A3 = some g ∨ ob Ag3 = some g → ob (some (⟨b, off, none⟩ : Addr)) ≠ some g := by
        intro g hg e
        rcases hg3 g hg with e1 | e1 | e1
        · exact HO.out g (.inl e1) e
        · exact HO.out g (.inr e1) e
        · have := (hr2.lt g (by rw [ob_own]; exact e)).2
          omega
      clear k1 k2 q1 q2 hcell
      go_wp2_with fail
      go_roundw
      case rel =>
        refine ⟨k + 1, A3, c3, Ag3, cg3, by omega, by go_num, ?_, hr3, hob3⟩
        rw [HX.out, List.map_append, List.map_cons, List.map_nil, sAll_snoc]
        exact hS3
      case measure => simp [intOf]; omega
    · go_wp2_with fail
      go_end0
      have hkk : ((intsOf ps).take k) = intsOf ps := List.take_of_length_le (by simp [intsOf]; omega)
      rw [hkk] at hS
      exact ⟨rfl, A', c', Ag', cg', hS⟩
end Go.Proofs.Ytekajenmkpobgaa
