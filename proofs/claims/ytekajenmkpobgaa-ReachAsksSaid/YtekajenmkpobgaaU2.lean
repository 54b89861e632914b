/- reach.spread: the state, one node's work. -/
import Derived.Test.YtekajenmkpobgaaU
import Derived.Deep.DeepCutAuto
set_option linter.unusedSimpArgs false
set_option linter.unusedVariables false
namespace Go.Proofs.Ytekajenmkpobgaa
open Go.RowKit

/-- where things lie -/
structure SPl where
  (H N g bv mb wv sb fv gv av way : Nat)
  arcs : List ArcV
def SPl.fn (L : SPl) : Nat := if L.way = 0 then 31 else 27
structure SP (L : SPl) (A : Option Addr) (c : Nat) (met : List Bool) (xs : List Int) (w0 w : World) : Prop where
  bv : Blk w L.bv 31 #[.slice (some ⟨L.mb, 0, none⟩) L.N L.N]
  mb : Blk w L.mb 4 (bools met)
  len : met.length = L.N
  wv : Blk w L.wv 84 #[.pointer (some ⟨L.sb, 0, none⟩)]
  st : Stk w L.H L.sb A c xs
  fv : Blk w L.fv 60 #[.func (.func 52) #[] #[.pointer (some ⟨L.bv, 0, none⟩), .pointer (some ⟨L.wv, 0, none⟩)]]
  gv : Blk w L.gv 50 #[.pointer (some ⟨L.g, 0, none⟩)]
  av : Blk w L.av 59 #[.func (.func L.fn) #[.pointer (some ⟨L.g, 0, none⟩)] #[]]
  gr : Graph w L.H L.g L.N L.arcs
  b : Below L.H w0 w
  sz : L.H ≤ w0.heap.size
  le : L.H ≤ L.mb ∧ L.H ≤ L.sb

theorem SP.size {L : SPl} {A : Option Addr} {c : Nat} {met : List Bool} {xs : List Int} {w0 w : World} (h : SP L A c met xs w0 w) : L.H ≤ w.heap.size := Nat.le_trans h.sz h.b.size
/-- new memory alone -/
theorem SP.below {L : SPl} {A : Option Addr} {c : Nat} {met : List Bool} {xs : List Int} {w0 w w' : World} (h : SP L A c met xs w0 w) (hb : Below w.heap.size w w') : SP L A c met xs w0 w' :=
  ⟨h.bv.below hb h.bv.lt, h.mb.below hb h.mb.lt, h.len, h.wv.below hb h.wv.lt, ⟨h.st.blk.below hb h.st.blk.lt, own_below h.st.row hb⟩, h.fv.below hb h.fv.lt, h.gv.below hb h.gv.lt, h.av.below hb h.av.lt, h.gr.keep (hb.mono h.size), h.b.trans (hb.mono h.size), h.sz, h.le⟩
/-- the marks, the newest and its row have turned -/
theorem SP.turn {L : SPl} {A A' : Option Addr} {c c' : Nat} {met met' : List Bool} {xs xs' : List Int} {w0 w w' : World} (h : SP L A c met xs w0 w) (hk : Kept (fun b => b = L.mb ∨ b = L.sb ∨ ob A = some b) w w')
    (hm : Blk w' L.mb 4 (bools met')) (hl : met'.length = L.N) (hs : Stk w' L.H L.sb A' c' xs') : SP L A' c' met' xs' w0 w' := by
  have hr : ∀ {g t cs}, Blk w g t cs → t ≠ 3 → ob A ≠ some g := fun hg ht e => own_blk_ne h.st.row hg (fun e' => ht e'.symm) (by rw [ob_own, e])
  have hlow : ∀ k, k < L.H → ¬ (k = L.mb ∨ k = L.sb ∨ ob A = some k) := by
    rintro k hk (e | e | e)
    · have := h.le.1; omega
    · have := h.le.2; omega
    · have := (h.st.row.lt k (by rw [ob_own, e])).1; omega
  have hb := hk.to_below h.size hlow
  refine ⟨h.bv.kept hk ?_, hm, hl, h.wv.kept hk ?_, hs, h.fv.kept hk ?_, h.gv.kept hk ?_, h.av.kept hk ?_, h.gr.keep hb, h.b.trans hb, h.sz, h.le⟩
  · rintro (e | e | e); exact h.bv.ne_ h.mb (by decide) e; exact h.bv.ne_ h.st.blk (by decide) e; exact hr h.bv (by decide) e
  · rintro (e | e | e); exact h.wv.ne_ h.mb (by decide) e; exact h.wv.ne_ h.st.blk (by decide) e; exact hr h.wv (by decide) e
  · rintro (e | e | e); exact h.fv.ne_ h.mb (by decide) e; exact h.fv.ne_ h.st.blk (by decide) e; exact hr h.fv (by decide) e
  · rintro (e | e | e); exact h.gv.ne_ h.mb (by decide) e; exact h.gv.ne_ h.st.blk (by decide) e; exact hr h.gv (by decide) e
  · rintro (e | e | e); exact h.av.ne_ h.mb (by decide) e; exact h.av.ne_ h.st.blk (by decide) e; exact hr h.av (by decide) e

/-- how many are not met -/
def cf (met : List Bool) : Nat := met.countP (fun b => !b)
theorem newB_at {met : List Bool} {n : Int} (h : newB met n = true) : met[n.toNat]? = some false ∧ 0 ≤ n ∧ n < met.length := by
  simp only [newB, hasB, Bool.and_eq_true, decide_eq_true_eq, Bool.not_eq_true'] at h
  obtain ⟨⟨h1, h2⟩, h3⟩ := h
  have hl : n.toNat < met.length := by omega
  rw [List.getElem?_eq_getElem hl] at h3 ⊢
  simp at h3
  exact ⟨by rw [h3], h1, h2⟩
theorem cf_set {met : List Bool} {k : Nat} (h : met[k]? = some false) : cf (met.set k true) + 1 = cf met := by
  unfold cf
  induction met generalizing k with
  | nil => simp at h
  | cons b met ih =>
    cases k with
    | zero => simp at h; subst h; simp
    | succ k =>
      simp at h
      have := ih h
      simp only [List.set_cons_succ, List.countP_cons]
      omega
theorem meet_len (met : List Bool) (n : Int) : (meetM met n).length = met.length := by unfold meetM; split <;> simp
theorem meet_room (met : List Bool) (xs : List Int) (n : Int) : (meetX met xs n).length + cf (meetM met n) = xs.length + cf met := by
  unfold meetX meetM
  by_cases h : newB met n = true
  · rw [if_pos h, if_pos h]
    have := cf_set (newB_at h).1
    simp
    omega
  · rw [if_neg h, if_neg h]

/-- meet, as it turns the state -/
theorem meet_any (L : SPl) (A : Option Addr) (c : Nat) (met : List Bool) (xs : List Int) (w0 w : World) (h : SP L A c met xs w0 w) (hl : xs.length ≤ 1000000000) (n : Int) :
    Calls Try.prog 52 #[.int .i64 n, .pointer (some ⟨L.bv, 0, none⟩), .pointer (some ⟨L.wv, 0, none⟩)] w fun e w' => e = .returned (.tuple #[]) ∧ ∃ A' c', SP L A' c' (meetM met n) (meetX met xs n) w0 w' ∧ Kept (fun b => b = L.mb ∨ b = L.sb ∨ ob A = some b) w w' ∧ (∀ g, ob A' = some g → ob A = some g ∨ w.heap.size ≤ g) := by
  by_cases hn : newB met n = true
  · refine (meet_new w L.H L.sb c L.bv L.mb L.wv L.N A met xs n h.bv h.mb h.len h.wv h.st h.size hl hn).mono ?_
    rintro e w' ⟨he, hm, A', c', hs, hk, hg⟩
    refine ⟨he, A', c', ?_, hk, hg⟩
    unfold meetM meetX
    rw [if_pos hn, if_pos hn]
    exact h.turn hk hm (by simpa using h.len) hs
  · refine (meet_old w L.H L.sb c L.bv L.mb L.wv L.N A met xs n h.bv h.mb h.len (by simpa using hn)).mono ?_
    rintro e w' ⟨he, rfl⟩
    refine ⟨he, A, c, ?_, Kept.refl _ _, fun g hg => .inl hg⟩
    unfold meetM meetX
    rw [if_neg hn, if_neg hn]
    exact h

/-- all of a list are met, one after another -/
def meetAll : List Int → List Bool × List Int → List Bool × List Int
  | [], s => s
  | n :: l, s => meetAll l (meetM s.1 n, meetX s.1 s.2 n)
theorem meetAll_snoc (l : List Int) (n : Int) (s : List Bool × List Int) : meetAll (l ++ [n]) s = (meetM (meetAll l s).1 n, meetX (meetAll l s).1 (meetAll l s).2 n) := by
  induction l generalizing s with
  | nil => rfl
  | cons a l ih => exact ih _
theorem meetAll_len (l : List Int) (s : List Bool × List Int) : (meetAll l s).1.length = s.1.length := by
  induction l generalizing s with
  | nil => rfl
  | cons a l ih => rw [meetAll, ih, meet_len]
theorem meetAll_room (l : List Int) (s : List Bool × List Int) : (meetAll l s).2.length + cf (meetAll l s).1 = s.2.length + cf s.1 := by
  induction l generalizing s with
  | nil => rfl
  | cons a l ih => rw [meetAll, ih, meet_room]
/-- the nodes next to one -/
def nbs (L : SPl) (v : Int) : List Int := (intsOf (pieceOf L.N L.arcs v L.way)).map fun a => otherOf L.N L.arcs a v

set_option maxRecDepth 100000 in
set_option maxHeartbeats 2000000 in
theorem spread2_any (L : SPl) (hway : L.way < 2) (A : Option Addr) (c : Nat) (met : List Bool) (xs : List Int) (w0 w : World) (h : SP L A c met xs w0 w) (hl : xs.length + cf met ≤ 1000000000) (v : Int) :
    Calls Try.prog 53 #[.int .i64 v, .pointer (some ⟨L.av, 0, none⟩), .pointer (some ⟨L.fv, 0, none⟩), .pointer (some ⟨L.gv, 0, none⟩)] w fun e w' => e = .returned (.tuple #[]) ∧
      ∃ A' c', SP L A' c' (meetAll (nbs L v) (met, xs)).1 (meetAll (nbs L v) (met, xs)).2 w0 w' := by
  have q1 := h.av.cell 0
  simp only [List.getElem?_toArray, List.getElem?_cons_zero] at q1
  by_cases hw : L.way = 0
  · have hfn : L.fn = 31 := by simp [SPl.fn, hw]
    have hwe : L.way = 0 := by have := hway; omega
    rw [hfn] at q1
    obtain ⟨ps, hps⟩ : ∃ ps, ps = pieceOf L.N L.arcs v 0 := ⟨_, rfl⟩
    have hnb : nbs L v = (intsOf ps).map fun a => otherOf L.N L.arcs a v := by unfold nbs; rw [hps, hwe]
    rw [hnb]
    have hpl : ps.length ≤ 1000000000 := by
      have := h.gr.small.2
      rw [hps]; unfold pieceOf outs ins
      split <;> exact Nat.le_trans (List.length_filter_le _ _) (by simpa using this)
    have HPS := Lib.hid hps
    clear hps hnb hfn hwe hw
    go_enter Try.func53, Try.ntmps53
    go_wp2_with fail
    refine (Out_any L.H L.g L.N L.arcs v w h.gr h.size).mono ?_
    rintro e w1 ⟨B, cb, rfl, ho, hb⟩
    rw [← HPS.out] at ho
    rw [← HPS.out]
    clear q1
    go_wp2_with fail
    go_loopw [11] (fun i wr => ∃ (k : Nat) (A' : Option Addr) (c' : Nat), k ≤ ps.length ∧ i = .int .i64 k ∧ SP L A' c' (meetAll (((intsOf ps).take k).map fun a => otherOf L.N L.arcs a v) (met, xs)).1 (meetAll (((intsOf ps).take k).map fun a => otherOf L.N L.arcs a v) (met, xs)).2 w0 wr ∧
      wr.ownsRow w.heap.size 3 1 (.slice B ps.length cb) ps.length ((intsOf ps).map I) ∧ (∀ g, ob A' = some g → ob B ≠ some g)) (fun i _ => ps.length - (intOf i).toNat)
    case atStart =>
      refine ⟨0, A, c, Nat.zero_le _, rfl, h.below hb, ho, fun g hg e => ?_⟩
      have e1 := (ho.lt g (by rw [ob_own]; exact e)).1
      have e2 := (h.st.row.lt g (by rw [ob_own]; exact hg)).2
      omega
    case round =>
      obtain ⟨k, A', c', hk, rfl, hS, hrow, hob⟩ := hrel
      by_cases hlt : k < ps.length
      · obtain ⟨b, off, u, rfl, hbB, hx, hcell⟩ := (Reads.of_own hrow).at_ hlt
        simp only [List.getElem?_map, Option.map_eq_some_iff] at hx
        obtain ⟨a, hx, rfl⟩ := hx
        have HX := Lib.hid (take_snoc (intsOf ps) k a hx)
        clear hx
        unfold I at hcell
        have q1 := hS.fv.cell 0
        have q2 := hS.gv.cell 0
        simp only [List.getElem?_toArray, List.getElem?_cons_zero] at q1 q2
        have hroom := meetAll_room (((intsOf ps).take k).map fun a => otherOf L.N L.arcs a v) (met, xs)
        have hl2 : (meetAll (((intsOf ps).take k).map fun a => otherOf L.N L.arcs a v) (met, xs)).2.length ≤ 1000000000 := by simp only at hroom; omega
        have HS := Lib.hid hS
        have HO := Lib.hid hob
        have HR := Lib.hid hrow
        have HL := Lib.hid hl2
        clear hS hob hroom hl2 hrow
        go_wp2_with fail
        go_region_held3 (fun w' => w'.cell? ⟨L.fv, 0, none⟩ = some (.func (.func 52) #[] #[.pointer (some ⟨L.bv, 0, none⟩), .pointer (some ⟨L.wv, 0, none⟩)]) ∧ w'.cell? ⟨L.gv, 0, none⟩ = some (.pointer (some ⟨L.g, 0, none⟩))) (first | go_keep | exact ⟨k1, k2⟩)
          (first
            | (go_at_call 32; refine (Other_any L.H L.g L.N L.arcs _ ((HS.out.below (Below.refl _ _).drew).gr.a) (by exact HS.out.size) a v).mono ?_; rintro e w2 ⟨rfl, hb2⟩; have k1 := (hb2.cell (p := ⟨L.fv, 0, none⟩) HS.out.fv.lt).trans q1; have k2 := (hb2.cell (p := ⟨L.gv, 0, none⟩) HS.out.gv.lt).trans q2)
            | (go_at_call 52; refine (meet_any L A' c' _ _ w0 _ (HS.out.below ((Below.refl _ _).drew.trans hb2)) HL.out _).mono ?_; rintro e w3 ⟨rfl, A3, c3, hS3, hk3, hg3⟩; have k1 := (hS3.fv.cell 0); have k2 := (hS3.gv.cell 0)))
        have hb2' : Below wr.heap.size wr w2 := (Below.refl _ wr).drew.trans hb2
        have hS2 := HS.out.below hb2'
        have hr2 := own_below HR.out hb2'
        have hr3 := own_kept hr2 hk3 (by
          rintro g hg (e | e | e)
          · exact own_blk_ne hr2 hS2.mb (by decide) (by rw [hg, e])
          · exact own_blk_ne hr2 hS2.st.blk (by decide) (by rw [hg, e])
          · exact HO.out g e (by rw [ob_own] at hg; exact hg))
        have hob3 : ∀ g, ob A3 = some g → ob (some ⟨b, off, none⟩) ≠ some g := by
          intro g hg e
          rcases hg3 g hg with e1 | e1
          · exact HO.out g e1 e
          · have := (hr2.lt g (by rw [ob_own]; exact e)).2
            omega
        clear k1 k2 q1 q2 hcell
        go_wp2_with fail
        go_roundw
        case rel =>
          refine ⟨k + 1, A3, c3, by omega, by go_num, ?_, hr3, hob3⟩
          rw [HX.out, List.map_append, List.map_cons, List.map_nil, meetAll_snoc]
          exact hS3
        case measure => simp [intOf]; omega
      · go_wp2_with fail
        go_end0
        have hkk : ((intsOf ps).take k) = intsOf ps := List.take_of_length_le (by simp [intsOf]; omega)
        rw [hkk] at hS
        exact ⟨rfl, A', c', hS⟩
  · have hfn : L.fn = 27 := by simp [SPl.fn, hw]
    have hwe : L.way = 1 := by have := hway; omega
    rw [hfn] at q1
    obtain ⟨ps, hps⟩ : ∃ ps, ps = pieceOf L.N L.arcs v 1 := ⟨_, rfl⟩
    have hnb : nbs L v = (intsOf ps).map fun a => otherOf L.N L.arcs a v := by unfold nbs; rw [hps, hwe]
    rw [hnb]
    have hpl : ps.length ≤ 1000000000 := by
      have := h.gr.small.2
      rw [hps]; unfold pieceOf outs ins
      split <;> exact Nat.le_trans (List.length_filter_le _ _) (by simpa using this)
    have HPS := Lib.hid hps
    clear hps hnb hfn hwe hw
    go_enter Try.func53, Try.ntmps53
    go_wp2_with fail
    refine (In_any L.H L.g L.N L.arcs v w h.gr h.size).mono ?_
    rintro e w1 ⟨B, cb, rfl, ho, hb⟩
    rw [← HPS.out] at ho
    rw [← HPS.out]
    clear q1
    go_wp2_with fail
    go_loopw [11] (fun i wr => ∃ (k : Nat) (A' : Option Addr) (c' : Nat), k ≤ ps.length ∧ i = .int .i64 k ∧ SP L A' c' (meetAll (((intsOf ps).take k).map fun a => otherOf L.N L.arcs a v) (met, xs)).1 (meetAll (((intsOf ps).take k).map fun a => otherOf L.N L.arcs a v) (met, xs)).2 w0 wr ∧
      wr.ownsRow w.heap.size 3 1 (.slice B ps.length cb) ps.length ((intsOf ps).map I) ∧ (∀ g, ob A' = some g → ob B ≠ some g)) (fun i _ => ps.length - (intOf i).toNat)
    case atStart =>
      refine ⟨0, A, c, Nat.zero_le _, rfl, h.below hb, ho, fun g hg e => ?_⟩
      have e1 := (ho.lt g (by rw [ob_own]; exact e)).1
      have e2 := (h.st.row.lt g (by rw [ob_own]; exact hg)).2
      omega
    case round =>
      obtain ⟨k, A', c', hk, rfl, hS, hrow, hob⟩ := hrel
      by_cases hlt : k < ps.length
      · obtain ⟨b, off, u, rfl, hbB, hx, hcell⟩ := (Reads.of_own hrow).at_ hlt
        simp only [List.getElem?_map, Option.map_eq_some_iff] at hx
        obtain ⟨a, hx, rfl⟩ := hx
        have HX := Lib.hid (take_snoc (intsOf ps) k a hx)
        clear hx
        unfold I at hcell
        have q1 := hS.fv.cell 0
        have q2 := hS.gv.cell 0
        simp only [List.getElem?_toArray, List.getElem?_cons_zero] at q1 q2
        have hroom := meetAll_room (((intsOf ps).take k).map fun a => otherOf L.N L.arcs a v) (met, xs)
        have hl2 : (meetAll (((intsOf ps).take k).map fun a => otherOf L.N L.arcs a v) (met, xs)).2.length ≤ 1000000000 := by simp only at hroom; omega
        have HS := Lib.hid hS
        have HO := Lib.hid hob
        have HR := Lib.hid hrow
        have HL := Lib.hid hl2
        clear hS hob hroom hl2 hrow
        go_wp2_with fail
        go_region_held3 (fun w' => w'.cell? ⟨L.fv, 0, none⟩ = some (.func (.func 52) #[] #[.pointer (some ⟨L.bv, 0, none⟩), .pointer (some ⟨L.wv, 0, none⟩)]) ∧ w'.cell? ⟨L.gv, 0, none⟩ = some (.pointer (some ⟨L.g, 0, none⟩))) (first | go_keep | exact ⟨k1, k2⟩)
          (first
            | (go_at_call 32; refine (Other_any L.H L.g L.N L.arcs _ ((HS.out.below (Below.refl _ _).drew).gr.a) (by exact HS.out.size) a v).mono ?_; rintro e w2 ⟨rfl, hb2⟩; have k1 := (hb2.cell (p := ⟨L.fv, 0, none⟩) HS.out.fv.lt).trans q1; have k2 := (hb2.cell (p := ⟨L.gv, 0, none⟩) HS.out.gv.lt).trans q2)
            | (go_at_call 52; refine (meet_any L A' c' _ _ w0 _ (HS.out.below ((Below.refl _ _).drew.trans hb2)) HL.out _).mono ?_; rintro e w3 ⟨rfl, A3, c3, hS3, hk3, hg3⟩; have k1 := (hS3.fv.cell 0); have k2 := (hS3.gv.cell 0)))
        have hb2' : Below wr.heap.size wr w2 := (Below.refl _ wr).drew.trans hb2
        have hS2 := HS.out.below hb2'
        have hr2 := own_below HR.out hb2'
        have hr3 := own_kept hr2 hk3 (by
          rintro g hg (e | e | e)
          · exact own_blk_ne hr2 hS2.mb (by decide) (by rw [hg, e])
          · exact own_blk_ne hr2 hS2.st.blk (by decide) (by rw [hg, e])
          · exact HO.out g e (by rw [ob_own] at hg; exact hg))
        have hob3 : ∀ g, ob A3 = some g → ob (some ⟨b, off, none⟩) ≠ some g := by
          intro g hg e
          rcases hg3 g hg with e1 | e1
          · exact HO.out g e1 e
          · have := (hr2.lt g (by rw [ob_own]; exact e)).2
            omega
        clear k1 k2 q1 q2 hcell
        go_wp2_with fail
        go_roundw
        case rel =>
          refine ⟨k + 1, A3, c3, by omega, by go_num, ?_, hr3, hob3⟩
          rw [HX.out, List.map_append, List.map_cons, List.map_nil, meetAll_snoc]
          exact hS3
        case measure => simp [intOf]; omega
      · go_wp2_with fail
        go_end0
        have hkk : ((intsOf ps).take k) = intsOf ps := List.take_of_length_le (by simp [intsOf]; omega)
        rw [hkk] at hS
        exact ⟨rfl, A', c', hS⟩
end Go.Proofs.Ytekajenmkpobgaa
