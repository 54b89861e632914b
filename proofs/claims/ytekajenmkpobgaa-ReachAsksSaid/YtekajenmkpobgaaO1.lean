/- reach.Order: one node's work. -/
import Derived.Test.YtekajenmkpobgaaPO
set_option linter.unusedSimpArgs false
set_option linter.unusedVariables false
namespace Go.Proofs.Ytekajenmkpobgaa
open Go.RowKit Go.Shelf

/-- where things lie -/
structure OPl where
  (H N g tv gv lv lb wv sb : Nat)
  arcs : List ArcV
structure OP (L : OPl) (At : Option Addr) (ct : Nat) (A : Option Addr) (c : Nat) (told left hq : List Int) (w0 w : World) : Prop where
  tv : Blk w L.tv 28 #[.slice At told.length ct]
  tr : w.ownsRow L.H 3 1 (.slice At told.length ct) told.length (told.map I)
  gv : Blk w L.gv 50 #[.pointer (some ⟨L.g, 0, none⟩)]
  lv : Blk w L.lv 28 #[.slice (some ⟨L.lb, 0, none⟩) L.N L.N]
  lb : Blk w L.lb 3 (ints left)
  ll : left.length = L.N
  wv : Blk w L.wv 53 #[.pointer (some ⟨L.sb, 0, none⟩)]
  hp : Hp w L.H L.sb A c hq
  ho : HO (hv hq) hq.length
  gr : Graph w L.H L.g L.N L.arcs
  b : Below L.H w0 w
  sz : L.H ≤ w0.heap.size
  le : L.H ≤ L.tv ∧ L.H ≤ L.lb ∧ L.H ≤ L.sb
  n1 : L.tv ≠ L.lv
  n2 : ob At ≠ some L.lb
  n3 : ob A ≠ some L.lb
  n4 : ∀ g, ob At = some g → ob A ≠ some g

section
variable {L : OPl} {At : Option Addr} {ct : Nat} {A : Option Addr} {c : Nat} {told left hp : List Int} {w0 w w' : World}
theorem OP.size (h : OP L At ct A c told left hp w0 w) : L.H ≤ w.heap.size := Nat.le_trans h.sz h.b.size
/-- new memory alone -/
theorem OP.below (h : OP L At ct A c told left hp w0 w) (hb : Below w.heap.size w w') : OP L At ct A c told left hp w0 w' :=
  ⟨h.tv.below hb h.tv.lt, own_below h.tr hb, h.gv.below hb h.gv.lt, h.lv.below hb h.lv.lt, h.lb.below hb h.lb.lt, h.ll, h.wv.below hb h.wv.lt, ⟨h.hp.blk.below hb h.hp.blk.lt, own_below h.hp.row hb⟩, h.ho, h.gr.keep (hb.mono h.size), h.b.trans (hb.mono h.size), h.sz, h.le, h.n1, h.n2, h.n3, h.n4⟩
theorem OP.low (h : OP L At ct A c told left hp w0 w) : ∀ k, k < L.H → ob At ≠ some k ∧ ob A ≠ some k := fun k hk =>
  ⟨fun e => by have := (h.tr.lt k (by rw [ob_own, e])).1; omega, fun e => by have := (h.hp.row.lt k (by rw [ob_own, e])).1; omega⟩
/-- the heap has turned -/
theorem OP.turnH (h : OP L At ct A c told left hp w0 w) {A' : Option Addr} {c' : Nat} {hp' : List Int} (hk : Kept (fun b => b = L.sb ∨ ob A = some b) w w') (hp2 : Hp w' L.H L.sb A' c' hp') (ho : HO (hv hp') hp'.length)
    (hg : ∀ g, ob A' = some g → ob A = some g ∨ w.heap.size ≤ g) : OP L At ct A' c' told left hp' w0 w' := by
  have hr : ∀ {g t cs}, Blk w g t cs → t ≠ 3 → ob A ≠ some g := fun hg ht e => own_blk_ne h.hp.row hg (fun e' => ht e'.symm) (by rw [ob_own, e])
  have hlow : ∀ k, k < L.H → ¬ (k = L.sb ∨ ob A = some k) := by
    rintro k hk (e | e)
    · have := h.le.2.2; omega
    · exact (h.low k hk).2 e
  have hb := hk.to_below h.size hlow
  refine ⟨h.tv.kept hk ?_, own_kept h.tr hk ?_, h.gv.kept hk ?_, h.lv.kept hk ?_, h.lb.kept hk ?_, h.ll, h.wv.kept hk ?_, hp2, ho, h.gr.keep hb, h.b.trans hb, h.sz, h.le, h.n1, h.n2, ?_, ?_⟩
  · rintro (e | e); exact h.tv.ne_ h.hp.blk (by decide) e; exact hr h.tv (by decide) e
  · rintro g hg (e | e)
    · exact own_blk_ne h.tr h.hp.blk (by decide) (by rw [hg, e])
    · rw [ob_own] at hg; exact h.n4 g hg e
  · rintro (e | e); exact h.gv.ne_ h.hp.blk (by decide) e; exact hr h.gv (by decide) e
  · rintro (e | e); exact h.lv.ne_ h.hp.blk (by decide) e; exact hr h.lv (by decide) e
  · rintro (e | e); exact h.lb.ne_ h.hp.blk (by decide) e; exact h.n3 e
  · rintro (e | e); exact h.wv.ne_ h.hp.blk (by decide) e; exact hr h.wv (by decide) e
  · intro e
    rcases hg _ e with e1 | e1
    · exact h.n3 e1
    · have := h.lb.lt; omega
  · intro g hg1 e
    rcases hg _ e with e1 | e1
    · exact h.n4 g hg1 e1
    · have := (h.tr.lt g (by rw [ob_own, hg1])).2; omega
/-- one of those that are left -/
theorem OP.turnL (h : OP L At ct A c told left hp w0 w) (k : Nat) (x : Int) : OP L At ct A c told (left.set k x) hp w0 (w.setCell ⟨L.lb, k, none⟩ (.int .i64 x)) := by
  have hk : Kept (fun b => b = L.lb) w (w.setCell ⟨L.lb, k, none⟩ (.int .i64 x)) := (Kept.refl (fun b => b = L.lb) w).setCell (p := ⟨L.lb, k, none⟩) (fun _ => rfl) _
  have hb := hk.to_below h.size (fun k hk e => by have := h.le.2.1; omega)
  refine ⟨h.tv.kept hk ?_, own_kept h.tr hk ?_, h.gv.kept hk ?_, h.lv.kept hk ?_, ?_, by simpa using h.ll, h.wv.kept hk ?_, ⟨h.hp.blk.kept hk ?_, own_kept h.hp.row hk ?_⟩, h.ho, h.gr.keep hb, h.b.trans hb, h.sz, h.le, h.n1, h.n2, h.n3, h.n4⟩
  · exact fun e => h.tv.ne_ h.lb (by decide) e
  · intro g hg e; rw [ob_own] at hg; exact h.n2 (by rw [hg, e])
  · exact fun e => h.gv.ne_ h.lb (by decide) e
  · exact fun e => h.lv.ne_ h.lb (by decide) e
  · rw [← ints_set]; exact h.lb.set_ k _
  · exact fun e => h.wv.ne_ h.lb (by decide) e
  · exact fun e => h.hp.blk.ne_ h.lb (by decide) e
  · intro g hg e; rw [ob_own] at hg; exact h.n3 (by rw [hg, e])
/-- one more is told -/
theorem OP.turnT (h : OP L At ct A c told left hp w0 w) {At' : Option Addr} {ct' : Nat} {x : Int} (hk : Kept (fun b => b = L.tv ∨ ob At = some b) w w') (ht : Blk w' L.tv 28 #[.slice At' (told ++ [x]).length ct']) (hr : w'.ownsRow L.H 3 1 (.slice At' (told ++ [x]).length ct') (told ++ [x]).length ((told ++ [x]).map I))
    (hg : ∀ g, ob At' = some g → ob At = some g ∨ w.heap.size ≤ g) : OP L At' ct' A c (told ++ [x]) left hp w0 w' := by
  have hr' : ∀ {g t cs}, Blk w g t cs → t ≠ 3 → ob At ≠ some g := fun hg ht e => own_blk_ne h.tr hg (fun e' => ht e'.symm) (by rw [ob_own, e])
  have hlow : ∀ k, k < L.H → ¬ (k = L.tv ∨ ob At = some k) := by
    rintro k hk (e | e)
    · have := h.le.1; omega
    · exact (h.low k hk).1 e
  have hb := hk.to_below h.size hlow
  refine ⟨ht, hr, h.gv.kept hk ?_, h.lv.kept hk ?_, h.lb.kept hk ?_, h.ll, h.wv.kept hk ?_, ⟨h.hp.blk.kept hk ?_, own_kept h.hp.row hk ?_⟩, h.ho, h.gr.keep hb, h.b.trans hb, h.sz, h.le, h.n1, ?_, h.n3, ?_⟩
  · rintro (e | e); exact h.gv.ne_ h.tv (by decide) e; exact hr' h.gv (by decide) e
  · rintro (e | e); exact h.n1 e.symm; exact hr' h.lv (by decide) e
  · rintro (e | e); exact h.lb.ne_ h.tv (by decide) e; exact h.n2 e
  · rintro (e | e); exact h.wv.ne_ h.tv (by decide) e; exact hr' h.wv (by decide) e
  · rintro (e | e); exact h.hp.blk.ne_ h.tv (by decide) e; exact hr' h.hp.blk (by decide) e
  · rintro g hg (e | e)
    · exact own_blk_ne h.hp.row h.tv (by decide) (by rw [hg, e])
    · rw [ob_own] at hg; exact h.n4 g e hg
  · intro e
    rcases hg _ e with e1 | e1
    · exact h.n2 e1
    · have := h.lb.lt; omega
  · intro g hg1 e
    rcases hg _ hg1 with e1 | e1
    · exact h.n4 g e1 e
    · have := (h.hp.row.lt g (by rw [ob_own, e])).2; omega
end

theorem intsOf_take (l : List Nat) (k : Nat) : intsOf (l.take k) = (intsOf l).take k := by simp [intsOf, List.map_take]
set_option maxRecDepth 100000 in
set_option maxHeartbeats 4000000 in
theorem Order1_any (L : OPl) (At : Option Addr) (ct : Nat) (A : Option Addr) (c : Nat) (told hp0 hp : List Int) (ps : List Nat) (v : Int) (w0 w : World) (hK : KInv L.N L.arcs told ps hp0) (hM : KMid L.N L.arcs (told ++ [v]) ps hp) (hv0 : v ∉ told)
    (h : OP L At ct A c told (leftL L.N L.arcs ps) hp w0 w) :
    Calls Try.prog 30 #[.int .i64 v, .pointer (some ⟨L.tv, 0, none⟩), .pointer (some ⟨L.gv, 0, none⟩), .pointer (some ⟨L.lv, 0, none⟩), .pointer (some ⟨L.wv, 0, none⟩)] w fun e w' => e = .returned (.tuple #[]) ∧
      ∃ At' ct' A' c' hp', OP L At' ct' A' c' (told ++ [v]) (leftL L.N L.arcs (ps ++ outs L.N L.arcs v)) hp' w0 w' ∧ KInv L.N L.arcs (told ++ [v]) (ps ++ outs L.N L.arcs v) hp' := by
  obtain ⟨i0, hi, hz0, hz1, hz2⟩ := info_parts Try.info3
  have q0 := h.tv.cell 0
  have f0 := h.tv.frozen 0
  simp only [List.getElem?_toArray, List.getElem?_cons_zero] at q0
  have hne := own_blk_ne h.tr h.tv (by decide)
  rw [ob_own] at hne
  have lt := h.tv.lt
  have hN := h.gr.small.1
  have htl : told.length ≤ 1000000000 := Nat.le_trans hK.gr.len hN
  have hsz0 := h.size
  go_enter Try.func30, Try.ntmps30
  go_wp2_with (at_builtin; refine wpList_append_own_at _ rfl _ _ 28 rfl L.H 3 i0 (.int .i64 0) 1 8 Try.underlying28 hi hz0 hz1 hz2 rfl (by decide) _ _ _ rfl (h.tr.alloc _) ⟨w.heap.size, 0, none⟩ 1 1 [.int .i64 v] rfl rfl ?c1 ?c2 ?c3 ?c4 ?c5 ?_)
  case c1 => exact cell_one_new _ _ _
  case c2 => simp [Value.oneCell']
  case c3 => unfold maxLen; omega
  case c4 => omega
  case c5 => simp; omega
  intro v' w1 hown hgrow _ hat
  rw [ob_own] at hat hgrow
  obtain ⟨At', ct', rfl⟩ := own_form hown
  rw [ob_own] at hat
  have hB1 := (h.tv.alloc (.cells #[.int .i64 v] 3)).grown hgrow (fun e => hne e.symm)
  have hk1 : Kept (fun b => b = L.tv ∨ ob At = some b) w w1 := ((Kept.refl _ w).alloc (.cells #[.int .i64 v] 3)).trans ((Kept.of_grown hgrow).mono (fun k _ hk => .inr hk.symm))
  clear q0 f0
  have q0 := hB1.cell 0
  have f0 := hB1.frozen 0
  simp only [List.getElem?_toArray, List.getElem?_cons_zero] at q0
  have hn2 := own_blk_ne hown hB1 (by decide)
  have hsz := hgrow.size
  simp only [World.size_alloc] at hsz
  have hOP1 : OP L At' ct' A c (told ++ [v]) (leftL L.N L.arcs ps) hp w0 (w1.setCell ⟨L.tv, 0, none⟩ (.slice At' (told.length + 1) ct')) := by
    refine h.turnT (hk1.setCell (fun _ => .inl rfl) _) ?_ ?_ (fun g hg => ?_)
    · rw [List.length_append]; exact hB1.set_ 0 _
    · rw [List.length_append, List.map_append]; exact own_other hown hn2 _
    · rcases hat with e | e
      · exact .inl (by rw [← e]; exact hg)
      · rw [hg] at e; cases e; right; omega
  have gq := hOP1.gv.cell 0
  simp only [List.getElem?_toArray, List.getElem?_cons_zero] at gq
  go_wp2_with fail
  generalize w1.setCell ⟨L.tv, 0, none⟩ (.slice At' (told.length + 1) ct') = W1 at *
  have hW1 := hOP1
  have llb := hOP1.lb.lt
  have lsb := hOP1.hp.blk.lt
  have hAl : ∀ g, ob A = some g → g < W1.heap.size := fun g hg => (hOP1.hp.row.lt g (by rw [ob_own]; exact hg)).2
  have hpo : pieceOf L.N L.arcs v 0 = outs L.N L.arcs v := rfl
  refine (Out_any L.H L.g L.N L.arcs v W1 hOP1.gr hOP1.size).mono ?_
  rintro e w2 ⟨B, cb, rfl, ho, hb⟩
  rw [hpo] at ho
  rw [hpo]
  obtain ⟨os, hos⟩ : ∃ os, os = outs L.N L.arcs v := ⟨_, rfl⟩
  rw [← hos] at ho
  rw [← hos]
  have hpl : os.length ≤ 1000000000 := by
    have := h.gr.small.2
    rw [hos]; unfold outs
    exact Nat.le_trans (List.length_filter_le _ _) (by simpa using this)
  have hal : L.arcs.length ≤ 1000000000 := h.gr.small.2
  have HOS := Lib.hid hos
  clear hos gq hpo q0 f0
  have h2 := hOP1.below hb
  have hS1 : W1.heap.size ≤ w2.heap.size := hb.size
  clear hOP1 hW1 hB1 hk1 hgrow hown hat hn2 hsz hne h lt hb
  go_wp2_with fail
  go_loopw [17] (fun i wr => ∃ (k : Nat) (A' : Option Addr) (c' : Nat) (hp' : List Int), k ≤ os.length ∧ i = .int .i64 k ∧ OP L At' ct' A' c' (told ++ [v]) (leftL L.N L.arcs (ps ++ os.take k)) hp' w0 wr ∧ KMid L.N L.arcs (told ++ [v]) (ps ++ os.take k) hp' ∧
      wr.ownsRow W1.heap.size 3 1 (.slice B os.length cb) os.length ((intsOf os).map I) ∧ (∀ g, ob A' = some g → ob B ≠ some g)) (fun i _ => os.length - (intOf i).toNat)
  case atStart =>
    refine ⟨0, A, c, hp, Nat.zero_le _, rfl, by simpa using h2, by simpa using hM, ho, fun g hg e => ?_⟩
    have e1 := (ho.lt g (by rw [ob_own]; exact e)).1
    have e2 := hAl g hg
    omega
  case round =>
    clear h2 ho hM
    obtain ⟨k, A', c', hp', hk, rfl, hS, hM, hrow, hob⟩ := hrel
    by_cases hlt : k < os.length
    · obtain ⟨b, off, u, rfl, hbB, hx, hcell⟩ := (Reads.of_own hrow).at_ hlt
      have hak : os[k]? = some os[k] := List.getElem?_eq_getElem hlt
      simp only [List.getElem?_map, intsOf, hak, Option.map_some, Option.some.injEq] at hx
      subst hx
      generalize os[k] = a at *
      have hts := take_snoc os k a hak
      have hnd : a ∉ ps ++ os.take k := by
        have := HOS.out
        rw [this] at hak
        rw [this]
        exact hK.not_done hv0 hak
      obtain ⟨x, hx, hf, hxf⟩ : ∃ x, L.arcs[a]? = some x ∧ fitB L.N x = true ∧ x.f = v := outs_mem (by rw [← HOS.out]; exact List.mem_of_getElem? hak)
      have hoth := other_out hx hf hxf
      have hxt := (fit_has hf).2
      simp only [hasB, Bool.and_eq_true, decide_eq_true_eq] at hxt
      obtain ⟨m, hm⟩ := Int.eq_ofNat_of_zero_le hxt.1
      have hmN : m < L.N := by omega
      have hpos := (hM.fresh hx hf hnd).1
      rw [hm] at hpos
      obtain ⟨q, hq⟩ : ∃ q, lf L.N L.arcs (ps ++ os.take k) (m : Int) = q + 1 := ⟨_, (Nat.succ_pred_eq_of_pos hpos).symm⟩
      have hql : q ≤ 1000000000 := by
        have : lf L.N L.arcs (ps ++ os.take k) (m : Int) ≤ L.arcs.length := by
          unfold lf ins
          exact Nat.le_trans (List.length_filter_le _ _) (Nat.le_trans (List.length_filter_le _ _) (by simp))
        omega
      have hstep := leftL_step hx hf hnd hm
      rw [hq] at hstep
      have HF := Lib.hid (And.intro hstep (And.intro hts (And.intro hq (And.intro hx (And.intro hnd hm)))))
      have HO := Lib.hid (And.intro hoth hxf)
      clear hstep hts hq hx hnd hoth hak hpos hxf
      unfold I at hcell
      have q2 := hS.gv.cell 0
      simp only [List.getElem?_toArray, List.getElem?_cons_zero] at q2
      have HM := Lib.hid hm
      clear hm hxt
      go_wp2_with fail
      refine (Other_any L.H L.g L.N L.arcs wr hS.gr.a hS.size a v).mono ?_
      rintro e w3 ⟨rfl, hb3⟩
      have hS3 := hS.below hb3
      rw [HO.out.1, HM.out]
      have hrow3 := own_below hrow hb3
      clear hcell q2 hS hrow
      have q1 := hS3.lv.cell 0
      have q2 := hS3.lb.cell m
      rw [ints_at (leftL_at hmN), HF.out.2.2.1] at q2
      simp only [List.getElem?_toArray, List.getElem?_cons_zero] at q1
      have f2 := hS3.lb.frozen m
      have q3 := hS3.wv.cell 0
      simp only [List.getElem?_toArray, List.getElem?_cons_zero] at q3
      have n1 : ¬ L.lv = L.lb := hS3.lv.ne_ hS3.lb (by decide)
      have n2 : ¬ L.lb = L.lv := fun e => n1 e.symm
      have n3 : ¬ L.wv = L.lb := hS3.wv.ne_ hS3.lb (by decide)
      have n4 : ¬ L.lb = L.wv := fun e => n3 e.symm
      have hS4 := hS3.turnL m (((q + 1 : Nat) : Int) - 1)
      rw [← HF.out.1] at hS4
      have hrow4 := own_other hrow3 (p := ⟨L.lb, m, none⟩) (by intro e; have := (hrow3.lt L.lb e).1; omega) (.int .i64 (((q + 1 : Nat) : Int) - 1))
      by_cases hq0 : q = 0
      · subst hq0
        have e1 : (((0 + 1 : Nat) : Int) - 1) = 0 := by decide
        rw [e1] at hS4 hrow4
        have HS4 := Lib.hid (And.intro hS4 hrow4)
        clear hS4 hrow4 e1
        go_wp2_with fail
        refine (lput_any L.H L.sb A' c' hp' _ HS4.out.1.hp HS4.out.1.size (Nat.le_trans hM.len hN) HS4.out.1.ho m).mono ?_
        rintro e w5 ⟨rfl, A5, c5, hp5, h5, hO5, hP5, hK5, hg5⟩
        have hS5 := HS4.out.1.turnH hK5 h5 hO5 hg5
        have hrow5 := own_kept HS4.out.2 hK5 (by
          rintro g hg (e | e)
          · have := (HS4.out.2.lt g hg).1; omega
          · rw [ob_own] at hg; exact hob g e hg)
        have hM5 := hM.arc0 (hq := hp5) HF.out.2.2.2.1 hf HF.out.2.2.2.2.1 (by rw [HF.out.2.2.2.2.2]; exact HF.out.2.2.1) (by rw [HF.out.2.2.2.2.2]; exact hP5)
        have hob5 : ∀ g, ob A5 = some g → ob (some ⟨b, off, none⟩) ≠ some g := by
          intro g hg e
          rcases hg5 g hg with e1 | e1
          · exact hob g e1 e
          · have := (HS4.out.2.lt g (by rw [ob_own]; exact e)).2; omega
        clear q1 q2 q3 f2
        go_wp2_with fail
        go_roundw
        case rel =>
          refine ⟨k + 1, A5, c5, hp5, by omega, by go_num, ?_, ?_, hrow5, hob5⟩
          · rw [HF.out.2.1, ← List.append_assoc]; exact hS5
          · rw [HF.out.2.1, ← List.append_assoc]; exact hM5
        case measure => simp [intOf]; omega
      · have hqb : ((q : Int) == 0) = false := by rw [beq_eq_false_iff_ne]; omega
        have e1 : (((q + 1 : Nat) : Int) - 1) = (q : Int) := by omega
        rw [e1] at hS4 hrow4
        have HS4 := Lib.hid (And.intro hS4 hrow4)
        clear hS4 hrow4 e1
        go_wp2_with fail
        have hM5 := hM.arc HF.out.2.2.2.1 hf HF.out.2.2.2.2.1 (by rw [HF.out.2.2.2.2.2, HF.out.2.2.1]; omega)
        go_roundw
        case rel =>
          refine ⟨k + 1, A', c', hp', by omega, by go_num, ?_, ?_, HS4.out.2, hob⟩
          · rw [HF.out.2.1, ← List.append_assoc]; exact HS4.out.1
          · rw [HF.out.2.1, ← List.append_assoc]; exact hM5
        case measure => simp [intOf]; omega
    · go_wp2_with fail
      go_end0
      have hkk : os.take k = os := List.take_of_length_le (by omega)
      rw [hkk] at hS hM
      rw [HOS.out] at hS hM
      exact ⟨rfl, At', ct', A', c', hp', hS, hK.all hM⟩
end Go.Proofs.Ytekajenmkpobgaa
