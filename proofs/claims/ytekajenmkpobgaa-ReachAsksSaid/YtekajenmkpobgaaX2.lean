/- reach.finished: the walk. -/
import Derived.Test.YtekajenmkpobgaaX
set_option linter.unusedSimpArgs false
set_option linter.unusedVariables false
namespace Go.Proofs.Ytekajenmkpobgaa
open Go.RowKit

/-- nodes in the order in which a search in depth leaves them -/
structure Fin0 (N : Nat) (arcs : List ArcV) (told : List Int) : Prop where
  nd : told.Nodup
  mem : ∀ v, v ∈ told ↔ hasB N v = true
  fin : ∀ (i : Nat) u, told[i]? = some u → (∃ s, Rch (nb0 N arcs) u s ∧ Rch (nb0 N arcs) s u ∧ s ∉ told.take (i + 1)) ∨ ∀ v, Rch (nb0 N arcs) u v → v ∈ told.take i ∨ Rch (nb0 N arcs) v u

def fsl (h N g : Nat) (arcs : List ArcV) : FSl := { H := h, N := N, g := g, mv := h + 1 + 1, mb := h + 1, wv := h + 1 + 1 + 1, gv := h, arcs := arcs }

/-- the outer loop's state -/
def FOut (N g : Nat) (arcs : List ArcV) (w : World) (n : Nat) (v : Value) (wr : World) : Prop :=
  ∃ At ct A c met told, v = .slice At told.length ct ∧ FD (fsl w.heap.size N g arcs) At ct A c [] met [] told w wr ∧ ∀ x : Nat, x < n → inS met x
/-- the inner loop's -/
def FInn (N g : Nat) (arcs : List ArcV) (w : World) (n k : Nat) (v : Value) (wr : World) : Prop :=
  ∃ At ct A c ps met stk told, v = .slice At told.length ct ∧ FD (fsl w.heap.size N g arcs) At ct A c ps met stk told w wr ∧ (∀ x : Nat, x ≤ n → inS met x) ∧ dmeas arcs.length met stk < k

theorem run_tail1 (b off l c : Nat) (hl : l + 1 ≤ c) (W : World) :
    (Instr.slice 28 (.slice (some ⟨b, off, none⟩) (l + 1) c) (some (.int .i64 1)) none none).run Try.prog W = .ok (.slice (if c = 1 then some ⟨b, off, none⟩ else some ⟨b, off + 1, none⟩) l (c - 1)) W := by
  have hs : (sizeOf 3).run Try.prog W = .ok 1 W := by kernel_rfl
  have e1 : (1 : Int) ≤ ((l + 1 : Nat) : Int) := by omega
  simp only [Instr.slice, Instr.sliceBounds, Instr.sliceBound, asIntOf, run_underlying Try.underlying28, Sem.run_bind, Sem.run_pure, Result.andThen_ok]
  rw [if_pos (by omega)]
  simp [hs, add_lit]

theorem own_is3 {w : World} {base : Nat} {At : Option Addr} {n ct : Nat} {xs : List Value} (h : w.ownsRow base 3 1 (.slice At n ct) n xs) : ∀ b, ob At = some b → (∃ cur, Blk w b 3 cur) ∧ base ≤ b := by
  intro b hb
  rcases h.2 with ⟨h1, _⟩ | ⟨g, cap, cur, h1, h2, h3, _⟩
  · injection h1 with hA _ _
    rw [hA] at hb; cases hb
  · injection h1 with hA _ _
    rw [hA] at hb
    cases hb
    exact ⟨⟨cur, h3⟩, h2⟩
/-- meet, in the search: nothing at a node that was met -/
theorem fdmeet_old {L : FSl} {At : Option Addr} {A : Option Addr} {c : Nat} {ps : List (Value × Value)} {met : List Bool} {stk : List (Int × List Int)} {w0 w : World} (h : FS L (ob At) A c ps met stk w0 w) (n : Int) (hn : inS met n) :
    Calls Try.prog 64 #[.int .i64 n, .pointer (some ⟨L.mv, 0, none⟩), .pointer (some ⟨L.wv, 0, none⟩), .pointer (some ⟨L.gv, 0, none⟩)] w fun e w' => e = .returned (.tuple #[]) ∧ w = w' := by
  obtain ⟨k, rfl⟩ := Int.eq_ofNat_of_zero_le hn.1
  exact fmeet_old L _ A c ps met stk w0 w h k (by have := hn.2; simpa using this)
theorem fdmeet_new {L : FSl} {At : Option Addr} {ct : Nat} {A : Option Addr} {c : Nat} {ps : List (Value × Value)} {met : List Bool} {stk : List (Int × List Int)} {told : List Int} {w0 w : World} (h : FS L (ob At) A c ps met stk w0 w)
    (ht : w.ownsRow L.H 3 1 (.slice At told.length ct) told.length (told.map I)) (n : Nat) (hn : met[n]? = some false) (hpl : ps.length ≤ 1000000000) :
    Calls Try.prog 64 #[.int .i64 n, .pointer (some ⟨L.mv, 0, none⟩), .pointer (some ⟨L.wv, 0, none⟩), .pointer (some ⟨L.gv, 0, none⟩)] w fun e w' => e = .returned (.tuple #[]) ∧
      ∃ A' c' ps', FS L (ob At) A' c' ps' (met.set n true) (stk ++ [((n : Int), intsOf (outs L.N L.arcs n))]) w0 w' ∧ w'.ownsRow L.H 3 1 (.slice At told.length ct) told.length (told.map I) := by
  refine (fmeet_new L (ob At) A c ps met stk w0 w h n hn hpl (fun b hb => ?_)).mono ?_
  · obtain ⟨⟨cur, hc⟩, _⟩ := own_is3 ht b hb
    exact hc.lt
  · rintro e w' ⟨he, A', c', ps', hF, hk⟩
    refine ⟨he, A', c', ps', hF, own_kept ht hk (fun b hb => ?_)⟩
    rw [ob_own] at hb
    obtain ⟨⟨cur, hc⟩, _⟩ := own_is3 ht b hb
    rintro (e | e | e)
    · exact hc.ne_ h.mb (by decide) e
    · exact hc.ne_ h.wv (by decide) e
    · exact h.other hc (by decide) e

set_option maxRecDepth 100000 in
set_option maxHeartbeats 4000000 in
theorem finished_any (H g N : Nat) (arcs : List ArcV) (w : World) (hG : Graph w H g N arcs) (hH : H ≤ w.heap.size) :
    Calls Try.prog 47 #[.pointer (some ⟨g, 0, none⟩)] w fun e w' => ∃ At ct told, e = .returned (.slice At told.length ct) ∧ w'.ownsRow w.heap.size 3 1 (.slice At told.length ct) told.length (told.map I) ∧ Fin0 N arcs told ∧ Below w.heap.size w w' := by
  have hmf : ∀ (fn : Fn) (first cap : Array Value) (w : World), (Instr.makeFunc fn first cap).run Try.prog w = .ok (.func fn first cap) w := fun _ _ _ _ => rfl
  have hNN := hG.small.1
  have hmk := makeBools N (by omega)
  rw [madeBools] at hmk
  have HG := Lib.hid hG
  clear hG
  obtain ⟨i3, hi3, hz0, hz1, hz2⟩ := info_parts Try.info3
  go_enter Try.func47, Try.ntmps47
  go_wp2_with fail
  refine (Nodes_any H g N arcs _ (HG.out.a.keep ?_)).mono ?_
  · exact (Below.refl _ _).alloc hH _
  rintro e w1 ⟨rfl, rfl⟩
  go_wp2_with fail
  refine (Nodes_any H g N arcs _ (HG.out.a.keep ?_)).mono ?_
  · exact ((((Below.refl _ _).alloc hH _).alloc (by simp; omega) _).alloc (by simp; omega) _).alloc (by simp; omega) _
  rintro e w1 ⟨rfl, rfl⟩
  have hS : FS (fsl w.heap.size N g arcs) none none 0 [] (List.replicate N false) [] w ((((w.alloc (.cells #[.pointer (some ⟨g, 0, none⟩)] 50)).alloc (.cells (bools (List.replicate N false)) 4)).alloc (.cells #[.slice (some ⟨w.heap.size + 1, 0, none⟩) N N] 31)).alloc (.cells #[.slice none 0 0] 100)) := by
    have hB : Below w.heap.size w ((((w.alloc (.cells #[.pointer (some ⟨g, 0, none⟩)] 50)).alloc (.cells (bools (List.replicate N false)) 4)).alloc (.cells #[.slice (some ⟨w.heap.size + 1, 0, none⟩) N N] 31)).alloc (.cells #[.slice none 0 0] 100)) :=
      ((((Below.refl _ w).alloc (Nat.le_refl _) _).alloc (by simp) _).alloc (by simp; omega) _).alloc (by simp; omega) _
    exact ⟨(blk_newN _ _ _ (w.heap.size + 1 + 1) (by simp)).alloc _, ((blk_newN _ _ _ (w.heap.size + 1) (by simp)).alloc _).alloc _, by simp [fsl], blk_newN _ _ _ (w.heap.size + 1 + 1 + 1) (by simp), World.ownsRow_nil _ _ _ _, ⟨rfl, fun i p f hp => by simp at hp⟩,
      (((blk_newN _ _ _ w.heap.size rfl).alloc _).alloc _).alloc _, (HG.out.more hH).keep hB, hB, Nat.le_refl _, by simp [fsl]; omega⟩
  go_wp2_with fail
  generalize hWW : ((((w.alloc (.cells #[.pointer (some ⟨g, 0, none⟩)] 50)).alloc (.cells (bools (List.replicate N false)) 4)).alloc (.cells #[.slice (some ⟨w.heap.size + 1, 0, none⟩) N N] 31)).alloc (.cells #[.slice none 0 0] 100)) = W at *
  clear hWW hmk
  go_loopw [5, 16] (fun v i wr => ∃ n : Nat, n ≤ N ∧ i = .int .i64 n ∧ FOut N g arcs w n v wr) (fun _ i _ => N - (intOf i).toNat)
  case atStart => exact ⟨0, Nat.zero_le _, rfl, none, 0, none, 0, _, [], rfl, ⟨hS, DInv.start N arcs, World.ownsRow_nil _ _ _ _⟩, fun x hx => by omega⟩
  case round =>
    clear hS
    obtain ⟨n, hn, rfl, At, ct, A, c, met, told, rfl, hF, hall⟩ := hrel
    have HALL := Lib.hid hall
    clear hall
    by_cases hlt : n < N
    · have HF := Lib.hid hF
      clear hF
      go_upto_region 8 with fail
      go_cut [16] (fun s16 wx => s16 = .int .i64 (n : Int) ∧ ∃ A c ps met stk, FD (fsl w.heap.size N g arcs) At ct A c ps met stk told w wx ∧ (∀ x : Nat, x ≤ n → inS met x))
      case first =>
        rcases Classical.em (inS met n) with hin | hin
        · have HIN := Lib.hid hin
          clear hin
          go_wp2_with fail
          refine (fdmeet_old HF.out.fs (n : Int) HIN.out).mono ?_
          rintro e w1 ⟨rfl, rfl⟩
          go_wp2_with fail
          go_meet
          exact ⟨rfl, A, c, [], met, [], HF.out, fun x hx => by
            rcases Nat.lt_or_ge x n with h | h
            · exact HALL.out x h
            · have : x = n := by omega
              rw [this]; exact HIN.out⟩
        · have hnf : met[n]? = some false := by
            have hl : n < met.length := by have := HF.out.d.len; simp only [fsl] at this; omega
            cases hb : met[n] with
            | false => rw [List.getElem?_eq_getElem hl, hb]
            | true => exact absurd ⟨by omega, by rw [Int.toNat_natCast, List.getElem?_eq_getElem hl, hb]⟩ hin
          have HNF := Lib.hid hnf
          clear hin hnf
          go_wp2_with fail
          refine (fdmeet_new HF.out.fs HF.out.t n HNF.out (by simp)).mono ?_
          rintro e w1 ⟨rfl, A', c', ps', hF', ht'⟩
          go_wp2_with fail
          go_meet
          have hl := (newNat HNF.out).1
          exact ⟨rfl, A', c', ps', _, _, ⟨hF', HF.out.d.push HNF.out (fun s f e => by cases s <;> cases e), ht'⟩, fun x hx => (inS_set hl _).2 (by
            rcases Nat.lt_or_ge x n with h | h
            · exact .inl (HALL.out x h)
            · right; omega)⟩
      case rest =>
        obtain ⟨rfl, A, c, ps, met, stk, hF, hall⟩ := hcut
        go_wp2_with fail
        obtain ⟨wo, rfl⟩ : ∃ wo : World, wo = wr := ⟨_, rfl⟩
        go_loopg [5] (dmeas arcs.length met stk + 1) (fun k v wr => FInn N g arcs w n k v wr)
        case atStart => exact ⟨At, ct, A, c, ps, met, stk, told, rfl, hF, hall, by omega⟩
        case round =>
          clear hF hall HF HALL
          obtain ⟨At, ct, A, c, ps, met, stk, told, rfl, hF, hall, hmu⟩ := hrel
          have HALL := Lib.hid hall
          have HMU := Lib.hid hmu
          clear hall hmu
          rcases List.eq_nil_or_concat stk with rfl | ⟨s, f, rfl⟩
          · have hps : ps = [] := List.eq_nil_of_length_eq_zero hF.fs.way.1
            subst hps
            have q1 : wr.cell? ⟨w.heap.size + 1 + 1 + 1, 0, none⟩ = some (.slice A 0 c) := hF.fs.wv.cell 0
            go_wp2_with fail
            go_roundw
            case rel => exact ⟨n + 1, by omega, by go_num, At, ct, A, c, met, told, rfl, hF, fun x hx => HALL.out x (by omega)⟩
            case measure => simp [intOf]; omega
          · rw [List.concat_eq_append] at *
            obtain ⟨u, rest⟩ := f
            obtain ⟨qs, p, rfl, hql, hway, hp1, hp2⟩ := hF.fs.way.pop
            obtain ⟨p1, p2⟩ := p
            simp only at hp1 hp2
            subst hp1
            obtain ⟨rb, cur, rfl, hrb, hcur, hqc, c0, c1, hown, htk⟩ := hF.fs.top
            simp only [I] at c0
            have hsm := hF.d.small
            have hql2 : qs.length ≤ 1000000000 := by simp [fsl] at hsm; omega
            have hql3 : qs.length + 1 ≤ 1000000000 := by simp [fsl] at hsm; omega
            have htl : told.length ≤ 1000000000 := by simp [fsl] at hsm; omega
            have q1 : wr.cell? ⟨w.heap.size + 1 + 1 + 1, 0, none⟩ = some (.slice (some ⟨rb, 0, none⟩) (qs.length + 1) c) := by
              have := hF.fs.wv.cell 0
              simpa [fsl] using this
            have f1 : wr.frozen? ⟨w.heap.size + 1 + 1 + 1, 0, none⟩ = false := hF.fs.wv.frozen 0
            have HF := Lib.hid hF
            have HOWN := Lib.hid hown
            have HW := Lib.hid hway
            have HQL := Lib.hid hql
            clear hF hway hown htk hsm hql
            cases rest with
            | nil =>
              have hp2' : ∃ B cb, p2 = .slice B 0 cb := by obtain ⟨B, cb, e, _⟩ := hp2; exact ⟨B, cb, by simpa using e⟩
              obtain ⟨B, cb, rfl⟩ := hp2'
              go_wp2_with (at_builtin; refine wpList_append_own_at _ rfl _ _ 28 rfl w.heap.size 3 i3 (.int .i64 0) 1 8 Try.underlying28 hi3 hz0 hz1 hz2 rfl (by decide) _ _ _ rfl (HF.out.t.alloc _) ⟨wr.heap.size, 0, none⟩ 1 1 [.int .i64 u] rfl rfl ?c1 ?c2 ?c3 ?c4 ?c5 ?_)
              case c2 => rfl
              case c3 => unfold maxLen; omega
              case c4 => omega
              case c5 => have := HF.out.fs.b.size; omega
              intro v' w1 hown' hgrow _ hat
              rw [ob_own] at hgrow hat
              obtain ⟨At', ct', rfl⟩ := own_form hown'
              rw [ob_own] at hat
              have hF1 := HF.out.fs.below ((Below.refl _ wr).alloc (Nat.le_refl _) (.cells #[.int .i64 u] 3))
              have ht1 := HF.out.t.alloc (.cells #[.int .i64 u] 3)
              have hF2 : FS (fsl w.heap.size N g arcs) (ob At') (some ⟨rb, 0, none⟩) c (qs ++ [(I u, .slice B 0 cb)]) met (s ++ [(u, [])]) w w1 :=
                hF1.told ((Kept.of_grown hgrow).mono (fun k _ h => h.symm)) (fun b hb => by
                  rcases hat with e | e
                  · exact .inl (by rw [← e]; exact hb)
                  · rw [hb] at e; cases e; right; simp) (fun b hb => (own_is3 ht1 b hb).1) (fun b hb => (own_is3 ht1 b hb).2)
              clear q1 f1 c0 c1
              have q1 : w1.cell? ⟨w.heap.size + 1 + 1 + 1, 0, none⟩ = some (.slice (some ⟨rb, 0, none⟩) (qs.length + 1) c) := by
                have := hF2.wv.cell 0
                simpa [fsl] using this
              have f1 : w1.frozen? ⟨w.heap.size + 1 + 1 + 1, 0, none⟩ = false := hF2.wv.frozen 0
              have HF2 := Lib.hid hF2
              clear hF2 hF1
              go_wp2_with fail
              go_roundg (gk - 1)
              case measure => have := HMU.out; omega
              case rel =>
                refine ⟨At', ct', some ⟨rb, 0, none⟩, c, qs, met, s, told ++ [u], ?_, ⟨HF2.out.pop, HF.out.d.pop, ?_⟩, HALL.out, ?_⟩
                · rw [List.length_append]; rfl
                · rw [List.length_append, List.map_append]; exact own_other hown' (own_blk_ne hown' HF2.out.wv (by decide)) _
                · have := HMU.out
                  simp only [dmeas, List.map_append, List.sum_append, List.map_cons, List.map_nil, List.sum_cons, List.sum_nil, List.length_nil] at this ⊢
                  omega
            | cons a r =>
              obtain ⟨b, off, cb, rfl, hcb, hca, ⟨cur3, hb3⟩, htb, harc⟩ := hp2.cons
              have hsl := run_tail1 b off r.length cb hcb
              obtain ⟨vA, hvA⟩ : ∃ vA, vA = (if cb = 1 then some (⟨b, off, none⟩ : Addr) else some ⟨b, off + 1, none⟩) := ⟨_, rfl⟩
              rw [← hvA] at hsl harc
              clear hvA
              have fr := hcur.frozen (qs.length * 2 + 1)
              have n1 : ¬ rb = w.heap.size := hcur.ne_ HF.out.fs.gv (by decide)
              have hFW := HF.out.fs.setArcs rfl (.slice vA r.length (cb - 1)) rfl harc
              have hTW := own_other HF.out.t (own_blk_ne HF.out.t hcur (by decide)) (.slice vA r.length (cb - 1)) (p := ⟨rb, qs.length * 2 + 1, none⟩)
              have hmem := HF.out.d.sub (u, a :: r) (by simp) a (by simp)
              obtain ⟨kv, hkv, hkl⟩ : ∃ kv : Nat, otherOf N arcs a u = kv ∧ kv < N := by
                have : hasB N (otherOf N arcs a u) = true := (nb0_has (nb0_of (N := N) (arcs := arcs) hmem)).1
                simp [hasB] at this
                exact ⟨(otherOf N arcs a u).toNat, by omega, by omega⟩
              have HFW := Lib.hid hFW
              have HTW := Lib.hid hTW
              have HKV := Lib.hid hkv
              have cW : (wr.setCell ⟨rb, qs.length * 2 + 1, none⟩ (.slice vA r.length (cb - 1))).cell? ⟨rb, qs.length * 2, none⟩ = some (.int .i64 u) := by
                rw [World.cell?_setCell_other _ _ _ _ (by simp)]; exact c0
              clear hFW hTW hkv hmem
              go_wp2_with fail
              clear c0 c1 q1 f1 hca hb3 hsl harc fr hp2
              generalize wr.setCell ⟨rb, qs.length * 2 + 1, none⟩ (.slice vA r.length (cb - 1)) = W at *
              have gW : W.cell? ⟨w.heap.size, 0, none⟩ = some (.pointer (some ⟨g, 0, none⟩)) := HFW.out.gv.cell 0
              rcases Classical.em (inS met kv) with hin | hin
              · have HIN := Lib.hid hin
                clear hin
                go_region_with (first
                  | (go_at_call 32; refine (Other_any w.heap.size g N arcs _ ((HFW.out.below (Below.refl _ _).drew).gr.a) (by exact HFW.out.size) a u).mono ?_; rintro e w2 ⟨rfl, hb2⟩; rw [HKV.out])
                  | (go_at_call 64; refine (fdmeet_old (HFW.out.below ((Below.refl _ _).drew.trans hb2)) (kv : Int) HIN.out).mono ?_; rintro e w3 ⟨rfl, rfl⟩))
                all_goals
                  have hb2' : Below W.heap.size W w2 := (Below.refl _ W).drew.trans hb2
                  clear cW gW
                  go_wp2_with fail
                  go_roundg (gk - 1)
                  case measure => have := HMU.out; omega
                  case rel =>
                    refine ⟨At, ct, some ⟨rb, 0, none⟩, c, _, met, s ++ [(u, r)], told, rfl, ⟨HFW.out.below hb2', HF.out.d.skip (by rw [show otherOf (fsl w.heap.size N g arcs).N (fsl w.heap.size N g arcs).arcs a u = kv from HKV.out]; exact HIN.out), own_below HTW.out hb2'⟩, HALL.out, ?_⟩
                    have := HMU.out
                    simp only [dmeas, List.map_append, List.sum_append, List.map_cons, List.map_nil, List.sum_cons, List.sum_nil, List.length_cons] at this ⊢
                    omega
              · have hnf : met[kv]? = some false := by
                  have hl : kv < met.length := by have := HF.out.d.len; simp only [fsl] at this; omega
                  cases hb : met[kv] with
                  | false => rw [List.getElem?_eq_getElem hl, hb]
                  | true => exact absurd ⟨by omega, by rw [Int.toNat_natCast, List.getElem?_eq_getElem hl, hb]⟩ hin
                have HNF := Lib.hid hnf
                clear hin hnf
                go_region_with (first
                  | (go_at_call 32; refine (Other_any w.heap.size g N arcs _ ((HFW.out.below (Below.refl _ _).drew).gr.a) (by exact HFW.out.size) a u).mono ?_; rintro e w2 ⟨rfl, hb2⟩; rw [HKV.out])
                  | (go_at_call 64; refine (fdmeet_new (HFW.out.below ((Below.refl _ _).drew.trans hb2)) (own_below HTW.out ((Below.refl _ _).drew.trans hb2)) kv HNF.out (by rw [List.length_append]; exact hql3)).mono ?_; rintro e w3 ⟨rfl, A3, c3, ps3, hF3, hT3⟩))
                all_goals
                  clear cW gW
                  go_wp2_with fail
                  go_roundg (gk - 1)
                  case measure => have := HMU.out; omega
                  case rel =>
                    refine ⟨At, ct, A3, c3, ps3, _, _, told, rfl, ⟨hF3, HF.out.d.arc HNF.out HKV.out, hT3⟩, fun x hx => (inS_set (newNat HNF.out).1 _).2 (.inl (HALL.out x hx)), ?_⟩
                    have h1 := HMU.out
                    have h2 := cf_set HNF.out
                    have h3 : (intsOf (outs N arcs kv)).length ≤ arcs.length := by
                      unfold intsOf outs
                      rw [List.length_map]
                      exact Nat.le_trans (List.length_filter_le _ _) (by simp)
                    simp only [dmeas, List.map_append, List.sum_append, List.map_cons, List.map_nil, List.sum_cons, List.sum_nil, List.length_cons] at h1 ⊢
                    rw [← h2, Nat.succ_mul] at h1
                    have h4 : (intsOf (outs (fsl w.heap.size N g arcs).N (fsl w.heap.size N g arcs).arcs kv)).length ≤ arcs.length := h3
                    omega
    · go_wp2_with fail
      go_ret
      have hnN : n = N := by omega
      subst hnN
      have hd := hF.d
      have hmem : ∀ v, v ∈ told ↔ hasB n v = true := by
        intro v
        have e := hd.metd v
        simp only [nodesOf, List.map_nil, List.not_mem_nil, or_false] at e
        rw [← e]
        constructor
        · intro h; have := inS_has h; rwa [hd.len] at this
        · intro h
          simp [hasB] at h
          have := HALL.out v.toNat (by omega)
          rwa [show ((v.toNat : Nat) : Int) = v by omega] at this
      exact ⟨At, ct, told, rfl, hF.t, ⟨by have := hd.nd; simpa [nodesOf] using this, hmem, hd.fin⟩, hF.fs.b⟩
end Go.Proofs.Ytekajenmkpobgaa
