/- The law ReachOrder. -/
import Derived.Test.YtekajenmkpobgaaL3
import Derived.Test.YtekajenmkpobgaaL4
import Derived.Test.YtekajenmkpobgaaPL
set_option linter.unusedSimpArgs false
set_option linter.unusedVariables false
namespace Go.Proofs.Ytekajenmkpobgaa
open Go.RowKit Go.Shelf

theorem any_snoc {α : Type} (l : List α) (f : α → Bool) (k : Nat) (x : α) (h : l[k]? = some x) : (l.take (k + 1)).any f = ((l.take k).any f || f x) := by
  rw [take_snoc l k x h, List.any_append]; simp
theorem bools_map_at {α : Type} (l : List α) (f : α → Bool) (k : Nat) (x : α) (h : l[k]? = some x) : (bools (l.map f))[k]? = some (.bool (f x)) := by simp [bools, h, V]
theorem own_to_reads {w : World} {base B n c : Nat} {A : Option Addr} {xs : List Value} (h : w.ownsRow base 3 1 (.slice A n c) n xs) (hB : w.heap.size ≤ B) : Reads w B 1 A n xs := (Reads.of_own h).more hB
theorem placeOf_at {N : Nat} {arcs : List ArcV} {told : List Int} (h : Greedy N arcs told) {i : Nat} {v : Int} (hi : told[i]? = some v) : placeOf told v = i := placeOf_hit hi (fun j hj e => by have := h.inj hi e; omega)

/-- where the law stands behind its first calls -/
structure OL (N m ca sb ib : Nat) (A : Option Addr) (arcs : List ArcV) (w wx : World) : Prop where
  g : ∃ sup, InstG N w ib sb m ca A sup arcs wx
  fit : ∀ x ∈ arcs, fitB N x = true
  m18 : m ≤ 18

set_option maxRecDepth 100000 in
set_option maxHeartbeats 4000000 in
theorem ReachOrder_any (A D : Option Addr) (n c nd cd B : Nat) (cs ds : List Int) (w : World) (hr : Reads w B 1 A n (cs.map U)) (hy : Byt cs) (hd : Reads w B 1 D nd (ds.map U)) (hyd : Byt ds) (hB : B ≤ w.heap.size) (hn : n ≤ 9223372036854775807) (hnd : nd ≤ 9223372036854775807) :
    Calls Try.prog 3 #[.slice A n c, .slice D nd cd] w fun e w' => e = .returned (.bool true) ∧ Below w.heap.size w w' := by
  have hN0 := nOf_pos ds
  have hN1 := nOf_le ds
  go_enter Try.func3, Try.ntmps3
  go_wp2_with fail
  refine (Forth_any A D n c nd cd B cs ds w hr hy hd hyd hB hn hnd).mono ?_
  rintro e w1 ⟨ib, sb, m, ca, A', sup, arcs, rfl, hI1, hm18, hfit⟩
  generalize nOf ds = N at *
  have hI2 := (hI1.below ((Below.refl _ w1).alloc (Nat.le_refl _) (.cells #[.slice (some ⟨sb, 0, none⟩) N N, .slice A' m ca] 26))).move (Blk.new w1 26 _) hI1.size
  have hlen := hI2.len
  have HFIT := Lib.hid hfit
  have HLEN := Lib.hid hlen
  clear hI1 hfit hlen
  go_wp2_with fail
  have hjl : w1.heap.size < (w1.alloc (.cells #[.slice (some ⟨sb, 0, none⟩) N N, .slice A' m ca] 26)).heap.size := by simp
  generalize w1.alloc (.cells #[.slice (some ⟨sb, 0, none⟩) N N, .slice A' m ca] 26) = W at *
  refine (Order_any _ _ N N m ca W.heap.size sup arcs W (hI2.reads (by omega) (by omega)) (Nat.le_refl _)).mono ?_
  rintro e w2 ⟨told, hgr, hst, hb2, hor⟩
  have hI3 := hI2.below hb2
  have q0 := hI3.i.cell 0
  have q1 := hI3.i.cell 1
  simp only [List.getElem?_toArray, List.getElem?_cons_zero, List.getElem?_cons_succ] at q0 q1
  have HGS := Lib.hid (And.intro hgr hst)
  clear hgr hst hI2
  rcases hor with ⟨htl, rfl⟩ | ⟨htl, At, ct, rfl, hrow⟩
  · go_wp2_with fail
    refine (Back_any _ _ N N m ca w2.heap.size sup arcs w2 (hI3.reads (by omega) (by omega)) (Nat.le_refl _)).mono ?_
    rintro e w3 ⟨mb, ofl, rfl, hmb, hle3, hlow, hb3⟩
    have hbk : arcs.any (backOf N ofl) = true := by
      obtain ⟨x, hx, hf, hm⟩ := HGS.out.2.back HGS.out.1.nodup HGS.out.1.has htl
      exact List.any_eq_true.2 ⟨x, hx, (back_iff hlow).2 ⟨hf, hm⟩⟩
    have HBK := Lib.hid hbk
    clear hbk q0 q1
    have HMB := Lib.hid hmb
    clear hmb
    go_wp2_with fail
    go_loop [9, 10] (fun r i => ∃ k : Nat, k ≤ m ∧ i = .int .i64 k ∧ r = .bool ((arcs.take k).any (backOf N ofl))) (fun _ i => m - (intOf i).toNat)
    case atStart => exact ⟨0, Nat.zero_le _, rfl, rfl⟩
    case round =>
      obtain ⟨k, hk, rfl, rfl⟩ := hrel
      by_cases hlt : k < m
      · obtain ⟨x, hx⟩ : ∃ x, arcs[k]? = some x := ⟨_, List.getElem?_eq_getElem (by have := HLEN.out; omega)⟩
        have HS := Lib.hid (any_snoc arcs (backOf N ofl) k x hx)
        have q2 : w3.cell? ⟨mb, k, none⟩ = some (.bool (backOf N ofl x)) := (HMB.out.cell k).trans (bools_map_at arcs _ k x hx)
        clear hx
        cases hb : (arcs.take k).any (backOf N ofl)
        · rw [hb] at HS
          clear hb
          go_wp2_with fail
          go_round
          case rel => exact ⟨k + 1, by omega, by go_num, by rw [HS.out]; simp⟩
          case measure => simp [intOf]; omega
        · rw [hb] at HS
          clear hb
          go_wp2_with fail
          go_round
          case rel => exact ⟨k + 1, by omega, by go_num, by rw [HS.out]; simp⟩
          case measure => simp [intOf]; omega
      · have hkk : (arcs.take k).any (backOf N ofl) = true := by
          rw [List.take_of_length_le (by have := HLEN.out; omega)]; exact HBK.out
        rw [hkk]
        clear hkk
        go_wp2_with fail
        refine (known_any w3).mono ?_
        rintro e w4 ⟨rfl, hb4⟩
        go_wp2_with fail
        go_ret
        exact ⟨rfl, (hI3.b.trans (hb3.mono hI3.size)).trans (hb4.mono (by have := hI3.size; have := hb3.size; omega))⟩
  · go_wp2_with fail
    refine (Back_any _ _ N N m ca w2.heap.size sup arcs w2 (hI3.reads (by omega) (by omega)) (Nat.le_refl _)).mono ?_
    rintro e w3 ⟨mb, ofl, rfl, hmb, hle3, hlow, hb3⟩
    have hall := HGS.out.1.all htl
    have hbk : ∀ x ∈ arcs, backOf N ofl x = false := by
      intro x hx
      cases hb : backOf N ofl x with
      | false => rfl
      | true =>
        obtain ⟨hf, hm⟩ := (back_iff hlow).1 hb
        obtain ⟨j, hj⟩ := hall x.t (fit_has hf).2
        exact absurd hm (HGS.out.1.no_back hx hf hj)
    have HBK := Lib.hid hbk
    have HALL := Lib.hid hall
    have HMB := Lib.hid hmb
    have hI4 := hI3.below hb3
    have hrow4 := own_below hrow hb3
    clear hbk hall hmb q0 q1 hrow
    go_wp2_with fail
    go_loop [9, 10] (fun r i => ∃ k : Nat, k ≤ m ∧ i = .int .i64 k ∧ r = .bool false) (fun _ i => m - (intOf i).toNat)
    case atStart => exact ⟨0, Nat.zero_le _, rfl, rfl⟩
    case round =>
      obtain ⟨k, hk, rfl, rfl⟩ := hrel
      by_cases hlt : k < m
      · obtain ⟨x, hx⟩ : ∃ x, arcs[k]? = some x := ⟨_, List.getElem?_eq_getElem (by have := HLEN.out; omega)⟩
        have q2 : w3.cell? ⟨mb, k, none⟩ = some (.bool false) := by
          rw [← HBK.out x (List.mem_of_getElem? hx)]
          exact (HMB.out.cell k).trans (bools_map_at arcs _ k x hx)
        clear hx
        go_wp2_with fail
        go_round
        case rel => exact ⟨k + 1, by omega, by go_num, rfl⟩
        case measure => simp [intOf]; omega
      · go_wp2_with fail
        go_loopw [11] (fun i wr => ∃ (k q : Nat), k ≤ m ∧ i = .int .i64 k ∧ wr = w3.drewN q) (fun i _ => m - (intOf i).toNat)
        case atStart => exact ⟨0, 0, Nat.zero_le _, rfl, rfl⟩
        case round =>
          clear hlt hk
          obtain ⟨k, q, hk, rfl, rfl⟩ := hrel
          have hI5 : InstG N w w1.heap.size sb m ca A' sup arcs (w3.drewN q) := hI4.below (below_dN _ _)
          have hrow5 : (w3.drewN q).ownsRow W.heap.size 3 1 (.slice At N ct) N (told.map I) := own_below hrow4 (below_dN _ _)
          generalize hX : w3.drewN q = X at *
          have HX := Lib.hid hX
          clear hX
          have q0 := hI5.i.cell 0
          have q1 := hI5.i.cell 1
          simp only [List.getElem?_toArray, List.getElem?_cons_zero, List.getElem?_cons_succ] at q0 q1
          by_cases hlt : k < m
          · obtain ⟨x, hx⟩ : ∃ x, arcs[k]? = some x := ⟨_, List.getElem?_eq_getElem (by have := HLEN.out; omega)⟩
            obtain ⟨b, off, rfl, hb, e0, e1, -⟩ := (Reads.of_own hI5.a).arc hx
            have hxm := List.mem_of_getElem? hx
            have hf := HFIT.out x hxm
            obtain ⟨j, hj⟩ := HALL.out x.t (fit_has hf).2
            obtain ⟨i, hij, hi⟩ := HGS.out.1.arc hxm hf hj
            have p1 := placeOf_at HGS.out.1 hi
            have p2 := placeOf_at HGS.out.1 hj
            have HR := Lib.hid (Reads.of_own hrow5)
            have c1 : decide (placeOf told x.t ≤ placeOf told x.f) = false := by rw [p1, p2]; simp; omega
            clear p1 p2 hi hj hx hxm hf hij
            go_wp2_with fail
            go_quiet ((go_at_call 14; exact quiet_left (Place_any _ N ct _ told _ _ (HR.out.drewN _) (by omega))))
            go_wp2_with fail
            go_roundw
            case rel => exact ⟨k + 1, _, by omega, by go_num, by rw [← HX.out, World.drewN_drewN]⟩
            case measure => simp [intOf]; omega
          · go_wp2_with fail
            go_loop [12] (fun i => ∃ k : Nat, k ≤ N ∧ i = .int .i64 k) (fun i => N - (intOf i).toNat)
            case atStart => exact ⟨0, Nat.zero_le _, rfl⟩
            case round =>
              clear hlt hk
              obtain ⟨k, hk, rfl⟩ := hrel
              by_cases hlt : k < N
              · obtain ⟨j, hj⟩ := HALL.out (k : Int) (by simp [hasB]; omega)
                have p1 := placeOf_at HGS.out.1 hj
                have c1 : decide (placeOf told (k : Int) < 0) = false := by rw [p1]; simp
                clear hj p1
                go_wp2_with fail
                refine (Place_any At N ct _ told k X (Reads.of_own hrow5) (by omega)).mono ?_
                rintro e w4 ⟨rfl, rfl⟩
                go_wp2_with fail
                go_round
                case rel => exact ⟨k + 1, by omega, by go_num⟩
                case measure => simp [intOf]; omega
              · have HI5 := Lib.hid hI5
                go_wp2_with fail
                refine (known_any X).mono ?_
                rintro e w4 ⟨rfl, hb4⟩
                have hI6 := HI5.out.below hb4
                have r0 := hI6.i.cell 0
                simp only [List.getElem?_toArray, List.getElem?_cons_zero, List.getElem?_cons_succ] at r0
                go_wp2_with fail
                go_ret
                exact ⟨rfl, hI6.b⟩
end Go.Proofs.Ytekajenmkpobgaa
