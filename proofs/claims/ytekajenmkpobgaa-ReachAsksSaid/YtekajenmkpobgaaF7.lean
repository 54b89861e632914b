/- The law's asks: all calls against the document's. -/
import Derived.Test.YtekajenmkpobgaaF8
set_option linter.unusedSimpArgs false
set_option linter.unusedVariables false
namespace Go.Proofs.Ytekajenmkpobgaa
open Go.RowKit Go.Shelf

theorem bools_eq {w : World} {A A' : Option Addr} {n n' c c' B B' : Nat} {l l' : List Bool} (ha : Reads w B 1 A n (l.map V)) (hb : Reads w B' 1 A' n' (l'.map V)) (h : l = l') (hn : n ≤ 1000000000) :
    Calls Try.prog 18 #[.slice A n c, .slice A' n' c'] w fun e w' => e = .returned (.bool true) ∧ ∃ k, w' = w.drewN k := by
  subst h
  refine (Bools_any A A' n c n' c' B B' l l w ha hb (by omega)).mono ?_
  rintro e w' ⟨rfl, h⟩
  exact ⟨by simp, h⟩
theorem ints_eq {w : World} {A A' : Option Addr} {n n' c c' B B' : Nat} {l l' : List Int} (ha : Reads w B 1 A n (l.map I)) (hb : Reads w B' 1 A' n' (l'.map I)) (h : l = l') (hn : n ≤ 1000000000) :
    Calls Try.prog 20 #[.slice A n c, .slice A' n' c'] w fun e w' => e = .returned (.bool true) ∧ ∃ k, w' = w.drewN k := by
  subst h
  refine (Ints_any A A' n c n' c' B B' l l w ha hb (by omega)).mono ?_
  rintro e w' ⟨rfl, h⟩
  exact ⟨by simp, h⟩
theorem Reads.go {w w' : World} {size n : Nat} {A : Option Addr} {xs : List Value} (h : Reads w w.heap.size size A n xs) (hb : Below w.heap.size w w') : Reads w' w'.heap.size size A n xs := (h.below hb).more hb.size

/-- while it asks -/
structure KL (n c1 n2 c2 B ns na nb : Nat) (A1 A2 As Aa Ab : Option Addr) (sup : List Int) (arcs : List ArcV) (starts lst : List Int) (w wx : World) : Prop where
  i : Blk wx w.heap.size 26 #[.slice A1 n c1, .slice A2 n2 c2]
  r : InstR wx B A1 A2 n n2 sup arcs
  s : Reads wx B 1 As ns (starts.map I)
  a : Reads wx wx.heap.size 1 Aa na (lst.map I)
  o : Reads wx wx.heap.size 1 Ab nb (lst.map I)
  b : Below w.heap.size w wx
  hB : B ≤ w.heap.size
  hs : ns ≤ 1000000000
  ha : na ≤ 1000000000
section
variable {n c1 n2 c2 B ns na nb cs : Nat} {A1 A2 As Aa Ab : Option Addr} {sup : List Int} {arcs : List ArcV} {starts lst : List Int} {w wx wy : World}
theorem KL.below (h : KL n c1 n2 c2 B ns na nb A1 A2 As Aa Ab sup arcs starts lst w wx) (hb : Below wx.heap.size wx wy) : KL n c1 n2 c2 B ns na nb A1 A2 As Aa Ab sup arcs starts lst w wy := by
  have hB : B ≤ wx.heap.size := Nat.le_trans h.hB h.b.size
  exact ⟨h.i.below hb h.i.lt, h.r.keep (hb.mono hB), h.s.below (hb.mono hB), h.a.go hb, h.o.go hb, h.b.trans (hb.mono h.b.size), h.hB, h.hs, h.ha⟩
theorem KL.sz (h : KL n c1 n2 c2 B ns na nb A1 A2 As Aa Ab sup arcs starts lst w wx) : B ≤ wx.heap.size := Nat.le_trans h.hB h.b.size
theorem KL.from1 (h : KL n c1 n2 c2 B ns na nb A1 A2 As Aa Ab sup arcs starts lst w wx) : Calls Try.prog 17 #[.agg #[.slice A1 n c1, .slice A2 n2 c2], .slice As ns cs] wx fun e w' => ∃ mb met, e = .returned (.slice (some ⟨mb, 0, none⟩) n n) ∧ Reads w' w'.heap.size 1 (some ⟨mb, 0, none⟩) n (met.map V) ∧ RInv n (nbW n arcs 0) starts met [] ∧ Below wx.heap.size wx w' := by
  refine (From_any A1 A2 n c1 n2 c2 B sup arcs As ns cs starts wx h.r h.sz h.s h.hs).mono ?_
  rintro e w' ⟨mb, met, he, h1, _, h2, h3⟩
  exact ⟨mb, met, he, blk_reads h1 h1.lt (by simpa using h2.len), h2, h3⟩
theorem KL.to1 (h : KL n c1 n2 c2 B ns na nb A1 A2 As Aa Ab sup arcs starts lst w wx) : Calls Try.prog 24 #[.agg #[.slice A1 n c1, .slice A2 n2 c2], .slice As ns cs] wx fun e w' => ∃ mb met, e = .returned (.slice (some ⟨mb, 0, none⟩) n n) ∧ Reads w' w'.heap.size 1 (some ⟨mb, 0, none⟩) n (met.map V) ∧ RInv n (nbW n arcs 1) starts met [] ∧ Below wx.heap.size wx w' := by
  refine (To_any A1 A2 n c1 n2 c2 B sup arcs As ns cs starts wx h.r h.sz h.s h.hs).mono ?_
  rintro e w' ⟨mb, met, he, h1, _, h2, h3⟩
  exact ⟨mb, met, he, blk_reads h1 h1.lt (by simpa using h2.len), h2, h3⟩
theorem KL.from2 (h : KL n c1 n2 c2 B ns na nb A1 A2 As Aa Ab sup arcs starts lst w wx) : Calls Try.prog 37 #[.agg #[.slice A1 n c1, .slice A2 n2 c2], .slice As ns cs] wx fun e w' => ∃ mb met, e = .returned (.slice (some ⟨mb, 0, none⟩) n n) ∧ Reads w' w'.heap.size 1 (some ⟨mb, 0, none⟩) n (met.map V) ∧ (met.length = n ∧ ∀ v, inS met v ↔ ∃ s ∈ starts, hasB n s = true ∧ Rch (nb0 n arcs) s v) ∧ Below wx.heap.size wx w' := by
  refine (rFrom_any A1 A2 n c1 n2 c2 B sup arcs As ns cs starts wx h.r h.sz h.s h.hs).mono ?_
  rintro e w' ⟨mb, met, he, h1, h2, h3⟩
  exact ⟨mb, met, he, blk_reads h1 h1.lt (by simpa using h2.1), h2, h3⟩
theorem KL.to2 (h : KL n c1 n2 c2 B ns na nb A1 A2 As Aa Ab sup arcs starts lst w wx) : Calls Try.prog 38 #[.agg #[.slice A1 n c1, .slice A2 n2 c2], .slice As ns cs] wx fun e w' => ∃ mb met, e = .returned (.slice (some ⟨mb, 0, none⟩) n n) ∧ Reads w' w'.heap.size 1 (some ⟨mb, 0, none⟩) n (met.map V) ∧ (met.length = n ∧ ∀ v, inS met v ↔ ∃ s ∈ starts, hasB n s = true ∧ Rch (nb0 n arcs) v s) ∧ Below wx.heap.size wx w' := by
  refine (rTo_any A1 A2 n c1 n2 c2 B sup arcs As ns cs starts wx h.r h.sz h.s h.hs).mono ?_
  rintro e w' ⟨mb, met, he, h1, h2, h3⟩
  exact ⟨mb, met, he, blk_reads h1 h1.lt (by simpa using h2.1), h2, h3⟩
theorem KL.strong1 (h : KL n c1 n2 c2 B ns na nb A1 A2 As Aa Ab sup arcs starts lst w wx) : Calls Try.prog 21 #[.agg #[.slice A1 n c1, .slice A2 n2 c2]] wx fun e w' => ∃ mb met, e = .returned (.slice (some ⟨mb, 0, none⟩) n n) ∧ Reads w' w'.heap.size 1 (some ⟨mb, 0, none⟩) n (met.map I) ∧ LowAll n arcs met ∧ Below wx.heap.size wx w' := by
  refine (Strong_any A1 A2 n c1 n2 c2 B sup arcs wx h.r h.sz).mono ?_
  rintro e w' ⟨mb, met, he, h1, _, h2, h3⟩
  exact ⟨mb, met, he, blk_reads h1 h1.lt (by simpa using h2.1), h2, h3⟩
theorem KL.strong2 (h : KL n c1 n2 c2 B ns na nb A1 A2 As Aa Ab sup arcs starts lst w wx) : Calls Try.prog 39 #[.agg #[.slice A1 n c1, .slice A2 n2 c2]] wx fun e w' => ∃ Ar cr met, e = .returned (.slice Ar n cr) ∧ Reads w' w'.heap.size 1 Ar n (met.map I) ∧ LowAll n arcs met ∧ Below wx.heap.size wx w' := by
  refine (rStrong_any A1 A2 n c1 n2 c2 B sup arcs wx h.r h.sz).mono ?_
  rintro e w' ⟨Ar, cr, met, he, h1, h2, h3⟩
  exact ⟨Ar, cr, met, he, Reads.of_own h1, h2, h3⟩
theorem KL.back1 (h : KL n c1 n2 c2 B ns na nb A1 A2 As Aa Ab sup arcs starts lst w wx) : Calls Try.prog 12 #[.agg #[.slice A1 n c1, .slice A2 n2 c2]] wx fun e w' => ∃ mb ofl, e = .returned (.slice (some ⟨mb, 0, none⟩) n2 n2) ∧ Reads w' w'.heap.size 1 (some ⟨mb, 0, none⟩) n2 ((arcs.map (backOf n ofl)).map V) ∧ LowAll n arcs ofl ∧ Below wx.heap.size wx w' := by
  refine (Back_any A1 A2 n c1 n2 c2 B sup arcs wx h.r h.sz).mono ?_
  rintro e w' ⟨mb, met, he, h1, _, h2, h3⟩
  exact ⟨mb, met, he, blk_reads h1 h1.lt (by simpa using h.r.len), h2, h3⟩
theorem KL.back2 (h : KL n c1 n2 c2 B ns na nb A1 A2 As Aa Ab sup arcs starts lst w wx) : Calls Try.prog 40 #[.agg #[.slice A1 n c1, .slice A2 n2 c2]] wx fun e w' => ∃ Ar cr l, e = .returned (.slice Ar n2 cr) ∧ Reads w' w'.heap.size 1 Ar n2 (l.map V) ∧ BackUp n arcs n2 l ∧ Below wx.heap.size wx w' := by
  refine (rBack_any A1 A2 n c1 n2 c2 B sup arcs wx h.r h.sz).mono ?_
  rintro e w' ⟨Ar, cr, met, he, h1, h2, h3⟩
  exact ⟨Ar, cr, met, he, Reads.of_own h1, h2, h3⟩
end
theorem met_same {n : Nat} {P : Int → Prop} {m m' : List Bool} (hl : m.length = n) (hl' : m'.length = n) (h : ∀ v, inS m v ↔ P v) (h' : ∀ v, inS m' v ↔ P v) : m = m' := met_ext hl hl' fun v _ => (h v).trans (h' v).symm

set_option maxRecDepth 100000 in
set_option maxHeartbeats 8000000 in
theorem asks_any (A1 A2 : Option Addr) (n c1 n2 c2 B : Nat) (sup : List Int) (arcs : List ArcV) (As : Option Addr) (ns cs : Nat) (starts : List Int) (w : World) (h : InstR w B A1 A2 n n2 sup arcs) (hB : B ≤ w.heap.size) (hr : Reads w B 1 As ns (starts.map I)) (hns : ns ≤ 1000000000) :
    Calls Try.prog 23 #[.agg #[.slice A1 n c1, .slice A2 n2 c2], .slice As ns cs] w fun e w' => e = .returned (.bool true) ∧ Below w.heap.size w w' := by
  have hn := h.hn
  have hn2 := h.hn2
  have hbx : Blk (w.alloc (.cells #[.slice A1 n c1, .slice A2 n2 c2] 26)) w.heap.size 26 #[.slice A1 n c1, .slice A2 n2 c2] := Blk.new _ _ _
  have hb0 : Below w.heap.size w (w.alloc (.cells #[.slice A1 n c1, .slice A2 n2 c2] 26)) := (Below.refl _ w).alloc (Nat.le_refl _) _
  have HI := Lib.hid (And.intro h hr)
  clear h hr
  go_enter Try.func23, Try.ntmps23
  go_wp2_with fail
  generalize w.alloc (.cells #[.slice A1 n c1, .slice A2 n2 c2] 26) = W at *
  have hsW := hb0.size
  refine (Order_any A1 A2 n c1 n2 c2 B sup arcs W (HI.out.1.keep (hb0.mono hB)) (by omega)).mono ?_
  rintro e w1 ⟨told, hg, hs, hb1, hor⟩
  have hs1 := hb1.size
  have hbx1 := hbx.below hb1 hbx.lt
  have hbw1 : Below w.heap.size w w1 := hb0.trans (hb1.mono hsW)
  have q0 := hbx1.cell 0
  have q1 := hbx1.cell 1
  simp only [List.getElem?_toArray, List.getElem?_cons_zero, List.getElem?_cons_succ] at q0 q1
  obtain ⟨v1, f1, Aa, na, ca, he1, hva, hra, hna⟩ : ∃ (v1 : Value) (f1 : Bool) (Aa : Option Addr) (na ca : Nat), e = .returned (.tuple #[v1, .bool f1]) ∧ v1 = .slice Aa na ca ∧ Reads w1 w1.heap.size 1 Aa na ((if f1 then told else []).map I) ∧ (na ≤ 1000000000 ∧ (f1 = true ↔ told.length = n)) := by
    rcases hor with ⟨h1, h2⟩ | ⟨h1, A, c, h2, h3⟩
    · exact ⟨_, false, none, 0, 0, h2, rfl, Reads.none_, by omega, by simp; omega⟩
    · exact ⟨_, true, A, n, c, h2, rfl, Reads.of_own h3, by omega, by simp [h1]⟩
  subst he1 hva
  have HG := Lib.hid (And.intro hg (And.intro hs hna.2))
  have hna1 := hna.1
  clear hor hg hs hna
  go_wp2_with fail
  refine (rOrder_any A1 A2 n c1 n2 c2 B sup arcs w1 (HI.out.1.keep (hbw1.mono hB)) (by omega)).mono ?_
  rintro e w2 ⟨told2, hg, hs, hb2, hor⟩
  have ht : told = told2 := HG.out.1.one HG.out.2.1 hg hs
  subst ht
  obtain ⟨v2, Ab, nb, cb, he2, hvb, hrb⟩ : ∃ (v2 : Value) (Ab : Option Addr) (nb cb : Nat), e = .returned (.tuple #[v2, .bool f1]) ∧ v2 = .slice Ab nb cb ∧ Reads w2 w2.heap.size 1 Ab nb ((if f1 then told else []).map I) := by
    have hf := HG.out.2.2
    rcases hor with ⟨h1, h2⟩ | ⟨h1, A, c, h2, h3⟩
    · have : f1 = false := by
        cases f1 with
        | false => rfl
        | true => have := hf.1 rfl; omega
      subst this
      exact ⟨_, none, 0, 0, h2, rfl, Reads.none_⟩
    · have : f1 = true := hf.2 h1
      subst this
      exact ⟨_, A, n, c, h2, rfl, Reads.of_own h3⟩
  subst he2 hvb
  have hbw2 : Below w.heap.size w w2 := hbw1.trans (hb2.mono (by omega))
  have hT : KL n c1 n2 c2 B ns na nb A1 A2 As Aa Ab sup arcs starts (if f1 then told else []) w w2 :=
    ⟨hbx1.below hb2 hbx1.lt, HI.out.1.keep (hbw2.mono hB), HI.out.2.below (hbw2.mono hB), hra.go hb2, hrb, hbw2, hB, hns, hna1⟩
  generalize (if f1 then told else []) = lst at *
  have HT := Lib.hid hT
  have z1 : (f1 == f1) = true := by simp
  clear hor hg hs hT hrb hra hbx hbx1 q0 q1 hb0 hb1 hb2 hbw1 hbw2
  have q0 := HT.out.i.cell 0
  have q1 := HT.out.i.cell 1
  simp only [List.getElem?_toArray, List.getElem?_cons_zero, List.getElem?_cons_succ] at q0 q1
  go_wp2_with fail
  have hT := HT.out.below (Below.refl _ w2).drew
  go_region_held3 (fun w' => w'.cell? ⟨w.heap.size, 0, none⟩ = some (.slice A1 n c1) ∧ w'.cell? ⟨w.heap.size, 1, none⟩ = some (.slice A2 n2 c2)) (first | go_keep | exact ⟨k1, k2⟩)
    (first
      | (go_at_call 17; refine (hT.from1).mono ?_; rintro e wn ⟨tA, mA, rfl, hA, hRA, hb⟩; have hT := hT.below hb; have k1 := hT.i.cell 0; have k2 := hT.i.cell 1)
      | (go_at_call 37; refine (hT.from2).mono ?_; rintro e wn ⟨tB, mB, rfl, hBB, hRB, hb⟩; have hA := hA.go hb; have hT := hT.below hb; have HE := Lib.hid (met_same hRA.len hRB.1 (From_iff hRA) hRB.2); have k1 := hT.i.cell 0; have k2 := hT.i.cell 1)
      | (go_at_call 24; refine (hT.to1).mono ?_; rintro e wn ⟨tA, mA, rfl, hA, hRA, hb⟩; have hT := hT.below hb; have k1 := hT.i.cell 0; have k2 := hT.i.cell 1)
      | (go_at_call 38; refine (hT.to2).mono ?_; rintro e wn ⟨tB, mB, rfl, hBB, hRB, hb⟩; have hA := hA.go hb; have hT := hT.below hb; have HE := Lib.hid (met_same hRA.len hRB.1 (To_iff hRA) hRB.2); have k1 := hT.i.cell 0; have k2 := hT.i.cell 1)
      | (go_at_call 21; refine (hT.strong1).mono ?_; rintro e wn ⟨tA, mA, rfl, hA, hRA, hb⟩; have hT := hT.below hb; have k1 := hT.i.cell 0; have k2 := hT.i.cell 1)
      | (go_at_call 39; refine (hT.strong2).mono ?_; rintro e wn ⟨AR, cR, mB, rfl, hBB, hRB, hb⟩; have hA := hA.go hb; have hT := hT.below hb; have HE := Lib.hid (low_same (fun _ _ => Iff.rfl) hRA hRB); have k1 := hT.i.cell 0; have k2 := hT.i.cell 1)
      | (go_at_call 12; refine (hT.back1).mono ?_; rintro e wn ⟨tA, mA, rfl, hA, hRA, hb⟩; have hT := hT.below hb; have k1 := hT.i.cell 0; have k2 := hT.i.cell 1)
      | (go_at_call 40; refine (hT.back2).mono ?_; rintro e wn ⟨AR, cR, mB, rfl, hBB, hRB, hb⟩; have hA := hA.go hb; have hT := hT.below hb; have HE := Lib.hid (BackUp.all (show BackUp n arcs arcs.length mB from (by rw [hT.r.len]; exact hRB)) hRA); have k1 := hT.i.cell 0; have k2 := hT.i.cell 1)
      | (go_at_call 18; refine (bools_eq hA hBB HE.out (by omega)).mono ?_; rintro e wn ⟨rfl, q, rfl⟩; have hT := hT.below (below_dN _ q); have k1 := hT.i.cell 0; have k2 := hT.i.cell 1)
      | (go_at_call 20; first | ((with_reducible refine (ints_eq hA hBB HE.out (by omega)).mono ?_); rintro e wn ⟨rfl, q, rfl⟩; have hT := hT.below (below_dN _ q); have k1 := hT.i.cell 0; have k2 := hT.i.cell 1) | ((with_reducible refine (ints_eq hT.a hT.o rfl hT.ha).mono ?_); rintro e wn ⟨rfl, q, rfl⟩; have hT := hT.below (below_dN _ q); have k1 := hT.i.cell 0; have k2 := hT.i.cell 1)))
  go_wp2_with fail
  go_ret
  exact ⟨rfl, by rw [← World.drewN_drewN]; exact hT.b⟩
end Go.Proofs.Ytekajenmkpobgaa
