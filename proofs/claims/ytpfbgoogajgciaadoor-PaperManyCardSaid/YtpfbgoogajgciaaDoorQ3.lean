/- A frame: only blocks of a set, and new ones, have turned. The reader's lists: flow (51), pot (52), side (53), cycle (54). Conditions: none. -/
import Derived.Test.YtpfbgoogajgciaaDoorQ2
set_option linter.unusedSimpArgs false
set_option linter.unusedVariables false
namespace Go.Proofs.YtpfbgoogajgciaaDoor
open Go.RowKit Go.Shelf

structure Kept (S : Nat → Prop) (w w' : World) : Prop where
  os : w'.os = w.os
  tape : w'.tape = w.tape
  output : w'.output = w.output
  size : w.heap.size ≤ w'.heap.size
  block : ∀ k, k < w.heap.size → ¬ S k → w'.heap[k]? = w.heap[k]?

section
variable {S T : Nat → Prop} {w w1 w' : World}
theorem Kept.refl (S : Nat → Prop) (w : World) : Kept S w w := ⟨rfl, rfl, rfl, Nat.le_refl _, fun _ _ _ => rfl⟩
theorem Kept.trans (h : Kept S w w1) (k : Kept S w1 w') : Kept S w w' :=
  ⟨k.os.trans h.os, k.tape.trans h.tape, k.output.trans h.output, Nat.le_trans h.size k.size, fun i hi hs => (k.block i (Nat.lt_of_lt_of_le hi h.size) hs).trans (h.block i hi hs)⟩
theorem Kept.mono (h : Kept S w w') (hst : ∀ k, k < w.heap.size → S k → T k) : Kept T w w' :=
  ⟨h.os, h.tape, h.output, h.size, fun i hi hs => h.block i hi (fun hh => hs (hst i hi hh))⟩
theorem Kept.alloc (h : Kept S w w') (o : Obj) : Kept S w (w'.alloc o) :=
  ⟨h.os, h.tape, h.output, Nat.le_trans h.size (by simp), fun i hi hs => (Below.heap_alloc w' o i (Nat.lt_of_lt_of_le hi h.size)).trans (h.block i hi hs)⟩
theorem Kept.drew (h : Kept S w w') : Kept S w w'.drew := ⟨h.os, h.tape, h.output, h.size, h.block⟩
theorem Kept.drewN (h : Kept S w w') (n : Nat) : Kept S w (w'.drewN n) := ⟨h.os, h.tape, h.output, h.size, h.block⟩
theorem Kept.setCell (h : Kept S w w') {p : Addr} (hp : p.block < w.heap.size → S p.block) (u : Value) : Kept S w (w'.setCell p u) :=
  ⟨h.os, h.tape, h.output, by simpa [World.setCell] using h.size, fun i hi hs => (Below.heap_setCell w' p u i (by rintro rfl; exact hs (hp hi))).trans (h.block i hi hs)⟩
theorem Kept.of_below (h : Below w.heap.size w w') (S : Nat → Prop) : Kept S w w' := ⟨h.os, h.tape, h.output, h.size, fun i hi _ => h.block i hi⟩
theorem Kept.of_grown {row : Option Nat} (h : w.grownBy w' row) : Kept (fun k => some k = row) w w' := ⟨h.os, h.tape, h.output, h.size, fun i hi hs => h.block i hi hs⟩
theorem Kept.to_below (h : Kept S w w') {B : Nat} (hB : B ≤ w.heap.size) (hs : ∀ k, k < B → ¬ S k) : Below B w w' :=
  ⟨h.os, h.tape, h.output, h.size, fun i hi => h.block i (by omega) (hs i hi)⟩
theorem Blk.kept {g : Nat} {t : TypeId} {cs : Array Value} (h : Blk w g t cs) (hk : Kept S w w') (hg : ¬ S g) : Blk w' g t cs := (hk.block g h.lt hg).trans h
theorem Reads.kept {B size n : Nat} {A : Option Addr} {xs : List Value} (h : Reads w B size A n xs) (hk : Kept S w w') (hB : B ≤ w.heap.size) (hs : ∀ k, k < B → ¬ S k) : Reads w' B size A n xs :=
  h.below (hk.to_below hB hs)
theorem own_kept {base : Nat} {e : TypeId} {size n : Nat} {v : Value} {xs : List Value} (h : w.ownsRow base e size v n xs) (hk : Kept S w w') (hv : ∀ g, v.ownBlock = some g → ¬ S g) : w'.ownsRow base e size v n xs := by
  refine ⟨h.1, ?_⟩
  rcases h.2 with h1 | ⟨g, cap, cur, h1, h2, h3, h4⟩
  · exact .inl h1
  · exact .inr ⟨g, cap, cur, h1, h2, (hk.block g (Array.getElem?_eq_some_iff.1 h3).1 (hv g (by rw [h1]; rfl))).trans h3, h4⟩
end


set_option maxHeartbeats 1600000 in
set_option maxRecDepth 100000 in
theorem rflow_in (rb : Nat) (A : Option Addr) (n c : Nat) (ws : List (List UInt8)) (v0 v1 v2 v3 v4 : Value) (w : World) (hE : Env w) (hB : Blk w rb 43 #[v0, v1, v2, v3, v4]) (hr : Reads w w.heap.size 1 A n (ws.map strV)) (hcap : n ≤ c) (hn : n ≤ 100000) (hw : ∀ x ∈ ws, x.length ≤ 1000000) :
    Calls Tryd.prog 23 #[.pointer (some ⟨rb, 0, none⟩), .slice A n c] w fun e w' => ∃ B m cp, e = .returned (.int .u16 (listL numL Fld.flow.name ws).2) ∧ m = (listL numL Fld.flow.name ws).1.length ∧ w'.ownsRow w.heap.size 2 1 (.slice B m cp) m ((listL numL Fld.flow.name ws).1.map I) ∧
      Blk w' rb 43 #[v0, .slice B m cp, v2, v3, v4] ∧ Kept (fun b => b = rb) w w' := by
  have hL := list62_in ⟨#[102, 108, 111, 119]⟩ A n c ws w hE hr hcap hn hw
  rw [show (⟨#[102, 108, 111, 119]⟩ : ByteArray).data.toList = Fld.flow.name from rfl] at hL
  generalize listL numL Fld.flow.name ws = R at hL ⊢
  obtain ⟨l, er⟩ := R
  simp only at hL ⊢
  have HB := Lib.hid hB
  have hlt := hB.lt
  clear hr hw hB
  go_enter Tryd.func23, Tryd.ntmps23
  go_wp2_with fail
  refine hL.mono ?_
  rintro e w1 ⟨B, m, cp, rfl, hm, hown, hb1⟩
  have hB1 := HB.out.below hb1 hlt
  have q1 := hB1.cell 1
  simp only [List.getElem?_toArray, List.getElem?_cons_zero, List.getElem?_cons_succ] at q1
  have f1 := hB1.frozen 1
  have HB1 := Lib.hid hB1
  have HO := Lib.hid hown
  have HM := Lib.hid hm
  clear hL hm hown hB1
  go_wp2_with fail
  go_ret
  refine ⟨B, m, cp, rfl, HM.out, own_far HO.out (by exact hlt) _, HB1.out.set_ 1 _, ((Kept.of_below hb1 (fun b => b = rb)).setCell (p := ⟨rb, _, none⟩) (fun _ => rfl) _)⟩

set_option maxHeartbeats 1600000 in
set_option maxRecDepth 100000 in
theorem rpot_in (rb : Nat) (A : Option Addr) (n c : Nat) (ws : List (List UInt8)) (v0 v1 v2 v3 v4 : Value) (w : World) (hE : Env w) (hB : Blk w rb 43 #[v0, v1, v2, v3, v4]) (hr : Reads w w.heap.size 1 A n (ws.map strV)) (hcap : n ≤ c) (hn : n ≤ 100000) (hw : ∀ x ∈ ws, x.length ≤ 1000000) :
    Calls Tryd.prog 24 #[.pointer (some ⟨rb, 0, none⟩), .slice A n c] w fun e w' => ∃ B m cp, e = .returned (.int .u16 (listL numL Fld.pot.name ws).2) ∧ m = (listL numL Fld.pot.name ws).1.length ∧ w'.ownsRow w.heap.size 2 1 (.slice B m cp) m ((listL numL Fld.pot.name ws).1.map I) ∧
      Blk w' rb 43 #[v0, v1, .slice B m cp, v3, v4] ∧ Kept (fun b => b = rb) w w' := by
  have hL := list62_in ⟨#[112, 111, 116]⟩ A n c ws w hE hr hcap hn hw
  rw [show (⟨#[112, 111, 116]⟩ : ByteArray).data.toList = Fld.pot.name from rfl] at hL
  generalize listL numL Fld.pot.name ws = R at hL ⊢
  obtain ⟨l, er⟩ := R
  simp only at hL ⊢
  have HB := Lib.hid hB
  have hlt := hB.lt
  clear hr hw hB
  go_enter Tryd.func24, Tryd.ntmps24
  go_wp2_with fail
  refine hL.mono ?_
  rintro e w1 ⟨B, m, cp, rfl, hm, hown, hb1⟩
  have hB1 := HB.out.below hb1 hlt
  have q1 := hB1.cell 2
  simp only [List.getElem?_toArray, List.getElem?_cons_zero, List.getElem?_cons_succ] at q1
  have f1 := hB1.frozen 2
  have HB1 := Lib.hid hB1
  have HO := Lib.hid hown
  have HM := Lib.hid hm
  clear hL hm hown hB1
  go_wp2_with fail
  go_ret
  refine ⟨B, m, cp, rfl, HM.out, own_far HO.out (by exact hlt) _, HB1.out.set_ 2 _, ((Kept.of_below hb1 (fun b => b = rb)).setCell (p := ⟨rb, _, none⟩) (fun _ => rfl) _)⟩

set_option maxHeartbeats 1600000 in
set_option maxRecDepth 100000 in
theorem rside_in (rb : Nat) (A : Option Addr) (n c : Nat) (ws : List (List UInt8)) (v0 v1 v2 v3 v4 : Value) (w : World) (hE : Env w) (hB : Blk w rb 43 #[v0, v1, v2, v3, v4]) (hr : Reads w w.heap.size 1 A n (ws.map strV)) (hcap : n ≤ c) (hn : n ≤ 100000) (hw : ∀ x ∈ ws, x.length ≤ 1000000) :
    Calls Tryd.prog 25 #[.pointer (some ⟨rb, 0, none⟩), .slice A n c] w fun e w' => ∃ B m cp, e = .returned (.int .u16 (listL bitL Fld.side.name ws).2) ∧ m = (listL bitL Fld.side.name ws).1.length ∧ w'.ownsRow w.heap.size 4 1 (.slice B m cp) m ((listL bitL Fld.side.name ws).1.map Bv) ∧
      Blk w' rb 43 #[v0, v1, v2, .slice B m cp, v4] ∧ Kept (fun b => b = rb) w w' := by
  have hL := list64_in ⟨#[115, 105, 100, 101]⟩ A n c ws w hE hr hcap hn hw
  rw [show (⟨#[115, 105, 100, 101]⟩ : ByteArray).data.toList = Fld.side.name from rfl] at hL
  generalize listL bitL Fld.side.name ws = R at hL ⊢
  obtain ⟨l, er⟩ := R
  simp only at hL ⊢
  have HB := Lib.hid hB
  have hlt := hB.lt
  clear hr hw hB
  go_enter Tryd.func25, Tryd.ntmps25
  go_wp2_with fail
  refine hL.mono ?_
  rintro e w1 ⟨B, m, cp, rfl, hm, hown, hb1⟩
  have hB1 := HB.out.below hb1 hlt
  have q1 := hB1.cell 3
  simp only [List.getElem?_toArray, List.getElem?_cons_zero, List.getElem?_cons_succ] at q1
  have f1 := hB1.frozen 3
  have HB1 := Lib.hid hB1
  have HO := Lib.hid hown
  have HM := Lib.hid hm
  clear hL hm hown hB1
  go_wp2_with fail
  go_ret
  refine ⟨B, m, cp, rfl, HM.out, own_far HO.out (by exact hlt) _, HB1.out.set_ 3 _, ((Kept.of_below hb1 (fun b => b = rb)).setCell (p := ⟨rb, _, none⟩) (fun _ => rfl) _)⟩

set_option maxHeartbeats 1600000 in
set_option maxRecDepth 100000 in
theorem rcycle_in (rb : Nat) (A : Option Addr) (n c : Nat) (ws : List (List UInt8)) (v0 v1 v2 v3 v4 : Value) (w : World) (hE : Env w) (hB : Blk w rb 43 #[v0, v1, v2, v3, v4]) (hr : Reads w w.heap.size 1 A n (ws.map strV)) (hcap : n ≤ c) (hn : n ≤ 100000) (hw : ∀ x ∈ ws, x.length ≤ 1000000) :
    Calls Tryd.prog 26 #[.pointer (some ⟨rb, 0, none⟩), .slice A n c] w fun e w' => ∃ B m cp, e = .returned (.int .u16 (listL arcL Fld.cycle.name ws).2) ∧ m = (listL arcL Fld.cycle.name ws).1.length ∧ w'.ownsRow w.heap.size 3 1 (.slice B m cp) m ((listL arcL Fld.cycle.name ws).1.map I) ∧
      Blk w' rb 43 #[v0, v1, v2, v3, .slice B m cp] ∧ Kept (fun b => b = rb) w w' := by
  have hL := list66_in ⟨#[99, 121, 99, 108, 101]⟩ A n c ws w hE hr hcap hn hw
  rw [show (⟨#[99, 121, 99, 108, 101]⟩ : ByteArray).data.toList = Fld.cycle.name from rfl] at hL
  generalize listL arcL Fld.cycle.name ws = R at hL ⊢
  obtain ⟨l, er⟩ := R
  simp only at hL ⊢
  have HB := Lib.hid hB
  have hlt := hB.lt
  clear hr hw hB
  go_enter Tryd.func26, Tryd.ntmps26
  go_wp2_with fail
  refine hL.mono ?_
  rintro e w1 ⟨B, m, cp, rfl, hm, hown, hb1⟩
  have hB1 := HB.out.below hb1 hlt
  have q1 := hB1.cell 4
  simp only [List.getElem?_toArray, List.getElem?_cons_zero, List.getElem?_cons_succ] at q1
  have f1 := hB1.frozen 4
  have HB1 := Lib.hid hB1
  have HO := Lib.hid hown
  have HM := Lib.hid hm
  clear hL hm hown hB1
  go_wp2_with fail
  go_ret
  refine ⟨B, m, cp, rfl, HM.out, own_far HO.out (by exact hlt) _, HB1.out.set_ 4 _, ((Kept.of_below hb1 (fun b => b = rb)).setCell (p := ⟨rb, _, none⟩) (fun _ => rfl) _)⟩
end Go.Proofs.YtpfbgoogajgciaaDoor
