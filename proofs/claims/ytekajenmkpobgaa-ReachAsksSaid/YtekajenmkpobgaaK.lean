/- A frame: only blocks of a set, and new ones, have turned. -/
import Derived.Test.YtekajenmkpobgaaD
import Derived.StillTailTactics
set_option linter.unusedSimpArgs false
set_option linter.unusedVariables false
namespace Go.Proofs.Ytekajenmkpobgaa
open Go.RowKit

structure Kept (S : Nat → Prop) (w w' : World) : Prop where
  os : w'.os = w.os
  tape : w'.tape = w.tape
  output : w'.output = w.output
  size : w.heap.size ≤ w'.heap.size
  block : ∀ k, k < w.heap.size → ¬ S k → w'.heap[k]? = w.heap[k]?

section
variable {S T : Nat → Prop} {w w1 w' : World}
theorem Kept.refl (S : Nat → Prop) (w : World) : Kept S w w := ⟨rfl, rfl, rfl, Nat.le_refl _, fun _ _ _ => rfl⟩
theorem Kept.trans (h : Kept S w w1) (k : Kept S w1 w') : Kept S w w' :=
  ⟨k.os.trans h.os, k.tape.trans h.tape, k.output.trans h.output, Nat.le_trans h.size k.size, fun i hi hs => (k.block i (Nat.lt_of_lt_of_le hi h.size) hs).trans (h.block i hi hs)⟩
theorem Kept.mono (h : Kept S w w') (hst : ∀ k, k < w.heap.size → S k → T k) : Kept T w w' :=
  ⟨h.os, h.tape, h.output, h.size, fun i hi hs => h.block i hi (fun hh => hs (hst i hi hh))⟩
theorem Kept.alloc (h : Kept S w w') (o : Obj) : Kept S w (w'.alloc o) :=
  ⟨h.os, h.tape, h.output, Nat.le_trans h.size (by simp), fun i hi hs => (Below.heap_alloc w' o i (Nat.lt_of_lt_of_le hi h.size)).trans (h.block i hi hs)⟩
theorem Kept.drew (h : Kept S w w') : Kept S w w'.drew := ⟨h.os, h.tape, h.output, h.size, h.block⟩
theorem Kept.drewN (h : Kept S w w') (n : Nat) : Kept S w (w'.drewN n) := ⟨h.os, h.tape, h.output, h.size, h.block⟩
theorem Kept.setCell (h : Kept S w w') {p : Addr} (hp : p.block < w.heap.size → S p.block) (u : Value) : Kept S w (w'.setCell p u) :=
  ⟨h.os, h.tape, h.output, by simpa [World.setCell] using h.size, fun i hi hs => (Below.heap_setCell w' p u i (by rintro rfl; exact hs (hp hi))).trans (h.block i hi hs)⟩
theorem Kept.of_below (h : Below w.heap.size w w') (S : Nat → Prop) : Kept S w w' := ⟨h.os, h.tape, h.output, h.size, fun i hi _ => h.block i hi⟩
theorem Kept.of_grown {row : Option Nat} (h : w.grownBy w' row) : Kept (fun k => some k = row) w w' := ⟨h.os, h.tape, h.output, h.size, fun i hi hs => h.block i hi hs⟩
theorem Kept.to_below (h : Kept S w w') {B : Nat} (hB : B ≤ w.heap.size) (hs : ∀ k, k < B → ¬ S k) : Below B w w' :=
  ⟨h.os, h.tape, h.output, h.size, fun i hi => h.block i (by omega) (hs i hi)⟩
theorem Blk.kept {g : Nat} {t : TypeId} {cs : Array Value} (h : Blk w g t cs) (hk : Kept S w w') (hg : ¬ S g) : Blk w' g t cs := (hk.block g h.lt hg).trans h
theorem Reads.kept {B size n : Nat} {A : Option Addr} {xs : List Value} (h : Reads w B size A n xs) (hk : Kept S w w') (hB : B ≤ w.heap.size) (hs : ∀ k, k < B → ¬ S k) : Reads w' B size A n xs :=
  h.below (hk.to_below hB hs)
theorem own_kept {base : Nat} {e : TypeId} {size n : Nat} {v : Value} {xs : List Value} (h : w.ownsRow base e size v n xs) (hk : Kept S w w') (hv : ∀ g, v.ownBlock = some g → ¬ S g) : w'.ownsRow base e size v n xs := by
  refine ⟨h.1, ?_⟩
  rcases h.2 with h1 | ⟨g, cap, cur, h1, h2, h3, h4⟩
  · exact .inl h1
  · exact .inr ⟨g, cap, cur, h1, h2, (hk.block g (Array.getElem?_eq_some_iff.1 h3).1 (hv g (by rw [h1]; rfl))).trans h3, h4⟩
end

set_option maxRecDepth 100000 in
set_option maxHeartbeats 1000000 in
/-- put: list[next[k]] = a; next[k]++ -/
theorem New1_any (gv gb nv nb lb ll lc nn nc k q : Nat) (a : Int) (v0 v1 v3 : Value) (ns ls : Array Value) (w : World)
    (h1 : Blk w gv 50 #[.pointer (some ⟨gb, 0, none⟩)]) (h2 : Blk w gb 69 #[v0, v1, .slice (some ⟨lb, 0, none⟩) ll lc, v3]) (h3 : Blk w nv 28 #[.slice (some ⟨nb, 0, none⟩) nn nc])
    (h4 : Blk w nb 3 ns) (h5 : Blk w lb 3 ls) (hne : nb ≠ lb) (hk : k < nn) (hkn : ns[k]? = some (.int .i64 q)) (hq : q < ll) (hls : ll ≤ ls.size) (hll : ll ≤ 2000000000) (hnn : nn ≤ 2000000001) :
    Calls Try.prog 43 #[.int .i64 k, .int .i64 a, .pointer (some ⟨gv, 0, none⟩), .pointer (some ⟨nv, 0, none⟩)] w fun e w' => e = .returned (.tuple #[]) ∧
      Blk w' nb 3 (ns.setIfInBounds k (.int .i64 (q + 1))) ∧ Blk w' lb 3 (ls.setIfInBounds q (.int .i64 a)) ∧ Kept (fun b => b = nb ∨ b = lb) w w' ∧ w'.heap.size = w.heap.size := by
  have q1 := h1.cell 0
  have q2 := h2.cell 2
  have q3 := h3.cell 0
  have q4 := h4.cell k
  rw [hkn] at q4
  have q5 := h5.cell q
  obtain ⟨u, hu⟩ : ∃ u, ls[q]? = some u := ⟨_, Array.getElem?_eq_getElem (by omega)⟩
  rw [hu] at q5
  have f5 := h5.frozen q
  simp only [List.getElem?_toArray, List.getElem?_cons_zero, List.getElem?_cons_succ] at q1 q2 q3
  have HU := Lib.hid hu
  have HK := Lib.hid hkn
  clear hu hkn
  have b1 : (0 : Int) ≤ (k : Int) := by omega
  have b2 : (k : Int) < (nn : Int) := by omega
  have b3 : (0 : Int) ≤ (q : Int) := by omega
  have b4 : (q : Int) < (ll : Int) := by omega
  have n1 : ¬ lb = nv := (h5.ne_ h3 (by decide))
  have n2 : ¬ nv = lb := fun h => n1 h.symm
  have n3 : ¬ lb = nb := fun h => hne h.symm
  have f4 := h4.frozen k
  go_enter Try.func43, Try.ntmps43
  go_wp2_with fail
  go_still_tail 10, (by kernel_rfl)
  change wpList _ _ _ _ _ w.drew
  go_wp2
  go_end0
  refine ⟨rfl, ?_, ?_, ?_, ?_⟩
  · exact ((h4.far (p := ⟨lb, q, none⟩) hne (.int .i64 a)).set_ k (.int .i64 (q + 1))).drew
  · exact ((h5.set_ q (.int .i64 a)).far (p := ⟨nb, k, none⟩) n3 (.int .i64 (q + 1))).drew
  · exact (((Kept.refl _ w).setCell (p := ⟨lb, q, none⟩) (fun _ => .inr rfl) _).setCell (p := ⟨nb, k, none⟩) (fun _ => .inl rfl) _).drew
  · simp [World.setCell]
end Go.Proofs.Ytekajenmkpobgaa
