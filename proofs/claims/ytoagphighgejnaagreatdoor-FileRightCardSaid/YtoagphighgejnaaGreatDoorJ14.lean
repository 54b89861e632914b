/- file: Parse's deferred closure (13). Conditions: none. -/
import Derived.Test.YtoagphighgejnaaGreatDoorJ13
import Derived.Defers
import Derived.Recover
set_option linter.unusedSimpArgs false
set_option linter.unusedVariables false
namespace Go.Proofs.YtoagphighgejnaaGreatDoor
open Go.RowKit Go.Shelf

section
variable {W w : World} {pb eb : Nat} {u0 u1 u2 u3 u4 u : Value}
theorem pan1 (h : Blk W pb 31 #[u0, u1, u2, u3, u4]) (hne : ¬ pb = eb) (k : Int) : Blk ((((((W.setCell ⟨pb, 0, none⟩ (.bool false)).setCell ⟨pb, 1, none⟩ (.slice none 0 0)).setCell ⟨pb, 2, none⟩ (.slice none 0 0)).setCell ⟨pb, 3, none⟩ (.int .i64 0)).setCell ⟨pb, 4, none⟩ (.int .i64 0)).setCell ⟨eb, 0, none⟩ (.int .u16 k)).drew pb 31 zeroP := ((h.put5 (.bool false) (.slice none 0 0) (.slice none 0 0) (.int .i64 0) (.int .i64 0)).far (p := ⟨eb, 0, none⟩) hne _).drew
theorem pan2 (h : Blk W eb 45 #[u]) (hne : ¬ pb = eb) (k : Int) : Blk ((((((W.setCell ⟨pb, 0, none⟩ (.bool false)).setCell ⟨pb, 1, none⟩ (.slice none 0 0)).setCell ⟨pb, 2, none⟩ (.slice none 0 0)).setCell ⟨pb, 3, none⟩ (.int .i64 0)).setCell ⟨pb, 4, none⟩ (.int .i64 0)).setCell ⟨eb, 0, none⟩ (.int .u16 k)).drew eb 45 #[.int .u16 k] := ((h.far5 (fun e => hne e.symm) (.bool false) (.slice none 0 0) (.slice none 0 0) (.int .i64 0) (.int .i64 0)).set_ 0 (.int .u16 k)).drew
theorem pan3 (h : Kept (fun b => b = pb ∨ b = eb) w W) (k : Int) : Kept (fun b => b = pb ∨ b = eb) w ((((((W.setCell ⟨pb, 0, none⟩ (.bool false)).setCell ⟨pb, 1, none⟩ (.slice none 0 0)).setCell ⟨pb, 2, none⟩ (.slice none 0 0)).setCell ⟨pb, 3, none⟩ (.int .i64 0)).setCell ⟨pb, 4, none⟩ (.int .i64 0)).setCell ⟨eb, 0, none⟩ (.int .u16 k)).drew := ((h.put5 (b := pb) (fun _ => .inl rfl) (.bool false) (.slice none 0 0) (.slice none 0 0) (.int .i64 0) (.int .i64 0)).setCell (p := ⟨eb, 0, none⟩) (fun _ => .inr rfl) _).drew
theorem pan4 (h : Blk W pb 31 #[u0, u1, u2, u3, u4]) (hne : ¬ pb = eb) (k : Int) : Blk ((((((W.setCell ⟨eb, 0, none⟩ (.int .u16 k)).setCell ⟨pb, 0, none⟩ (.bool false)).setCell ⟨pb, 1, none⟩ (.slice none 0 0)).setCell ⟨pb, 2, none⟩ (.slice none 0 0)).setCell ⟨pb, 3, none⟩ (.int .i64 0)).setCell ⟨pb, 4, none⟩ (.int .i64 0)).drew pb 31 zeroP := ((h.far (p := ⟨eb, 0, none⟩) hne (.int .u16 k)).put5 (.bool false) (.slice none 0 0) (.slice none 0 0) (.int .i64 0) (.int .i64 0)).drew
theorem pan5 (h : Blk W eb 45 #[u]) (hne : ¬ pb = eb) (k : Int) : Blk ((((((W.setCell ⟨eb, 0, none⟩ (.int .u16 k)).setCell ⟨pb, 0, none⟩ (.bool false)).setCell ⟨pb, 1, none⟩ (.slice none 0 0)).setCell ⟨pb, 2, none⟩ (.slice none 0 0)).setCell ⟨pb, 3, none⟩ (.int .i64 0)).setCell ⟨pb, 4, none⟩ (.int .i64 0)).drew eb 45 #[.int .u16 k] := ((h.set_ 0 (.int .u16 k)).far5 (fun e => hne e.symm) (.bool false) (.slice none 0 0) (.slice none 0 0) (.int .i64 0) (.int .i64 0)).drew
theorem pan6 (h : Kept (fun b => b = pb ∨ b = eb) w W) (k : Int) : Kept (fun b => b = pb ∨ b = eb) w ((((((W.setCell ⟨eb, 0, none⟩ (.int .u16 k)).setCell ⟨pb, 0, none⟩ (.bool false)).setCell ⟨pb, 1, none⟩ (.slice none 0 0)).setCell ⟨pb, 2, none⟩ (.slice none 0 0)).setCell ⟨pb, 3, none⟩ (.int .i64 0)).setCell ⟨pb, 4, none⟩ (.int .i64 0)).drew := ((h.setCell (p := ⟨eb, 0, none⟩) (fun _ => .inr rfl) (.int .u16 k)).put5 (b := pb) (fun _ => .inl rfl) (.bool false) (.slice none 0 0) (.slice none 0 0) (.int .i64 0) (.int .i64 0)).drew
end
set_option maxRecDepth 100000 in
theorem catch_idle (pb eb : Nat) (w : World) :
    CallsD Tryz.prog 38 #[.pointer (some ⟨pb, 0, none⟩), .pointer (some ⟨eb, 0, none⟩)] .returning w fun e u' w' => e = .returned (.tuple #[]) ∧ u' = .returning ∧ w' = w := by
  refine callsD_of_wpS Tryz.func38 rfl fun c₀ cs hu => ?_
  apply wpS_seq
  apply wpS_region
  simp [wpOpsS, go_sem, recoverD, hu, Tryz.ntmps38, Exit.thenS]
  rw [show (#[Value.pointer (some ⟨pb, 0, none⟩), .pointer (some ⟨eb, 0, none⟩)] ++ ((Array.replicate 17 undef).setIfInBounds 3 .nilIface).setIfInBounds 0 .nilIface) = (#[.pointer (some ⟨pb, 0, none⟩), .pointer (some ⟨eb, 0, none⟩), .nilIface, undef, undef, .nilIface, undef, undef, undef, undef, undef, undef, undef, undef, undef, undef, undef, undef, undef] : Array Value) by kernel_rfl]
  refine wpS_of_wp ?_
  go_wp2_with fail
  cases c₀
  simp_all [bodyPostS, results, Tryz.results38]
set_option maxRecDepth 100000 in
set_option maxHeartbeats 1600000 in
theorem catch_pan (pb eb : Nat) (k x : Int) (u0 u1 u2 u3 u4 : Value) (older : List PanicEntry) (w : World) (hP : Blk w pb 31 #[u0, u1, u2, u3, u4]) (hE : Blk w eb 45 #[.int .u16 x]) :
    CallsD Tryz.prog 38 #[.pointer (some ⟨pb, 0, none⟩), .pointer (some ⟨eb, 0, none⟩)] (.panicking ({ v := faultV k, recovered := false } :: older)) w fun e u' w' =>
      e = .returned (.tuple #[]) ∧ u' = .panicking ({ v := faultV k, recovered := true } :: older) ∧ Blk w' pb 31 zeroP ∧ Blk w' eb 45 #[.int .u16 k] ∧ Kept (fun b => b = pb ∨ b = eb) w w' := by
  have hne : ¬ pb = eb := hP.ne_ hE (by decide)
  have hne' : ¬ eb = pb := fun e => hne e.symm
  obtain ⟨⟨p0, p1, p2, p3, p4⟩, f0, f1, f2, f3, f4⟩ := hP.five
  have e0 := hE.cell 0
  simp only [List.getElem?_toArray, List.getElem?_cons_zero, List.getElem?_cons_succ] at e0
  have g0 := hE.frozen 0
  have lp := hP.lt
  have le := hE.lt
  have HP := Lib.hid hP
  have HE := Lib.hid hE
  refine callsD_of_wpS Tryz.func38 rfl fun c₀ cs hu => ?_
  apply wpS_seq
  apply wpS_region
  simp [wpOpsS, go_sem, recoverD, hu, Tryz.ntmps38, Exit.thenS, faultV]
  rw [show (#[Value.pointer (some ⟨pb, 0, none⟩), .pointer (some ⟨eb, 0, none⟩)] ++ ((Array.replicate 17 undef).setIfInBounds 3 (.iface 71 (.agg #[.int .u16 k]))).setIfInBounds 0 (.iface 71 (.agg #[.int .u16 k]))) = (#[.pointer (some ⟨pb, 0, none⟩), .pointer (some ⟨eb, 0, none⟩), (.iface 71 (.agg #[.int .u16 k])), undef, undef, (.iface 71 (.agg #[.int .u16 k])), undef, undef, undef, undef, undef, undef, undef, undef, undef, undef, undef, undef, undef] : Array Value) by kernel_rfl]
  refine wpS_of_wp ?_
  clear hP hE
  have HU := Lib.hid hu
  clear hu
  have hta : ∀ W, (Instr.typeAssert (.iface 71 (.agg #[.int .u16 k])) 20 71 true).run Tryz.prog W = .ok (.tuple #[.agg #[.int .u16 k], .bool true]) W := fun W => by kernel_rfl
  have n0 := World.new_ne w ⟨pb, 0, none⟩ p0
  go_wp2_with fail
  have hP1 := HP.out.alloc (.cells #[.int .u16 k] 71)
  have hE1 := HE.out.alloc (.cells #[.int .u16 k] 71)
  have hN1 := Blk.new w 71 #[.int .u16 k]
  have hK1 : Kept (fun b => b = pb ∨ b = eb) w (w.alloc (.cells #[.int .u16 k] 71)) := (Kept.refl _ w).alloc _
  have hsz : w.heap.size < (w.alloc (.cells #[.int .u16 k] 71)).heap.size := by simp
  clear p0 p1 p2 p3 p4 f0 f1 f2 f3 f4 e0 g0 n0 lp le
  generalize w.alloc (.cells #[.int .u16 k] 71) = W1 at *
  obtain ⟨⟨p0, p1, p2, p3, p4⟩, f0, f1, f2, f3, f4⟩ := hP1.five
  have e0 := hE1.cell 0
  have q0 := hN1.cell 0
  simp only [List.getElem?_toArray, List.getElem?_cons_zero, List.getElem?_cons_succ] at e0 q0
  have g0 := hE1.frozen 0
  have lp := hP1.lt
  have le := hE1.lt
  have z1 : ¬ pb = w.heap.size := by have := HP.out.lt; omega
  have z2 : ¬ w.heap.size = pb := by have := HP.out.lt; omega
  have z3 : ¬ eb = w.heap.size := by have := HE.out.lt; omega
  have z4 : ¬ w.heap.size = eb := by have := HE.out.lt; omega
  have HALL := Lib.hid (And.intro hP1 (And.intro hE1 hK1))
  clear hP1 hE1 hN1 hK1
  go_region_law fail
  all_goals go_wp2_with fail
  all_goals refine ⟨rfl, _, rfl, .tuple #[], by simp [results, Tryz.results38], rfl, rfl, ?_, ?_, ?_⟩
  all_goals first
    | with_reducible exact pan1 HALL.out.1 hne k
    | with_reducible exact pan2 HALL.out.2.1 hne k
    | with_reducible exact pan3 HALL.out.2.2 k
    | with_reducible exact pan4 HALL.out.1 hne k
    | with_reducible exact pan5 HALL.out.2.1 hne k
    | with_reducible exact pan6 HALL.out.2.2 k
end Go.Proofs.YtoagphighgejnaaGreatDoor
