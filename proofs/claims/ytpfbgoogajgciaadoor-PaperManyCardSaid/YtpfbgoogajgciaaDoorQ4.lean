/- kindOf (30), the reader's lines (29). Conditions: none. -/
import Derived.Test.YtpfbgoogajgciaaDoorQ3
set_option linter.unusedSimpArgs false
set_option linter.unusedVariables false
namespace Go.Proofs.YtpfbgoogajgciaaDoor
open Go.RowKit Go.Shelf

def kindN (t : List UInt8) : Int := if t = bestL then 1 else if t = cutN then 2 else if t = rayL then 3 else 0
theorem kindOf_in (s : ByteArray) (w : World) : Calls Tryd.prog 12 #[.string s] w fun e w' => e = .returned (.int .i64 (kindN s.data.toList)) ∧ w' = w := by
  by_cases h1 : s.data.toList = bestL
  · obtain rfl := (bs_eq_iff s bestL).2 h1
    clear h1
    unfold bestL
    go_enter Tryd.func12, Tryd.ntmps12
    go_wp2
    go_ret
    exact ⟨rfl, rfl⟩
  · by_cases h2 : s.data.toList = cutN
    · obtain rfl := (bs_eq_iff s cutN).2 h2
      clear h1 h2
      unfold cutN
      go_enter Tryd.func12, Tryd.ntmps12
      go_wp2
      go_ret
      exact ⟨rfl, rfl⟩
    · by_cases h3 : s.data.toList = rayL
      · obtain rfl := (bs_eq_iff s rayL).2 h3
        clear h1 h2 h3
        unfold rayL
        go_enter Tryd.func12, Tryd.ntmps12
        go_wp2
        go_ret
        exact ⟨rfl, rfl⟩
      · have e1 : (s.toList == [98, 101, 115, 116]) = false := str_ne s bestL h1
        have e2 : (s.toList == [99, 117, 116]) = false := str_ne s cutN h2
        have e3 : (s.toList == [114, 97, 121]) = false := str_ne s rayL h3
        have HK : Hid (kindN s.data.toList = 0) := Lib.hid (by unfold kindN; rw [if_neg h1, if_neg h2, if_neg h3])
        clear h1 h2 h3
        go_enter Tryd.func12, Tryd.ntmps12
        go_wp2
        go_ret
        exact ⟨by rw [HK.out]; rfl, rfl⟩

/-- block r is a map with these entries -/
def MapB (w : World) (r : Nat) (es : Array MapEntry) (clock : Nat) : Prop := w.heap[r]? = some (.map es clock)
def setMap (w : World) (r : Nat) (es : Array MapEntry) (clock : Nat) : World := { w with heap := w.heap.setIfInBounds r (.map es clock) }
section
variable {w w' : World} {r : Nat} {es : Array MapEntry} {clock : Nat}
theorem MapB.lt (h : MapB w r es clock) : r < w.heap.size := (Array.getElem?_eq_some_iff.1 h).1
theorem MapB.new (w : World) : MapB (w.alloc (.map #[] 0)) w.heap.size #[] 0 := heap_alloc_new w _
theorem MapB.alloc (h : MapB w r es clock) (o : Obj) : MapB (w.alloc o) r es clock := (Below.heap_alloc w o r h.lt).trans h
theorem MapB.below {B : Nat} (h : MapB w r es clock) (hb : Below B w w') (hg : r < B) : MapB w' r es clock := (hb.block r hg).trans h
theorem MapB.kept {S : Nat → Prop} (h : MapB w r es clock) (hk : Kept S w w') (hg : ¬ S r) : MapB w' r es clock := (hk.block r h.lt hg).trans h
theorem MapB.set_ (h : MapB w r es clock) (es' : Array MapEntry) (c' : Nat) : MapB (setMap w r es' c') r es' c' := (MapKept.heap_set (w := w) h).1
theorem size_setMap (w : World) (r : Nat) (es : Array MapEntry) (c : Nat) : (setMap w r es c).heap.size = w.heap.size := by simp [setMap]
theorem Blk.setMap {g : Nat} {t : TypeId} {cs : Array Value} (h : Blk w g t cs) (hM : MapB w r es clock) (es' : Array MapEntry) (c' : Nat) : Blk (setMap w r es' c') g t cs := by
  have hne : g ≠ r := by rintro rfl; unfold Blk at h; unfold MapB at hM; rw [h] at hM; cases hM
  exact ((MapKept.heap_set (w := w) hM).2 g hne).trans h
theorem below_setMap {B : Nat} {w0 : World} (h : Below B w0 w) (hB : B ≤ r) (es' : Array MapEntry) (c' : Nat) : Below B w0 (setMap w r es' c') := by
  refine ⟨h.os, h.tape, h.output, by rw [size_setMap]; exact h.size, fun i hi => ?_⟩
  rw [← h.block i hi]
  simp only [YtpfbgoogajgciaaDoor.setMap]
  rw [Array.getElem?_setIfInBounds, if_neg (by omega)]
theorem run_put {t kt et : TypeId} {s : ByteArray} {v : Value} (hm : Tryd.prog.underlying t = some (.map kt et)) (hk : Tryd.prog.underlying kt = some .string) (hb : MapB w r es clock) (hf : Instr.findNow .string (.string s) es.toList 0 = some none) :
    (Instr.mapUpdate t (.map (some r)) (.string s) v).run Tryd.prog w = .ok () (setMap w r (es.push { key := .string s, val := v, born := clock }) (clock + 1)) := by
  have hc : (Instr.checkKey false 10000 kt (.string s)).run Tryd.prog w = .ok () w := MapKept.run_checkKey (k := .string s) hk (by simp [MapKept.IsKey]) false 9999
  simp [Instr.mapUpdate, run_underlying hm, MapKept.run_getObj_map hb, hc, MapKept.run_findKey hk hf, MapKept.run_setObj_map _ hb, Result.andThen, setMap]
theorem run_look {t kt et : TypeId} {s : ByteArray} {i : Nat} {v : Value} (hm : Tryd.prog.underlying t = some (.map kt et)) (hk : Tryd.prog.underlying kt = some .string) (hb : MapB w r es clock) (hf : Instr.findNow .string (.string s) es.toList 0 = some (some (i, v))) :
    (Instr.lookup t (.map (some r)) (.string s) true).run Tryd.prog w = .ok (.tuple #[v, .bool true]) w := by
  have hc : ∀ b, (Instr.checkKey b 10000 kt (.string s)).run Tryd.prog w = .ok () w := fun b => MapKept.run_checkKey (k := .string s) hk (by simp [MapKept.IsKey]) b 9999
  simp [Instr.lookup, run_underlying hm, MapKept.run_getObj_map hb, hc, MapKept.run_findKey hk hf, Result.andThen]
theorem run_look_none {t kt et : TypeId} {s : ByteArray} {z : Value} (hm : Tryd.prog.underlying t = some (.map kt et)) (hk : Tryd.prog.underlying kt = some .string) (hz : ∀ w, (zeroValue et).run Tryd.prog w = .ok z w) (hb : MapB w r es clock) (hf : Instr.findNow .string (.string s) es.toList 0 = some none) :
    (Instr.lookup t (.map (some r)) (.string s) true).run Tryd.prog w = .ok (.tuple #[z, .bool false]) w := by
  have hc : ∀ b, (Instr.checkKey b 10000 kt (.string s)).run Tryd.prog w = .ok () w := fun b => MapKept.run_checkKey (k := .string s) hk (by simp [MapKept.IsKey]) b 9999
  simp [Instr.lookup, run_underlying hm, MapKept.run_getObj_map hb, hc, MapKept.run_findKey hk hf, hz, Result.andThen]
end

def fnV (f rb : Nat) : Value := .func (.func f) #[.pointer (some ⟨rb, 0, none⟩)] #[]
def rows (B : Nat) : Array MapEntry := #[{ key := .string ⟨#[98, 101, 115, 116]⟩, val := .slice (some ⟨B + 1, 0, none⟩) 2 2, born := 0 }, { key := .string ⟨#[99, 117, 116]⟩, val := .slice (some ⟨B + 2, 0, none⟩) 1 1, born := 1 }, { key := .string ⟨#[114, 97, 121]⟩, val := .slice (some ⟨B + 3, 0, none⟩) 2 2, born := 2 }]

set_option maxHeartbeats 1600000 in
set_option maxRecDepth 100000 in
theorem lines_in (rb : Nat) (w : World) : Calls Tryd.prog 11 #[.pointer (some ⟨rb, 0, none⟩)] w fun e w' => e = .returned (.map (some w.heap.size)) ∧ MapB w' w.heap.size (rows w.heap.size) 3 ∧
      Blk w' (w.heap.size + 1) 49 #[fnV 23 rb, fnV 24 rb] ∧ Blk w' (w.heap.size + 2) 49 #[fnV 25 rb] ∧ Blk w' (w.heap.size + 3) 49 #[fnV 23 rb, fnV 26 rb] ∧ Below w.heap.size w w' ∧ w'.heap.size = w.heap.size + 4 := by
  have hmm := @run_makeMap Tryd.prog
  have hmf : ∀ (fn : Fn) (first cap : Array Value) (w : World), (Instr.makeFunc fn first cap).run Tryd.prog w = .ok (.func fn first cap) w := fun _ _ _ _ => rfl
  go_enter Tryd.func11, Tryd.ntmps11
  go_wp2_with fail
  have M1 := (MapB.new w).alloc (.cells #[fnV 23 rb, fnV 24 rb] 49)
  have K1 := Blk.new (w.alloc (.map #[] 0)) 49 #[fnV 23 rb, fnV 24 rb]
  have b1 : Below w.heap.size w ((w.alloc (.map #[] 0)).alloc (.cells #[fnV 23 rb, fnV 24 rb] 49)) := ((Below.refl _ w).alloc (Nat.le_refl _) _).alloc (by simp) _
  have s1 : ((w.alloc (.map #[] 0)).alloc (.cells #[fnV 23 rb, fnV 24 rb] 49)).heap.size = w.heap.size + 2 := by simp
  simp only [World.size_alloc] at K1
  unfold fnV at M1 K1 b1 s1
  generalize ((w.alloc (.map #[] 0)).alloc (.cells #[.func (.func 23) #[.pointer (some ⟨rb, 0, none⟩)] #[], .func (.func 24) #[.pointer (some ⟨rb, 0, none⟩)] #[]] 49)) = W1 at M1 K1 b1 s1 ⊢
  rw [run_put Tryd.underlying46 Tryd.underlying9 M1 (by rfl)]
  have M2 := M1.set_ (#[].push { key := .string ⟨#[98, 101, 115, 116]⟩, val := .slice (some ⟨w.heap.size + 1, 0, none⟩) 2 2, born := 0 }) (0 + 1)
  have K2 := K1.setMap M1 (#[].push { key := .string ⟨#[98, 101, 115, 116]⟩, val := .slice (some ⟨w.heap.size + 1, 0, none⟩) 2 2, born := 0 }) (0 + 1)
  have b2 := below_setMap b1 (r := w.heap.size) (Nat.le_refl _) (#[].push { key := .string ⟨#[98, 101, 115, 116]⟩, val := .slice (some ⟨w.heap.size + 1, 0, none⟩) 2 2, born := 0 }) (0 + 1)
  have s2 := (size_setMap W1 w.heap.size (#[].push { key := .string ⟨#[98, 101, 115, 116]⟩, val := .slice (some ⟨w.heap.size + 1, 0, none⟩) 2 2, born := 0 }) (0 + 1)).trans s1
  generalize setMap W1 w.heap.size (#[].push { key := .string ⟨#[98, 101, 115, 116]⟩, val := .slice (some ⟨w.heap.size + 1, 0, none⟩) 2 2, born := 0 }) (0 + 1) = W2 at M2 K2 b2 s2 ⊢
  clear M1 K1 b1 s1
  rw [show (#[].push { key := .string ⟨#[98, 101, 115, 116]⟩, val := .slice (some ⟨w.heap.size + 1, 0, none⟩) 2 2, born := 0 } : Array MapEntry) = #[{ key := .string ⟨#[98, 101, 115, 116]⟩, val := .slice (some ⟨w.heap.size + 1, 0, none⟩) 2 2, born := 0 }] from rfl] at M2
  go_wp2_with fail
  have M3 := M2.alloc (.cells #[.func (.func 25) #[.pointer (some ⟨rb, 0, none⟩)] #[]] 49)
  have K3 := K2.alloc (.cells #[.func (.func 25) #[.pointer (some ⟨rb, 0, none⟩)] #[]] 49)
  have L3 := Blk.new W2 49 #[.func (.func 25) #[.pointer (some ⟨rb, 0, none⟩)] #[]]
  have b3 := b2.alloc (by omega) (.cells #[.func (.func 25) #[.pointer (some ⟨rb, 0, none⟩)] #[]] 49)
  have s3 : (W2.alloc (.cells #[.func (.func 25) #[.pointer (some ⟨rb, 0, none⟩)] #[]] 49)).heap.size = w.heap.size + 3 := by simp [s2]
  rw [s2] at L3
  generalize (W2.alloc (.cells #[.func (.func 25) #[.pointer (some ⟨rb, 0, none⟩)] #[]] 49)) = W3 at M3 K3 L3 b3 s3 ⊢
  clear M2 K2 b2 s2
  rw [run_put Tryd.underlying46 Tryd.underlying9 M3 (by rfl)]
  have M4 := M3.set_ (#[{ key := .string ⟨#[98, 101, 115, 116]⟩, val := .slice (some ⟨w.heap.size + 1, 0, none⟩) 2 2, born := 0 }].push { key := .string ⟨#[99, 117, 116]⟩, val := .slice (some ⟨w.heap.size + 2, 0, none⟩) 1 1, born := 0 + 1 }) (0 + 1 + 1)
  have K4 := K3.setMap M3 (#[{ key := .string ⟨#[98, 101, 115, 116]⟩, val := .slice (some ⟨w.heap.size + 1, 0, none⟩) 2 2, born := 0 }].push { key := .string ⟨#[99, 117, 116]⟩, val := .slice (some ⟨w.heap.size + 2, 0, none⟩) 1 1, born := 0 + 1 }) (0 + 1 + 1)
  have L4 := L3.setMap M3 (#[{ key := .string ⟨#[98, 101, 115, 116]⟩, val := .slice (some ⟨w.heap.size + 1, 0, none⟩) 2 2, born := 0 }].push { key := .string ⟨#[99, 117, 116]⟩, val := .slice (some ⟨w.heap.size + 2, 0, none⟩) 1 1, born := 0 + 1 }) (0 + 1 + 1)
  have b4 := below_setMap b3 (r := w.heap.size) (Nat.le_refl _) (#[{ key := .string ⟨#[98, 101, 115, 116]⟩, val := .slice (some ⟨w.heap.size + 1, 0, none⟩) 2 2, born := 0 }].push { key := .string ⟨#[99, 117, 116]⟩, val := .slice (some ⟨w.heap.size + 2, 0, none⟩) 1 1, born := 0 + 1 }) (0 + 1 + 1)
  have s4 := (size_setMap W3 w.heap.size (#[{ key := .string ⟨#[98, 101, 115, 116]⟩, val := .slice (some ⟨w.heap.size + 1, 0, none⟩) 2 2, born := 0 }].push { key := .string ⟨#[99, 117, 116]⟩, val := .slice (some ⟨w.heap.size + 2, 0, none⟩) 1 1, born := 0 + 1 }) (0 + 1 + 1)).trans s3
  generalize setMap W3 w.heap.size (#[{ key := .string ⟨#[98, 101, 115, 116]⟩, val := .slice (some ⟨w.heap.size + 1, 0, none⟩) 2 2, born := 0 }].push { key := .string ⟨#[99, 117, 116]⟩, val := .slice (some ⟨w.heap.size + 2, 0, none⟩) 1 1, born := 0 + 1 }) (0 + 1 + 1) = W4 at M4 K4 L4 b4 s4 ⊢
  clear M3 K3 L3 b3 s3
  rw [show (#[{ key := .string ⟨#[98, 101, 115, 116]⟩, val := .slice (some ⟨w.heap.size + 1, 0, none⟩) 2 2, born := 0 }].push { key := .string ⟨#[99, 117, 116]⟩, val := .slice (some ⟨w.heap.size + 2, 0, none⟩) 1 1, born := 0 + 1 } : Array MapEntry) = #[{ key := .string ⟨#[98, 101, 115, 116]⟩, val := .slice (some ⟨w.heap.size + 1, 0, none⟩) 2 2, born := 0 }, { key := .string ⟨#[99, 117, 116]⟩, val := .slice (some ⟨w.heap.size + 2, 0, none⟩) 1 1, born := 0 + 1 }] from rfl] at M4
  go_wp2_with fail
  have M5 := M4.alloc (.cells #[.func (.func 23) #[.pointer (some ⟨rb, 0, none⟩)] #[], .func (.func 26) #[.pointer (some ⟨rb, 0, none⟩)] #[]] 49)
  have K5 := K4.alloc (.cells #[.func (.func 23) #[.pointer (some ⟨rb, 0, none⟩)] #[], .func (.func 26) #[.pointer (some ⟨rb, 0, none⟩)] #[]] 49)
  have L5 := L4.alloc (.cells #[.func (.func 23) #[.pointer (some ⟨rb, 0, none⟩)] #[], .func (.func 26) #[.pointer (some ⟨rb, 0, none⟩)] #[]] 49)
  have N5 := Blk.new W4 49 #[.func (.func 23) #[.pointer (some ⟨rb, 0, none⟩)] #[], .func (.func 26) #[.pointer (some ⟨rb, 0, none⟩)] #[]]
  have b5 := b4.alloc (by omega) (.cells #[.func (.func 23) #[.pointer (some ⟨rb, 0, none⟩)] #[], .func (.func 26) #[.pointer (some ⟨rb, 0, none⟩)] #[]] 49)
  have s5 : (W4.alloc (.cells #[.func (.func 23) #[.pointer (some ⟨rb, 0, none⟩)] #[], .func (.func 26) #[.pointer (some ⟨rb, 0, none⟩)] #[]] 49)).heap.size = w.heap.size + 4 := by simp [s4]
  rw [s4] at N5
  generalize (W4.alloc (.cells #[.func (.func 23) #[.pointer (some ⟨rb, 0, none⟩)] #[], .func (.func 26) #[.pointer (some ⟨rb, 0, none⟩)] #[]] 49)) = W5 at M5 K5 L5 N5 b5 s5 ⊢
  clear M4 K4 L4 b4 s4
  rw [run_put Tryd.underlying46 Tryd.underlying9 M5 (by rfl)]
  have M6 := M5.set_ (#[{ key := .string ⟨#[98, 101, 115, 116]⟩, val := .slice (some ⟨w.heap.size + 1, 0, none⟩) 2 2, born := 0 }, { key := .string ⟨#[99, 117, 116]⟩, val := .slice (some ⟨w.heap.size + 2, 0, none⟩) 1 1, born := 0 + 1 }].push { key := .string ⟨#[114, 97, 121]⟩, val := .slice (some ⟨w.heap.size + 3, 0, none⟩) 2 2, born := 0 + 1 + 1 }) (0 + 1 + 1 + 1)
  have K6 := K5.setMap M5 (#[{ key := .string ⟨#[98, 101, 115, 116]⟩, val := .slice (some ⟨w.heap.size + 1, 0, none⟩) 2 2, born := 0 }, { key := .string ⟨#[99, 117, 116]⟩, val := .slice (some ⟨w.heap.size + 2, 0, none⟩) 1 1, born := 0 + 1 }].push { key := .string ⟨#[114, 97, 121]⟩, val := .slice (some ⟨w.heap.size + 3, 0, none⟩) 2 2, born := 0 + 1 + 1 }) (0 + 1 + 1 + 1)
  have L6 := L5.setMap M5 (#[{ key := .string ⟨#[98, 101, 115, 116]⟩, val := .slice (some ⟨w.heap.size + 1, 0, none⟩) 2 2, born := 0 }, { key := .string ⟨#[99, 117, 116]⟩, val := .slice (some ⟨w.heap.size + 2, 0, none⟩) 1 1, born := 0 + 1 }].push { key := .string ⟨#[114, 97, 121]⟩, val := .slice (some ⟨w.heap.size + 3, 0, none⟩) 2 2, born := 0 + 1 + 1 }) (0 + 1 + 1 + 1)
  have N6 := N5.setMap M5 (#[{ key := .string ⟨#[98, 101, 115, 116]⟩, val := .slice (some ⟨w.heap.size + 1, 0, none⟩) 2 2, born := 0 }, { key := .string ⟨#[99, 117, 116]⟩, val := .slice (some ⟨w.heap.size + 2, 0, none⟩) 1 1, born := 0 + 1 }].push { key := .string ⟨#[114, 97, 121]⟩, val := .slice (some ⟨w.heap.size + 3, 0, none⟩) 2 2, born := 0 + 1 + 1 }) (0 + 1 + 1 + 1)
  have b6 := below_setMap b5 (r := w.heap.size) (Nat.le_refl _) (#[{ key := .string ⟨#[98, 101, 115, 116]⟩, val := .slice (some ⟨w.heap.size + 1, 0, none⟩) 2 2, born := 0 }, { key := .string ⟨#[99, 117, 116]⟩, val := .slice (some ⟨w.heap.size + 2, 0, none⟩) 1 1, born := 0 + 1 }].push { key := .string ⟨#[114, 97, 121]⟩, val := .slice (some ⟨w.heap.size + 3, 0, none⟩) 2 2, born := 0 + 1 + 1 }) (0 + 1 + 1 + 1)
  have s6 := (size_setMap W5 w.heap.size (#[{ key := .string ⟨#[98, 101, 115, 116]⟩, val := .slice (some ⟨w.heap.size + 1, 0, none⟩) 2 2, born := 0 }, { key := .string ⟨#[99, 117, 116]⟩, val := .slice (some ⟨w.heap.size + 2, 0, none⟩) 1 1, born := 0 + 1 }].push { key := .string ⟨#[114, 97, 121]⟩, val := .slice (some ⟨w.heap.size + 3, 0, none⟩) 2 2, born := 0 + 1 + 1 }) (0 + 1 + 1 + 1)).trans s5
  generalize setMap W5 w.heap.size (#[{ key := .string ⟨#[98, 101, 115, 116]⟩, val := .slice (some ⟨w.heap.size + 1, 0, none⟩) 2 2, born := 0 }, { key := .string ⟨#[99, 117, 116]⟩, val := .slice (some ⟨w.heap.size + 2, 0, none⟩) 1 1, born := 0 + 1 }].push { key := .string ⟨#[114, 97, 121]⟩, val := .slice (some ⟨w.heap.size + 3, 0, none⟩) 2 2, born := 0 + 1 + 1 }) (0 + 1 + 1 + 1) = W6 at M6 K6 L6 N6 b6 s6 ⊢
  clear M5 K5 L5 N5 b5 s5
  go_wp2_with fail
  go_ret
  exact ⟨rfl, M6, K6, L6, N6, b6, s6⟩
end Go.Proofs.YtpfbgoogajgciaaDoor
