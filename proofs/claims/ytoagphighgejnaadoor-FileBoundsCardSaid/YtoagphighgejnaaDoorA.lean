/- formed (24): the form of a number's word. Conditions: none. -/
import Derived.Test.YtoagphighgejnaaDoorBase
set_option linter.unusedSimpArgs false
set_option linter.unusedVariables false
namespace Go.Proofs.YtoagphighgejnaaDoor
open Go.RowKit Go.Shelf

def isDig (b : UInt8) : Bool := decide (48 ≤ b.toNat ∧ b.toNat ≤ 57)
/-- Digits, at least one, the first no nought. -/
def digsL (d : List UInt8) : Bool := decide (d ≠ []) && (d.all isDig && decide (d.head? ≠ some 48))
def formL (l : List UInt8) : Bool := decide (l = [48]) || digsL (Lib.trimPrefix l [45])

theorem digsL_no {d : List UInt8} {p : Nat} {b : UInt8} (h : d[p]? = some b) (hb : isDig b = false ∨ (p = 0 ∧ b = 48)) : digsL d = false := by
  unfold digsL
  rcases hb with hb | ⟨rfl, rfl⟩
  · have : d.all isDig = false := by
      rw [List.all_eq_false]
      exact ⟨b, List.mem_of_getElem? h, by simp [hb]⟩
    simp [this]
  · have : d.head? = some 48 := by rw [List.head?_eq_getElem?]; exact h
    simp [this]

theorem digsL_all {d : List UInt8} (h : ∀ (i : Nat) b, d[i]? = some b → isDig b = true) (h0 : ∀ b, d[0]? = some b → b ≠ 48) : digsL d = decide (d ≠ []) := by
  unfold digsL
  have h1 : d.all isDig = true := by
    rw [List.all_eq_true]
    intro b hb
    obtain ⟨i, hi⟩ := List.getElem?_of_mem hb
    exact h i b hi
  have h2 : d.head? ≠ some 48 := by
    rw [List.head?_eq_getElem?]
    intro e
    exact h0 48 e rfl
  simp [h1, h2]

theorem bs_eq_iff (s : ByteArray) (l : List UInt8) : s = ⟨l.toArray⟩ ↔ s.data.toList = l := by
  constructor
  · rintro rfl; rfl
  · intro h
    cases s
    simp only at h
    subst h
    simp

set_option maxHeartbeats 1600000 in
set_option maxRecDepth 100000 in
theorem formed_in (s : ByteArray) (w : World) :
    Calls Tryd.prog 52 #[.string s] w fun e w' => e = .returned (.bool (formL s.data.toList)) ∧ Below w.heap.size w w' := by
  by_cases hz : s = ⟨#[48]⟩
  · subst hz
    go_enter Tryd.func52, Tryd.ntmps52
    go_wp2
    go_ret
    exact ⟨rfl, Below.refl _ w⟩
  · have hform : formL s.data.toList = digsL (Lib.trimPrefix s.data.toList [45]) := by
      unfold formL
      have : s.data.toList ≠ [48] := fun e => hz ((bs_eq_iff s [48]).2 e)
      simp [this]
    rw [hform]
    have hne : (s.toList == [48]) = false := by
      rw [Lib.toList_data, beq_eq_false_iff_ne]
      exact fun e => hz ((bs_eq_iff s [48]).2 e)
    clear hz
    obtain ⟨d, hd⟩ : ∃ d : ByteArray, d = ⟨(Lib.trimPrefix s.data.toList [45]).toArray⟩ := ⟨_, rfl⟩
    have hdl : Lib.trimPrefix s.data.toList [45] = d.data.toList := by rw [hd]
    rw [hdl]
    have HD := Lib.hid hdl; clear hdl hd
    have hk0 : (w.iter d 0).heap[w.heap.size]? = some (.stringIter d 0) := World.iter_heap w d 0
    have hb0 : Below w.heap.size w (w.iter d 0) := (Below.refl _ w).alloc (Nat.le_refl _) _
    have hget : ∀ (p : Nat) (hp : p < d.size), d.data.toList[p]? = some (d[p]'hp) := by
      intro p hp
      have h1 : p < d.data.size := hp
      rw [Array.getElem?_toList, Array.getElem?_eq_getElem h1]
      rfl
    have hlen : d.data.toList.length = d.size := rfl
    go_enter Tryd.func52, Tryd.ntmps52
    go_wp2_with (go_at_call 59; refine (Tryd.strings_TrimPrefix s ⟨#[45]⟩ w).mono ?_; rintro e w' ⟨rfl, h2⟩; obtain rfl := h2.symm; rw [HD.out])
    go_loopw [4] (fun _ wr => ∃ pos : Nat, pos ≤ d.size ∧ wr.heap[w.heap.size]? = some (.stringIter d pos) ∧ Below w.heap.size w wr ∧
        (∀ (i : Nat) b, i < pos → d.data.toList[i]? = some b → isDig b = true) ∧ (∀ b, 0 < pos → d.data.toList[0]? = some b → b ≠ 48))
      (fun _ wr => d.size - wr.iterPos w.heap.size)
    case atStart => exact ⟨0, Nat.zero_le _, hk0, hb0, fun i b hi => by omega, fun b hi => by omega⟩
    case round =>
      obtain ⟨pos, hps, hk, hnx, hall, hfst⟩ := hrel
      clear hk0 hb0
      have hmu : wr.iterPos w.heap.size = pos := by simp [World.iterPos, hk]
      have HA := Lib.hid hall; have HF := Lib.hid hfst
      clear hall hfst
      by_cases hp : pos < d.size
      · have hg := hget pos hp
        by_cases h128 : (d[pos]'hp).toNat < 128
        · have hnext : ∀ ty, (Instr.next (.pointer (some ⟨w.heap.size, 0, none⟩)) true ty).run Tryd.prog wr = _ := fun ty => Lib.run_next_ascii_at wr w.heap.size d pos ty hk hp h128
          have hk1 := Lib.iterAt_heap wr w.heap.size d pos (pos + 1) hk
          have hnx1 : Below w.heap.size w (wr.iterAt w.heap.size d (pos + 1)) := Lib.below_iterAt hnx (Nat.le_refl _) d (pos + 1)
          generalize wr.iterAt w.heap.size d (pos + 1) = W1 at hnext hk1 hnx1
          generalize (d[pos]'hp) = b at hnext hg h128
          by_cases hlo : (b.toNat : Int) < 48
          · have HE := Lib.hid (digsL_no hg (.inl (by simp [isDig]; omega)))
            clear hget hg
            go_wp2
            go_ret
            exact ⟨by rw [HE.out]; rfl, hnx1⟩
          · by_cases hhi : (57 : Int) < b.toNat
            · have HE := Lib.hid (digsL_no hg (.inl (by simp [isDig]; omega)))
              clear hget hg
              go_wp2
              go_ret
              exact ⟨by rw [HE.out]; rfl, hnx1⟩
            · have hdig : isDig b = true := by simp [isDig]; omega
              by_cases hz0 : pos = 0
              · subst hz0
                by_cases h48 : (b.toNat : Int) = 48
                · have HE := Lib.hid (digsL_no hg (.inr ⟨rfl, UInt8.toNat_inj.1 (by show b.toNat = 48; omega)⟩))
                  clear hget hg
                  go_wp2
                  go_ret
                  exact ⟨by rw [HE.out]; rfl, hnx1⟩
                · have HG := Lib.hid hg
                  clear hget hg
                  go_wp2
                  go_roundw
                  case rel =>
                    refine ⟨1, by omega, hk1, hnx1, ?_, ?_⟩
                    · intro i x hi hx
                      obtain rfl : i = 0 := by omega
                      rw [HG.out] at hx; cases hx; exact hdig
                    · intro x _ hx e
                      rw [HG.out] at hx; cases hx; subst e; exact h48 rfl
                  case measure =>
                    have hmu2 : W1.iterPos w.heap.size = 1 := by simp [World.iterPos, hk1]
                    rw [hmu, hmu2]; omega
              · have hz1 : ¬ (pos : Int) = 0 := by omega
                have HG := Lib.hid hg
                clear hget hg
                go_wp2
                go_roundw
                case rel =>
                  refine ⟨pos + 1, by omega, hk1, hnx1, ?_, ?_⟩
                  · intro i x hi hx
                    by_cases he : i = pos
                    · subst he; rw [HG.out] at hx; cases hx; exact hdig
                    · exact HA.out i x (by omega) hx
                  · intro x _ hx
                    exact HF.out x (by omega) hx
                case measure =>
                  have hmu2 : W1.iterPos w.heap.size = pos + 1 := by simp [World.iterPos, hk1]
                  rw [hmu, hmu2]; omega
        · obtain ⟨hd1, hd2⟩ := decode_high d pos hp (by omega)
          have hnext : ∀ ty, (Instr.next (.pointer (some ⟨w.heap.size, 0, none⟩)) true ty).run Tryd.prog wr = _ := fun ty => Lib.run_next_any_at wr w.heap.size d pos ty hk hp
          have hnx1 : Below w.heap.size w (wr.iterAt w.heap.size d (pos + (Utf8.decode d pos).2)) := Lib.below_iterAt hnx (Nat.le_refl _) d _
          generalize wr.iterAt w.heap.size d (pos + (Utf8.decode d pos).2) = W1 at hnext hnx1
          have HE := Lib.hid (digsL_no hg (.inl (by simp [isDig]; omega)))
          generalize (Utf8.decode d pos).1 = r at hnext hd1
          have hlo : ¬ (r : Int) < 48 := by omega
          have hhi : (57 : Int) < r := by omega
          clear hget hg h128
          go_wp2
          go_ret
          exact ⟨by rw [HE.out]; rfl, hnx1⟩
      · have hnext : ∀ ty, (Instr.next (.pointer (some ⟨w.heap.size, 0, none⟩)) true ty).run Tryd.prog wr = _ := fun ty => Lib.run_next_end_at wr w.heap.size d pos ty hk hp
        have he : digsL d.data.toList = decide (d.data.toList ≠ []) := digsL_all (fun i b hb => HA.out i b (by have := (List.getElem?_eq_some_iff.1 hb).1; omega) hb) (fun b hb => HF.out b (by have := (List.getElem?_eq_some_iff.1 hb).1; omega) hb)
        have HE := Lib.hid he
        clear he hget
        go_wp2
        go_ret
        refine ⟨?_, hnx⟩
        rw [HE.out]
        show Ending.returned (Value.bool (!(d.toList.isEmpty))) = _
        rw [Lib.toList_data]
        cases d.data.toList <;> simp

end Go.Proofs.YtoagphighgejnaaDoor
