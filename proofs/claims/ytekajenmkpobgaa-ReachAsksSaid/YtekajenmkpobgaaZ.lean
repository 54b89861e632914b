/- slices.Backward at ints: the iterator. -/
import Derived.Test.YtekajenmkpobgaaPG
set_option linter.unusedSimpArgs false
set_option linter.unusedVariables false
namespace Go.Proofs.Ytekajenmkpobgaa
open Go.RowKit Go.Shelf
attribute [local go_sem] Oper.semAt_some

/-- blocks of a set lie as they lay -/
def KeepSet (T : Nat → Prop) (W W' : World) : Prop := ∀ b, T b → W'.heap[b]? = W.heap[b]?
theorem KeepSet.refl (T : Nat → Prop) (W : World) : KeepSet T W W := fun _ _ => rfl
theorem KeepSet.trans {T : Nat → Prop} {A B C : World} (h : KeepSet T A B) (k : KeepSet T B C) : KeepSet T A C := fun b hb => (k b hb).trans (h b hb)
theorem KeepSet.cell {T : Nat → Prop} {W W' : World} (h : KeepSet T W W') {p : Addr} (hp : T p.block) : W'.cell? p = W.cell? p := World.cell?_of_block (h p.block hp)

/-- an index, and a node -/
abbrev BA (N : Nat) := { x : Int × Int // hasB N x.2 = true }
def backs (N : Nat) (told : List Int) (hm : ∀ v ∈ told, hasB N v = true) : List (BA N) :=
  List.ofFn fun k : Fin told.length => ⟨(((told.length - 1 - k.1 : Nat) : Int), told[told.length - 1 - k.1]'(by have := k.2; omega)), hm _ (List.getElem_mem _)⟩
theorem backs_len (N : Nat) (told : List Int) (hm : ∀ v ∈ told, hasB N v = true) : (backs N told hm).length = told.length := by simp [backs]
theorem backs_at (N : Nat) (told : List Int) (hm : ∀ v ∈ told, hasB N v = true) (k : Nat) (hk : k < told.length) : ∃ x, (backs N told hm)[k]? = some x ∧ x.1.1 = ((told.length - 1 - k : Nat) : Int) ∧ told[told.length - 1 - k]? = some x.1.2 := by
  refine ⟨_, List.getElem?_eq_getElem (by rw [backs_len]; exact hk), ?_, ?_⟩
  · simp [backs]
  · simp [backs, List.getElem?_eq_getElem (show told.length - 1 - k < told.length by omega)]
theorem backs_rev (N : Nat) (told : List Int) (hm : ∀ v ∈ told, hasB N v = true) : (backs N told hm).map (·.1.2) = told.reverse := by
  apply List.ext_getElem
  · simp [backs_len]
  · intro i h1 h2
    simp [backs, List.getElem_reverse]

set_option maxRecDepth 100000 in
set_option maxHeartbeats 2000000 in
theorem back1_in (n : Nat) (hn : 1 ≤ n) (N l bx : Nat) (At : Option Addr) (ct : Nat) (told : List Int) (hm : ∀ v ∈ told, hasB N v = true) (hl : told.length ≤ 1000000000) (T : Nat → Prop) (hTx : T bx) (J Jx : List (BA N) → World → Prop)
    (hY : ∀ pre x W, J pre W → pre.length < told.length → YieldAt Fence.wide (n - 1) Try.prog l #[.int .i64 x.1.1, .int .i64 x.1.2] W fun e W' =>
      (e = .returned (.bool true) ∧ J (pre ++ [x]) W' ∧ KeepSet T W W') ∨ (e = .returned (.bool false) ∧ Jx (pre ++ [x]) W'))
    (W : World) (hbx : W.cell? ⟨bx, 0, none⟩ = some (.slice At told.length ct)) (hrow : 0 < told.length → ∃ tb, At = some ⟨tb, 0, none⟩ ∧ T tb ∧ ∀ (j : Nat) x, told[j]? = some x → W.cell? ⟨tb, j, none⟩ = some (.int .i64 x)) (h0 : J [] W) :
    CallsIn Fence.wide n Try.prog 63 #[.func (.yield l) #[] #[], .pointer (some ⟨bx, 0, none⟩)] W fun e W' => (∃ v, e = .returned v) ∧
      ((∃ ys, ys = backs N told hm ∧ J ys W') ∨ (∃ pre, True ∧ Jx pre W')) := by
  have HR := Lib.hid hrow
  clear hrow
  refine callsIn_of_wp Try.func63 rfl trivial ?_ rfl
  simp only [Try.ntmps63, List.size_toArray, List.length_cons, List.length_nil, Nat.reduceAdd, Nat.reduceSub, Array.replicate_succ, Array.replicate_zero, List.push_toArray, List.append_toArray, List.nil_append, List.cons_append]
  gi_wp2_with fail
  gi_loopw [3] (fun i wr => ∃ k : Nat, k ≤ told.length ∧ i = .int .i64 ((told.length : Int) - 1 - k) ∧ J ((backs N told hm).take k) wr ∧ KeepSet T W wr) (fun i _ => (intOf i + 1).toNat)
  case atStart => exact ⟨0, Nat.zero_le _, by simp, h0, KeepSet.refl _ _⟩
  case round =>
    obtain ⟨k, hk, rfl, hJs, hkp⟩ := hrel
    by_cases hlt : k < told.length
    · obtain ⟨tb, rfl, hTb, hcs⟩ := HR.out (by omega)
      obtain ⟨x, hx, hx1, hx2⟩ := backs_at N told hm k hlt
      have hbx' : wr.cell? ⟨bx, 0, none⟩ = some (.slice (some ⟨tb, 0, none⟩) told.length ct) := (hkp.cell (p := ⟨bx, 0, none⟩) hTx).trans hbx
      have hcx : wr.cell? ⟨tb, told.length - 1 - k, none⟩ = some (.int .i64 x.1.2) := (hkp.cell (p := ⟨tb, told.length - 1 - k, none⟩) hTb).trans (hcs _ _ hx2)
      have hts := take_snoc (backs N told hm) k x hx
      obtain ⟨⟨x1, x2⟩, hxb⟩ := x
      simp only at hx1 hcx
      obtain ⟨j, hj⟩ : ∃ j : Nat, j = told.length - 1 - k := ⟨_, rfl⟩
      have hje : (told.length : Int) - 1 - k = (j : Int) := by omega
      rw [← hj] at hcx hx1
      rw [hje]
      have hjl : j < told.length := by omega
      subst hx1
      obtain ⟨fn, tmps, assign, body, hy, hR⟩ := hY _ ⟨((j : Int), x2), hxb⟩ wr hJs (by rw [List.length_take, backs_len]; omega)
      dsimp only at hy
      have HTS := Lib.hid hts
      have HJ := Lib.hid hj
      clear hts hj hje hcs hx hx2
      gi_wp2
      refine hR.mono ?_
      rintro e W3 (⟨rfl, hJ3, hk3⟩ | ⟨rfl, hJx3⟩)
      · gi_wp2
        go_roundw
        case rel => exact ⟨k + 1, by omega, by have := HJ.out; congr 1; omega, by rw [HTS.out]; exact hJ3, hkp.trans hk3⟩
        case measure => have := HJ.out; simp [intOf]
      · gi_wp2
        refine bodyPost_ret (results_none rfl _ _ _) rfl ?_
        exact ⟨⟨_, rfl⟩, .inr ⟨_, trivial, hJx3⟩⟩
    · have hd : decide (0 ≤ (told.length : Int) - 1 - k) = false := by simp; omega
      gi_wp2
      go_end0
      rw [List.take_of_length_le (by rw [backs_len]; omega)] at hJs
      exact ⟨⟨_, rfl⟩, .inl ⟨_, rfl, hJs⟩⟩

theorem back_stops (n : Nat) (hn : 1 ≤ n) (N bx : Nat) (At : Option Addr) (ct : Nat) (told : List Int) (hm : ∀ v ∈ told, hasB N v = true) (hl : told.length ≤ 1000000000) (T : Nat → Prop) (hTx : T bx) (w : World) (hbxl : bx < w.heap.size) (hbx : w.cell? ⟨bx, 0, none⟩ = some (.slice At told.length ct))
    (hrow : 0 < told.length → ∃ tb, At = some ⟨tb, 0, none⟩ ∧ tb < w.heap.size ∧ T tb ∧ ∀ (j : Nat) x, told[j]? = some x → w.cell? ⟨tb, j, none⟩ = some (.int .i64 x)) :
    SeqStopsK Fence.wide n Try.prog 63 #[.pointer (some ⟨bx, 0, none⟩)] (fun x : BA N => #[Value.int .i64 x.1.1, Value.int .i64 x.1.2]) (KeepSet T) (fun ys => ys = backs N told hm) (fun _ => True) told.length w := fun l J Jx W hW _ _ hY h0 => by
  refine back1_in n hn N l bx At ct told hm hl T hTx J Jx hY W ((hW.cell (p := ⟨bx, 0, none⟩) hbxl).trans hbx) (fun hp => ?_) h0
  obtain ⟨tb, e, htl, hT, hc⟩ := hrow hp
  exact ⟨tb, e, hT, fun j x hj => (hW.cell (p := ⟨tb, j, none⟩) htl).trans (hc j x hj)⟩

set_option maxHeartbeats 1000000 in
theorem Backward_any (At : Option Addr) (n ct : Nat) (w : World) :
    Calls Try.prog 46 #[.slice At n ct] w fun e w' => e = .returned (.func (.func 63) #[] #[.pointer (some ⟨w.heap.size, 0, none⟩)]) ∧ w' = w.alloc (.cells #[.slice At n ct] 28) := by
  have hmf : ∀ (fn : Fn) (first cap : Array Value) (w : World), (Instr.makeFunc fn first cap).run Try.prog w = .ok (.func fn first cap) w := fun _ _ _ _ => rfl
  go_enter Try.func46, Try.ntmps46
  go_wp2
  go_ret
  exact ⟨rfl, rfl⟩
end Go.Proofs.Ytekajenmkpobgaa
