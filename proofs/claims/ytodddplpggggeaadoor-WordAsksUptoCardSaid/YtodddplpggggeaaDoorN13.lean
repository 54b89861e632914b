/- many (13); plain words on joining. Conditions: none. -/
import Derived.Test.YtodddplpggggeaaDoorN3
set_option linter.unusedSimpArgs false
set_option linter.unusedVariables false
namespace Go.Proofs.YtodddplpggggeaaDoor
open Go.RowKit Go.Shelf

/-- So many signs have the texts, and one more each. -/
def totL (L : List (List UInt8)) : Nat := (L.map (fun x => 1 + x.length)).sum
theorem totL_succ {L : List (List UInt8)} {k : Nat} {x : List UInt8} (h : L[k]? = some x) : totL (L.take (k + 1)) = totL (L.take k) + (1 + x.length) := by
  unfold totL
  rw [List.take_add_one, h, List.map_append, List.sum_append]; simp
theorem totL_take (L : List (List UInt8)) (k : Nat) : totL (L.take k) ≤ totL L := by
  have : totL L = totL (L.take k) + totL (L.drop k) := by
    unfold totL; rw [← List.sum_append, ← List.map_append, List.take_append_drop]
  omega
theorem totL_len (L : List (List UInt8)) : L.length ≤ totL L := by
  induction L with
  | nil => simp
  | cons a L ih => simp only [totL, List.map_cons, List.sum_cons, List.length_cons] at ih ⊢; omega
theorem join_le (L : List (List UInt8)) (s : List UInt8) : (Lib.join L s).length ≤ totL L + L.length * s.length := by
  cases L with
  | nil => simp [Lib.join]
  | cons x L =>
    rw [Lib.join_cons, List.length_append]
    have h2 : ∀ M : List (List UInt8), (Lib.joinTail s M).length ≤ totL M + M.length * s.length := by
      intro M
      induction M with
      | nil => simp [Lib.joinTail]
      | cons a M ih =>
        simp only [Lib.joinTail, List.map_cons, List.flatten_cons, List.length_append, totL, List.sum_cons, List.length_cons] at ih ⊢
        rw [Nat.add_mul]
        omega
    have := h2 L
    simp only [totL, List.map_cons, List.sum_cons, List.length_cons] at this ⊢
    rw [Nat.add_mul]
    omega

/-- what was joined is parted again -/
theorem cut_join (c : UInt8) (L : List (List UInt8)) (hne : L ≠ []) (hf : ∀ x ∈ L, c ∉ x) : cutL c (Lib.join L [c]) = L := by
  induction L with
  | nil => exact absurd rfl hne
  | cons x L ih =>
    cases L with
    | nil => 
      rw [Lib.join_cons]
      simp only [Lib.joinTail, List.map_nil, List.flatten_nil, List.append_nil]
      exact cutL_none c x (hf x (by simp))
    | cons y L =>
      have e : Lib.join (x :: y :: L) [c] = x ++ c :: Lib.join (y :: L) [c] := by
        rw [Lib.join_cons, Lib.join_cons]
        simp [Lib.joinTail]
      rw [e, cutL_at c x _ (hf x (by simp)), ih (by simp) (fun z hz => hf z (by simp [hz]))]

set_option maxHeartbeats 1600000 in
set_option maxRecDepth 100000 in
theorem many_in (A : Option Addr) (len cap B : Nat) (L : List (List UInt8)) (w : World) (hr : Reads w B 1 A len (L.map strV)) (hm : totL L ≤ 4611686018427387904) :
    Calls Tryd.prog 13 #[.slice A len cap] w fun e w' => e = .returned (.bool (decide (200 < totL L))) ∧ ∃ k, w' = w.drewN k := by
  have hlen : L.length = len := by have := hr.1; simpa using this
  have hll := totL_len L
  have HT : Hid (∀ k, totL (L.take k) ≤ totL L) := Lib.hid (totL_take L)
  have hl4 : len ≤ 4611686018427387904 := by omega
  clear hll
  go_enter Tryd.func13, Tryd.ntmps13
  go_wp2_with fail
  go_loopw [3, 4] (fun n i wr => ∃ k : Nat, k ≤ len ∧ i = .int .i64 k ∧ n = .int .i64 (totL (L.take k) : Nat) ∧ ∃ q, wr = w.drewN q) (fun _ i _ => len - (Lib.intOf i).toNat)
  case atStart => exact ⟨0, Nat.zero_le _, rfl, by simp [totL], 0, rfl⟩
  case round =>
    obtain ⟨k, hk, rfl, rfl, q, rfl⟩ := hrel
    have htk := HT.out k
    by_cases hlt : k < len
    · obtain ⟨b, off, u, rfl, -, hx, hcell⟩ := hr.at_ hlt
      simp only [List.getElem?_map, Option.map_eq_some_iff] at hx
      obtain ⟨x, hx, rfl⟩ := hx
      have hstep := totL_succ hx
      have hle := HT.out (k + 1)
      rw [hstep] at hle
      have HS := Lib.hid hstep
      obtain ⟨X, hX⟩ : ∃ X : ByteArray, X = ⟨x.toArray⟩ := ⟨_, rfl⟩
      have hXs : x.length = X.size := by rw [hX]; rfl
      unfold strV at hcell
      rw [← hX] at hcell
      rw [hXs] at hle HS
      clear hstep hX hXs hx
      generalize totL (L.take k) = t at *
      have ht1 : t ≤ 4611686018427387904 := by omega
      have ht2 : t + (1 + X.size) ≤ 4611686018427387904 := by omega
      clear htk hle hm
      go_wp2
      refine ⟨⟨k + 1, by omega, rfl, ?_, q, rfl⟩, by simp [Lib.intOf]; omega⟩
      rw [HS.out]
      simp
      try omega
    · have hall : L.take k = L := List.take_of_length_le (by omega)
      rw [hall]
      clear htk hall HT
      obtain ⟨t, ht⟩ : ∃ t, totL L = t := ⟨_, rfl⟩
      rw [ht] at hm ⊢
      have HH := Lib.hid ht
      clear ht
      go_wp2
      go_ret
      exact ⟨ret_bool (by rw [HH.out]; simp <;> omega), q, rfl⟩
end Go.Proofs.YtodddplpggggeaaDoor
