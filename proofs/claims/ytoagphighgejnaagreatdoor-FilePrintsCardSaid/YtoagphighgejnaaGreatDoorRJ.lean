/- The document's Join (15). Conditions: none. -/
import Derived.Test.YtoagphighgejnaaGreatDoorF5
set_option linter.unusedSimpArgs false
set_option linter.unusedVariables false
namespace Go.Proofs.YtoagphighgejnaaGreatDoor
open Go.RowKit Go.Shelf

/-- the texts joined so far -/
def joinUp (L : List (List UInt8)) (sep : List UInt8) : List UInt8 := Lib.join L sep
theorem join_succ (L : List (List UInt8)) (x sep : List UInt8) : Lib.join (L ++ [x]) sep = if L = [] then x else Lib.join L sep ++ sep ++ x := by
  cases L with
  | nil => simp [Lib.join_cons, Lib.joinTail]
  | cons a L =>
    rw [List.cons_append, Lib.join_cons, Lib.join_cons, if_neg (by simp)]
    simp [Lib.joinTail]

set_option maxHeartbeats 1600000 in
set_option maxRecDepth 100000 in
theorem rJoin_in (A : Option Addr) (n cp B : Nat) (L : List (List UInt8)) (sep : ByteArray) (w : World) (hr : Reads w B 1 A n (L.map strV)) (hn : n ≤ 1000000) (hlim : ∀ k, (Lib.join (L.take k) sep.data.toList).length + sep.size ≤ 1000000000) :
    Calls Tryz.prog 15 #[.slice A n cp, .string sep] w fun e w' => e = .returned (strV (Lib.join L sep.data.toList)) ∧ ∃ q, w' = w.drewN q := by
  have hlen : L.length = n := by have := hr.1; simpa using this
  have HLM := Lib.hid hlim
  clear hlim
  go_enter Tryz.func15, Tryz.ntmps15
  go_wp2_with fail
  go_loopw [5, 6] (fun t i wr => ∃ k : Nat, k ≤ n ∧ i = .int .i64 k ∧ t = strV (Lib.join (L.take k) sep.data.toList) ∧ ∃ q, wr = w.drewN q) (fun _ i _ => n - (Lib.intOf i).toNat)
  case atStart => exact ⟨0, Nat.zero_le _, rfl, rfl, 0, rfl⟩
  case round =>
    obtain ⟨k, hk, rfl, rfl, q, rfl⟩ := hrel
    by_cases hlt : k < n
    · obtain ⟨b, off, u, rfl, -, hx, hcell⟩ := hr.at_ hlt
      simp only [List.getElem?_map, Option.map_eq_some_iff] at hx
      obtain ⟨x, hx, rfl⟩ := hx
      have hstep : L.take (k + 1) = L.take k ++ [x] := by rw [List.take_add_one, hx]; rfl
      have hjs := join_succ (L.take k) x sep.data.toList
      rw [← hstep] at hjs
      have hl1 := HLM.out k
      have hl2 := HLM.out (k + 1)
      rw [hjs] at hl2
      obtain ⟨X, hX⟩ : ∃ X : ByteArray, X = ⟨x.toArray⟩ := ⟨_, rfl⟩
      have hXl : X.data.toList = x := by rw [hX]
      unfold strV at hcell
      rw [← hX] at hcell
      obtain ⟨T, hT⟩ : ∃ T : ByteArray, T = ⟨(Lib.join (L.take k) sep.data.toList).toArray⟩ := ⟨_, rfl⟩
      have hTl : T.data.toList = Lib.join (L.take k) sep.data.toList := by rw [hT]
      rw [show strV (Lib.join (L.take k) sep.data.toList) = .string T by rw [hT]; rfl]
      have hTs : T.size = (Lib.join (L.take k) sep.data.toList).length := by rw [← hTl]; rfl
      have hXs : X.size = x.length := by rw [← hXl]; rfl
      have hss : sep.data.toList.length = sep.size := rfl
      rcases Nat.eq_zero_or_pos k with rfl | hkp
      · rw [if_pos (by simp)] at hjs hl2
        have hXb : X.size ≤ 1000000000 := by omega
        have hT0 : T = ⟨#[]⟩ := by rw [hT]; rfl
        subst hT0
        rw [Nat.add_zero] at hcell
        have HJ := Lib.hid hjs
        have HX := Lib.hid hXl
        clear hjs hXl hTl hl1 hl2 hTs hXs hT hX hx hstep hss
        go_wp2
        refine ⟨⟨1, by omega, rfl, ?_, q, rfl⟩, by simp [Lib.intOf]; omega⟩
        rw [← strV_data, HJ.out]
        refine congrArg strV ?_
        simp [HX.out]
      · rw [if_neg (by
          intro h
          have := congrArg List.length h
          simp at this
          rcases this with h | h
          · omega
          · subst h; simp at hlen; omega)] at hjs hl2
        simp only [List.length_append] at hl2
        have hTb : T.size ≤ 1000000000 := by omega
        have hsb : sep.size ≤ 1000000000 := by omega
        have hTb2 : T.size + sep.size ≤ 1000000000 := by omega
        have hTb3 : T.size + sep.size + X.size ≤ 1000000000 := by omega
        have HJ := Lib.hid hjs
        have HX := Lib.hid hXl
        have HT := Lib.hid hTl
        clear hjs hXl hTl hl1 hl2 hTs hXs hT hX hx hstep hss
        go_wp2
        refine ⟨⟨k + 1, by omega, rfl, ?_, q, rfl⟩, by simp [Lib.intOf]; omega⟩
        rw [← strV_data, HJ.out]
        refine congrArg strV ?_
        simp [HX.out, HT.out]
    · have hall : L.take k = L := List.take_of_length_le (by omega)
      rw [hall]
      clear hall
      obtain ⟨V, hV⟩ : ∃ V, strV (Lib.join L sep.data.toList) = V := ⟨_, rfl⟩
      rw [hV]
      have HV := Lib.hid hV
      clear hV
      go_wp2
      go_ret
      exact ⟨by rw [HV.out]; rfl, q, rfl⟩
end Go.Proofs.YtoagphighgejnaaGreatDoor
