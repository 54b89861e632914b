/- WordParts (6). Conditions: none. -/
import Derived.Test.YtodddplpggggeaaDoorK
set_option linter.unusedSimpArgs false
set_option linter.unusedVariables false
namespace Go.Proofs.YtodddplpggggeaaDoor
open Go.RowKit Go.Shelf

theorem get_at {s : ByteArray} {p : Nat} (hp : p < s.size) : s.data.toList[p]? = some (s[p]'hp) := by
  have h1 : p < s.data.size := hp
  rw [Array.getElem?_toList, Array.getElem?_eq_getElem h1]
  rfl

set_option maxHeartbeats 1600000 in
set_option maxRecDepth 100000 in
theorem WordParts_in (s : ByteArray) (w : World) (hE : Env w) (hs : s.size ≤ 9223372036854775807) : Calls Tryd.prog 6 #[.string s] w fun e w' => e = .returned (.bool true) ∧ Below w.heap.size w w' := by
  by_cases hbig : (200 : Int) < s.size
  · go_enter Tryd.func6, Tryd.ntmps6
    go_wp2_with fail
    refine (known_in w hE).mono ?_
    rintro e w1 ⟨rfl, hb1⟩
    go_wp2_with fail
    go_ret
    exact ⟨rfl, hb1⟩
  · go_enter Tryd.func6, Tryd.ntmps6
    go_wp2_with fail
    go_loopw [3, 4] (fun n i wr => ∃ k : Nat, k ≤ s.size ∧ i = .int .i64 k ∧ n = .int .i64 (((s.data.toList.take k).count 32 : Nat) + 1) ∧ wr = w) (fun _ i _ => s.size - (Lib.intOf i).toNat)
    case atStart => exact ⟨0, Nat.zero_le _, rfl, by simp, rfl⟩
    case round =>
      obtain ⟨k, hk, rfl, rfl, rfl⟩ := hrel
      have hcnt : (s.data.toList.take k).count 32 ≤ 200 := by
        have h1 := List.count_le_length (a := (32 : UInt8)) (l := s.data.toList.take k)
        rw [List.length_take] at h1
        have h2 : s.data.toList.length = s.size := rfl
        omega
      by_cases hlt : k < s.size
      · have hg := get_at hlt
        have hstep : (s.data.toList.take (k + 1)).count 32 = (s.data.toList.take k).count 32 + (if s[k]'hlt = 32 then 1 else 0) := by
          rw [List.take_add_one, hg]
          simp [List.count_append, List.count_singleton]
        have HST := Lib.hid hstep
        clear hstep hg
        generalize hq : (s.data.toList.take k).count 32 = q at *
        by_cases hb : s[k]'hlt = 32
        · have hb' : ((s[k]'hlt).toNat : Int) = 32 := by rw [hb]; rfl
          rw [if_pos hb] at HST
          go_wp2_with fail
          refine ⟨⟨k + 1, by omega, rfl, ?_, trivial⟩, by simp [Lib.intOf]; omega⟩
          rw [HST.out]; simp
        · have hb' : ¬ ((s[k]'hlt).toNat : Int) = 32 := fun e => hb (UInt8.toNat_inj.1 (by show (s[k]'hlt).toNat = 32; omega))
          rw [if_neg hb] at HST
          go_wp2_with fail
          refine ⟨⟨k + 1, by omega, rfl, ?_, trivial⟩, by simp [Lib.intOf]; omega⟩
          rw [HST.out]; simp
      · have hall : s.data.toList.take k = s.data.toList := List.take_of_length_le (by show s.size ≤ k; omega)
        rw [hall] at hcnt ⊢
        have hlen := cutL_length 32 s.data.toList
        generalize s.data.toList.count 32 = q at *
        clear hall
        go_wp2_with fail
        refine (Words_in s (by omega) wr hE).mono ?_
        rintro e w1 ⟨A, m, c, rfl, hm, hmc, hR, hb1⟩
        rw [hlen] at hm
        subst hm
        have hE1 := hE.on hb1
        have HLen := Lib.hid hlen
        clear hlen
        go_wp2_with fail
        refine (known_in w1 hE1).mono ?_
        rintro e w2 ⟨rfl, hb2⟩
        go_wp2_with fail
        have hsl : s.data.toList.length ≤ 200 := by show s.size ≤ 200; omega
        refine (Join_in A (q + 1) c (cutL 32 s.data.toList) ⟨#[32]⟩ w2 HLen.out.symm hmc ((hR.below hb2).more hb2.size) (by omega) (by show (Lib.join _ [32]).length ≤ _; rw [join_cut]; omega)).mono ?_
        rintro e w3 ⟨rfl, hb3⟩
        rw [show Lib.join (cutL 32 s.data.toList) (⟨#[32]⟩ : ByteArray).data.toList = s.data.toList from join_cut 32 _, strV_data]
        clear hR HLen hsl
        go_wp2_with fail
        go_ret
        refine ⟨by simp, (hb1.trans (hb2.mono hb1.size)).trans (hb3.mono (by have := hb1.size; have := hb2.size; omega))⟩

end Go.Proofs.YtodddplpggggeaaDoor
