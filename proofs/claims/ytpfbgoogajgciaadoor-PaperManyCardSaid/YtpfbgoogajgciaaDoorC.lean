/- Words (15), Join (16), Same (14). Conditions: none. -/
import Derived.Test.YtpfbgoogajgciaaDoorM
set_option linter.unusedSimpArgs false
set_option linter.unusedVariables false
namespace Go.Proofs.YtpfbgoogajgciaaDoor
open Go.RowKit Go.Shelf

/-- A text as a value. -/
def strV (l : List UInt8) : Value := .string ⟨l.toArray⟩
theorem strV_data (x : ByteArray) : strV x.data.toList = .string x := by cases x; rfl
theorem strV_inj {a b : List UInt8} (h : strV a = strV b) : a = b := by
  unfold strV at h
  injection h with h
  injection h with h
  have := congrArg Array.toList h
  simpa using this

theorem map_strV (xs : List ByteArray) : xs.map Value.string = (xs.map (·.data.toList)).map strV := by
  rw [List.map_map]
  refine List.map_congr_left fun x _ => ?_
  exact (strV_data x).symm

theorem Words_in (s : ByteArray) (hs : s.size < 4294967281) (w : World) (hE : Env w) :
    Calls Tryd.prog 13 #[.string s] w fun e w' => ∃ A n c, e = .returned (.slice A n c) ∧ n = (cutL 32 s.data.toList).length ∧ n ≤ c ∧ Reads w' w'.heap.size 1 A n ((cutL 32 s.data.toList).map strV) ∧ Below w.heap.size w w' := by
  obtain ⟨m, hm⟩ := hE.max
  obtain ⟨L, hL⟩ : ∃ L, cutL 32 s.data.toList = L := ⟨_, rfl⟩
  rw [hL]
  have HL := Lib.hid hL
  clear hL
  go_enter Tryd.func13, Tryd.ntmps13
  go_wp2_with fail
  refine (Tryd.strings_Split s ⟨#[32]⟩ m w hs hm (by decide)).mono ?_
  rintro e w' ⟨rfl, rfl⟩
  have hcut : (Lib.splitB ⟨#[32]⟩ 0 (Lib.countB s ⟨#[32]⟩) s).map (·.data.toList) = L := by
    rw [Lib.splitB_data, ← HL.out]
    exact split_cut 32 s.data.toList.length s.data.toList (Nat.le_refl _)
  have hlen : (Lib.splitB ⟨#[32]⟩ 0 (Lib.countB s ⟨#[32]⟩) s).length = Lib.countB s ⟨#[32]⟩ + 1 := Lib.splitB_all ⟨#[32]⟩ (by decide) 0 _ s rfl
  rw [map_strV, hcut]
  have hlen2 : L.length = Lib.countB s ⟨#[32]⟩ + 1 := by rw [← hlen, ← hcut, List.length_map]
  rw [← hlen2]
  have HB := Lib.hid (Blk.new w 9 (L.map strV).toArray)
  clear hcut hlen hlen2 hm
  go_wp2_with fail
  go_ret
  refine ⟨_, _, _, rfl, rfl, Nat.le_refl _, ⟨by simp, fun hn => ⟨w.heap.size, 0, rfl, by simp, fun j u hu => ?_⟩⟩, (Below.refl _ w).alloc (Nat.le_refl _) _⟩
  rw [HB.out.cell]
  rw [List.getElem?_toArray, Nat.zero_add]
  exact hu

/-- The texts joined, with something between. -/
theorem Join_in (A : Option Addr) (n c : Nat) (L : List (List UInt8)) (sep : ByteArray) (w : World) (hn : n = L.length) (hc : n ≤ c) (hr : Reads w w.heap.size 1 A n (L.map strV))
    (hlim : n ≤ 140737488355328) (hlen : (Lib.join L sep.data.toList).length ≤ 140737488355328) :
    Calls Tryd.prog 31 #[.slice A n c, .string sep] w fun e w' => e = .returned (strV (Lib.join L sep.data.toList)) ∧ Below w.heap.size w w' := by
  cases L with
  | nil =>
    obtain rfl : n = 0 := by simpa using hn
    clear hlim hlen hn hc hr
    go_enter Tryd.func31, Tryd.ntmps31
    go_wp2_with fail
    refine (Tryd.strings_Join_none A c sep w).mono ?_
    rintro e w' ⟨rfl, h2⟩
    obtain rfl := h2.symm
    go_wp2_with fail
    go_ret
    exact ⟨rfl, Below.refl _ _⟩
  | cons x L =>
    obtain ⟨b, o, rfl, hb, hcells⟩ := hr.2 (by rw [hn]; simp)
    obtain ⟨xs, hxs⟩ : ∃ xs : List ByteArray, xs = (x :: L).map (fun l => ⟨l.toArray⟩) := ⟨_, rfl⟩
    have hmap : xs.map (·.data.toList) = x :: L := by
      rw [hxs, List.map_map]
      conv => rhs; rw [← List.map_id (x :: L)]
      rfl
    have hxl : xs.length = n := by rw [hxs, List.length_map, hn]
    have hcell2 : ∀ (j : Nat) y, xs[j]? = some y → w.cell? ⟨b, o + j, none⟩ = some (.string y) := by
      intro j y hy
      refine hcells j _ ?_
      rw [hxs] at hy
      rw [List.getElem?_map] at hy ⊢
      cases hl : (x :: L)[j]? with
      | none => rw [hl] at hy; cases hy
      | some l => rw [hl] at hy; simp only [Option.map_some, Option.some.injEq] at hy; subst hy; rfl
    have HJ := Lib.hid (Tryd.strings_Join b o c xs sep w hcell2 hb (by omega) (by omega) (by rw [hmap]; exact hlen))
    rw [hmap, hxl] at HJ
    clear hcells hcell2 hr hmap hxs hxl hn hlim hlen hc
    go_enter Tryd.func31, Tryd.ntmps31
    go_wp2_with fail
    refine HJ.out.mono ?_
    rintro e w' ⟨rfl, hb2⟩
    clear HJ
    go_wp2_with fail
    go_ret
    exact ⟨rfl, hb2⟩

end Go.Proofs.YtpfbgoogajgciaaDoor
