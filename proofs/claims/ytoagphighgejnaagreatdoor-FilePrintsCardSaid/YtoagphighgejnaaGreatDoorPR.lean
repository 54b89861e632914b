/- The page's line (33), number (34), bound (36). Conditions: none. -/
import Derived.Test.YtoagphighgejnaaGreatDoorBW
import Derived.Test.YtoagphighgejnaaGreatDoorFS
import Derived.Deep.RegionLaw
set_option linter.unusedSimpArgs false
set_option linter.unusedVariables false
namespace Go.Proofs.YtoagphighgejnaaGreatDoor
open Go.RowKit Go.Shelf

theorem number_in (n : Int) (h0 : -9223372036854775808 ≤ n) (h1 : n ≤ 9223372036854775807) (w : World) (hE : Env w) :
    Calls Tryz.prog 34 #[.int .i64 n] w fun e w' => e = .returned (strV (Lib.itoa n)) ∧ Below w.heap.size w w' := by
  have HT := Lib.hid (Text_in n h0 h1 w hE)
  clear h0 h1 hE
  go_enter Tryz.func34, Tryz.ntmps34
  go_wp2_with fail
  refine HT.out.mono ?_
  rintro e w1 ⟨rfl, hb1⟩
  go_wp2_with fail
  go_ret
  exact ⟨rfl, hb1⟩
theorem bound_in (c : Int) (h0 : -9223372036854775808 ≤ c) (h1 : c ≤ 9223372036854775807) (w : World) (hE : Env w) :
    Calls Tryz.prog 36 #[.int .i64 c] w fun e w' => e = .returned (strV (capW c)) ∧ Below w.heap.size w w' := by
  have HT := Lib.hid (Text_in c h0 h1 w hE)
  clear h0 h1 hE
  unfold capW infC
  by_cases hc : c = 4611686018427387904
  · rw [if_pos hc]
    have hb : (c == 4611686018427387904) = true := by simp [hc]
    clear hc
    go_enter Tryz.func36, Tryz.ntmps36
    go_wp2_with fail
    go_ret
    exact ⟨rfl, Below.refl _ _⟩
  · rw [if_neg hc]
    have hb : (c == 4611686018427387904) = false := by simp [hc]
    clear hc
    go_enter Tryz.func36, Tryz.ntmps36
    go_wp2_with fail
    refine HT.out.mono ?_
    rintro e w1 ⟨rfl, hb1⟩
    go_wp2_with fail
    go_ret
    exact ⟨rfl, hb1⟩
theorem page_at_below {B b : Nat} {p : Value} {bs : List Value} {w w' : World} (h : Lib.BuilderAt 67 5 B b p bs w) (hb : Below w.heap.size w w') : Lib.BuilderAt 67 5 B b p bs w' := by
  have hlt := h.lt
  obtain ⟨hB, v, hbk, hown, hne⟩ := h
  exact ⟨hB, v, (hb.block b hlt).trans hbk, own_below hown hb, hne⟩
theorem page_below {B b : Nat} {bs : List Value} {w w' : World} (h : PageIs B b bs w) (hb : Below w.heap.size w w') : PageIs B b bs w' := by
  rcases h with h | h
  · exact .inl (page_at_below h hb)
  · exact .inr (page_at_below h hb)
theorem cells_app (l : List UInt8) (s : List UInt8) : Lib.byteCells l ++ Lib.strCells ⟨s.toArray⟩ = Lib.byteCells (l ++ s) := by
  simp [Lib.byteCells, Lib.strCells]
theorem cells_ten (l : List UInt8) : Lib.byteCells l ++ [Value.int .u8 10] = Lib.byteCells (l ++ [10]) := by simp [Lib.byteCells]
set_option maxHeartbeats 1600000 in
set_option maxRecDepth 100000 in
theorem line_in (B b : Nat) (l : List UInt8) (A : Option Addr) (n c : Nat) (ws : List (List UInt8)) (w : World) (h : PageIs B b (Lib.byteCells l) w) (hn : n = ws.length) (hc : n ≤ c) (hr : Reads w w.heap.size 1 A n (ws.map strV))
    (hl1 : n ≤ 100) (hl2 : (lnW ws).length ≤ 1000) (hl3 : l.length ≤ 1000000) (hBw : B ≤ w.heap.size) :
    Calls Tryz.prog 33 #[.pointer (some ⟨b, 0, none⟩), .slice A n c] w fun e w' => e = .returned (.tuple #[]) ∧ PageUsed B b (Lib.byteCells (l ++ (lnW ws ++ [10]))) w' ∧ Below B w w' := by
  have HJ := Lib.hid (Join_in A n c ws ⟨#[32]⟩ w.drew hn hc hr (by omega) (show (lnW ws).length ≤ _ by omega))
  have HP := Lib.hid (fun W (hb : Below w.heap.size w W) => page_string B b (Lib.byteCells l) ⟨(lnW ws).toArray⟩ W (page_below h hb) (by rw [Lib.byteCells_length]; have : (⟨(lnW ws).toArray⟩ : ByteArray).size = (lnW ws).length := rfl; omega) (Nat.le_trans hBw hb.size))
  have HB := Lib.hid hBw
  have HL := Lib.hid (And.intro hl2 hl3)
  change Hid (Calls Tryz.prog 52 #[.slice A n c, .string ⟨#[32]⟩] w.drew fun e w' => e = .returned (.string ⟨(lnW ws).toArray⟩) ∧ Below w.heap.size w.drew w') at HJ
  obtain ⟨X, hX⟩ : ∃ X : ByteArray, X = ⟨(lnW ws).toArray⟩ := ⟨_, rfl⟩
  rw [← hX] at HJ HP
  have HX := Lib.hid hX
  clear h hn hc hr hl1 hl2 hl3 hBw hX
  go_enter Tryz.func33, Tryz.ntmps33
  go_wp2_with fail
  go_region_law (first
    | (go_simp; go_at_call 52; (with_reducible refine HJ.out.mono ?_); rintro e w1 ⟨rfl, hb1⟩)
    | (go_simp; go_at_call 51; refine (HP.out w1 ((Below.refl _ w).drew.trans hb1)).mono ?_; rintro e w2 ⟨rfl, hp2, hb2⟩))
  have HB2 := Lib.hid ((((Below.refl B w).drew).trans (hb1.mono HB.out)).trans hb2)
  have hB2 : B ≤ w2.heap.size := Nat.le_trans HB.out HB2.out.size
  have HQ := Lib.hid (page_byte B b _ 10 w2 (.inr hp2) (by
    have h1 : (Lib.byteCells l ++ Lib.strCells X).length = l.length + X.size := by rw [List.length_append, Lib.byteCells_length, Lib.strCells_length]
    have h2 : X.size = (lnW ws).length := by rw [HX.out]; rfl
    have := HL.out
    omega) hB2)
  clear hb1 hb2 hp2 hB2 HP HJ
  go_wp2_with fail
  refine HQ.out.mono ?_
  rintro e w3 ⟨rfl, hp3, hb3⟩
  go_wp2_with fail
  go_end0
  refine ⟨rfl, ?_, HB2.out.trans hb3⟩
  rw [HX.out, cells_app, cells_ten, List.append_assoc] at hp3
  exact hp3
end Go.Proofs.YtoagphighgejnaaGreatDoor
