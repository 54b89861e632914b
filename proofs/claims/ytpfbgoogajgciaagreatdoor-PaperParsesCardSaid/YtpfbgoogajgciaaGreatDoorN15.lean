/- again (15). Conditions: none. -/
import Derived.Test.YtpfbgoogajgciaaGreatDoorP1
import Derived.Test.YtpfbgoogajgciaaGreatDoorN12
import Derived.Test.YtpfbgoogajgciaaGreatDoorP4
set_option linter.unusedSimpArgs false
set_option linter.unusedVariables false
namespace Go.Proofs.YtpfbgoogajgciaaGreatDoor
open Go.RowKit Go.Shelf

theorem go_wrong (fs : List Fld) : ∀ (c : CertV) (k : Nat) (ts : List (List UInt8)), (goL fs c k ts).2.1 ≠ 0 → (goL fs c k ts).1 = cert0 ∧ 0 ≤ (goL fs c k ts).2.2 ∧ (goL fs c k ts).2.2 ≤ (k : Int) + 1 + ts.length := by
  induction fs with
  | nil =>
    intro c k ts h
    cases ts with
    | nil => simp [goL] at h
    | cons t ts => simp [goL]; omega
  | cons f fs ih =>
    intro c k ts h
    cases ts with
    | nil => simp [goL]; omega
    | cons t ts =>
      simp only [goL] at h ⊢
      by_cases h1 : (listL f.turn f.name (cutL 32 t)).2 ≠ 0
      · rw [if_pos h1]; simp; omega
      · rw [if_neg h1] at h ⊢
        have := ih _ _ _ h
        simp only [List.length_cons] at this ⊢
        refine ⟨this.1, this.2.1, ?_⟩
        have := this.2.2
        omega
theorem parse_wrong (s : List UInt8) (hs : s.length ≤ 60000) (h : (parseL s).2.1 ≠ 0) : (parseL s).1 = cert0 ∧ 0 ≤ (parseL s).2.2 ∧ (parseL s).2.2 ≤ (linesL s).length := by
  unfold parseL at h ⊢
  rw [if_neg (by omega)] at h ⊢
  cases hL : linesL s with
  | nil => simp [parseT]
  | cons t ts =>
    rw [hL] at h
    simp only [parseT] at h ⊢
    cases hw : wantF t with
    | none => simp; omega
    | some p =>
      obtain ⟨k, fs⟩ := p
      rw [hw] at h
      have := go_wrong fs _ _ _ h
      refine ⟨this.1, this.2.1, ?_⟩
      have := this.2.2
      simp only [List.length_cons]
      omega

set_option maxHeartbeats 1600000 in
theorem again_in (s : ByteArray) (hsz : s.size ≤ 1000) (w : World) (hE : Env w) :
    Calls Tryz.prog 15 #[.string s] w fun e w' => e = .returned (.bool true) ∧ Below w.heap.size w w' := by
  have HQ := Lib.hid (fun W (hb : Below w.heap.size w W) => Parse_in s (by omega) W (hE.on hb))
  have HT := Lib.hid (told_back s.data.toList (by show s.size < 60000; omega))
  have HW := Lib.hid (parse_wrong s.data.toList (by show s.size ≤ 60000; omega))
  have HF := Lib.hid (lines_flat s.data.toList)
  generalize hP : parseL s.data.toList = P at HQ HT HW
  obtain ⟨c, e1, at1⟩ := P
  simp only at HQ HT HW
  clear hP
  go_enter Tryz.func15, Tryz.ntmps15
  go_wp2_with fail
  refine (HQ.out _ (Below.refl _ w)).mono ?_
  rintro e w2 ⟨u1, u2, u3, u4, rfl, hB, hb2⟩
  simp only at hB ⊢
  obtain ⟨A1, c1, rfl, -, -⟩ := hB.flow.open_
  obtain ⟨A2, c2, rfl, -, -⟩ := hB.pot.open_
  obtain ⟨A3, c3, rfl, -, -⟩ := hB.side.open_
  obtain ⟨A4, c4, rfl, -, -⟩ := hB.cycle.open_
  have hb4 : Below w2.heap.size w2 (w2.alloc (.cells #[.int .i64 c.kind, .slice A1 c.flow.length c1, .slice A2 c.pot.length c2, .slice A3 c.side.length c3, .slice A4 c.cycle.length c4] 32)) := (Below.refl _ w2).alloc (Nat.le_refl _) _
  have hb5 := hb2.trans (hb4.mono hb2.size)
  obtain ⟨⟨q0, q1, q2, q3, q4⟩, -⟩ := (Blk.new w2 32 #[.int .i64 c.kind, .slice A1 c.flow.length c1, .slice A2 c.pot.length c2, .slice A3 c.side.length c3, .slice A4 c.cycle.length c4]).five
  by_cases hz : e1 = 0
  · subst hz
    obtain ⟨hO, n1, n2, n3, n4, hpr⟩ := HT.out rfl
    go_wp2_with fail
    refine (Print_in c _ _ _ _ _ (hE.on hb5) (hB.below hb4) hO (by omega) (by omega) (by omega) (by omega)).mono ?_
    rintro e w5 ⟨rfl, hb6⟩
    rw [hpr]
    have hb7 := hb5.trans (hb6.mono hb5.size)
    rcases HF.out with hf | ⟨hf, -, -⟩
    · have e : strV (flatL 10 (linesL s.data.toList), (0 : Int)).1 = .string s := by show strV (flatL 10 (linesL s.data.toList)) = _; rw [hf, strV_data]
      rw [e]
      go_wp2
      go_ret
      exact ⟨rfl, hb7⟩
    · have e : strV (flatL 10 (linesL s.data.toList), (0 : Int)).1 = .string (s ++ ⟨#[10]⟩) := by
        show strV (flatL 10 (linesL s.data.toList)) = _
        rw [hf, ← strV_data]; congr 1
      have hne : s ++ ⟨#[10]⟩ ≠ s := by
        intro h; have := congrArg ByteArray.size h; rw [ByteArray.size_append, show (⟨#[10]⟩ : ByteArray).size = 1 from rfl] at this; omega
      rw [e]
      go_wp2
      all_goals
        go_ret
        exact ⟨rfl, hb7⟩
  · obtain ⟨rfl, ha0, ha1⟩ := HW.out hz
    clear HT HF HW
    have hl : (linesL s.data.toList).length ≤ 1001 := Nat.le_trans (lines_many _) (by show s.size + 1 ≤ 1001; omega)
    go_wp2_with fail
    refine (Same_eq cert0 _ _ _ _ _ _ _ _ _ (hB.below hb4) (cert0R _) (by simp [cert0]) (by simp [cert0]) (by simp [cert0]) (by simp [cert0]) (by simp [cert0])).mono ?_
    rintro e w5 ⟨rfl, hb6⟩
    have hb7 := hb5.trans (hb6.mono hb5.size)
    have HQ2 := Lib.hid (And.intro ha0 ha1)
    clear ha0 ha1
    go_wp2_with fail
    refine (rLines_in s (by omega) _).mono ?_
    rintro e w6 ⟨A, n, cp, rfl, hn, -, -, hb8⟩
    have hb9 := hb7.trans (hb8.mono hb7.size)
    have ha := HQ2.out
    have ha2 : at1 ≤ (n : Int) := by omega
    have ha3 : decide (at1 ≤ (n : Int)) = true := decide_eq_true ha2
    clear HQ2 ha hn ha2
    go_wp2_with fail
    go_ret
    exact ⟨rfl, hb9⟩
end Go.Proofs.YtpfbgoogajgciaaGreatDoor
