/- PaperMany (3): the walk. Conditions: none. -/
import Derived.Test.YtpfbgoogajgciaaDoorPM
import Derived.Test.YtpfbgoogajgciaaDoorK1
import Derived.IntWalk
import Derived.Lib.SmallJoins
set_option linter.unusedSimpArgs false
set_option linter.unusedVariables false
namespace Go.Proofs.YtpfbgoogajgciaaDoor
open Go.RowKit Go.Shelf

theorem fldR_own {w : World} {B T n cp : Nat} {A : Option Addr} {l : List Value} (h : w.ownsRow B T 1 (.slice A n cp) n l) : FldR w (.slice A n cp) l :=
  ⟨A, n, cp, rfl, by have := h.1; omega, own_cap h, Reads.of_own h⟩
set_option maxRecDepth 100000 in
set_option maxHeartbeats 3200000 in
theorem PaperMany_in (nb one : Int) (w : World) (hE : Env w) (hn : 0 ≤ nb ∧ nb ≤ 255) (h1 : -9223372036854775808 ≤ one ∧ one ≤ 9223372036854775807) :
    Calls Tryd.prog 3 #[.int .u8 nb, .int .i64 one] w fun e w' => e = .returned (.bool true) ∧ Below w.heap.size w w' := by
  obtain ⟨hn0, hn1⟩ := hn
  obtain ⟨m, hm, hm0, hm1⟩ : ∃ m : Nat, 998 + nb % 5 = (m : Int) ∧ 998 ≤ m ∧ m ≤ 1002 := ⟨998 + (nb % 5).toNat, by omega, by omega, by omega⟩
  have HR : Hid (∀ k, ∀ x ∈ List.replicate k one, -9223372036854775808 ≤ x ∧ x ≤ 9223372036854775807) := Lib.hid (fun k x hx => by rw [List.eq_of_mem_replicate hx]; exact h1)
  obtain ⟨i0, hi, hz0, hz1, hz2⟩ := info_parts info2
  have HT := Lib.hid (fun W => rText_in one h1.1 h1.2 W)
  obtain ⟨Z, hZ⟩ : ∃ Z : ByteArray, strV (Lib.itoa one) = .string Z := ⟨_, rfl⟩
  rw [hZ] at HT
  have hZs : Z.size ≤ 21 := by
    have h := many_len [one] (by intro x hx; rw [List.mem_singleton.1 hx]; exact h1)
    have e := many_snoc [] one
    rw [List.nil_append, many_nil] at e
    rw [e] at h
    simp only [List.length_append, List.length_cons, List.length_nil] at h
    unfold strV at hZ
    injection hZ with hZ
    rw [← hZ]
    show (Lib.itoa one).toArray.size ≤ 21
    simp
    omega
  have HZ := Lib.hid hZ
  have H1 := Lib.hid h1
  clear hZ h1
  go_enter Tryd.func3, Tryd.ntmps3
  go_wp2_with fail
  go_loopw [6, 7, 8] (fun v sv i wr => ∃ (k : Nat) (X : ByteArray), k ≤ m ∧ i = .int .i64 k ∧ sv = .string X ∧ Hid (X.data.toList = manyL (List.replicate k one)) ∧ X.size ≤ 9 + 22 * k ∧ wr.ownsRow w.heap.size 2 1 v k ((List.replicate k one).map I) ∧ Below w.heap.size w wr) (fun _ _ i _ => m - (intOf i).toNat)
  case atStart => exact ⟨0, _, Nat.zero_le _, rfl, rfl, Lib.hid (by rw [List.replicate_zero, many_nil]), by decide, World.ownsRow_nil _ _ _ _, Below.refl _ _⟩
  case round =>
    obtain ⟨k, X, hk, rfl, rfl, HX, hXs, hown, hbw⟩ := hrel
    have hsz := hbw.size
    by_cases hlt : k < m
    · have x1 : ¬ 9223372036854775807 < X.size + 1 := by omega
      have x2 : ¬ 9223372036854775807 < X.size + 1 + Z.size := by omega
      go_wp2_with (at_builtin; refine wpList_append_own _ rfl _ _ 22 rfl w.heap.size 2 i0 (.int .i64 0) 1 8 Tryd.underlying22 hi hz0 hz1 hz2 rfl (by decide) _ _ _ rfl (hown.alloc _) ⟨wr.heap.size, 0, none⟩ 1 1 [.int .i64 one] rfl rfl ?c1 ?c2 ?c3 ?c4 ?c5 ?_)
      case c1 => exact cell_one_new _ _ _
      case c2 => simp [Value.oneCell']
      case c3 => unfold maxLen; omega
      case c4 => omega
      case c5 => simp; omega
      intro v' w1 hown' hgrow _
      have hb1 : Below w.heap.size w w1 := (hbw.alloc hsz _).grown hgrow (by simp; omega) (fun j hj => (hown.lt j hj).1)
      go_wp2_with fail
      refine (HT.out _).mono ?_
      rintro e w2 ⟨rfl, q, rfl⟩
      go_wp2_with fail
      go_roundw
      case rel =>
        refine ⟨k + 1, X ++ ⟨#[32]⟩ ++ Z, by omega, by go_num, rfl, Lib.hid ?_, ?_, ?_, hb1.trans ⟨rfl, rfl, rfl, Nat.le_refl _, fun _ _ => rfl⟩⟩
        · have hz : Z.data.toList = Lib.itoa one := by
            have := HZ.out
            unfold strV at this
            injection this with this
            rw [← this]
          rw [List.replicate_succ', many_snoc, ← HX.out, ← hz]
          rw [Go.Joins.data_append, Go.Joins.data_append]
        · rw [ByteArray.size_append, ByteArray.size_append]
          show X.size + 1 + Z.size ≤ _
          omega
        · rw [List.replicate_succ', List.map_append, List.map_replicate]; exact hown'
      case measure => simp [intOf]; omega
    · obtain rfl : k = m := by omega
      obtain ⟨A, cp, rfl⟩ := own_form hown
      have hl : (List.replicate k one).length = k := List.length_replicate
      have hC : CertR wr ⟨1, List.replicate k one, [], [], []⟩ (.slice A k cp) (.slice none 0 0) (.slice none 0 0) (.slice none 0 0) := ⟨fldR_own hown, FldR.nil, FldR.nil, FldR.nil⟩
      have HP := Lib.hid (Print_in ⟨1, List.replicate k one, [], [], []⟩ _ _ _ _ wr (hE.on hbw) hC ⟨HR.out k, by simp, by simp, by simp⟩ (by simp; omega) (by simp) (by simp) (by simp))
      have e1 := print_many (List.replicate k one) (HR.out k) (by rw [hl]; omega)
      rw [hl] at e1
      rw [e1] at HP
      obtain ⟨T0, hT0⟩ : ∃ T0, strV (printL ⟨1, List.replicate k one, [], [], []⟩).1 = .string T0 := ⟨_, rfl⟩
      rw [hT0] at HP
      simp only at HP
      have hq : (X ++ ⟨#[10, 112, 111, 116, 10]⟩).size ≤ 60000 := by rw [ByteArray.size_append]; show X.size + 5 ≤ _; omega
      have HQ := Lib.hid (fun W (hb : Below w.heap.size w W) => Parse_in (X ++ ⟨#[10, 112, 111, 116, 10]⟩) hq W (hE.on hb))
      have e2 : parseL (X ++ ⟨#[10, 112, 111, 116, 10]⟩).data.toList = if 1000 < k then (cert0, 20, 2) else (⟨1, List.replicate k one, [], [], []⟩, 0, 0) := by
        rw [Go.Joins.data_append, HX.out]
        have := parse_many (List.replicate k one) (HR.out k) (by rw [hl]; omega)
        rw [hl] at this
        exact this
      rw [e2] at HQ
      have x1 : ¬ 9223372036854775807 < X.size + 5 := by omega
      clear e1 e2 hT0 hl hC hq HX HR HT HZ
      by_cases hbig : 1000 < k
      · have hb' : (1000 : Int) < (k : Int) := by omega
        rw [if_pos hbig] at HP HQ
        simp only [cert0] at HQ
        go_wp2_with fail
        refine HP.out.mono ?_
        rintro e w1 ⟨rfl, hb1⟩
        have hb1' := hbw.trans (hb1.mono hbw.size)
        go_wp2_with fail
        refine (HQ.out _ hb1').mono ?_
        rintro e w2 ⟨u1, u2, u3, u4, rfl, hB, hb2⟩
        have hb2' := hb1'.trans (hb2.mono hb1'.size)
        obtain ⟨A1, c1, rfl, -, -⟩ := hB.flow.open_
        obtain ⟨A2, c2, rfl, -, -⟩ := hB.pot.open_
        obtain ⟨A3, c3, rfl, -, -⟩ := hB.side.open_
        obtain ⟨A4, c4, rfl, -, -⟩ := hB.cycle.open_
        have hb3 := fun o => hb2'.alloc hb2'.size o
        have HB3 := Lib.hid hb3
        clear hb3 hB
        go_wp2_with fail
        refine (pknown_in _ (hE.on (HB3.out _))).mono ?_
        rintro e w3 ⟨rfl, hb4⟩
        go_wp2_with fail
        go_ret
        exact ⟨rfl, (HB3.out _).trans (hb4.mono (HB3.out _).size)⟩
      · have hb' : ¬ (1000 : Int) < (k : Int) := by omega
        rw [if_neg hbig] at HP HQ
        simp only at HQ
        go_wp2_with fail
        refine HP.out.mono ?_
        rintro e w1 ⟨rfl, hb1⟩
        have hb1' := hbw.trans (hb1.mono hbw.size)
        go_wp2_with fail
        refine (HQ.out _ hb1').mono ?_
        rintro e w2 ⟨u1, u2, u3, u4, rfl, hB, hb2⟩
        have hb2' := hb1'.trans (hb2.mono hb1'.size)
        obtain ⟨A1, c1, rfl, -, -⟩ := hB.flow.open_
        obtain ⟨A2, c2, rfl, -, -⟩ := hB.pot.open_
        obtain ⟨A3, c3, rfl, -, -⟩ := hB.side.open_
        obtain ⟨A4, c4, rfl, -, -⟩ := hB.cycle.open_
        have hb3 := fun o => hb2'.alloc hb2'.size o
        have HB3 := Lib.hid hb3
        clear hb3 hB
        go_wp2_with fail
        refine (pknown_in _ (hE.on (HB3.out _))).mono ?_
        rintro e w3 ⟨rfl, hb4⟩
        go_wp2_with fail
        go_ret
        exact ⟨rfl, (HB3.out _).trans (hb4.mono (HB3.out _).size)⟩
end Go.Proofs.YtpfbgoogajgciaaDoor
