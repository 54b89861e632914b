/- Words for memory: slices and blocks, as in the seat for reach. Conditions: none. -/
import Derived.Test.YtoagphighgejnaaGreatDoorBase
import Derived.Lib.ParseIntBCases
import Derived.Lib.SplitLaws
import Derived.Lib.IndexBytes
import Derived.Lib.Join
import Derived.Deep.AppendLies
import Derived.Deep.Draws
import Derived.Laws.Rows
set_option linter.unusedSimpArgs false
set_option linter.unusedVariables false
namespace Go.Proofs.YtoagphighgejnaaGreatDoor
open Go.RowKit Go.Shelf

def isDig (b : UInt8) : Bool := decide (48 ≤ b.toNat ∧ b.toNat ≤ 57)
/-- Digits, at least one, the first no nought. -/
def digsL (d : List UInt8) : Bool := decide (d ≠ []) && (d.all isDig && decide (d.head? ≠ some 48))
def formL (l : List UInt8) : Bool := decide (l = [48]) || digsL (Lib.trimPrefix l [45])

theorem digsL_no {d : List UInt8} {p : Nat} {b : UInt8} (h : d[p]? = some b) (hb : isDig b = false ∨ (p = 0 ∧ b = 48)) : digsL d = false := by
  unfold digsL
  rcases hb with hb | ⟨rfl, rfl⟩
  · have : d.all isDig = false := by
      rw [List.all_eq_false]
      exact ⟨b, List.mem_of_getElem? h, by simp [hb]⟩
    simp [this]
  · have : d.head? = some 48 := by rw [List.head?_eq_getElem?]; exact h
    simp [this]

theorem digsL_all {d : List UInt8} (h : ∀ (i : Nat) b, d[i]? = some b → isDig b = true) (h0 : ∀ b, d[0]? = some b → b ≠ 48) : digsL d = decide (d ≠ []) := by
  unfold digsL
  have h1 : d.all isDig = true := by
    rw [List.all_eq_true]
    intro b hb
    obtain ⟨i, hi⟩ := List.getElem?_of_mem hb
    exact h i b hi
  have h2 : d.head? ≠ some 48 := by
    rw [List.head?_eq_getElem?]
    intro e
    exact h0 48 e rfl
  simp [h1, h2]

theorem bs_eq_iff (s : ByteArray) (l : List UInt8) : s = ⟨l.toArray⟩ ↔ s.data.toList = l := by
  constructor
  · rintro rfl; rfl
  · intro h
    cases s
    simp only at h
    subst h
    simp

set_option maxHeartbeats 1600000 in
set_option maxRecDepth 100000 in
theorem formed_in (s : ByteArray) (w : World) :
    Calls Tryz.prog 101 #[.string s] w fun e w' => e = .returned (.bool (formL s.data.toList)) ∧ Below w.heap.size w w' := by
  by_cases hz : s = ⟨#[48]⟩
  · subst hz
    go_enter Tryz.func101, Tryz.ntmps101
    go_wp2
    go_ret
    exact ⟨rfl, Below.refl _ w⟩
  · have hform : formL s.data.toList = digsL (Lib.trimPrefix s.data.toList [45]) := by
      unfold formL
      have : s.data.toList ≠ [48] := fun e => hz ((bs_eq_iff s [48]).2 e)
      simp [this]
    rw [hform]
    have hne : (s.toList == [48]) = false := by
      rw [Lib.toList_data, beq_eq_false_iff_ne]
      exact fun e => hz ((bs_eq_iff s [48]).2 e)
    clear hz
    obtain ⟨d, hd⟩ : ∃ d : ByteArray, d = ⟨(Lib.trimPrefix s.data.toList [45]).toArray⟩ := ⟨_, rfl⟩
    have hdl : Lib.trimPrefix s.data.toList [45] = d.data.toList := by rw [hd]
    rw [hdl]
    have HD := Lib.hid hdl; clear hdl hd
    have hk0 : (w.iter d 0).heap[w.heap.size]? = some (.stringIter d 0) := World.iter_heap w d 0
    have hb0 : Below w.heap.size w (w.iter d 0) := (Below.refl _ w).alloc (Nat.le_refl _) _
    have hget : ∀ (p : Nat) (hp : p < d.size), d.data.toList[p]? = some (d[p]'hp) := by
      intro p hp
      have h1 : p < d.data.size := hp
      rw [Array.getElem?_toList, Array.getElem?_eq_getElem h1]
      rfl
    have hlen : d.data.toList.length = d.size := rfl
    go_enter Tryz.func101, Tryz.ntmps101
    go_wp2_with (go_at_call 111; refine (Tryz.strings_TrimPrefix s ⟨#[45]⟩ w).mono ?_; rintro e w' ⟨rfl, h2⟩; obtain rfl := h2.symm; rw [HD.out])
    go_loopw [4] (fun _ wr => ∃ pos : Nat, pos ≤ d.size ∧ wr.heap[w.heap.size]? = some (.stringIter d pos) ∧ Below w.heap.size w wr ∧
        (∀ (i : Nat) b, i < pos → d.data.toList[i]? = some b → isDig b = true) ∧ (∀ b, 0 < pos → d.data.toList[0]? = some b → b ≠ 48))
      (fun _ wr => d.size - wr.iterPos w.heap.size)
    case atStart => exact ⟨0, Nat.zero_le _, hk0, hb0, fun i b hi => by omega, fun b hi => by omega⟩
    case round =>
      obtain ⟨pos, hps, hk, hnx, hall, hfst⟩ := hrel
      clear hk0 hb0
      have hmu : wr.iterPos w.heap.size = pos := by simp [World.iterPos, hk]
      have HA := Lib.hid hall; have HF := Lib.hid hfst
      clear hall hfst
      by_cases hp : pos < d.size
      · have hg := hget pos hp
        by_cases h128 : (d[pos]'hp).toNat < 128
        · have hnext : ∀ ty, (Instr.next (.pointer (some ⟨w.heap.size, 0, none⟩)) true ty).run Tryz.prog wr = _ := fun ty => Lib.run_next_ascii_at wr w.heap.size d pos ty hk hp h128
          have hk1 := Lib.iterAt_heap wr w.heap.size d pos (pos + 1) hk
          have hnx1 : Below w.heap.size w (wr.iterAt w.heap.size d (pos + 1)) := Lib.below_iterAt hnx (Nat.le_refl _) d (pos + 1)
          generalize wr.iterAt w.heap.size d (pos + 1) = W1 at hnext hk1 hnx1
          generalize (d[pos]'hp) = b at hnext hg h128
          by_cases hlo : (b.toNat : Int) < 48
          · have HE := Lib.hid (digsL_no hg (.inl (by simp [isDig]; omega)))
            clear hget hg
            go_wp2
            go_ret
            exact ⟨by rw [HE.out]; rfl, hnx1⟩
          · by_cases hhi : (57 : Int) < b.toNat
            · have HE := Lib.hid (digsL_no hg (.inl (by simp [isDig]; omega)))
              clear hget hg
              go_wp2
              go_ret
              exact ⟨by rw [HE.out]; rfl, hnx1⟩
            · have hdig : isDig b = true := by simp [isDig]; omega
              by_cases hz0 : pos = 0
              · subst hz0
                by_cases h48 : (b.toNat : Int) = 48
                · have HE := Lib.hid (digsL_no hg (.inr ⟨rfl, UInt8.toNat_inj.1 (by show b.toNat = 48; omega)⟩))
                  clear hget hg
                  go_wp2
                  go_ret
                  exact ⟨by rw [HE.out]; rfl, hnx1⟩
                · have HG := Lib.hid hg
                  clear hget hg
                  go_wp2
                  go_roundw
                  case rel =>
                    refine ⟨1, by omega, hk1, hnx1, ?_, ?_⟩
                    · intro i x hi hx
                      obtain rfl : i = 0 := by omega
                      rw [HG.out] at hx; cases hx; exact hdig
                    · intro x _ hx e
                      rw [HG.out] at hx; cases hx; subst e; exact h48 rfl
                  case measure =>
                    have hmu2 : W1.iterPos w.heap.size = 1 := by simp [World.iterPos, hk1]
                    rw [hmu, hmu2]; omega
              · have hz1 : ¬ (pos : Int) = 0 := by omega
                have HG := Lib.hid hg
                clear hget hg
                go_wp2
                go_roundw
                case rel =>
                  refine ⟨pos + 1, by omega, hk1, hnx1, ?_, ?_⟩
                  · intro i x hi hx
                    by_cases he : i = pos
                    · subst he; rw [HG.out] at hx; cases hx; exact hdig
                    · exact HA.out i x (by omega) hx
                  · intro x _ hx
                    exact HF.out x (by omega) hx
                case measure =>
                  have hmu2 : W1.iterPos w.heap.size = pos + 1 := by simp [World.iterPos, hk1]
                  rw [hmu, hmu2]; omega
        · obtain ⟨hd1, hd2⟩ := decode_high d pos hp (by omega)
          have hnext : ∀ ty, (Instr.next (.pointer (some ⟨w.heap.size, 0, none⟩)) true ty).run Tryz.prog wr = _ := fun ty => Lib.run_next_any_at wr w.heap.size d pos ty hk hp
          have hnx1 : Below w.heap.size w (wr.iterAt w.heap.size d (pos + (Utf8.decode d pos).2)) := Lib.below_iterAt hnx (Nat.le_refl _) d _
          generalize wr.iterAt w.heap.size d (pos + (Utf8.decode d pos).2) = W1 at hnext hnx1
          have HE := Lib.hid (digsL_no hg (.inl (by simp [isDig]; omega)))
          generalize (Utf8.decode d pos).1 = r at hnext hd1
          have hlo : ¬ (r : Int) < 48 := by omega
          have hhi : (57 : Int) < r := by omega
          clear hget hg h128
          go_wp2
          go_ret
          exact ⟨by rw [HE.out]; rfl, hnx1⟩
      · have hnext : ∀ ty, (Instr.next (.pointer (some ⟨w.heap.size, 0, none⟩)) true ty).run Tryz.prog wr = _ := fun ty => Lib.run_next_end_at wr w.heap.size d pos ty hk hp
        have he : digsL d.data.toList = decide (d.data.toList ≠ []) := digsL_all (fun i b hb => HA.out i b (by have := (List.getElem?_eq_some_iff.1 hb).1; omega) hb) (fun b hb => HF.out b (by have := (List.getElem?_eq_some_iff.1 hb).1; omega) hb)
        have HE := Lib.hid he
        clear he hget
        go_wp2
        go_ret
        refine ⟨?_, hnx⟩
        rw [HE.out]
        show Ending.returned (Value.bool (!(d.toList.isEmpty))) = _
        rw [Lib.toList_data]
        cases d.data.toList <;> simp

def decFrom (a : Nat) (l : List UInt8) : Nat := l.foldl (fun a b => a * 10 + (b.toNat - 48)) a
def decL (l : List UInt8) : Nat := decFrom 0 l
/-- The number that a word of the form spells. -/
def valL : List UInt8 → Int
  | [] => 0
  | b :: l => if b = 45 then -(decL l : Int) else decL (b :: l)
/-- What Number tells: the number, and the error. -/
def numL (l : List UInt8) : Int × Int :=
  if formL l = false then (0, 10) else if -9223372036854775808 ≤ valL l ∧ valL l ≤ 9223372036854775807 then (valL l, 0) else (0, 11)

theorem decFrom_nil (a : Nat) : decFrom a [] = a := rfl
theorem decFrom_cons (a : Nat) (b : UInt8) (l : List UInt8) : decFrom a (b :: l) = decFrom (a * 10 + (b.toNat - 48)) l := by unfold decFrom; rw [List.foldl_cons]

theorem decFrom_ge (l : List UInt8) : ∀ (a : Nat), a ≤ decFrom a l := by
  induction l with
  | nil => intro a; rw [decFrom_nil]; exact Nat.le_refl _
  | cons b l ih =>
    intro a
    rw [decFrom_cons]
    exact Nat.le_trans (by omega) (ih _)

theorem parseUintM_digs (l : List UInt8) : ∀ (a : Nat), l.all isDig = true → a ≤ 18446744073709551615 →
    Lib.parseUintM 18446744073709551615 a l = if decFrom a l ≤ 18446744073709551615 then .ok (decFrom a l) else .range := by
  induction l with
  | nil => intro a _ h; rw [decFrom_nil, if_pos h, Lib.parseUintM]
  | cons b l ih =>
    intro a hd h
    simp only [List.all_cons, Bool.and_eq_true] at hd
    have hb : 48 ≤ b.toNat ∧ b.toNat ≤ 57 := of_decide_eq_true hd.1
    have hge := decFrom_ge l (a * 10 + (b.toNat - 48))
    rw [Lib.parseUintM, if_pos hb, decFrom_cons]
    by_cases h1 : 1844674407370955162 ≤ a
    · rw [if_pos h1, if_neg (by omega)]
    · rw [if_neg h1]
      by_cases h2 : 18446744073709551615 < a * 10 + (b.toNat - 48)
      · rw [if_pos h2, if_neg (by omega)]
      · rw [if_neg h2]
        exact ih _ hd.2 (by omega)

theorem parseUintB_digs (l : List UInt8) (hne : l ≠ []) (hd : l.all isDig = true) :
    Lib.parseUintB 64 l = if decL l ≤ 18446744073709551615 then .ok (decL l) else .range := by
  unfold Lib.parseUintB
  rw [if_neg hne]
  exact parseUintM_digs l 0 hd (by omega)

theorem digsL_parts {d : List UInt8} (h : digsL d = true) : d ≠ [] ∧ d.all isDig = true ∧ d.head? ≠ some 48 := by
  unfold digsL at h
  simp only [Bool.and_eq_true, decide_eq_true_eq] at h
  exact h

theorem trim_minus (l : List UInt8) : Lib.trimPrefix (45 :: l) [45] = l := by
  simp [Lib.trimPrefix, Lib.hasPrefix, List.isPrefixOf]
theorem trim_other (b : UInt8) (l : List UInt8) (h : b ≠ 45) : Lib.trimPrefix (b :: l) [45] = b :: l := by
  have : ([45] : List UInt8).isPrefixOf (b :: l) = false := by simp [List.isPrefixOf, Ne.symm h]
  simp [Lib.trimPrefix, Lib.hasPrefix, this]

/-- A word of the form: nought; or a minus sign and digits; or digits. -/
theorem formL_cases {l : List UInt8} (h : formL l = true) :
    l = [48] ∨ (∃ d, l = 45 :: d ∧ digsL d = true) ∨ (digsL l = true ∧ ∀ b r, l = b :: r → b ≠ 45) := by
  unfold formL at h
  rw [Bool.or_eq_true] at h
  rcases h with h | h
  · exact .inl (of_decide_eq_true h)
  · cases l with
    | nil => simp [Lib.trimPrefix, Lib.hasPrefix, List.isPrefixOf, digsL] at h
    | cons b r =>
      by_cases hb : b = 45
      · subst hb
        rw [trim_minus] at h
        exact .inr (.inl ⟨r, rfl, h⟩)
      · rw [trim_other b r hb] at h
        exact .inr (.inr ⟨h, fun b' r' e => by cases e; exact hb⟩)

theorem parse_form {l : List UInt8} (h : formL l = true) :
    Lib.parseIntB 64 l = if -9223372036854775808 ≤ valL l ∧ valL l ≤ 9223372036854775807 then .ok (valL l) else .range := by
  have hpos : ∀ (b : UInt8) (r : List UInt8), b ≠ 45 → (b :: r).all isDig = true → Lib.parseIntB 64 (b :: r) = if -9223372036854775808 ≤ valL (b :: r) ∧ valL (b :: r) ≤ 9223372036854775807 then .ok (valL (b :: r)) else .range := by
    intro b r hb hd
    have hbd : isDig b = true := by simp only [List.all_cons, Bool.and_eq_true] at hd; exact hd.1
    have hb' : 48 ≤ b.toNat ∧ b.toNat ≤ 57 := of_decide_eq_true hbd
    rw [Lib.parseIntB_plain 64 b r (by omega) (by omega), parseUintB_digs (b :: r) (by simp) hd]
    have hv : valL (b :: r) = (decL (b :: r) : Int) := by simp [valL, hb]
    rw [hv]
    generalize decL (b :: r) = n
    by_cases h1 : n ≤ 18446744073709551615
    · rw [if_pos h1]
      show Lib.signlessC 9223372036854775808 (.ok n) = _
      unfold Lib.signlessC
      by_cases h2 : 9223372036854775808 ≤ n
      · rw [if_neg (by omega)]; simp [h2]
      · rw [if_pos (by omega)]; simp [h2]
    · rw [if_neg h1, if_neg (by omega)]; rfl
  rcases formL_cases h with rfl | ⟨d, rfl, hd⟩ | ⟨hd, hb⟩
  · exact hpos 48 [] (by decide) (by decide)
  · obtain ⟨h1, h2, _⟩ := digsL_parts hd
    rw [Lib.parseIntB_minus, parseUintB_digs d h1 h2]
    have hv : valL (45 :: d) = -(decL d : Int) := by simp [valL]
    rw [hv]
    generalize decL d = n
    by_cases h3 : n ≤ 18446744073709551615
    · rw [if_pos h3]
      show Lib.signedC 9223372036854775808 (.ok n) = _
      unfold Lib.signedC
      by_cases h4 : 9223372036854775808 < n
      · rw [if_neg (by omega)]; simp [h4]
      · rw [if_pos (by omega)]; simp [h4]
    · rw [if_neg h3, if_neg (by omega)]; rfl
  · obtain ⟨h1, h2, _⟩ := digsL_parts hd
    cases l with
    | nil => exact absurd rfl h1
    | cons b r => exact hpos b r (hb b r rfl) h2

theorem numL_no {l : List UInt8} (h : formL l = false) : numL l = (0, 10) := by unfold numL; rw [if_pos h]
theorem numL_ok {l : List UInt8} (h : formL l = true) (h1 : -9223372036854775808 ≤ valL l ∧ valL l ≤ 9223372036854775807) : numL l = (valL l, 0) := by
  unfold numL; rw [if_neg (by simp [h]), if_pos h1]
theorem numL_big {l : List UInt8} (h : formL l = true) (h1 : ¬ (-9223372036854775808 ≤ valL l ∧ valL l ≤ 9223372036854775807)) : numL l = (0, 11) := by
  unfold numL; rw [if_neg (by simp [h]), if_neg h1]

set_option maxHeartbeats 1600000 in
theorem Number_in (s : ByteArray) (hlim : s.size ≤ 281474976710656) (w : World) (hE : Env w) :
    Calls Tryz.prog 88 #[.string s] w fun e w' => e = .returned (.tuple #[.int .i64 (numL s.data.toList).1, .int .u16 (numL s.data.toList).2]) ∧ Below w.heap.size w w' := by
  by_cases hf : formL s.data.toList = true
  · by_cases hr : -9223372036854775808 ≤ valL s.data.toList ∧ valL s.data.toList ≤ 9223372036854775807
    · have hp : Lib.parseIntB 64 s.data.toList = .ok (valL s.data.toList) := by rw [parse_form hf, if_pos hr]
      have HN := Lib.hid (numL_ok hf hr)
      go_enter Tryz.func88, Tryz.ntmps88
      go_wp2_with fail
      refine (formed_in s w).mono ?_
      rintro e w1 ⟨rfl, hb1⟩
      rw [hf]
      have HP := Lib.hid hp
      clear hf hr hp
      go_wp2_with fail
      refine (Tryz.strconv_ParseInt_10_at64_ok s (by omega) _ HP.out w1).mono ?_
      rintro e w2 ⟨rfl, h2⟩
      have hb2 : Below w1.heap.size w1 w2 := by
        rcases h2 with rfl | ⟨t, rfl⟩
        · exact Below.refl _ _
        · exact Lib.bytesWorld_below w1 5 t
      clear h2
      go_wp2_with fail
      refine bodyPost_ret (v := .tuple #[.int .i64 (numL s.data.toList).1, .int .u16 (numL s.data.toList).2]) ?_ rfl ⟨rfl, hb1.trans (hb2.mono hb1.size)⟩
      rw [HN.out]
      simp [results, Tryz.results88, go_sem]
    · have hp : Lib.parseIntB 64 s.data.toList = .range := by rw [parse_form hf, if_neg hr]
      have HN := Lib.hid (numL_big hf hr)
      obtain ⟨tp, p, hvar⟩ := hE.err
      go_enter Tryz.func88, Tryz.ntmps88
      go_wp2_with fail
      refine (formed_in s w).mono ?_
      rintro e w1 ⟨rfl, hb1⟩
      rw [hf]
      have HP := Lib.hid hp
      have HV := Lib.hid (var?_below hb1 gErr (by have := hE.size; omega) hvar)
      clear hf hr hp hvar
      go_wp2_with fail
      refine (Tryz.strconv_ParseInt_10_at64_range_var s hlim HP.out tp p w1 HV.out).mono ?_
      rintro e w2 ⟨N, rfl, _, _, hb2⟩
      go_wp2_with fail
      refine bodyPost_ret (v := .tuple #[.int .i64 (numL s.data.toList).1, .int .u16 (numL s.data.toList).2]) ?_ rfl ⟨rfl, hb1.trans (hb2.mono hb1.size)⟩
      rw [HN.out]
      simp [results, Tryz.results88, go_sem]
  · have hf' : formL s.data.toList = false := by simpa using hf
    have HN := Lib.hid (numL_no hf')
    go_enter Tryz.func88, Tryz.ntmps88
    go_wp2_with fail
    refine (formed_in s w).mono ?_
    rintro e w1 ⟨rfl, hb1⟩
    rw [hf']
    clear hf hf'
    go_wp2_with fail
    refine bodyPost_ret (v := .tuple #[.int .i64 (numL s.data.toList).1, .int .u16 (numL s.data.toList).2]) ?_ rfl ⟨rfl, hb1⟩
    rw [HN.out]
    simp [results, Tryz.results88, go_sem]

def consHead (b : UInt8) : List (List UInt8) → List (List UInt8)
  | [] => [[b]]
  | h :: t => (b :: h) :: t
/-- The pieces of a text, cut at each c. -/
def cutL (c : UInt8) : List UInt8 → List (List UInt8)
  | [] => [[]]
  | b :: l => if b = c then [] :: cutL c l else consHead b (cutL c l)

theorem cutL_ne (c : UInt8) (l : List UInt8) : cutL c l ≠ [] := by
  cases l with
  | nil => simp [cutL]
  | cons b l =>
    simp only [cutL]
    split
    · simp
    · cases cutL c l <;> simp [consHead]

theorem cutL_none (c : UInt8) (l : List UInt8) (h : c ∉ l) : cutL c l = [l] := by
  induction l with
  | nil => rfl
  | cons b l ih =>
    simp only [List.mem_cons, not_or] at h
    simp only [cutL, if_neg (Ne.symm h.1), ih h.2, consHead]

theorem cutL_at (c : UInt8) (p q : List UInt8) (h : c ∉ p) : cutL c (p ++ c :: q) = p :: cutL c q := by
  induction p with
  | nil => simp [cutL]
  | cons b p ih =>
    simp only [List.mem_cons, not_or] at h
    simp only [List.cons_append, cutL, if_neg (Ne.symm h.1), ih h.2, consHead]

theorem cutL_miss {c : UInt8} {l : List UInt8} (h : Lib.indexByte l c = -1) : cutL c l = [l] := by
  refine cutL_none c l fun hm => ?_
  obtain ⟨k, hk⟩ := List.getElem?_of_mem hm
  exact Lib.indexByte_none h k hk

theorem parts_at {l : List UInt8} {c : UInt8} {i : Nat} (h : Lib.indexByte l c = i) : l = l.take i ++ c :: l.drop (i + 1) ∧ c ∉ l.take i := by
  obtain ⟨h1, h2⟩ := Lib.indexByte_some h
  obtain ⟨hlt, hc⟩ := List.getElem?_eq_some_iff.1 h1
  constructor
  · have e := List.drop_eq_getElem_cons hlt
    rw [hc] at e
    rw [← e, List.take_append_drop]
  · intro hm
    obtain ⟨k, hk⟩ := List.getElem?_of_mem hm
    have hki : k < i := by
      have := (List.getElem?_eq_some_iff.1 hk).1
      rw [List.length_take] at this; omega
    rw [List.getElem?_take_of_lt hki] at hk
    exact h2 k hki hk

theorem cutL_hit {c : UInt8} {l : List UInt8} {i : Nat} (h : Lib.indexByte l c = i) : cutL c l = l.take i :: cutL c (l.drop (i + 1)) := by
  obtain ⟨h1, h2⟩ := parts_at h
  have e := cutL_at c (l.take i) (l.drop (i + 1)) h2
  rw [← h1] at e
  exact e

theorem split_cut (c : UInt8) : ∀ (n : Nat) (l : List UInt8), l.length ≤ n → Lib.splitK [c] 0 (Lib.count l [c]) l = cutL c l := by
  intro n
  induction n with
  | zero =>
    intro l hl
    obtain rfl : l = [] := List.length_eq_zero_iff.1 (by omega)
    rw [Lib.count_miss (by rfl)]
    rfl
  | succ n ih =>
    intro l hl
    by_cases hneg : Lib.indexByte l c < 0
    · have hm : Lib.indexByte l c = -1 := by have := Lib.indexByte_ge l c; omega
      rw [Lib.count_miss (by rw [Lib.index_one]; exact hm), cutL_miss hm]
      rfl
    · obtain ⟨i, hi⟩ := Int.eq_ofNat_of_zero_le (Int.not_lt.1 hneg)
      have hix : Lib.index l [c] = i := by rw [Lib.index_one]; exact hi
      have hlt : i < l.length := (List.getElem?_eq_some_iff.1 (Lib.indexByte_some hi).1).1
      rw [Lib.count_hit (by simp) hix, cutL_hit hi, Nat.add_comm 1, Lib.splitK, hix]
      have h1 : ¬ ((i : Int) == -1) = true := by simp
      rw [if_neg h1]
      have e1 : ((i : Int)).toNat = i := rfl
      simp only [e1, Nat.add_zero, List.length_cons, List.length_nil, Nat.zero_add]
      rw [ih _ (by rw [List.length_drop]; omega)]

theorem cutL_length (c : UInt8) (l : List UInt8) : (cutL c l).length = l.count c + 1 := by
  induction l with
  | nil => rfl
  | cons b l ih =>
    simp only [cutL]
    by_cases h : b = c
    · subst h; simp [ih]
    · rw [if_neg h]
      have hne := cutL_ne c l
      rw [List.count_cons_of_ne h]
      cases hc : cutL c l with
      | nil => exact absurd hc hne
      | cons x y => rw [hc] at ih; simpa [consHead] using ih

theorem cutL_free (c : UInt8) (l : List UInt8) : ∀ x ∈ cutL c l, c ∉ x := by
  induction l with
  | nil => simp [cutL]
  | cons b l ih =>
    simp only [cutL]
    by_cases h : b = c
    · rw [if_pos h]; intro x hx
      rcases List.mem_cons.1 hx with rfl | hx
      · simp
      · exact ih x hx
    · rw [if_neg h]
      cases hc : cutL c l with
      | nil => exact absurd hc (cutL_ne c l)
      | cons p q =>
        rw [hc] at ih
        intro x hx
        rcases List.mem_cons.1 hx with rfl | hx
        · intro hm
          rcases List.mem_cons.1 hm with h' | h'
          · exact h h'.symm
          · exact ih p (by simp) h'
        · exact ih x (by simp [hx])

theorem join_cut (c : UInt8) (l : List UInt8) : Lib.join (cutL c l) [c] = l := by
  induction l with
  | nil => rfl
  | cons b l ih =>
    simp only [cutL]
    cases hc : cutL c l with
    | nil => exact absurd hc (cutL_ne c l)
    | cons p q =>
      rw [hc] at ih
      by_cases h : b = c
      · rw [if_pos h, Lib.join_cons]
        rw [Lib.join_cons] at ih
        simp only [Lib.joinTail, List.map_cons, List.flatten_cons, List.nil_append, List.singleton_append, List.cons_append] at ih ⊢
        rw [ih, h]
      · rw [if_neg h, consHead, Lib.join_cons]
        rw [Lib.join_cons] at ih
        rw [List.cons_append, ih]

theorem block_of_add (a : Addr) (n : Nat) : (a.add n).block = a.block := by unfold Addr.add; split <;> rfl
theorem add_of_add (a : Addr) (i j : Nat) : (a.add i).add j = a.add (i + j) := by
  unfold Addr.add
  by_cases hi : i = 0 <;> by_cases hj : j = 0 <;> simp [hi, hj, Nat.add_assoc]

/-- the slice value '.slice A n c' holds the cells xs (n elements of so many cells) and lies below block B -/
def Reads (w : World) (B size : Nat) (A : Option Addr) (n : Nat) (xs : List Value) : Prop :=
  xs.length = n * size ∧ (0 < n → ∃ b off, A = some ⟨b, off, none⟩ ∧ b < B ∧ ∀ j u, xs[j]? = some u → w.cell? ⟨b, off + j, none⟩ = some u)

section
variable {w w' : World} {B B' size n : Nat} {A : Option Addr} {xs : List Value}
theorem Reads.none_ : Reads w B size A 0 [] := ⟨by simp, fun h => absurd h (by omega)⟩
theorem Reads.at_ {k : Nat} (h : Reads w B 1 A n xs) (hk : k < n) : ∃ b off u, A = some ⟨b, off, none⟩ ∧ b < B ∧ xs[k]? = some u ∧ w.cell? ⟨b, off + k, none⟩ = some u := by
  obtain ⟨b, off, e, hb, hc⟩ := h.2 (by omega)
  have hl : k < xs.length := by have := h.1; omega
  exact ⟨b, off, xs[k], e, hb, List.getElem?_eq_getElem hl, hc k _ (List.getElem?_eq_getElem hl)⟩
theorem Reads.keep (h : Reads w B size A n xs) (hk : ∀ p : Addr, p.block < B → w'.cell? p = w.cell? p) : Reads w' B size A n xs :=
  ⟨h.1, fun hn => by
    obtain ⟨b, off, e, hb, hc⟩ := h.2 hn
    exact ⟨b, off, e, hb, fun j u hu => (hk _ hb).trans (hc j u hu)⟩⟩
theorem Reads.more (h : Reads w B size A n xs) (hB : B ≤ B') : Reads w B' size A n xs :=
  ⟨h.1, fun hn => by
    obtain ⟨b, off, e, hb, hc⟩ := h.2 hn
    exact ⟨b, off, e, by omega, hc⟩⟩
theorem Reads.below (h : Reads w B size A n xs) (hb : Below B w w') : Reads w' B size A n xs := h.keep fun _ hp => hb.cell hp
theorem Reads.drew (h : Reads w B size A n xs) : Reads w.drew B size A n xs := h
theorem Reads.drewN (h : Reads w B size A n xs) (k : Nat) : Reads (w.drewN k) B size A n xs := h
theorem Reads.alloc (h : Reads w B size A n xs) (hB : B ≤ w.heap.size) (o : Obj) : Reads (w.alloc o) B size A n xs := h.keep fun p hp => World.cell?_alloc_lt w o p (by omega)
theorem Reads.setCell (h : Reads w B size A n xs) {p : Addr} (hB : B ≤ p.block) (u : Value) : Reads (w.setCell p u) B size A n xs :=
  h.keep fun q hq => World.cell?_setCell_other w p q u (fun e => by subst e; omega)
theorem Reads.grown (h : Reads w B size A n xs) {row : Option Nat} (hg : w.grownBy w' row) (hB : B ≤ w.heap.size) (hr : ∀ g, row = some g → B ≤ g) : Reads w' B size A n xs :=
  h.keep fun p hp => World.cell?_of_block (hg.block p.block (by omega) (fun e => by have := hr _ e.symm; omega))
theorem add_lit (b off j : Nat) : (⟨b, off, none⟩ : Addr).add j = ⟨b, off + j, none⟩ := by
  unfold Addr.add; split <;> simp_all
theorem Reads.of_own {base : Nat} {e : TypeId} {c : Nat} (h : w.ownsRow base e size (.slice A n c) n xs) : Reads w w.heap.size size A n xs := by
  refine ⟨h.1, fun hn => ?_⟩
  obtain ⟨g, cap, hv, _, hlt⟩ := h.form hn
  have hA : A = some ⟨g, 0, none⟩ := by injection hv
  subst hA
  exact ⟨g, 0, rfl, hlt, fun j u hu => by have := h.cells (g := g) rfl j u hu; rwa [add_lit] at this⟩
/-- as the guide's readers give a slice: by addresses -/
theorem Reads.of_cells {a : Addr} (hs : 0 < size) (hl : xs.length = n * size) (hb : a.block < B) (hc : ∀ j u, xs[j]? = some u → w.cell? (a.add j) = some u) : Reads w B size (some a) n xs := by
  refine ⟨hl, fun hn => ?_⟩
  have h0 : 0 < xs.length := by rw [hl]; exact Nat.mul_pos hn hs
  have hc0 := hc 0 _ (List.getElem?_eq_getElem h0)
  obtain ⟨b, off, sp⟩ := a
  have hsp : sp = none := by
    cases sp with
    | none => rfl
    | some s => 
      simp only [Addr.add, World.cell?] at hc0
      split at hc0 <;> simp at hc0
  subst hsp
  exact ⟨b, off, rfl, hb, fun j u hu => by have := hc j u hu; rwa [add_lit] at this⟩
end

/-- block g is just the cells cs of element type t, none frozen -/
def Blk (w : World) (g : Nat) (t : TypeId) (cs : Array Value) : Prop := w.heap[g]? = some (.cells cs t (0, 0))

section
variable {w w' : World} {g : Nat} {t : TypeId} {cs : Array Value}
theorem Blk.lt (h : Blk w g t cs) : g < w.heap.size := by
  rcases Nat.lt_or_ge g w.heap.size with hlt | hge
  · exact hlt
  · unfold Blk at h; rw [Array.getElem?_eq_none hge] at h; cases h
theorem Blk.cell (h : Blk w g t cs) (i : Nat) : w.cell? ⟨g, i, none⟩ = cs[i]? := cell_of_row w g i cs t (0, 0) h
theorem Blk.frozen (h : Blk w g t cs) (i : Nat) : w.frozen? ⟨g, i, none⟩ = false := by
  unfold Blk at h
  simp [World.frozen?, h]
theorem Blk.new (w : World) (t : TypeId) (cs : Array Value) : Blk (w.alloc (.cells cs t)) w.heap.size t cs := heap_alloc_new w _
theorem Blk.drew (h : Blk w g t cs) : Blk w.drew g t cs := h
theorem Blk.drewN (h : Blk w g t cs) (n : Nat) : Blk (w.drewN n) g t cs := h
theorem Blk.alloc (h : Blk w g t cs) (o : Obj) : Blk (w.alloc o) g t cs := (Below.heap_alloc w o g h.lt).trans h
theorem Blk.set_ (h : Blk w g t cs) (i : Nat) (u : Value) : Blk (w.setCell ⟨g, i, none⟩ u) g t (cs.setIfInBounds i u) := by
  unfold Blk at h ⊢
  simp [World.setCell, Array.getElem?_modify, h]
theorem Blk.far (h : Blk w g t cs) {p : Addr} (hp : g ≠ p.block) (u : Value) : Blk (w.setCell p u) g t cs := (Below.heap_setCell w p u g hp).trans h
theorem Blk.below {B : Nat} (h : Blk w g t cs) (hb : Below B w w') (hg : g < B) : Blk w' g t cs := (hb.block g hg).trans h
theorem Blk.grown {row : Option Nat} (h : Blk w g t cs) (hb : w.grownBy w' row) (hg : some g ≠ row) : Blk w' g t cs := (hb.block g h.lt hg).trans h
theorem Blk.ne_ {g' : Nat} {t' : TypeId} {cs' : Array Value} (h : Blk w g t cs) (h' : Blk w g' t' cs') (hne : t ≠ t') : g ≠ g' := by
  rintro rfl
  unfold Blk at h h'
  rw [h] at h'
  injection h' with h'
  injection h' with _ ht
  exact hne ht
theorem own_blk_ne {base : Nat} {e : TypeId} {size n : Nat} {v : Value} {xs : List Value} (h : w.ownsRow base e size v n xs) (hg : Blk w g t cs) (hne : e ≠ t) : v.ownBlock ≠ some g := by
  rcases h.2 with ⟨rfl, _⟩ | ⟨g', cap, cur, rfl, _, hh, _⟩
  · simp [Value.ownBlock]
  · intro he
    have : g' = g := by simpa [Value.ownBlock] using he
    subst this
    exact Blk.ne_ (t := e) hh hg hne rfl
end

theorem bcell {W w1 : World} (hb : Below W.heap.size W w1) : (∀ b o, b < W.heap.size → w1.cell? ⟨b, o, none⟩ = W.cell? ⟨b, o, none⟩) ∧ (∀ b o, b < W.heap.size → w1.frozen? ⟨b, o, none⟩ = W.frozen? ⟨b, o, none⟩) :=
  ⟨fun b o h => hb.cell (p := ⟨b, o, none⟩) h, fun b o h => hb.frozen (p := ⟨b, o, none⟩) h⟩

theorem bcellN {N : Nat} {W w1 : World} (hb : Below N W w1) : (∀ b o, b < N → w1.cell? ⟨b, o, none⟩ = W.cell? ⟨b, o, none⟩) ∧ (∀ b o, b < N → w1.frozen? ⟨b, o, none⟩ = W.frozen? ⟨b, o, none⟩) :=
  ⟨fun b o h => hb.cell (p := ⟨b, o, none⟩) h, fun b o h => hb.frozen (p := ⟨b, o, none⟩) h⟩
theorem only_of_below {a w : World} (h : Below a.heap.size a w) (row : Option Nat) : a.grownBy w row := ⟨h.os, h.tape, h.output, h.size, fun i hi _ => h.block i hi⟩
theorem own_below {a w : World} {base : Nat} {e : TypeId} {size n : Nat} {v : Value} {xs : List Value} (h : a.ownsRow base e size v n xs) (hb : Below a.heap.size a w) : w.ownsRow base e size v n xs := by
  refine h.kept (only_of_below hb none) ?_
  cases hv : v.ownBlock <;> simp
theorem own_form {w : World} {base : Nat} {e : TypeId} {size n : Nat} {v : Value} {xs : List Value} (h : w.ownsRow base e size v n xs) : ∃ A c, v = .slice A n c := by
  rcases h.2 with ⟨rfl, rfl⟩ | ⟨g, cap, cur, rfl, _⟩
  · exact ⟨_, _, rfl⟩
  · exact ⟨_, _, rfl⟩
theorem own_cap {w : World} {base : Nat} {e : TypeId} {size n c : Nat} {A : Option Addr} {xs : List Value} (h : w.ownsRow base e size (.slice A n c) n xs) : n ≤ c := by
  rcases h.2 with ⟨h1, rfl⟩ | ⟨g, cap, cur, h1, _, _, h2, _⟩
  · omega
  · cases h1; exact h2
theorem own_mono {w : World} {base base' : Nat} {e : TypeId} {size n : Nat} {v : Value} {xs : List Value} (h : w.ownsRow base e size v n xs) (hb : base' ≤ base) : w.ownsRow base' e size v n xs := by
  refine ⟨h.1, ?_⟩
  rcases h.2 with h1 | ⟨g, cap, cur, h1, h2, h3⟩
  · exact .inl h1
  · exact .inr ⟨g, cap, cur, h1, by omega, h3⟩
theorem own_far {w : World} {base : Nat} {e : TypeId} {size n : Nat} {v : Value} {xs : List Value} (h : w.ownsRow base e size v n xs) {p : Addr} (hp : p.block < base) (u : Value) : (w.setCell p u).ownsRow base e size v n xs := by
  refine ⟨h.1, ?_⟩
  rcases h.2 with h1 | ⟨g, cap, cur, h1, h2, h3, h4⟩
  · exact .inl h1
  · exact .inr ⟨g, cap, cur, h1, h2, (Below.heap_setCell w p u g (by omega)).trans h3, h4⟩

end Go.Proofs.YtoagphighgejnaaGreatDoor
