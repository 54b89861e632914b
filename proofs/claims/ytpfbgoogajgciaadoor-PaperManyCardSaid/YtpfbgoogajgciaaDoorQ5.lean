/- What the reader holds; a list's line by its field; Parse (17). Conditions: none. -/
import Derived.Test.YtpfbgoogajgciaaDoorQ4
import Derived.Deep.RegionHeld3
import Derived.Deep.RegionWith
set_option linter.unusedSimpArgs false
set_option linter.unusedVariables false
namespace Go.Proofs.YtpfbgoogajgciaaDoor
open Go.RowKit Go.Shelf

def Fld.enc : Fld → Int → Value
  | .side => Bv
  | _ => I
def Fld.fn : Fld → Nat
  | .flow => 23
  | .pot => 24
  | .side => 25
  | .cycle => 26
/-- a list as a value: nil, or a row of its own, from block B on -/
def OW (w : World) (B : Nat) (T : TypeId) (v : Value) (l : List Value) : Prop := w.ownsRow B T 1 v l.length l
/-- the reader in block rb has read this -/
def RC (w : World) (rb : Nat) (c : CertV) : Prop :=
  ∃ v1 v2 v3 v4, Blk w rb 43 #[.int .i64 c.kind, v1, v2, v3, v4] ∧ OW w (rb + 1) 2 v1 (c.flow.map I) ∧ OW w (rb + 1) 2 v2 (c.pot.map I) ∧ OW w (rb + 1) 4 v3 (c.side.map Bv) ∧ OW w (rb + 1) 3 v4 (c.cycle.map I)
theorem OW.kept {w w' : World} {rb : Nat} {T : TypeId} {v : Value} {l : List Value} (h : OW w (rb + 1) T v l) (hk : Kept (fun b => b = rb) w w') : OW w' (rb + 1) T v l :=
  own_kept h hk (fun g hg => by have := (World.ownsRow.lt h g hg).1; omega)
theorem OW.below {w w' : World} {B : Nat} {T : TypeId} {v : Value} {l : List Value} (h : OW w B T v l) (hb : Below w.heap.size w w') : OW w' B T v l := own_below h hb
theorem OW.nil {w : World} {B : Nat} {T : TypeId} : OW w B T (.slice none 0 0) [] := World.ownsRow_nil _ _ _ _
theorem RC.below {w w' : World} {rb : Nat} {c : CertV} (h : RC w rb c) (hb : Below w.heap.size w w') : RC w' rb c := by
  obtain ⟨v1, v2, v3, v4, hB, h1, h2, h3, h4⟩ := h
  exact ⟨v1, v2, v3, v4, hB.below hb hB.lt, h1.below hb, h2.below hb, h3.below hb, h4.below hb⟩
theorem RC.lt {w : World} {rb : Nat} {c : CertV} (h : RC w rb c) : rb < w.heap.size := by
  obtain ⟨v1, v2, v3, v4, hB, h1, h2, h3, h4⟩ := h
  exact hB.lt

theorem ow_of {w w' : World} {rb : Nat} {T : TypeId} {B : Option Addr} {m cp : Nat} {l : List Value} (h : w'.ownsRow w.heap.size T 1 (.slice B m cp) m l) (hm : m = l.length) (hr : rb < w.heap.size) : OW w' (rb + 1) T (.slice B m cp) l := by
  unfold OW; rw [← hm]; exact own_mono h (by omega)

/-- a line of a list, by its field -/
theorem rd_in (f : Fld) (rb : Nat) (c : CertV) (A : Option Addr) (n cp : Nat) (ws : List (List UInt8)) (w : World) (hE : Env w) (hR : RC w rb c) (hr : Reads w w.heap.size 1 A n (ws.map strV)) (hcap : n ≤ cp) (hn : n ≤ 100000) (hw : ∀ x ∈ ws, x.length ≤ 1000000) :
    Calls Tryd.prog f.fn #[.pointer (some ⟨rb, 0, none⟩), .slice A n cp] w fun e w' => e = .returned (.int .u16 (listL f.turn f.name ws).2) ∧ RC w' rb (c.put f (listL f.turn f.name ws).1) ∧ Kept (fun b => b = rb) w w' := by
  have hlt := hR.lt
  obtain ⟨v1, v2, v3, v4, hB, h1, h2, h3, h4⟩ := hR
  cases f
  · refine (rflow_in rb A n cp ws _ v1 v2 v3 v4 w hE hB hr hcap hn hw).mono ?_
    rintro e w' ⟨B, m, cp', rfl, hm, hown, hB', hk⟩
    exact ⟨rfl, ⟨_, v2, v3, v4, hB', ow_of hown (by rw [List.length_map]; exact hm) hlt, h2.kept hk, h3.kept hk, h4.kept hk⟩, hk⟩
  · refine (rpot_in rb A n cp ws _ v1 v2 v3 v4 w hE hB hr hcap hn hw).mono ?_
    rintro e w' ⟨B, m, cp', rfl, hm, hown, hB', hk⟩
    exact ⟨rfl, ⟨v1, _, v3, v4, hB', h1.kept hk, ow_of hown (by rw [List.length_map]; exact hm) hlt, h3.kept hk, h4.kept hk⟩, hk⟩
  · refine (rside_in rb A n cp ws _ v1 v2 v3 v4 w hE hB hr hcap hn hw).mono ?_
    rintro e w' ⟨B, m, cp', rfl, hm, hown, hB', hk⟩
    exact ⟨rfl, ⟨v1, v2, _, v4, hB', h1.kept hk, h2.kept hk, ow_of hown (by rw [List.length_map]; exact hm) hlt, h4.kept hk⟩, hk⟩
  · refine (rcycle_in rb A n cp ws _ v1 v2 v3 v4 w hE hB hr hcap hn hw).mono ?_
    rintro e w' ⟨B, m, cp', rfl, hm, hown, hB', hk⟩
    exact ⟨rfl, ⟨v1, v2, v3, _, hB', h1.kept hk, h2.kept hk, h3.kept hk, ow_of hown (by rw [List.length_map]; exact hm) hlt⟩, hk⟩

/-- a list that is handed out -/
def FldR (w : World) (v : Value) (l : List Value) : Prop := ∃ A n cp, v = .slice A n cp ∧ n = l.length ∧ n ≤ cp ∧ Reads w w.heap.size 1 A n l
/-- a certificate that is handed out -/
structure CertR (w : World) (c : CertV) (v1 v2 v3 v4 : Value) : Prop where
  flow : FldR w v1 (c.flow.map I)
  pot : FldR w v2 (c.pot.map I)
  side : FldR w v3 (c.side.map Bv)
  cycle : FldR w v4 (c.cycle.map I)
theorem FldR.nil {w : World} : FldR w (.slice none 0 0) [] := ⟨none, 0, 0, rfl, rfl, Nat.le_refl _, Reads.none_⟩
theorem FldR.below {w w' : World} {v : Value} {l : List Value} (h : FldR w v l) (hb : Below w.heap.size w w') : FldR w' v l := by
  obtain ⟨A, n, cp, h1, h2, h3, h4⟩ := h
  exact ⟨A, n, cp, h1, h2, h3, (h4.below hb).more hb.size⟩
theorem CertR.below {w w' : World} {c : CertV} {v1 v2 v3 v4 : Value} (h : CertR w c v1 v2 v3 v4) (hb : Below w.heap.size w w') : CertR w' c v1 v2 v3 v4 :=
  ⟨h.flow.below hb, h.pot.below hb, h.side.below hb, h.cycle.below hb⟩
theorem FldR.of_ow {w : World} {B : Nat} {T : TypeId} {v : Value} {l : List Value} (h : OW w B T v l) : FldR w v l := by
  obtain ⟨A, cp, rfl⟩ := own_form h
  exact ⟨A, _, cp, rfl, rfl, own_cap h, Reads.of_own h⟩
theorem cert0R (w : World) : CertR w cert0 (.slice none 0 0) (.slice none 0 0) (.slice none 0 0) (.slice none 0 0) := ⟨FldR.nil, FldR.nil, FldR.nil, FldR.nil⟩

theorem find_rows (X : ByteArray) (B : Nat) : Instr.findNow .string (.string X) (rows B).toList 0 =
    if X.data.toList = bestL then some (some (0, .slice (some ⟨B + 1, 0, none⟩) 2 2)) else if X.data.toList = cutN then some (some (1, .slice (some ⟨B + 2, 0, none⟩) 1 1)) else if X.data.toList = rayL then some (some (2, .slice (some ⟨B + 3, 0, none⟩) 2 2)) else some none := by
  have h : ∀ l : List UInt8, Instr.sameNow .string (.string X) (.string ⟨l.toArray⟩) = some (decide (X.data.toList = l)) := by
    intro l
    by_cases hh : X.data.toList = l
    · rw [decide_eq_true hh]
      obtain ⟨r, h1, h2⟩ := MapKept.sameNow_of_keys (d := .string) (a := .string X) (b := .string ⟨l.toArray⟩) (by simp [MapKept.IsKey]) (by simp [MapKept.IsKey])
      rw [h1, h2.2 (congrArg Value.string ((bs_eq_iff X l).2 hh))]
    · rw [decide_eq_false hh]
      have : X ≠ ⟨l.toArray⟩ := fun e => hh ((bs_eq_iff X l).1 e)
      obtain ⟨r, h1, h2⟩ := MapKept.sameNow_of_keys (d := .string) (a := .string X) (b := .string ⟨l.toArray⟩) (by simp [MapKept.IsKey]) (by simp [MapKept.IsKey])
      rw [h1]
      cases r with
      | false => rfl
      | true => exact absurd (Value.string.inj (h2.1 rfl)) this
  have h1 := h bestL
  have h2 := h cutN
  have h3 := h rayL
  unfold rows
  simp only [Instr.findNow]
  rw [show (⟨#[98, 101, 115, 116]⟩ : ByteArray) = ⟨bestL.toArray⟩ from rfl, show (⟨#[99, 117, 116]⟩ : ByteArray) = ⟨cutN.toArray⟩ from rfl, show (⟨#[114, 97, 121]⟩ : ByteArray) = ⟨rayL.toArray⟩ from rfl, h1, h2, h3]
  by_cases e1 : X.data.toList = bestL
  · rw [decide_eq_true e1, if_pos e1]
  · rw [decide_eq_false e1, if_neg e1]
    by_cases e2 : X.data.toList = cutN
    · rw [decide_eq_true e2, if_pos e2]
    · rw [decide_eq_false e2, if_neg e2]
      by_cases e3 : X.data.toList = rayL
      · rw [decide_eq_true e3, if_pos e3]
      · rw [decide_eq_false e3, if_neg e3]
/-- what a first line asks for, and where it is found -/
theorem want_cases (X : ByteArray) : (wantF X.data.toList = none ∧ ∀ B, Instr.findNow .string (.string X) (rows B).toList 0 = some none) ∨
    ∃ k fs j i, wantF X.data.toList = some (k, fs) ∧ kindN X.data.toList = k ∧ (∀ B, Instr.findNow .string (.string X) (rows B).toList 0 = some (some (i, .slice (some ⟨B + j, 0, none⟩) fs.length fs.length))) ∧ ((j = 1 ∧ fs = [.flow, .pot]) ∨ (j = 2 ∧ fs = [.side]) ∨ (j = 3 ∧ fs = [.flow, .cycle])) := by
  have hf := find_rows X
  unfold wantF kindN
  by_cases e1 : X.data.toList = bestL
  · right
    refine ⟨1, [.flow, .pot], 1, 0, by rw [if_pos e1], by rw [if_pos e1], fun B => ?_, .inl ⟨rfl, rfl⟩⟩
    rw [hf, if_pos e1]; rfl
  · by_cases e2 : X.data.toList = cutN
    · right
      refine ⟨2, [.side], 2, 1, by rw [if_neg e1, if_pos e2], by rw [if_neg e1, if_pos e2], fun B => ?_, .inr (.inl ⟨rfl, rfl⟩)⟩
      rw [hf, if_neg e1, if_pos e2]; rfl
    · by_cases e3 : X.data.toList = rayL
      · right
        refine ⟨3, [.flow, .cycle], 3, 2, by rw [if_neg e1, if_neg e2, if_pos e3], by rw [if_neg e1, if_neg e2, if_pos e3], fun B => ?_, .inr (.inr ⟨rfl, rfl⟩)⟩
        rw [hf, if_neg e1, if_neg e2, if_pos e3]; rfl
      · left
        refine ⟨by rw [if_neg e1, if_neg e2, if_neg e3], fun B => ?_⟩
        rw [hf, if_neg e1, if_neg e2, if_neg e3]
theorem zero65 (w : World) : (zeroValue 44).run Tryd.prog w = .ok (.slice none 0 0) w := by kernel_rfl

/-- a certificate stored whole into its block -/
def put5 (w : World) (b : Nat) (v0 v1 v2 v3 v4 : Value) : World := ((((w.setCell ⟨b, 0, none⟩ v0).setCell ⟨b, 1, none⟩ v1).setCell ⟨b, 2, none⟩ v2).setCell ⟨b, 3, none⟩ v3).setCell ⟨b, 4, none⟩ v4
theorem Blk.put5 {w : World} {b : Nat} {t : TypeId} {u0 u1 u2 u3 u4 : Value} (h : Blk w b t #[u0, u1, u2, u3, u4]) (v0 v1 v2 v3 v4 : Value) : Blk (put5 w b v0 v1 v2 v3 v4) b t #[v0, v1, v2, v3, v4] := ((((h.set_ 0 v0).set_ 1 v1).set_ 2 v2).set_ 3 v3).set_ 4 v4
theorem below_put5 {w0 w : World} {B b : Nat} (h : Below B w0 w) (hB : B ≤ b) (v0 v1 v2 v3 v4 : Value) : Below B w0 (put5 w b v0 v1 v2 v3 v4) :=
  ((((h.setCell (p := ⟨b, 0, none⟩) hB v0).setCell (p := ⟨b, 1, none⟩) hB v1).setCell (p := ⟨b, 2, none⟩) hB v2).setCell (p := ⟨b, 3, none⟩) hB v3).setCell (p := ⟨b, 4, none⟩) hB v4
theorem ow_put5 {w : World} {b B : Nat} {T : TypeId} {v : Value} {l : List Value} (h : OW w B T v l) (hb : b < B) (v0 v1 v2 v3 v4 : Value) : OW (put5 w b v0 v1 v2 v3 v4) B T v l :=
  own_far (own_far (own_far (own_far (own_far h (p := ⟨b, 0, none⟩) hb v0) (p := ⟨b, 1, none⟩) hb v1) (p := ⟨b, 2, none⟩) hb v2) (p := ⟨b, 3, none⟩) hb v3) (p := ⟨b, 4, none⟩) hb v4
theorem Blk.five {w : World} {b : Nat} {t : TypeId} {u0 u1 u2 u3 u4 : Value} (h : Blk w b t #[u0, u1, u2, u3, u4]) :
    (w.cell? ⟨b, 0, none⟩ = some u0 ∧ w.cell? ⟨b, 1, none⟩ = some u1 ∧ w.cell? ⟨b, 2, none⟩ = some u2 ∧ w.cell? ⟨b, 3, none⟩ = some u3 ∧ w.cell? ⟨b, 4, none⟩ = some u4) ∧
    (w.frozen? ⟨b, 0, none⟩ = false ∧ w.frozen? ⟨b, 1, none⟩ = false ∧ w.frozen? ⟨b, 2, none⟩ = false ∧ w.frozen? ⟨b, 3, none⟩ = false ∧ w.frozen? ⟨b, 4, none⟩ = false) :=
  ⟨⟨h.cell 0, h.cell 1, h.cell 2, h.cell 3, h.cell 4⟩, ⟨h.frozen 0, h.frozen 1, h.frozen 2, h.frozen 3, h.frozen 4⟩⟩

set_option maxHeartbeats 3200000 in
set_option maxRecDepth 100000 in
theorem Parse_in (s : ByteArray) (hsz : s.size ≤ 60000) (w : World) (hE : Env w) :
    Calls Tryd.prog 6 #[.string s] w fun e w' => ∃ v1 v2 v3 v4, e = .returned (.tuple #[.agg #[.int .i64 (parseL s.data.toList).1.kind, v1, v2, v3, v4], .int .u16 (parseL s.data.toList).2.1, .int .i64 (parseL s.data.toList).2.2]) ∧ CertR w' (parseL s.data.toList).1 v1 v2 v3 v4 ∧ Below w.heap.size w w' := by
  have hP : parseL s.data.toList = parseT (linesL s.data.toList) := by unfold parseL; rw [if_neg (by show ¬ 60000 < s.size; omega)]
  have hLn := Lines_any s (by omega)
  have hwl : ∀ t ∈ linesL s.data.toList, t.length ≤ 60000 := fun t ht => Nat.le_trans (lines_len _ t ht) hsz
  have hll : (linesL s.data.toList).length ≤ 60001 := Nat.le_trans (lines_many _) (by show s.size + 1 ≤ 60001; omega)
  generalize linesL s.data.toList = L at hP hLn hwl hll
  generalize parseL s.data.toList = R at hP ⊢
  have HP := Lib.hid hP
  have HW := Lib.hid hwl
  clear hP hwl
  go_enter Tryd.func6, Tryd.ntmps6
  go_wp2_with fail
  refine (hLn _).mono ?_
  rintro e w1 ⟨A, m, c, rfl, hm, hmc, hR, hb1⟩
  have kp0 : Blk (w.alloc (.cells #[.int .i64 0, .slice none 0 0, .slice none 0 0, .slice none 0 0, .slice none 0 0] 31)) w.heap.size 31 #[.int .i64 0, .slice none 0 0, .slice none 0 0, .slice none 0 0, .slice none 0 0] := Blk.new w 31 _
  have kp := kp0.below hb1 (by simp)
  have hb1' : Below w.heap.size w w1 := ((Below.refl _ w).alloc (Nat.le_refl _) (.cells #[.int .i64 0, .slice none 0 0, .slice none 0 0, .slice none 0 0, .slice none 0 0] 31)).trans (hb1.mono (by simp))
  have hE1 := hE.on hb1'
  have hs1 : w.heap.size < w1.heap.size := kp.lt
  clear kp0 hb1 hLn
  cases L with
  | nil =>
    obtain rfl : m = 0 := hm
    obtain ⟨⟨q0, q1, q2, q3, q4⟩, f0, f1, f2, f3, f4⟩ := kp.five
    have HK := Lib.hid kp
    clear kp
    go_wp2_with fail
    have hR : R = (cert0, 36, 0) := HP.out
    have hB := HK.out.put5 (.int .i64 0) (.slice none 0 0) (.slice none 0 0) (.slice none 0 0) (.slice none 0 0)
    have hbF := below_put5 hb1' (Nat.le_refl w.heap.size) (.int .i64 0) (.slice none 0 0) (.slice none 0 0) (.slice none 0 0) (.slice none 0 0)
    change bodyPost _ _ _ _ _ (put5 w1 w.heap.size (.int .i64 0) (.slice none 0 0) (.slice none 0 0) (.slice none 0 0) (.slice none 0 0))
    generalize put5 w1 w.heap.size (.int .i64 0) (.slice none 0 0) (.slice none 0 0) (.slice none 0 0) (.slice none 0 0) = W at hB hbF ⊢
    obtain ⟨⟨d0, d1, d2, d3, d4⟩, -⟩ := hB.five
    refine bodyPost_ret (v := .tuple #[.agg #[.int .i64 0, .slice none 0 0, .slice none 0 0, .slice none 0 0, .slice none 0 0], .int .u16 36, .int .i64 0]) (by simp [results, Tryd.results6, go_sem, d0, d1, d2, d3, d4]) rfl ?_
    rw [hR]
    exact ⟨_, _, _, _, rfl, cert0R _, hbF⟩
  | cons t ts =>
    obtain ⟨N, rfl⟩ : ∃ N, m = N + 1 := ⟨ts.length, by simpa using hm⟩
    have hts : ts.length = N := by simpa using hm.symm
    obtain ⟨b, off, rfl, hbb, hcells⟩ := hR.2 (by omega)
    have hc0 : w1.cell? ⟨b, off, none⟩ = some (.string ⟨t.toArray⟩) := by have := hcells 0 _ rfl; rwa [Nat.add_zero] at this
    obtain ⟨⟨q0, q1, q2, q3, q4⟩, f0, f1, f2, f3, f4⟩ := kp.five
    have HK := Lib.hid kp
    have HCE := Lib.hid hcells
    obtain ⟨X, hX⟩ : ∃ X : ByteArray, X = ⟨t.toArray⟩ := ⟨_, rfl⟩
    rw [← hX] at hc0
    clear kp hcells hR hm
    have hXl : X.data.toList = t := by rw [hX]
    rw [← hXl] at HP
    clear hX
    rcases want_cases X with ⟨hw0, hfind⟩ | ⟨kd, fs, j, ii, hw0, hkd, hfind, hj⟩
    · have HFI := Lib.hid hfind
      have hRR : R = (cert0, 36, 1) := by rw [HP.out, parseT, hw0]
      have HRR := Lib.hid hRR
      clear hfind hw0 hRR HP
      go_wp2_with fail
      have hr0 : (w1.alloc (.cells #[.int .i64 0, .slice none 0 0, .slice none 0 0, .slice none 0 0, .slice none 0 0] 43)).cell? ⟨b, off, none⟩ = some (.string X) := (World.cell?_alloc_lt w1 _ _ hbb).trans hc0
      have hbA : Below w1.heap.size w1 (w1.alloc (.cells #[.int .i64 0, .slice none 0 0, .slice none 0 0, .slice none 0 0, .slice none 0 0] 43)) := (Below.refl _ w1).alloc (Nat.le_refl _) _
      have kr : Blk (w1.alloc (.cells #[.int .i64 0, .slice none 0 0, .slice none 0 0, .slice none 0 0, .slice none 0 0] 43)) w1.heap.size 43 #[.int .i64 0, .slice none 0 0, .slice none 0 0, .slice none 0 0, .slice none 0 0] := Blk.new w1 43 _
      generalize (w1.alloc (.cells #[.int .i64 0, .slice none 0 0, .slice none 0 0, .slice none 0 0, .slice none 0 0] 43)) = W1 at hr0 hbA kr ⊢
      have hbW : b < W1.heap.size := Nat.lt_of_lt_of_le hbb hbA.size
      have hb1W : Below w.heap.size w W1 := hb1'.trans (hbA.mono hb1'.size)
      have krl := kr.lt
      go_region_held3 (fun w' => w'.cell? ⟨b, off, none⟩ = some (.string X)) (first | go_keep | exact k1)
        (first
          | (go_at_call 11; refine (lines_in _ _).mono ?_; rintro e w2 ⟨rfl, hM, -, -, -, hb2, -⟩; have k1 := (hb2.cell (p := ⟨b, off, none⟩) hbW).trans hr0; have hM' : MapB w2 W1.heap.size (rows W1.heap.size) 3 := hM; have hlk := run_look_none Tryd.underlying46 Tryd.underlying9 zero65 hM' (HFI.out _)))
      have hb2' : Below W1.heap.size W1 w2 := (Below.refl W1.heap.size W1).drew.trans hb2
      have hbw2 : Below w.heap.size w w2 := hb1W.trans (hb2'.mono hb1W.size)
      have kp2 := (HK.out.below hbA hs1).below hb2' (Nat.lt_of_lt_of_le hs1 hbA.size)
      obtain ⟨⟨q0', q1', q2', q3', q4'⟩, f0', f1', f2', f3', f4'⟩ := kp2.five
      have HK2 := Lib.hid kp2
      clear kp2 hlk hM hM' q0 q1 q2 q3 q4 f0 f1 f2 f3 f4
      go_wp2_with fail
      have hBz := (HK2.out).put5 (.int .i64 0) (.slice none 0 0) (.slice none 0 0) (.slice none 0 0) (.slice none 0 0)
      have hbF := below_put5 hbw2 (Nat.le_refl w.heap.size) (.int .i64 0) (.slice none 0 0) (.slice none 0 0) (.slice none 0 0) (.slice none 0 0)
      change bodyPost _ _ _ _ _ (put5 w2 w.heap.size (.int .i64 0) (.slice none 0 0) (.slice none 0 0) (.slice none 0 0) (.slice none 0 0))
      generalize put5 w2 w.heap.size (.int .i64 0) (.slice none 0 0) (.slice none 0 0) (.slice none 0 0) (.slice none 0 0) = WF at hBz hbF ⊢
      obtain ⟨⟨d0, d1, d2, d3, d4⟩, -⟩ := hBz.five
      refine bodyPost_ret (v := .tuple #[.agg #[.int .i64 0, .slice none 0 0, .slice none 0 0, .slice none 0 0, .slice none 0 0], .int .u16 36, .int .i64 1]) (by simp [results, Tryd.results6, go_sem, d0, d1, d2, d3, d4]) rfl ?_
      rw [HRR.out]
      exact ⟨_, _, _, _, rfl, cert0R _, hbF⟩
    · have HFI := Lib.hid hfind
      have hfl : fs.length ≤ 2 ∧ 1 ≤ fs.length := by rcases hj with ⟨-, rfl⟩ | ⟨-, rfl⟩ | ⟨-, rfl⟩ <;> decide
      have hfl1 := hfl.1
      have hfl2 := hfl.2
      have hRR : R = goL fs ⟨kd, [], [], [], []⟩ 0 ts := by rw [HP.out, parseT, hw0]
      have HRR := Lib.hid hRR
      have HJ := Lib.hid hj
      have HKD := Lib.hid hkd
      have hjj : 1 ≤ j ∧ j ≤ 3 := by rcases hj with ⟨rfl, -⟩ | ⟨rfl, -⟩ | ⟨rfl, -⟩ <;> omega
      have hj1 := hjj.1
      have hj3 := hjj.2
      obtain ⟨F, hF⟩ : ∃ F, F = fs.length := ⟨_, rfl⟩
      rw [← hF] at HFI hfl1 hfl2
      have HF := Lib.hid hF
      clear hfind hw0 hRR HP hj hkd hfl hF hjj
      go_wp2_with fail
      have hr0 : (w1.alloc (.cells #[.int .i64 0, .slice none 0 0, .slice none 0 0, .slice none 0 0, .slice none 0 0] 43)).cell? ⟨b, off, none⟩ = some (.string X) := (World.cell?_alloc_lt w1 _ _ hbb).trans hc0
      have hbA : Below w1.heap.size w1 (w1.alloc (.cells #[.int .i64 0, .slice none 0 0, .slice none 0 0, .slice none 0 0, .slice none 0 0] 43)) := (Below.refl _ w1).alloc (Nat.le_refl _) _
      have kr : Blk (w1.alloc (.cells #[.int .i64 0, .slice none 0 0, .slice none 0 0, .slice none 0 0, .slice none 0 0] 43)) w1.heap.size 43 #[.int .i64 0, .slice none 0 0, .slice none 0 0, .slice none 0 0, .slice none 0 0] := Blk.new w1 43 _
      generalize (w1.alloc (.cells #[.int .i64 0, .slice none 0 0, .slice none 0 0, .slice none 0 0, .slice none 0 0] 43)) = W1 at hr0 hbA kr ⊢
      have hbW : b < W1.heap.size := Nat.lt_of_lt_of_le hbb hbA.size
      have hb1W : Below w.heap.size w W1 := hb1'.trans (hbA.mono hb1'.size)
      have krl := kr.lt
      go_region_held3 (fun w' => w'.cell? ⟨b, off, none⟩ = some (.string X)) (first | go_keep | exact k1)
        (first
          | (go_at_call 11; refine (lines_in _ _).mono ?_; rintro e w2 ⟨rfl, hM, hK1, hK2, hK3, hb2, hs2⟩; have k1 := (hb2.cell (p := ⟨b, off, none⟩) hbW).trans hr0; have hM' : MapB w2 W1.heap.size (rows W1.heap.size) 3 := hM; have hlk := run_look Tryd.underlying46 Tryd.underlying9 hM' (HFI.out _)))
      have hb2' : Below W1.heap.size W1 w2 := (Below.refl W1.heap.size W1).drew.trans hb2
      have hbw2 : Below w.heap.size w w2 := hb1W.trans (hb2'.mono hb1W.size)
      have kp2 := (HK.out.below hbA hs1).below hb2' (Nat.lt_of_lt_of_le hs1 hbA.size)
      have kr2 := kr.below hb2' krl
      have hKF : Blk w2 (W1.heap.size + j) 49 (fs.map (fun f => fnV f.fn w1.heap.size)).toArray := by
        rcases HJ.out with ⟨rfl, rfl⟩ | ⟨rfl, rfl⟩ | ⟨rfl, rfl⟩
        · exact hK1
        · exact hK2
        · exact hK3
      have hc02 : w2.cell? ⟨b, off, none⟩ = some (.string X) := (hb2'.cell (p := ⟨b, off, none⟩) hbW).trans hr0
      have HCE2 : Hid (∀ j u, ((t :: ts).map strV)[j]? = some u → w2.cell? ⟨b, off + j, none⟩ = some u) := Lib.hid (fun j u hu => (hb2'.cell (p := ⟨b, off + j, none⟩) hbW).trans ((hbA.cell (p := ⟨b, off + j, none⟩) hbb).trans (HCE.out j u hu)))
      have hs2' : W1.heap.size + 4 = w2.heap.size := hs2.symm
      have rb0 := kr2.cell 0
      simp only [List.getElem?_toArray, List.getElem?_cons_zero] at rb0
      have rbf := kr2.frozen 0
      have HKP := Lib.hid kp2
      have HKR := Lib.hid kr2
      have HKF := Lib.hid hKF
      obtain ⟨rb, hrb⟩ : ∃ rb, rb = w1.heap.size := ⟨_, rfl⟩
      rw [← hrb] at rb0 rbf HKR HKF hbb hs1 krl ⊢
      obtain ⟨fb, hfb⟩ : ∃ fb, fb = W1.heap.size + j := ⟨_, rfl⟩
      rw [← hfb] at HKF ⊢
      have hfr : rb < fb := by omega
      have hfb2 : fb < w2.heap.size := by omega
      have hrb2 : rb < w2.heap.size := by omega
      have hpr : w.heap.size < rb := hs1
      have HRB := Lib.hid hrb
      have HFB := Lib.hid hfb
      clear hrb hfb
      clear kp2 kr2 hKF hlk hM hM' hK1 hK2 hK3 q0 q1 q2 q3 q4 f0 f1 f2 f3 f4 hc0 hr0 hb2 hs2 kr HK HCE HFI hbA hb1W hb1' hE1
      go_wp2_with fail
      refine (kindOf_in X w2).mono ?_
      rintro e w3 ⟨rfl, hw3⟩
      obtain rfl := hw3.symm
      rw [HKD.out]
      have hRC : RC (w2.setCell ⟨rb, 0, none⟩ (.int .i64 kd)) rb ⟨kd, [], [], [], []⟩ := ⟨_, _, _, _, HKR.out.set_ 0 _, OW.nil, OW.nil, OW.nil, OW.nil⟩
      have kp3 := HKP.out.far (p := ⟨rb, 0, none⟩) (by show w.heap.size ≠ rb; omega) (.int .i64 kd)
      have kf3 := HKF.out.far (p := ⟨rb, 0, none⟩) (by show fb ≠ rb; omega) (.int .i64 kd)
      have hbw3 : Below w.heap.size w (w2.setCell ⟨rb, 0, none⟩ (.int .i64 kd)) := hbw2.setCell (p := ⟨rb, 0, none⟩) (by show w.heap.size ≤ rb; omega) _
      have HCE3 : Hid (∀ j u, ((t :: ts).map strV)[j]? = some u → (w2.setCell ⟨rb, 0, none⟩ (.int .i64 kd)).cell? ⟨b, off + j, none⟩ = some u) := Lib.hid (fun j u hu => (World.cell?_setCell_other w2 _ _ _ (fun e => by have := congrArg Addr.block e; simp at this; omega)).trans (HCE2.out j u hu))
      have hz3 : (w2.setCell ⟨rb, 0, none⟩ (.int .i64 kd)).heap.size = w2.heap.size := by simp [World.setCell]
      by_cases hc1 : c = 1
      · subst hc1
        obtain rfl : N = 0 := by omega
        obtain rfl : ts = [] := List.length_eq_zero_iff.1 hts
        go_wp2_with fail
        generalize (w2.setCell ⟨rb, 0, none⟩ (.int .i64 kd)) = W3 at hRC kp3 kf3 hbw3 HCE3 hz3 ⊢
        obtain ⟨⟨q0', q1', q2', q3', q4'⟩, f0', f1', f2', f3', f4'⟩ := kp3.five
        have HK3 := Lib.hid kp3
        clear kp3
        go_loopw [47] (fun i wr => i = .int .i64 0 ∧ wr = W3) (fun _ _ => 0)
        case atStart => exact ⟨rfl, rfl⟩
        case round =>
          obtain ⟨rfl, rfl⟩ := hrel
          have hR2 : R = (cert0, 10, 1) := by
            rw [HRR.out]
            cases fs with
            | nil => have := HF.out; simp at this; omega
            | cons f fs => rfl
          have HR2 := Lib.hid hR2
          clear hR2
          go_wp2_with fail
          have hBz := (HK3.out).put5 (.int .i64 0) (.slice none 0 0) (.slice none 0 0) (.slice none 0 0) (.slice none 0 0)
          have hbF := below_put5 hbw3 (Nat.le_refl w.heap.size) (.int .i64 0) (.slice none 0 0) (.slice none 0 0) (.slice none 0 0) (.slice none 0 0)
          change bodyPost _ _ _ _ _ (put5 wr w.heap.size (.int .i64 0) (.slice none 0 0) (.slice none 0 0) (.slice none 0 0) (.slice none 0 0))
          generalize put5 wr w.heap.size (.int .i64 0) (.slice none 0 0) (.slice none 0 0) (.slice none 0 0) (.slice none 0 0) = WF at hBz hbF ⊢
          obtain ⟨⟨d0, d1, d2, d3, d4⟩, -⟩ := hBz.five
          refine bodyPost_ret (v := .tuple #[.agg #[.int .i64 0, .slice none 0 0, .slice none 0 0, .slice none 0 0, .slice none 0 0], .int .u16 10, .int .i64 1]) (by simp [results, Tryd.results6, go_sem, d0, d1, d2, d3, d4]) rfl ?_
          rw [HR2.out]
          exact ⟨_, _, _, _, rfl, cert0R _, hbF⟩
      have hc2 : 1 < c := by omega
      have hN60 : N ≤ 60000 := by simp at hll; omega
      go_wp2_with fail
      generalize (w2.setCell ⟨rb, 0, none⟩ (.int .i64 kd)) = W3 at hRC kp3 kf3 hbw3 HCE3 hz3 ⊢
      have HCE4 : Hid (∀ j u, (ts.map strV)[j]? = some u → W3.cell? ⟨b, off + 1 + j, none⟩ = some u) := Lib.hid (fun j u hu => by
        have := HCE3.out (j + 1) u (by simpa using hu)
        rwa [show off + (j + 1) = off + 1 + j by omega] at this)
      have HW2 : Hid (∀ x ∈ ts, x.length ≤ 60000) := Lib.hid (fun x hx => HW.out x (by simp [hx]))
      have HK3 := Lib.hid kp3
      have HF3 := Lib.hid kf3
      clear kp3 kf3 HCE3 HCE2 rb0 rbf HKP HKR HKF
      go_loopw [47] (fun i wr => ∃ (k : Nat) (cc : CertV), k ≤ N ∧ i = .int .i64 k ∧ R = goL (fs.drop k) cc k (ts.drop k) ∧ RC wr rb cc ∧ Kept (fun b => b = rb) W3 wr) (fun i _ => N - (Lib.intOf i).toNat)
      case atStart => exact ⟨0, _, Nat.zero_le _, rfl, HRR.out, hRC, Kept.refl _ _⟩
      case round =>
        obtain ⟨k, cc, hk, rfl, hRk, hRC', hkp⟩ := hrel
        have HRK := Lib.hid hRk
        clear hRk hRC
        have hbwr : Below w.heap.size w wr := hbw3.trans (hkp.to_below hbw3.size (fun k hk => by omega))
        have kpr := HK3.out.kept hkp (by omega)
        have kfr := HF3.out.kept hkp (by omega)
        obtain ⟨⟨q0', q1', q2', q3', q4'⟩, f0', f1', f2', f3', f4'⟩ := kpr.five
        have HKP := Lib.hid kpr
        have HKF := Lib.hid kfr
        have hwz : w2.heap.size ≤ wr.heap.size := by have := hkp.size; omega
        clear kpr kfr
        by_cases hlt : k < N
        · obtain ⟨t', ht'⟩ : ∃ t', ts[k]? = some t' := ⟨_, List.getElem?_eq_getElem (by omega)⟩
          have hdrop : ts.drop k = t' :: ts.drop (k + 1) := by
            have hl : k < ts.length := by omega
            rw [List.drop_eq_getElem_cons hl]
            rw [List.getElem?_eq_getElem hl] at ht'
            rw [Option.some.inj ht']
          have hcell : wr.cell? ⟨b, off + 1 + k, none⟩ = some (.string ⟨t'.toArray⟩) :=
            (World.cell?_of_block (hkp.block b (by omega) (by omega))).trans (HCE4.out k _ (by rw [List.getElem?_map, ht']; rfl))
          have htl : t'.length ≤ 60000 := HW2.out t' (List.mem_of_getElem? ht')
          rw [hdrop] at HRK
          clear hdrop ht'
          obtain ⟨Y, hY⟩ : ∃ Y : ByteArray, Y = ⟨t'.toArray⟩ := ⟨_, rfl⟩
          have hYl : Y.data.toList = t' := by rw [hY]
          have hYs : Y.size ≤ 60000 := by rw [hY]; exact htl
          rw [← hY] at hcell
          have HYL := Lib.hid hYl
          clear hY hYl
          by_cases hkF : k < F
          · obtain ⟨f, hf⟩ : ∃ f, fs[k]? = some f := ⟨_, List.getElem?_eq_getElem (by rw [← HF.out]; exact hkF)⟩
            have hfd : fs.drop k = f :: fs.drop (k + 1) := by
              have hl : k < fs.length := by rw [← HF.out]; exact hkF
              rw [List.drop_eq_getElem_cons hl]
              rw [List.getElem?_eq_getElem hl] at hf
              rw [Option.some.inj hf]
            have hfc : wr.cell? ⟨fb, k, none⟩ = some (fnV f.fn rb) := by
              rw [HKF.out.cell, List.getElem?_toArray, List.getElem?_map, hf]; rfl
            rw [hfd] at HRK
            clear hfd hf
            have HWD : Hid (∀ x ∈ cutL 32 t', x.length ≤ 1000000) := Lib.hid (fun x hx => by have := cut_len 32 t' x hx; omega)
            have hcm := cut_many 32 t'
            unfold fnV at hfc
            have hRCw := hRC'
            have hfbw : fb < wr.heap.size := by omega
            have hF2 : F ≤ 2 := hfl1
            cases f
            · change wr.cell? ⟨fb, k, none⟩ = some (.func (.func 23) #[.pointer (some ⟨rb, 0, none⟩)] #[]) at hfc
              have HRD : Hid (∀ (A5 : Option Addr) (m5 c5 : Nat) (W : World), Env W → RC W rb cc → Reads W W.heap.size 1 A5 m5 ((cutL 32 t').map strV) → m5 ≤ c5 → m5 ≤ 100000 → Calls Tryd.prog 23 #[.pointer (some ⟨rb, 0, none⟩), .slice A5 m5 c5] W fun e w' => e = .returned (.int .u16 (listL (Fld.turn .flow) (Fld.name .flow) (cutL 32 t')).2) ∧ RC w' rb (cc.put .flow (listL (Fld.turn .flow) (Fld.name .flow) (cutL 32 t')).1) ∧ Kept (fun b => b = rb) W w') := Lib.hid (fun A5 m5 c5 W h1 h2 h3 h4 h5 => rd_in .flow rb cc A5 m5 c5 _ W h1 h2 h3 h4 h5 HWD.out)
              obtain ⟨lr, hlr⟩ : ∃ lr, lr = listL (Fld.turn .flow) (Fld.name .flow) (cutL 32 t') := ⟨_, rfl⟩
              rw [← hlr] at HRD
              obtain ⟨ll, er⟩ := lr
              have hRstep : R = if er ≠ 0 then (cert0, er, (k : Int) + 2) else goL (fs.drop (k + 1)) (cc.put .flow ll) (k + 1) (ts.drop (k + 1)) := by
                rw [HRK.out, goL, ← hlr]
              have HRS := Lib.hid hRstep
              have hWW := Words_in Y (by omega) wr.drew (hE.on hbwr.drew)
              rw [HYL.out] at hWW
              clear hlr hRstep
              go_wp2_with fail
              go_region_held3 (fun w' => w'.cell? ⟨fb, k, none⟩ = some (.func (.func 23) #[.pointer (some ⟨rb, 0, none⟩)] #[])) (first | go_keep | exact k1 | exact hfc)
                (first
                  | (go_at_call 13; refine hWW.mono ?_; rintro e w5 ⟨A5, m5, c5, rfl, rfl, hc5, hr5, hb5⟩; have k1 := (hb5.cell (p := ⟨fb, k, none⟩) hfbw).trans hfc; have hb5' : Below wr.heap.size wr w5 := (Below.refl wr.heap.size wr).drew.trans hb5; have hb5w := hbwr.trans (hb5'.mono hbwr.size); have hRC5 := hRC'.below hb5'; have hz5 := hb5'.size)
                  | (go_at_call 23; refine (HRD.out A5 _ c5 w5 (hE.on hb5w) hRC5 hr5 hc5 (by omega)).mono ?_; rintro e w6 ⟨rfl, hRC6, hk6⟩; have k0 : w6.cell? ⟨fb, k, none⟩ = w5.cell? ⟨fb, k, none⟩ := World.cell?_of_block (hk6.block fb (by omega) (by omega)); have k1 := k0.trans k1; clear k0))
              have hk6' : Kept (fun b => b = rb) W3 w6 := (hkp.trans (Kept.of_below hb5' (fun b => b = rb))).trans hk6
              have hbw6 : Below w.heap.size w w6 := hbw3.trans (hk6'.to_below hbw3.size (fun k hk => by omega))
              have kp6 := HK3.out.kept hk6' (by omega)
              obtain ⟨⟨g0, g1, g2, g3, g4⟩, r0, r1, r2, r3, r4⟩ := kp6.five
              have HK6 := Lib.hid kp6
              clear kp6 q0' q1' q2' q3' q4' f0' f1' f2' f3' f4' k1 hcell hfc
              by_cases he : er = 0
              · subst he
                have hRR2 : R = goL (fs.drop (k + 1)) (cc.put .flow ll) (k + 1) (ts.drop (k + 1)) := by rw [HRS.out, if_neg (by simp)]
                have HRR2 := Lib.hid hRR2
                clear hRR2
                go_wp2_with fail
                go_roundw
                case measure => simp [Lib.intOf]; omega
                case rel => exact ⟨k + 1, _, by omega, by go_num, HRR2.out, hRC6, hk6'⟩
              · have hRR2 : R = (cert0, er, (k : Int) + 2) := by rw [HRS.out, if_pos he]
                have HRR2 := Lib.hid hRR2
                clear hRR2
                have he' : (er != 0) = true := by simpa using he
                go_wp2_with fail
                have hBz := (HK6.out).put5 (.int .i64 0) (.slice none 0 0) (.slice none 0 0) (.slice none 0 0) (.slice none 0 0)
                have hbF := below_put5 hbw6 (Nat.le_refl w.heap.size) (.int .i64 0) (.slice none 0 0) (.slice none 0 0) (.slice none 0 0) (.slice none 0 0)
                change bodyPost _ _ _ _ _ (put5 w6 w.heap.size (.int .i64 0) (.slice none 0 0) (.slice none 0 0) (.slice none 0 0) (.slice none 0 0))
                generalize put5 w6 w.heap.size (.int .i64 0) (.slice none 0 0) (.slice none 0 0) (.slice none 0 0) (.slice none 0 0) = WF at hBz hbF ⊢
                obtain ⟨⟨d0, d1, d2, d3, d4⟩, -⟩ := hBz.five
                refine bodyPost_ret (v := .tuple #[.agg #[.int .i64 0, .slice none 0 0, .slice none 0 0, .slice none 0 0, .slice none 0 0], .int .u16 er, .int .i64 ((k : Int) + 2)]) (by simp [results, Tryd.results6, go_sem, d0, d1, d2, d3, d4]) rfl ?_
                rw [HRR2.out]
                exact ⟨_, _, _, _, rfl, cert0R _, hbF⟩
            · change wr.cell? ⟨fb, k, none⟩ = some (.func (.func 24) #[.pointer (some ⟨rb, 0, none⟩)] #[]) at hfc
              have HRD : Hid (∀ (A5 : Option Addr) (m5 c5 : Nat) (W : World), Env W → RC W rb cc → Reads W W.heap.size 1 A5 m5 ((cutL 32 t').map strV) → m5 ≤ c5 → m5 ≤ 100000 → Calls Tryd.prog 24 #[.pointer (some ⟨rb, 0, none⟩), .slice A5 m5 c5] W fun e w' => e = .returned (.int .u16 (listL (Fld.turn .pot) (Fld.name .pot) (cutL 32 t')).2) ∧ RC w' rb (cc.put .pot (listL (Fld.turn .pot) (Fld.name .pot) (cutL 32 t')).1) ∧ Kept (fun b => b = rb) W w') := Lib.hid (fun A5 m5 c5 W h1 h2 h3 h4 h5 => rd_in .pot rb cc A5 m5 c5 _ W h1 h2 h3 h4 h5 HWD.out)
              obtain ⟨lr, hlr⟩ : ∃ lr, lr = listL (Fld.turn .pot) (Fld.name .pot) (cutL 32 t') := ⟨_, rfl⟩
              rw [← hlr] at HRD
              obtain ⟨ll, er⟩ := lr
              have hRstep : R = if er ≠ 0 then (cert0, er, (k : Int) + 2) else goL (fs.drop (k + 1)) (cc.put .pot ll) (k + 1) (ts.drop (k + 1)) := by
                rw [HRK.out, goL, ← hlr]
              have HRS := Lib.hid hRstep
              have hWW := Words_in Y (by omega) wr.drew (hE.on hbwr.drew)
              rw [HYL.out] at hWW
              clear hlr hRstep
              go_wp2_with fail
              go_region_held3 (fun w' => w'.cell? ⟨fb, k, none⟩ = some (.func (.func 24) #[.pointer (some ⟨rb, 0, none⟩)] #[])) (first | go_keep | exact k1 | exact hfc)
                (first
                  | (go_at_call 13; refine hWW.mono ?_; rintro e w5 ⟨A5, m5, c5, rfl, rfl, hc5, hr5, hb5⟩; have k1 := (hb5.cell (p := ⟨fb, k, none⟩) hfbw).trans hfc; have hb5' : Below wr.heap.size wr w5 := (Below.refl wr.heap.size wr).drew.trans hb5; have hb5w := hbwr.trans (hb5'.mono hbwr.size); have hRC5 := hRC'.below hb5'; have hz5 := hb5'.size)
                  | (go_at_call 24; refine (HRD.out A5 _ c5 w5 (hE.on hb5w) hRC5 hr5 hc5 (by omega)).mono ?_; rintro e w6 ⟨rfl, hRC6, hk6⟩; have k0 : w6.cell? ⟨fb, k, none⟩ = w5.cell? ⟨fb, k, none⟩ := World.cell?_of_block (hk6.block fb (by omega) (by omega)); have k1 := k0.trans k1; clear k0))
              have hk6' : Kept (fun b => b = rb) W3 w6 := (hkp.trans (Kept.of_below hb5' (fun b => b = rb))).trans hk6
              have hbw6 : Below w.heap.size w w6 := hbw3.trans (hk6'.to_below hbw3.size (fun k hk => by omega))
              have kp6 := HK3.out.kept hk6' (by omega)
              obtain ⟨⟨g0, g1, g2, g3, g4⟩, r0, r1, r2, r3, r4⟩ := kp6.five
              have HK6 := Lib.hid kp6
              clear kp6 q0' q1' q2' q3' q4' f0' f1' f2' f3' f4' k1 hcell hfc
              by_cases he : er = 0
              · subst he
                have hRR2 : R = goL (fs.drop (k + 1)) (cc.put .pot ll) (k + 1) (ts.drop (k + 1)) := by rw [HRS.out, if_neg (by simp)]
                have HRR2 := Lib.hid hRR2
                clear hRR2
                go_wp2_with fail
                go_roundw
                case measure => simp [Lib.intOf]; omega
                case rel => exact ⟨k + 1, _, by omega, by go_num, HRR2.out, hRC6, hk6'⟩
              · have hRR2 : R = (cert0, er, (k : Int) + 2) := by rw [HRS.out, if_pos he]
                have HRR2 := Lib.hid hRR2
                clear hRR2
                have he' : (er != 0) = true := by simpa using he
                go_wp2_with fail
                have hBz := (HK6.out).put5 (.int .i64 0) (.slice none 0 0) (.slice none 0 0) (.slice none 0 0) (.slice none 0 0)
                have hbF := below_put5 hbw6 (Nat.le_refl w.heap.size) (.int .i64 0) (.slice none 0 0) (.slice none 0 0) (.slice none 0 0) (.slice none 0 0)
                change bodyPost _ _ _ _ _ (put5 w6 w.heap.size (.int .i64 0) (.slice none 0 0) (.slice none 0 0) (.slice none 0 0) (.slice none 0 0))
                generalize put5 w6 w.heap.size (.int .i64 0) (.slice none 0 0) (.slice none 0 0) (.slice none 0 0) (.slice none 0 0) = WF at hBz hbF ⊢
                obtain ⟨⟨d0, d1, d2, d3, d4⟩, -⟩ := hBz.five
                refine bodyPost_ret (v := .tuple #[.agg #[.int .i64 0, .slice none 0 0, .slice none 0 0, .slice none 0 0, .slice none 0 0], .int .u16 er, .int .i64 ((k : Int) + 2)]) (by simp [results, Tryd.results6, go_sem, d0, d1, d2, d3, d4]) rfl ?_
                rw [HRR2.out]
                exact ⟨_, _, _, _, rfl, cert0R _, hbF⟩
            · change wr.cell? ⟨fb, k, none⟩ = some (.func (.func 25) #[.pointer (some ⟨rb, 0, none⟩)] #[]) at hfc
              have HRD : Hid (∀ (A5 : Option Addr) (m5 c5 : Nat) (W : World), Env W → RC W rb cc → Reads W W.heap.size 1 A5 m5 ((cutL 32 t').map strV) → m5 ≤ c5 → m5 ≤ 100000 → Calls Tryd.prog 25 #[.pointer (some ⟨rb, 0, none⟩), .slice A5 m5 c5] W fun e w' => e = .returned (.int .u16 (listL (Fld.turn .side) (Fld.name .side) (cutL 32 t')).2) ∧ RC w' rb (cc.put .side (listL (Fld.turn .side) (Fld.name .side) (cutL 32 t')).1) ∧ Kept (fun b => b = rb) W w') := Lib.hid (fun A5 m5 c5 W h1 h2 h3 h4 h5 => rd_in .side rb cc A5 m5 c5 _ W h1 h2 h3 h4 h5 HWD.out)
              obtain ⟨lr, hlr⟩ : ∃ lr, lr = listL (Fld.turn .side) (Fld.name .side) (cutL 32 t') := ⟨_, rfl⟩
              rw [← hlr] at HRD
              obtain ⟨ll, er⟩ := lr
              have hRstep : R = if er ≠ 0 then (cert0, er, (k : Int) + 2) else goL (fs.drop (k + 1)) (cc.put .side ll) (k + 1) (ts.drop (k + 1)) := by
                rw [HRK.out, goL, ← hlr]
              have HRS := Lib.hid hRstep
              have hWW := Words_in Y (by omega) wr.drew (hE.on hbwr.drew)
              rw [HYL.out] at hWW
              clear hlr hRstep
              go_wp2_with fail
              go_region_held3 (fun w' => w'.cell? ⟨fb, k, none⟩ = some (.func (.func 25) #[.pointer (some ⟨rb, 0, none⟩)] #[])) (first | go_keep | exact k1 | exact hfc)
                (first
                  | (go_at_call 13; refine hWW.mono ?_; rintro e w5 ⟨A5, m5, c5, rfl, rfl, hc5, hr5, hb5⟩; have k1 := (hb5.cell (p := ⟨fb, k, none⟩) hfbw).trans hfc; have hb5' : Below wr.heap.size wr w5 := (Below.refl wr.heap.size wr).drew.trans hb5; have hb5w := hbwr.trans (hb5'.mono hbwr.size); have hRC5 := hRC'.below hb5'; have hz5 := hb5'.size)
                  | (go_at_call 25; refine (HRD.out A5 _ c5 w5 (hE.on hb5w) hRC5 hr5 hc5 (by omega)).mono ?_; rintro e w6 ⟨rfl, hRC6, hk6⟩; have k0 : w6.cell? ⟨fb, k, none⟩ = w5.cell? ⟨fb, k, none⟩ := World.cell?_of_block (hk6.block fb (by omega) (by omega)); have k1 := k0.trans k1; clear k0))
              have hk6' : Kept (fun b => b = rb) W3 w6 := (hkp.trans (Kept.of_below hb5' (fun b => b = rb))).trans hk6
              have hbw6 : Below w.heap.size w w6 := hbw3.trans (hk6'.to_below hbw3.size (fun k hk => by omega))
              have kp6 := HK3.out.kept hk6' (by omega)
              obtain ⟨⟨g0, g1, g2, g3, g4⟩, r0, r1, r2, r3, r4⟩ := kp6.five
              have HK6 := Lib.hid kp6
              clear kp6 q0' q1' q2' q3' q4' f0' f1' f2' f3' f4' k1 hcell hfc
              by_cases he : er = 0
              · subst he
                have hRR2 : R = goL (fs.drop (k + 1)) (cc.put .side ll) (k + 1) (ts.drop (k + 1)) := by rw [HRS.out, if_neg (by simp)]
                have HRR2 := Lib.hid hRR2
                clear hRR2
                go_wp2_with fail
                go_roundw
                case measure => simp [Lib.intOf]; omega
                case rel => exact ⟨k + 1, _, by omega, by go_num, HRR2.out, hRC6, hk6'⟩
              · have hRR2 : R = (cert0, er, (k : Int) + 2) := by rw [HRS.out, if_pos he]
                have HRR2 := Lib.hid hRR2
                clear hRR2
                have he' : (er != 0) = true := by simpa using he
                go_wp2_with fail
                have hBz := (HK6.out).put5 (.int .i64 0) (.slice none 0 0) (.slice none 0 0) (.slice none 0 0) (.slice none 0 0)
                have hbF := below_put5 hbw6 (Nat.le_refl w.heap.size) (.int .i64 0) (.slice none 0 0) (.slice none 0 0) (.slice none 0 0) (.slice none 0 0)
                change bodyPost _ _ _ _ _ (put5 w6 w.heap.size (.int .i64 0) (.slice none 0 0) (.slice none 0 0) (.slice none 0 0) (.slice none 0 0))
                generalize put5 w6 w.heap.size (.int .i64 0) (.slice none 0 0) (.slice none 0 0) (.slice none 0 0) (.slice none 0 0) = WF at hBz hbF ⊢
                obtain ⟨⟨d0, d1, d2, d3, d4⟩, -⟩ := hBz.five
                refine bodyPost_ret (v := .tuple #[.agg #[.int .i64 0, .slice none 0 0, .slice none 0 0, .slice none 0 0, .slice none 0 0], .int .u16 er, .int .i64 ((k : Int) + 2)]) (by simp [results, Tryd.results6, go_sem, d0, d1, d2, d3, d4]) rfl ?_
                rw [HRR2.out]
                exact ⟨_, _, _, _, rfl, cert0R _, hbF⟩
            · change wr.cell? ⟨fb, k, none⟩ = some (.func (.func 26) #[.pointer (some ⟨rb, 0, none⟩)] #[]) at hfc
              have HRD : Hid (∀ (A5 : Option Addr) (m5 c5 : Nat) (W : World), Env W → RC W rb cc → Reads W W.heap.size 1 A5 m5 ((cutL 32 t').map strV) → m5 ≤ c5 → m5 ≤ 100000 → Calls Tryd.prog 26 #[.pointer (some ⟨rb, 0, none⟩), .slice A5 m5 c5] W fun e w' => e = .returned (.int .u16 (listL (Fld.turn .cycle) (Fld.name .cycle) (cutL 32 t')).2) ∧ RC w' rb (cc.put .cycle (listL (Fld.turn .cycle) (Fld.name .cycle) (cutL 32 t')).1) ∧ Kept (fun b => b = rb) W w') := Lib.hid (fun A5 m5 c5 W h1 h2 h3 h4 h5 => rd_in .cycle rb cc A5 m5 c5 _ W h1 h2 h3 h4 h5 HWD.out)
              obtain ⟨lr, hlr⟩ : ∃ lr, lr = listL (Fld.turn .cycle) (Fld.name .cycle) (cutL 32 t') := ⟨_, rfl⟩
              rw [← hlr] at HRD
              obtain ⟨ll, er⟩ := lr
              have hRstep : R = if er ≠ 0 then (cert0, er, (k : Int) + 2) else goL (fs.drop (k + 1)) (cc.put .cycle ll) (k + 1) (ts.drop (k + 1)) := by
                rw [HRK.out, goL, ← hlr]
              have HRS := Lib.hid hRstep
              have hWW := Words_in Y (by omega) wr.drew (hE.on hbwr.drew)
              rw [HYL.out] at hWW
              clear hlr hRstep
              go_wp2_with fail
              go_region_held3 (fun w' => w'.cell? ⟨fb, k, none⟩ = some (.func (.func 26) #[.pointer (some ⟨rb, 0, none⟩)] #[])) (first | go_keep | exact k1 | exact hfc)
                (first
                  | (go_at_call 13; refine hWW.mono ?_; rintro e w5 ⟨A5, m5, c5, rfl, rfl, hc5, hr5, hb5⟩; have k1 := (hb5.cell (p := ⟨fb, k, none⟩) hfbw).trans hfc; have hb5' : Below wr.heap.size wr w5 := (Below.refl wr.heap.size wr).drew.trans hb5; have hb5w := hbwr.trans (hb5'.mono hbwr.size); have hRC5 := hRC'.below hb5'; have hz5 := hb5'.size)
                  | (go_at_call 26; refine (HRD.out A5 _ c5 w5 (hE.on hb5w) hRC5 hr5 hc5 (by omega)).mono ?_; rintro e w6 ⟨rfl, hRC6, hk6⟩; have k0 : w6.cell? ⟨fb, k, none⟩ = w5.cell? ⟨fb, k, none⟩ := World.cell?_of_block (hk6.block fb (by omega) (by omega)); have k1 := k0.trans k1; clear k0))
              have hk6' : Kept (fun b => b = rb) W3 w6 := (hkp.trans (Kept.of_below hb5' (fun b => b = rb))).trans hk6
              have hbw6 : Below w.heap.size w w6 := hbw3.trans (hk6'.to_below hbw3.size (fun k hk => by omega))
              have kp6 := HK3.out.kept hk6' (by omega)
              obtain ⟨⟨g0, g1, g2, g3, g4⟩, r0, r1, r2, r3, r4⟩ := kp6.five
              have HK6 := Lib.hid kp6
              clear kp6 q0' q1' q2' q3' q4' f0' f1' f2' f3' f4' k1 hcell hfc
              by_cases he : er = 0
              · subst he
                have hRR2 : R = goL (fs.drop (k + 1)) (cc.put .cycle ll) (k + 1) (ts.drop (k + 1)) := by rw [HRS.out, if_neg (by simp)]
                have HRR2 := Lib.hid hRR2
                clear hRR2
                go_wp2_with fail
                go_roundw
                case measure => simp [Lib.intOf]; omega
                case rel => exact ⟨k + 1, _, by omega, by go_num, HRR2.out, hRC6, hk6'⟩
              · have hRR2 : R = (cert0, er, (k : Int) + 2) := by rw [HRS.out, if_pos he]
                have HRR2 := Lib.hid hRR2
                clear hRR2
                have he' : (er != 0) = true := by simpa using he
                go_wp2_with fail
                have hBz := (HK6.out).put5 (.int .i64 0) (.slice none 0 0) (.slice none 0 0) (.slice none 0 0) (.slice none 0 0)
                have hbF := below_put5 hbw6 (Nat.le_refl w.heap.size) (.int .i64 0) (.slice none 0 0) (.slice none 0 0) (.slice none 0 0) (.slice none 0 0)
                change bodyPost _ _ _ _ _ (put5 w6 w.heap.size (.int .i64 0) (.slice none 0 0) (.slice none 0 0) (.slice none 0 0) (.slice none 0 0))
                generalize put5 w6 w.heap.size (.int .i64 0) (.slice none 0 0) (.slice none 0 0) (.slice none 0 0) (.slice none 0 0) = WF at hBz hbF ⊢
                obtain ⟨⟨d0, d1, d2, d3, d4⟩, -⟩ := hBz.five
                refine bodyPost_ret (v := .tuple #[.agg #[.int .i64 0, .slice none 0 0, .slice none 0 0, .slice none 0 0, .slice none 0 0], .int .u16 er, .int .i64 ((k : Int) + 2)]) (by simp [results, Tryd.results6, go_sem, d0, d1, d2, d3, d4]) rfl ?_
                rw [HRR2.out]
                exact ⟨_, _, _, _, rfl, cert0R _, hbF⟩
          · have hR2 : R = (cert0, 10, (k : Int) + 2) := by
              rw [HRK.out, List.drop_eq_nil_of_le (by rw [← HF.out]; omega)]; rfl
            have HR2 := Lib.hid hR2
            clear hR2
            go_wp2_with fail
            have hBz := (HKP.out).put5 (.int .i64 0) (.slice none 0 0) (.slice none 0 0) (.slice none 0 0) (.slice none 0 0)
            have hbF := below_put5 hbwr (Nat.le_refl w.heap.size) (.int .i64 0) (.slice none 0 0) (.slice none 0 0) (.slice none 0 0) (.slice none 0 0)
            change bodyPost _ _ _ _ _ (put5 wr w.heap.size (.int .i64 0) (.slice none 0 0) (.slice none 0 0) (.slice none 0 0) (.slice none 0 0))
            generalize put5 wr w.heap.size (.int .i64 0) (.slice none 0 0) (.slice none 0 0) (.slice none 0 0) (.slice none 0 0) = WF at hBz hbF ⊢
            obtain ⟨⟨d0, d1, d2, d3, d4⟩, -⟩ := hBz.five
            refine bodyPost_ret (v := .tuple #[.agg #[.int .i64 0, .slice none 0 0, .slice none 0 0, .slice none 0 0, .slice none 0 0], .int .u16 10, .int .i64 ((k : Int) + 2)]) (by simp [results, Tryd.results6, go_sem, d0, d1, d2, d3, d4]) rfl ?_
            rw [HR2.out]
            exact ⟨_, _, _, _, rfl, cert0R _, hbF⟩
        · have hts2 : ts.drop k = [] := List.drop_eq_nil_of_le (by omega)
          rw [hts2] at HRK
          clear hts2
          by_cases hNF : N + 1 ≤ F
          · have hR2 : R = (cert0, 10, (N : Int) + 1) := by
              obtain rfl : k = N := by omega
              rw [HRK.out]
              cases hd : fs.drop k with
              | nil => have := List.drop_eq_nil_iff.1 hd; rw [← HF.out] at this; omega
              | cons f fs' => rfl
            have HR2 := Lib.hid hR2
            clear hR2
            go_wp2_with fail
            have hBz := (HKP.out).put5 (.int .i64 0) (.slice none 0 0) (.slice none 0 0) (.slice none 0 0) (.slice none 0 0)
            have hbF := below_put5 hbwr (Nat.le_refl w.heap.size) (.int .i64 0) (.slice none 0 0) (.slice none 0 0) (.slice none 0 0) (.slice none 0 0)
            change bodyPost _ _ _ _ _ (put5 wr w.heap.size (.int .i64 0) (.slice none 0 0) (.slice none 0 0) (.slice none 0 0) (.slice none 0 0))
            generalize put5 wr w.heap.size (.int .i64 0) (.slice none 0 0) (.slice none 0 0) (.slice none 0 0) (.slice none 0 0) = WF at hBz hbF ⊢
            obtain ⟨⟨d0, d1, d2, d3, d4⟩, -⟩ := hBz.five
            refine bodyPost_ret (v := .tuple #[.agg #[.int .i64 0, .slice none 0 0, .slice none 0 0, .slice none 0 0, .slice none 0 0], .int .u16 10, .int .i64 ((N : Int) + 1)]) (by simp [results, Tryd.results6, go_sem, d0, d1, d2, d3, d4]) rfl ?_
            rw [HR2.out]
            exact ⟨_, _, _, _, rfl, cert0R _, hbF⟩
          · have hR2 : R = (cc, 0, 0) := by
              rw [HRK.out, List.drop_eq_nil_of_le (by rw [← HF.out]; omega)]; rfl
            obtain ⟨v1, v2, v3, v4, hB, h1, h2, h3, h4⟩ := hRC'
            obtain ⟨A1, c1, e1⟩ := own_form h1
            rw [List.length_map] at e1
            subst e1
            obtain ⟨A2, c2, e2⟩ := own_form h2
            rw [List.length_map] at e2
            subst e2
            obtain ⟨A3, c3, e3⟩ := own_form h3
            rw [List.length_map] at e3
            subst e3
            obtain ⟨A4, c4, e4⟩ := own_form h4
            rw [List.length_map] at e4
            subst e4
            obtain ⟨⟨g0, g1, g2, g3, g4⟩, -⟩ := hB.five
            have HR2 := Lib.hid hR2
            have H1 := Lib.hid h1
            have H2 := Lib.hid h2
            have H3 := Lib.hid h3
            have H4 := Lib.hid h4
            clear hR2 h1 h2 h3 h4 hB
            obtain ⟨kdd, hkdd⟩ : ∃ kdd, kdd = cc.kind := ⟨_, rfl⟩
            rw [← hkdd] at g0
            have HKD2 := Lib.hid hkdd
            clear hkdd
            go_wp2_with fail
            have hBz := (HKP.out).put5 (.int .i64 kdd) (.slice A1 cc.flow.length c1) (.slice A2 cc.pot.length c2) (.slice A3 cc.side.length c3) (.slice A4 cc.cycle.length c4)
            have hbF := below_put5 hbwr (Nat.le_refl w.heap.size) (.int .i64 kdd) (.slice A1 cc.flow.length c1) (.slice A2 cc.pot.length c2) (.slice A3 cc.side.length c3) (.slice A4 cc.cycle.length c4)
            change bodyPost _ _ _ _ _ (put5 wr w.heap.size (.int .i64 kdd) (.slice A1 cc.flow.length c1) (.slice A2 cc.pot.length c2) (.slice A3 cc.side.length c3) (.slice A4 cc.cycle.length c4))
            have H1' : FldR (put5 wr w.heap.size (.int .i64 kdd) (.slice A1 cc.flow.length c1) (.slice A2 cc.pot.length c2) (.slice A3 cc.side.length c3) (.slice A4 cc.cycle.length c4)) (.slice A1 cc.flow.length c1) (cc.flow.map I) := FldR.of_ow (ow_put5 H1.out (by omega) (.int .i64 kdd) (.slice A1 cc.flow.length c1) (.slice A2 cc.pot.length c2) (.slice A3 cc.side.length c3) (.slice A4 cc.cycle.length c4))
            have H2' : FldR (put5 wr w.heap.size (.int .i64 kdd) (.slice A1 cc.flow.length c1) (.slice A2 cc.pot.length c2) (.slice A3 cc.side.length c3) (.slice A4 cc.cycle.length c4)) (.slice A2 cc.pot.length c2) (cc.pot.map I) := FldR.of_ow (ow_put5 H2.out (by omega) (.int .i64 kdd) (.slice A1 cc.flow.length c1) (.slice A2 cc.pot.length c2) (.slice A3 cc.side.length c3) (.slice A4 cc.cycle.length c4))
            have H3' : FldR (put5 wr w.heap.size (.int .i64 kdd) (.slice A1 cc.flow.length c1) (.slice A2 cc.pot.length c2) (.slice A3 cc.side.length c3) (.slice A4 cc.cycle.length c4)) (.slice A3 cc.side.length c3) (cc.side.map Bv) := FldR.of_ow (ow_put5 H3.out (by omega) (.int .i64 kdd) (.slice A1 cc.flow.length c1) (.slice A2 cc.pot.length c2) (.slice A3 cc.side.length c3) (.slice A4 cc.cycle.length c4))
            have H4' : FldR (put5 wr w.heap.size (.int .i64 kdd) (.slice A1 cc.flow.length c1) (.slice A2 cc.pot.length c2) (.slice A3 cc.side.length c3) (.slice A4 cc.cycle.length c4)) (.slice A4 cc.cycle.length c4) (cc.cycle.map I) := FldR.of_ow (ow_put5 H4.out (by omega) (.int .i64 kdd) (.slice A1 cc.flow.length c1) (.slice A2 cc.pot.length c2) (.slice A3 cc.side.length c3) (.slice A4 cc.cycle.length c4))
            generalize put5 wr w.heap.size (.int .i64 kdd) (.slice A1 cc.flow.length c1) (.slice A2 cc.pot.length c2) (.slice A3 cc.side.length c3) (.slice A4 cc.cycle.length c4) = WF at hBz hbF H1' H2' H3' H4' ⊢
            obtain ⟨⟨d0, d1, d2, d3, d4⟩, -⟩ := hBz.five
            refine bodyPost_ret (v := .tuple #[.agg #[.int .i64 kdd, .slice A1 cc.flow.length c1, .slice A2 cc.pot.length c2, .slice A3 cc.side.length c3, .slice A4 cc.cycle.length c4], .int .u16 0, .int .i64 0]) (by simp [results, Tryd.results6, go_sem, d0, d1, d2, d3, d4]) rfl ?_
            rw [HR2.out]
            exact ⟨_, _, _, _, by rw [HKD2.out], ⟨H1', H2', H3', H4'⟩, hbF⟩
end Go.Proofs.YtpfbgoogajgciaaDoor
