/- file: Parse (10), what its lines are. Conditions: none. -/
import Derived.Test.YtoagphighgejnaaGreatDoorJ13
import Derived.Defers
import Derived.Recover
import Derived.Test.YtoagphighgejnaaGreatDoorJ11
import Derived.Test.YtoagphighgejnaaGreatDoorK
set_option linter.unusedSimpArgs false
set_option linter.unusedVariables false
namespace Go.Proofs.YtoagphighgejnaaGreatDoor
open Go.RowKit Go.Shelf

section
variable {W w : World} {pb eb : Nat} {u0 u1 u2 u3 u4 u : Value}
theorem pan1 (h : Blk W pb 31 #[u0, u1, u2, u3, u4]) (hne : ¬ pb = eb) (k : Int) : Blk ((((((W.setCell ⟨pb, 0, none⟩ (.bool false)).setCell ⟨pb, 1, none⟩ (.slice none 0 0)).setCell ⟨pb, 2, none⟩ (.slice none 0 0)).setCell ⟨pb, 3, none⟩ (.int .i64 0)).setCell ⟨pb, 4, none⟩ (.int .i64 0)).setCell ⟨eb, 0, none⟩ (.int .u16 k)).drew pb 31 zeroP := ((h.put5 (.bool false) (.slice none 0 0) (.slice none 0 0) (.int .i64 0) (.int .i64 0)).far (p := ⟨eb, 0, none⟩) hne _).drew
theorem pan2 (h : Blk W eb 45 #[u]) (hne : ¬ pb = eb) (k : Int) : Blk ((((((W.setCell ⟨pb, 0, none⟩ (.bool false)).setCell ⟨pb, 1, none⟩ (.slice none 0 0)).setCell ⟨pb, 2, none⟩ (.slice none 0 0)).setCell ⟨pb, 3, none⟩ (.int .i64 0)).setCell ⟨pb, 4, none⟩ (.int .i64 0)).setCell ⟨eb, 0, none⟩ (.int .u16 k)).drew eb 45 #[.int .u16 k] := ((h.far5 (fun e => hne e.symm) (.bool false) (.slice none 0 0) (.slice none 0 0) (.int .i64 0) (.int .i64 0)).set_ 0 (.int .u16 k)).drew
theorem pan3 (h : Kept (fun b => b = pb ∨ b = eb) w W) (k : Int) : Kept (fun b => b = pb ∨ b = eb) w ((((((W.setCell ⟨pb, 0, none⟩ (.bool false)).setCell ⟨pb, 1, none⟩ (.slice none 0 0)).setCell ⟨pb, 2, none⟩ (.slice none 0 0)).setCell ⟨pb, 3, none⟩ (.int .i64 0)).setCell ⟨pb, 4, none⟩ (.int .i64 0)).setCell ⟨eb, 0, none⟩ (.int .u16 k)).drew := ((h.put5 (b := pb) (fun _ => .inl rfl) (.bool false) (.slice none 0 0) (.slice none 0 0) (.int .i64 0) (.int .i64 0)).setCell (p := ⟨eb, 0, none⟩) (fun _ => .inr rfl) _).drew
theorem pan4 (h : Blk W pb 31 #[u0, u1, u2, u3, u4]) (hne : ¬ pb = eb) (k : Int) : Blk ((((((W.setCell ⟨eb, 0, none⟩ (.int .u16 k)).setCell ⟨pb, 0, none⟩ (.bool false)).setCell ⟨pb, 1, none⟩ (.slice none 0 0)).setCell ⟨pb, 2, none⟩ (.slice none 0 0)).setCell ⟨pb, 3, none⟩ (.int .i64 0)).setCell ⟨pb, 4, none⟩ (.int .i64 0)).drew pb 31 zeroP := ((h.far (p := ⟨eb, 0, none⟩) hne (.int .u16 k)).put5 (.bool false) (.slice none 0 0) (.slice none 0 0) (.int .i64 0) (.int .i64 0)).drew
theorem pan5 (h : Blk W eb 45 #[u]) (hne : ¬ pb = eb) (k : Int) : Blk ((((((W.setCell ⟨eb, 0, none⟩ (.int .u16 k)).setCell ⟨pb, 0, none⟩ (.bool false)).setCell ⟨pb, 1, none⟩ (.slice none 0 0)).setCell ⟨pb, 2, none⟩ (.slice none 0 0)).setCell ⟨pb, 3, none⟩ (.int .i64 0)).setCell ⟨pb, 4, none⟩ (.int .i64 0)).drew eb 45 #[.int .u16 k] := ((h.set_ 0 (.int .u16 k)).far5 (fun e => hne e.symm) (.bool false) (.slice none 0 0) (.slice none 0 0) (.int .i64 0) (.int .i64 0)).drew
theorem pan6 (h : Kept (fun b => b = pb ∨ b = eb) w W) (k : Int) : Kept (fun b => b = pb ∨ b = eb) w ((((((W.setCell ⟨eb, 0, none⟩ (.int .u16 k)).setCell ⟨pb, 0, none⟩ (.bool false)).setCell ⟨pb, 1, none⟩ (.slice none 0 0)).setCell ⟨pb, 2, none⟩ (.slice none 0 0)).setCell ⟨pb, 3, none⟩ (.int .i64 0)).setCell ⟨pb, 4, none⟩ (.int .i64 0)).drew := ((h.setCell (p := ⟨eb, 0, none⟩) (fun _ => .inr rfl) (.int .u16 k)).put5 (b := pb) (fun _ => .inl rfl) (.bool false) (.slice none 0 0) (.slice none 0 0) (.int .i64 0) (.int .i64 0)).drew
end
set_option maxRecDepth 100000 in
theorem catch_idle (pb eb : Nat) (w : World) :
    CallsD Tryz.prog 38 #[.pointer (some ⟨pb, 0, none⟩), .pointer (some ⟨eb, 0, none⟩)] .returning w fun e u' w' => e = .returned (.tuple #[]) ∧ u' = .returning ∧ w' = w := by
  refine callsD_of_wpS Tryz.func38 rfl fun c₀ cs hu => ?_
  apply wpS_seq
  apply wpS_region
  simp [wpOpsS, go_sem, recoverD, hu, Tryz.ntmps38, Exit.thenS]
  rw [show (#[Value.pointer (some ⟨pb, 0, none⟩), .pointer (some ⟨eb, 0, none⟩)] ++ ((Array.replicate 17 undef).setIfInBounds 3 .nilIface).setIfInBounds 0 .nilIface) = (#[.pointer (some ⟨pb, 0, none⟩), .pointer (some ⟨eb, 0, none⟩), .nilIface, undef, undef, .nilIface, undef, undef, undef, undef, undef, undef, undef, undef, undef, undef, undef, undef, undef] : Array Value) by kernel_rfl]
  refine wpS_of_wp ?_
  go_wp2_with fail
  cases c₀
  simp_all [bodyPostS, results, Tryz.results38]
set_option maxRecDepth 100000 in
set_option maxHeartbeats 1600000 in
theorem catch_pan (pb eb : Nat) (k x : Int) (u0 u1 u2 u3 u4 : Value) (older : List PanicEntry) (w : World) (hP : Blk w pb 31 #[u0, u1, u2, u3, u4]) (hE : Blk w eb 45 #[.int .u16 x]) :
    CallsD Tryz.prog 38 #[.pointer (some ⟨pb, 0, none⟩), .pointer (some ⟨eb, 0, none⟩)] (.panicking ({ v := faultV k, recovered := false } :: older)) w fun e u' w' =>
      e = .returned (.tuple #[]) ∧ u' = .panicking ({ v := faultV k, recovered := true } :: older) ∧ Blk w' pb 31 zeroP ∧ Blk w' eb 45 #[.int .u16 k] ∧ Kept (fun b => b = pb ∨ b = eb) w w' := by
  have hne : ¬ pb = eb := hP.ne_ hE (by decide)
  have hne' : ¬ eb = pb := fun e => hne e.symm
  obtain ⟨⟨p0, p1, p2, p3, p4⟩, f0, f1, f2, f3, f4⟩ := hP.five
  have e0 := hE.cell 0
  simp only [List.getElem?_toArray, List.getElem?_cons_zero, List.getElem?_cons_succ] at e0
  have g0 := hE.frozen 0
  have lp := hP.lt
  have le := hE.lt
  have HP := Lib.hid hP
  have HE := Lib.hid hE
  refine callsD_of_wpS Tryz.func38 rfl fun c₀ cs hu => ?_
  apply wpS_seq
  apply wpS_region
  simp [wpOpsS, go_sem, recoverD, hu, Tryz.ntmps38, Exit.thenS, faultV]
  rw [show (#[Value.pointer (some ⟨pb, 0, none⟩), .pointer (some ⟨eb, 0, none⟩)] ++ ((Array.replicate 17 undef).setIfInBounds 3 (.iface 71 (.agg #[.int .u16 k]))).setIfInBounds 0 (.iface 71 (.agg #[.int .u16 k]))) = (#[.pointer (some ⟨pb, 0, none⟩), .pointer (some ⟨eb, 0, none⟩), (.iface 71 (.agg #[.int .u16 k])), undef, undef, (.iface 71 (.agg #[.int .u16 k])), undef, undef, undef, undef, undef, undef, undef, undef, undef, undef, undef, undef, undef] : Array Value) by kernel_rfl]
  refine wpS_of_wp ?_
  clear hP hE
  have HU := Lib.hid hu
  clear hu
  have hta : ∀ W, (Instr.typeAssert (.iface 71 (.agg #[.int .u16 k])) 20 71 true).run Tryz.prog W = .ok (.tuple #[.agg #[.int .u16 k], .bool true]) W := fun W => by kernel_rfl
  have n0 := World.new_ne w ⟨pb, 0, none⟩ p0
  go_wp2_with fail
  have hP1 := HP.out.alloc (.cells #[.int .u16 k] 71)
  have hE1 := HE.out.alloc (.cells #[.int .u16 k] 71)
  have hN1 := Blk.new w 71 #[.int .u16 k]
  have hK1 : Kept (fun b => b = pb ∨ b = eb) w (w.alloc (.cells #[.int .u16 k] 71)) := (Kept.refl _ w).alloc _
  have hsz : w.heap.size < (w.alloc (.cells #[.int .u16 k] 71)).heap.size := by simp
  clear p0 p1 p2 p3 p4 f0 f1 f2 f3 f4 e0 g0 n0 lp le
  generalize w.alloc (.cells #[.int .u16 k] 71) = W1 at *
  obtain ⟨⟨p0, p1, p2, p3, p4⟩, f0, f1, f2, f3, f4⟩ := hP1.five
  have e0 := hE1.cell 0
  have q0 := hN1.cell 0
  simp only [List.getElem?_toArray, List.getElem?_cons_zero, List.getElem?_cons_succ] at e0 q0
  have g0 := hE1.frozen 0
  have lp := hP1.lt
  have le := hE1.lt
  have z1 : ¬ pb = w.heap.size := by have := HP.out.lt; omega
  have z2 : ¬ w.heap.size = pb := by have := HP.out.lt; omega
  have z3 : ¬ eb = w.heap.size := by have := HE.out.lt; omega
  have z4 : ¬ w.heap.size = eb := by have := HE.out.lt; omega
  have HALL := Lib.hid (And.intro hP1 (And.intro hE1 hK1))
  clear hP1 hE1 hN1 hK1
  go_region_law fail
  all_goals go_wp2_with fail
  all_goals refine ⟨rfl, _, rfl, .tuple #[], by simp [results, Tryz.results38], rfl, rfl, ?_, ?_, ?_⟩
  all_goals first
    | with_reducible exact pan1 HALL.out.1 hne k
    | with_reducible exact pan2 HALL.out.2.1 hne k
    | with_reducible exact pan3 HALL.out.2.2 k
    | with_reducible exact pan4 HALL.out.1 hne k
    | with_reducible exact pan5 HALL.out.2.1 hne k
    | with_reducible exact pan6 HALL.out.2.2 k

theorem cut_len (c : UInt8) (l : List UInt8) : ∀ x ∈ cutL c l, x.length ≤ l.length := by
  induction l with
  | nil => simp [cutL]
  | cons b l ih =>
    simp only [cutL]
    by_cases h : b = c
    · rw [if_pos h]; intro x hx
      rcases List.mem_cons.1 hx with rfl | hx
      · simp
      · have := ih x hx; simp; omega
    · rw [if_neg h]
      cases hc : cutL c l with
      | nil => exact absurd hc (cutL_ne c l)
      | cons p q =>
        rw [hc] at ih
        intro x hx
        rcases List.mem_cons.1 hx with rfl | hx
        · have := ih p (by simp); simp; omega
        · have := ih x (by simp [hx]); simp; omega
theorem cut_many (c : UInt8) (l : List UInt8) : (cutL c l).length ≤ l.length + 1 := by
  rw [cutL_length]; have := List.count_le_length (a := c) (l := l); omega
theorem lines_len (l : List UInt8) : ∀ x ∈ linesL l, x.length ≤ l.length := by
  intro x hx
  refine cut_len 10 l x ?_
  unfold linesL at hx
  split at hx
  · exact List.dropLast_subset _ hx
  · exact hx
theorem lines_many (l : List UInt8) : (linesL l).length ≤ l.length + 1 := by
  have := cut_many 10 l
  unfold linesL
  split
  · rw [List.length_dropLast]; omega
  · exact this


/-- a line's first word is none of the letters -/
def NoLetter (x : List UInt8) : Prop := ¬ x = [99] ∧ ¬ x = [112] ∧ ¬ x = [110] ∧ ¬ x = [97]
theorem find_no {x : List UInt8} (h : NoLetter x) : Instr.findNow .string (.string ⟨x.toArray⟩) begs.toList 0 = some none := by
  obtain ⟨n1, n2, n3, n4⟩ := h
  have key : ∀ l : List UInt8, ¬ x = l → Instr.sameNow .string (.string ⟨x.toArray⟩) (.string ⟨l.toArray⟩) = some false := by
    intro l hh
    have hne : (⟨x.toArray⟩ : ByteArray) ≠ ⟨l.toArray⟩ := fun e => hh (by have := (bs_eq_iff ⟨x.toArray⟩ l).1 e; simpa using this)
    obtain ⟨r, h1, h2⟩ := MapKept.sameNow_of_keys (d := .string) (a := .string ⟨x.toArray⟩) (b := .string ⟨l.toArray⟩) (by simp [MapKept.IsKey]) (by simp [MapKept.IsKey])
    rw [h1]
    cases r with
    | false => rfl
    | true => exact absurd (Value.string.inj (h2.1 rfl)) hne
  have k1 := key [99] n1
  have k2 := key [112] n2
  have k3 := key [110] n3
  have k4 := key [97] n4
  unfold begs
  simp only [Instr.findNow]
  rw [show (⟨#[99]⟩ : ByteArray) = ⟨[99].toArray⟩ from rfl, show (⟨#[112]⟩ : ByteArray) = ⟨[112].toArray⟩ from rfl, show (⟨#[110]⟩ : ByteArray) = ⟨[110].toArray⟩ from rfl, show (⟨#[97]⟩ : ByteArray) = ⟨[97].toArray⟩ from rfl, k1, k2, k3, k4]
theorem line_c (r : RdV) (l : List (List UInt8)) : lineE r ([99] :: l) = (0, r) := by unfold lineE; rw [if_pos (by simp)]
theorem line_p (r : RdV) (l : List (List UInt8)) : lineE r ([112] :: l) = headE r ([112] :: l) := by unfold lineE; rw [if_neg (by simp), if_pos (by simp)]
theorem line_n (r : RdV) (l : List (List UInt8)) : lineE r ([110] :: l) = nodeQ r ([110] :: l) := by unfold lineE nodeQ; rw [if_neg (by simp), if_neg (by simp), if_pos (by simp)]
theorem line_a (r : RdV) (l : List (List UInt8)) : lineE r ([97] :: l) = arcQ r ([97] :: l) := by unfold lineE arcQ; rw [if_neg (by simp), if_neg (by simp), if_neg (by simp), if_pos (by simp)]
theorem line_no {x : List UInt8} (h : NoLetter x) (r : RdV) (l : List (List UInt8)) : lineE r (x :: l) = (10, r) := by
  obtain ⟨n1, n2, n3, n4⟩ := h
  unfold lineE; rw [if_neg (by simpa using n1), if_neg (by simpa using n2), if_neg (by simpa using n3), if_neg (by simpa using n4)]
theorem comment_in (a b : Value) (w : World) : Calls Tryz.prog 55 #[a, b] w fun e w' => e = .returned (.tuple #[]) ∧ w = w' := by
  go_enter Tryz.func55, Tryz.ntmps55
  go_wp2_with fail
  go_end0
  exact ⟨rfl, rfl⟩
theorem read_next {L : List (List UInt8)} {k : Nat} {t : List UInt8} (ht : L[k]? = some t) (r : RdV) : readE r k (L.drop k) = if ¬ (lineE r (cutL 32 t)).1 = 0 then (prob0, (lineE r (cutL 32 t)).1, (k : Int) + 1) else readE (lineE r (cutL 32 t)).2 (k + 1) (L.drop (k + 1)) := by
  have hk := (List.getElem?_eq_some_iff.1 ht)
  obtain ⟨hk1, hk2⟩ := hk
  rw [List.drop_eq_getElem_cons hk1, hk2, readE]
/-- what Parse tells -/
def ParTells (w : World) (q : ProbV × Int × Int) (e : Ending) (w' : World) : Prop := ∃ v, e = .returned (.tuple #[v, .int .u16 q.2.1, .int .i64 q.2.2]) ∧ ProbIs w' q.1 v ∧ Below w.heap.size w w'
theorem prob0_is (w : World) : ProbIs w prob0 (probV false none 0 0 none 0 0 0 0) := ⟨_, _, _, _, _, _, rfl, rfl, rfl, Nat.le_refl _, Nat.le_refl _, Reads.none_, Reads.none_⟩
theorem panicD_end {fn : Func} {R : Ending → World → Prop} {a : Act} {w : World} {c : List PanicEntry} (h : Leaves Tryz.prog fn a.tmps R a.defers (.panicking c) w) : bodyPostD Tryz.prog fn R (.panic c) a w := h
theorem env_kept {B rb : Nat} {w w' : World} (h : Env w) (hk : Kept (Rs B rb) w w') (h8 : 8 ≤ rb) (hB : rb < B) : Env w' :=
  h.below (hk.to_below h.size (fun k hk hs => by rcases hs with rfl | hs <;> omega)) (Nat.le_refl _)
theorem rd_no_str {w : World} {rb : Nat} (k : Blk w rb 77 (rdCells rd0 (.slice none 0 0) (.slice none 0 0) (.slice none 0 0) (.map none))) (i : Nat) (X : ByteArray) : w.cell? ⟨rb, i, none⟩ ≠ some (.string X) := by
  rw [k.cell]
  unfold rdCells
  match i with
  | 0 => simp
  | 1 => simp
  | 2 => simp
  | 3 => simp
  | 4 => simp
  | 5 => simp
  | 6 => simp
  | 7 => simp
  | 8 => simp
  | i + 9 => simp
/-- what holds ahead of each line -/
structure ParMid (B pb eb rb mk : Nat) (W wr : World) (r : RdV) : Prop where
  rd : RdIn B wr rb r
  ok : RdOk r
  kept : Kept (Rs B rb) W wr
  p : Blk wr pb 31 zeroP
  e : Blk wr eb 45 #[.int .u16 0]
  m : MapB wr mk begs 4
theorem ParMid.on {B pb eb rb mk : Nat} {W wr w' : World} {r : RdV} (h : ParMid B pb eb rb mk W wr r) (hb : Below wr.heap.size wr w') : ParMid B pb eb rb mk W w' r :=
  ⟨h.rd.on hb, h.ok, h.kept.trans (Kept.of_below hb _), h.p.below hb h.p.lt, h.e.below hb h.e.lt, h.m.below hb h.m.lt⟩
theorem ParMid.step {B pb eb rb mk : Nat} {W wr w' : World} {r r' : RdV} (h : ParMid B pb eb rb mk W wr r) (hk : Kept (Rs B rb) wr w') (hr : RdIn B w' rb r') (ho : RdOk r') (h1 : pb < B ∧ pb ≠ rb ∧ eb < B ∧ eb ≠ rb ∧ mk < B ∧ mk ≠ rb) : ParMid B pb eb rb mk W w' r' := by
  obtain ⟨a1, a2, a3, a4, a5, a6⟩ := h1
  exact ⟨hr, ho, h.kept.trans hk, h.p.kept hk (by rintro (e | e) <;> omega), h.e.kept hk (by rintro (e | e) <;> omega), h.m.kept hk (by rintro (e | e) <;> omega)⟩
theorem ParMid.blocks {B pb eb rb mk : Nat} {W wr w' : World} {r : RdV} (h : ParMid B pb eb rb mk W wr r) (hk : Kept (Rs B rb) wr w') (h1 : pb < B ∧ pb ≠ rb ∧ eb < B ∧ eb ≠ rb ∧ mk < B ∧ mk ≠ rb) : Blk w' pb 31 zeroP ∧ Blk w' eb 45 #[.int .u16 0] := by
  obtain ⟨a1, a2, a3, a4, a5, a6⟩ := h1
  exact ⟨h.p.kept hk (by rintro (e | e) <;> omega), h.e.kept hk (by rintro (e | e) <;> omega)⟩
theorem fin_err {r : RdV} (h : ¬ (finE r).2 = 0) : (finE r).1 = prob0 := by
  unfold finE at h ⊢
  split
  · rfl
  rename_i c1
  rw [if_neg c1] at h
  split
  · rfl
  rename_i c2
  rw [if_neg c2] at h
  split
  · rfl
  rename_i c3
  rw [if_neg c3] at h
  exact absurd rfl h
theorem Reads.stay2 {w w' : World} {B0 size n : Nat} {A : Option Addr} {xs : List Value} (h : Reads w w.heap.size size A n xs) (hf : FromB B0 A) (hk : ∀ b i, B0 ≤ b → b < w.heap.size → w'.cell? ⟨b, i, none⟩ = w.cell? ⟨b, i, none⟩) : Reads w' w.heap.size size A n xs :=
  ⟨h.1, fun hn => by
    obtain ⟨b, off, e, hb, hc⟩ := h.2 hn
    exact ⟨b, off, e, hb, fun j u hu => (hk _ _ (hf b off e) hb).trans (hc j u hu)⟩⟩
theorem par_below {w W2 wr wx : World} (h1 : Below w.heap.size w W2) (hk : Kept (Rs W2.heap.size (w.heap.size + 1 + 1)) W2 wr) (hx : Kept (fun b => b = w.heap.size ∨ b = w.heap.size + 1) wr wx) : Below w.heap.size w wx :=
  (h1.trans (hk.to_below h1.size (fun k hk hs => by have := h1.size; rcases hs with rfl | hs <;> omega))).trans (hx.to_below (Nat.le_trans h1.size hk.size) (fun k hk hs => by rcases hs with rfl | rfl <;> omega))
theorem zeroF (w : World) : (zeroValue 80).run Tryz.prog w = .ok .nilFunc w := by kernel_rfl
def PIs (q p : ProbV × Int × Int) : Prop := q = p
set_option maxRecDepth 100000 in
set_option maxHeartbeats 12800000 in
theorem Parse_in (s : ByteArray) (hs : s.size ≤ 60000) (w : World) (hE : Env w) : Calls Tryz.prog 20 #[.string s] w (ParTells w (parseF s.data.toList)) := by
  obtain ⟨L, hL⟩ : ∃ L, L = linesL s.data.toList := ⟨_, rfl⟩
  obtain ⟨q, HQ⟩ : ∃ q, PIs q (parseF s.data.toList) := ⟨_, rfl⟩
  rw [← HQ]
  have hq : q = readE rd0 0 L := by
    have h : q = parseF s.data.toList := HQ
    rw [h, hL]; unfold parseF; rw [if_neg (by show ¬ 60000 < s.data.toList.length; have : s.data.toList.length = s.size := rfl; omega)]
  have HQR : PIs q (readE rd0 0 L) := hq
  have HLL := Lib.hid (show (∀ x ∈ L, x.length ≤ 60000) ∧ L.length ≤ 60001 by
    have hl : s.data.toList.length = s.size := rfl
    rw [hL]
    exact ⟨fun x hx => Nat.le_trans (lines_len _ x hx) (by omega), Nat.le_trans (lines_many _) (by omega)⟩)
  have HLN := Lib.hid (fun W => Lines_any s (by omega) W)
  rw [← hL] at HLN
  have hnl : ¬ (60000 : Int) < s.size := by omega
  have hmf : ∀ (fn : Fn) (first cap : Array Value) (w : World), (Instr.makeFunc fn first cap).run Tryz.prog w = .ok (.func fn first cap) w := fun _ _ _ _ => rfl
  have h8 := hE.size
  have HEN := Lib.hid hE
  clear hq hs hL HQ hE
  go_enter_defers Tryz.func20, Tryz.ntmps20
  go_wp2_with fail
  refine (begins_in _).mono ?_
  rintro e W1 ⟨rfl, hMk, hb1, hs1⟩
  have hs0 : (((w.alloc (.cells #[.bool false, .slice none 0 0, .slice none 0 0, .int .i64 0, .int .i64 0] 31)).alloc (.cells #[.int .u16 0] 45)).alloc (.cells #[.bool false, .slice none 0 0, .slice none 0 0, .int .i64 0, .int .i64 0, .bool false, .int .i64 0, .slice none 0 0, .map none] 77)).heap.size = w.heap.size + 1 + 1 + 1 := by simp
  have hP0 := ((Blk.new w 31 #[.bool false, .slice none 0 0, .slice none 0 0, .int .i64 0, .int .i64 0]).alloc (.cells #[.int .u16 0] 45)).alloc (.cells #[.bool false, .slice none 0 0, .slice none 0 0, .int .i64 0, .int .i64 0, .bool false, .int .i64 0, .slice none 0 0, .map none] 77)
  have hE0 := (Blk.new (w.alloc (.cells #[.bool false, .slice none 0 0, .slice none 0 0, .int .i64 0, .int .i64 0] 31)) 45 #[.int .u16 0]).alloc (.cells #[.bool false, .slice none 0 0, .slice none 0 0, .int .i64 0, .int .i64 0, .bool false, .int .i64 0, .slice none 0 0, .map none] 77)
  have hR0 := Blk.new ((w.alloc (.cells #[.bool false, .slice none 0 0, .slice none 0 0, .int .i64 0, .int .i64 0] 31)).alloc (.cells #[.int .u16 0] 45)) 77 #[.bool false, .slice none 0 0, .slice none 0 0, .int .i64 0, .int .i64 0, .bool false, .int .i64 0, .slice none 0 0, .map none]
  have hb0 : Below w.heap.size w (((w.alloc (.cells #[.bool false, .slice none 0 0, .slice none 0 0, .int .i64 0, .int .i64 0] 31)).alloc (.cells #[.int .u16 0] 45)).alloc (.cells #[.bool false, .slice none 0 0, .slice none 0 0, .int .i64 0, .int .i64 0, .bool false, .int .i64 0, .slice none 0 0, .map none] 77)) := (((Below.refl _ w).alloc (Nat.le_refl _) _).alloc (by simp) _).alloc (by simp; omega) _
  simp only [World.size_alloc] at hE0 hR0
  generalize ((w.alloc (.cells #[.bool false, .slice none 0 0, .slice none 0 0, .int .i64 0, .int .i64 0] 31)).alloc (.cells #[.int .u16 0] 45)).alloc (.cells #[.bool false, .slice none 0 0, .slice none 0 0, .int .i64 0, .int .i64 0, .bool false, .int .i64 0, .slice none 0 0, .map none] 77) = W0 at *
  have hP1 := hP0.below hb1 hP0.lt
  have hE1 := hE0.below hb1 hE0.lt
  have hR1 := hR0.below hb1 hR0.lt
  have hb01 := hb0.trans (hb1.mono hb0.size)
  rw [hs0] at hMk ⊢
  have HALL1 := Lib.hid (And.intro hP1 (And.intro hE1 (And.intro hR1 (And.intro hMk hb01))))
  clear hP0 hE0 hR0 hb0 hP1 hE1 hR1 hMk hb1 hb01
  go_wp2_with fail
  refine (HLN.out _).mono ?_
  rintro e W2 ⟨A, m, c, rfl, hm, hmc, hrl, hb2⟩
  have hM2 : ParMid W2.heap.size w.heap.size (w.heap.size + 1) (w.heap.size + 1 + 1) (w.heap.size + 1 + 1 + 1) W2 W2 rd0 :=
    ⟨.inl ⟨rfl, HALL1.out.2.2.1.below hb2 HALL1.out.2.2.1.lt⟩, rd0_ok, Kept.refl _ _, HALL1.out.1.below hb2 HALL1.out.1.lt, HALL1.out.2.1.below hb2 HALL1.out.2.1.lt, HALL1.out.2.2.2.1.below hb2 HALL1.out.2.2.2.1.lt⟩
  have hR2 := HALL1.out.2.2.1.below hb2 HALL1.out.2.2.1.lt
  have hbw2 := HALL1.out.2.2.2.2.trans (hb2.mono HALL1.out.2.2.2.2.size)
  have hsB : w.heap.size + 1 + 1 + 1 < W2.heap.size := hM2.m.lt
  have HG := Lib.hid (And.intro hrl (And.intro hR2 hbw2))
  have HM2 := Lib.hid hM2
  clear HALL1 hrl hb2 hR2 hbw2 hM2 hs0 hs1
  go_wp2_with fail
  go_loopw [23, 4] (fun i ln wr => ∃ (k : Nat) (r : RdV), k ≤ m ∧ i = .int .i64 k ∧ ln = .int .i64 k ∧ Hid (ParMid W2.heap.size w.heap.size (w.heap.size + 1) (w.heap.size + 1 + 1) (w.heap.size + 1 + 1 + 1) W2 wr r) ∧ PIs q (readE r k (L.drop k))) (fun i _ _ => m - (intOf i).toNat)
  case atStart => exact ⟨0, rd0, Nat.zero_le _, rfl, rfl, HM2, HQR⟩
  case round =>
    obtain ⟨k, r, hk, rfl, rfl, HS, hqk⟩ := hrel
    have hne : w.heap.size < W2.heap.size ∧ w.heap.size ≠ w.heap.size + 1 + 1 ∧ w.heap.size + 1 < W2.heap.size ∧ w.heap.size + 1 ≠ w.heap.size + 1 + 1 ∧ w.heap.size + 1 + 1 + 1 < W2.heap.size ∧ w.heap.size + 1 + 1 + 1 ≠ w.heap.size + 1 + 1 := by omega
    have HNE := Lib.hid hne
    clear HM2 hne
    by_cases hlt : k < m
    · obtain ⟨b, off, u, rfl, hbB, hx, hcell⟩ := HG.out.1.at_ hlt
      simp only [List.getElem?_map, Option.map_eq_some_iff] at hx
      obtain ⟨t, ht, rfl⟩ := hx
      have hbne : b ≠ w.heap.size + 1 + 1 := by
        rintro rfl
        exact rd_no_str HG.out.2.1 _ _ hcell
      have hcell' : wr.cell? ⟨b, off + k, none⟩ = some (.string ⟨t.toArray⟩) := by
        rw [World.cell?_of_block (HS.out.kept.block b hbB (by rintro (e | e) <;> omega))]; exact hcell
      have lb : b < wr.heap.size := Nat.lt_of_lt_of_le hbB HS.out.kept.size
      have htl : t.length ≤ 60000 := HLL.out.1 t (List.mem_of_getElem? ht)
      have hEr : Env wr := env_kept (HEN.out.on HG.out.2.2) HS.out.kept (by omega) (by omega)
      obtain ⟨T, hT⟩ : ∃ T : ByteArray, T = ⟨t.toArray⟩ := ⟨_, rfl⟩
      have hTd : T.data.toList = t := by rw [hT]
      have HWN := Lib.hid (Words_new T (by rw [hT]; show t.toArray.size < _; simp; omega) wr hEr)
      rw [hTd] at HWN
      rw [← hT] at hcell'
      have hqn : PIs q _ := (show q = _ from hqk).trans (read_next ht r)
      obtain ⟨x, xs, hws⟩ : ∃ x xs, cutL 32 t = x :: xs := by
        cases hc : cutL 32 t with
        | nil => exact absurd hc (cutL_ne 32 t)
        | cons x xs => exact ⟨x, xs, rfl⟩
      have hwl : ∀ y ∈ x :: xs, y.length ≤ 60000 := fun y hy => Nat.le_trans (cut_len 32 t y (by rw [hws]; exact hy)) htl
      rw [hws] at HWN hqn
      have HWL := Lib.hid hwl
      have HQK := Lib.hid hqn
      have HEr := Lib.hid hEr
      have HT := Lib.hid ht
      have hk1 : IntKind.i64.wrap ((k : Int) + 1) = (k : Int) + 1 := IntWalk.i64_in _ (by have := HLL.out.2; omega)
      clear hT hTd hws hwl hqn hEr ht hqk hcell htl
      obtain ⟨n, hn⟩ : ∃ n, n = (x :: xs).length := ⟨_, rfl⟩
      rw [← hn] at HWN
      have hn0 : 0 < n := by rw [hn]; simp
      have hn0' : (0 : Int) < n := by omega
      have HN := Lib.hid hn
      clear hn
      go_wp2_with fail
      refine HWN.out.mono ?_
      rintro e W3 ⟨rfl, hw3, hb3, hs3⟩
      have hS3 := HS.out.on hb3
      have w0 : W3.cell? ⟨wr.heap.size, 0, none⟩ = some (.string ⟨x.toArray⟩) := by rw [hw3.cell]; rfl
      have lw3 := hw3.lt
      have hE3 := HEr.out.on hb3
      have hsz3 : W2.heap.size ≤ W3.heap.size := Nat.le_trans HS.out.kept.size hb3.size
      have HS3 := Lib.hid hS3
      have HW3 := Lib.hid (And.intro hw3 hE3)
      clear hw3 hS3 hE3 HS HEr HWN hcell'
      by_cases x1 : x = [99]
      · subst x1
        have hlk := run_look Tryz.underlying78 Tryz.underlying9 HS3.out.m (show Instr.findNow .string (.string ⟨#[99]⟩) begs.toList 0 = some (some (0, .func (.func 55) #[] #[])) by rfl)
        go_wp2_with fail
        refine (refuse_go _ _).mono ?_
        rintro e _ ⟨rfl, rfl⟩
        go_wp2_with fail
        refine (comment_in _ _ _).mono ?_
        rintro e _ ⟨rfl, rfl⟩
        go_wp2_with fail
        go_roundw
        case rel =>
          refine ⟨k + 1, r, by omega, by go_num, by go_num, HS3, ?_⟩
          have h1 : q = _ := HQK.out
          rw [line_c, if_neg (by simp)] at h1
          exact h1
        case measure => simp [intOf]; omega
      by_cases x2 : x = [112]
      · subst x2
        have hlk := run_look Tryz.underlying78 Tryz.underlying9 HS3.out.m (show Instr.findNow .string (.string ⟨#[112]⟩) begs.toList 0 = some (some (1, .func (.func 56) #[] #[])) by rfl)
        have HC := Lib.hid (problem_any W2.heap.size (w.heap.size + 1 + 1) n r wr.heap.size _ W3 HW3.out.2 HS3.out.rd HS3.out.ok HW3.out.1 HN.out HWL.out hsz3)
        go_wp2_with fail
        refine (refuse_go _ _).mono ?_
        rintro e _ ⟨rfl, rfl⟩
        go_wp2_with fail
        refine HC.out.mono ?_
        rintro e w4 ⟨hk4, (⟨h0, rfl, hR4⟩ | ⟨h0, rfl⟩)⟩
        · go_wp2_with fail
          go_roundw
          case rel =>
            refine ⟨k + 1, _, by omega, by go_num, by go_num, Lib.hid (HS3.out.step hk4 hR4 (by rw [← line_p]; exact lineE_ok HS3.out.ok _ (by rw [line_p]; exact h0)) HNE.out), ?_⟩
            have h1 : q = _ := HQK.out
            rw [if_neg (by rw [line_p]; simpa using h0)] at h1
            rw [← line_p]; exact h1
          case measure => simp [intOf]; omega
        · have hqp : q = _ := HQK.out
          rw [if_pos (by rw [line_p]; exact h0), line_p] at hqp
          refine panicD_end ?_
          refine leaves_cons (f := 38) (args := #[.pointer (some ⟨w.heap.size, 0, none⟩), .pointer (some ⟨w.heap.size + 1, 0, none⟩)]) (by simp) (by simp [go_sem]) ?_
          refine (catch_pan w.heap.size (w.heap.size + 1) _ 0 _ _ _ _ _ [] _ (HS3.out.blocks hk4 HNE.out).1 (HS3.out.blocks hk4 HNE.out).2).mono ?_
          rintro e u' wx ⟨rfl, rfl, hPx, hEx, hkx⟩
          have hBx := par_below HG.out.2.2 (HS3.out.kept.trans hk4) hkx
          obtain ⟨⟨d0, d1, d2, d3, d4⟩, -⟩ := Blk.five hPx
          have de := hEx.cell 0
          simp only [List.getElem?_toArray, List.getElem?_cons_zero, List.getElem?_cons_succ] at de
          have hqe := hqp
          show Leaves _ _ _ _ [] .returning wx
          refine ⟨.tuple #[probV false none 0 0 none 0 0 0 0, .int .u16 _, .int .i64 _], by simp [results, Tryz.results20, go_sem, d0, d1, d2, d3, d4, de, probV]; exact ⟨rfl, rfl⟩, ?_⟩
          rw [show q = _ from hqe]
          exact ⟨_, rfl, prob0_is _, hBx⟩
      by_cases x3 : x = [110]
      · subst x3
        have hlk := run_look Tryz.underlying78 Tryz.underlying9 HS3.out.m (show Instr.findNow .string (.string ⟨#[110]⟩) begs.toList 0 = some (some (2, .func (.func 57) #[] #[])) by rfl)
        have HC := Lib.hid (node_any W2.heap.size (w.heap.size + 1 + 1) n r wr.heap.size _ W3 HW3.out.2 HS3.out.rd HS3.out.ok HW3.out.1 HN.out HWL.out hsz3 (by omega))
        go_wp2_with fail
        refine (refuse_go _ _).mono ?_
        rintro e _ ⟨rfl, rfl⟩
        go_wp2_with fail
        refine HC.out.mono ?_
        rintro e w4 ⟨hk4, (⟨h0, rfl, hR4⟩ | ⟨h0, rfl⟩)⟩
        · go_wp2_with fail
          go_roundw
          case rel =>
            refine ⟨k + 1, _, by omega, by go_num, by go_num, Lib.hid (HS3.out.step hk4 hR4 (by rw [← line_n]; exact lineE_ok HS3.out.ok _ (by rw [line_n]; exact h0)) HNE.out), ?_⟩
            have h1 : q = _ := HQK.out
            rw [if_neg (by rw [line_n]; simpa using h0)] at h1
            rw [← line_n]; exact h1
          case measure => simp [intOf]; omega
        · have hqp : q = _ := HQK.out
          rw [if_pos (by rw [line_n]; exact h0), line_n] at hqp
          refine panicD_end ?_
          refine leaves_cons (f := 38) (args := #[.pointer (some ⟨w.heap.size, 0, none⟩), .pointer (some ⟨w.heap.size + 1, 0, none⟩)]) (by simp) (by simp [go_sem]) ?_
          refine (catch_pan w.heap.size (w.heap.size + 1) _ 0 _ _ _ _ _ [] _ (HS3.out.blocks hk4 HNE.out).1 (HS3.out.blocks hk4 HNE.out).2).mono ?_
          rintro e u' wx ⟨rfl, rfl, hPx, hEx, hkx⟩
          have hBx := par_below HG.out.2.2 (HS3.out.kept.trans hk4) hkx
          obtain ⟨⟨d0, d1, d2, d3, d4⟩, -⟩ := Blk.five hPx
          have de := hEx.cell 0
          simp only [List.getElem?_toArray, List.getElem?_cons_zero, List.getElem?_cons_succ] at de
          have hqe := hqp
          show Leaves _ _ _ _ [] .returning wx
          refine ⟨.tuple #[probV false none 0 0 none 0 0 0 0, .int .u16 _, .int .i64 _], by simp [results, Tryz.results20, go_sem, d0, d1, d2, d3, d4, de, probV]; exact ⟨rfl, rfl⟩, ?_⟩
          rw [show q = _ from hqe]
          exact ⟨_, rfl, prob0_is _, hBx⟩
      by_cases x4 : x = [97]
      · subst x4
        have hlk := run_look Tryz.underlying78 Tryz.underlying9 HS3.out.m (show Instr.findNow .string (.string ⟨#[97]⟩) begs.toList 0 = some (some (3, .func (.func 58) #[] #[])) by rfl)
        have HC := Lib.hid (arc_any W2.heap.size (w.heap.size + 1 + 1) n r wr.heap.size _ W3 HW3.out.2 HS3.out.rd HS3.out.ok HW3.out.1 HN.out HWL.out hsz3 (by omega))
        go_wp2_with fail
        refine (refuse_go _ _).mono ?_
        rintro e _ ⟨rfl, rfl⟩
        go_wp2_with fail
        refine HC.out.mono ?_
        rintro e w4 ⟨hk4, (⟨h0, rfl, hR4⟩ | ⟨h0, rfl⟩)⟩
        · go_wp2_with fail
          go_roundw
          case rel =>
            refine ⟨k + 1, _, by omega, by go_num, by go_num, Lib.hid (HS3.out.step hk4 hR4 (by rw [← line_a]; exact lineE_ok HS3.out.ok _ (by rw [line_a]; exact h0)) HNE.out), ?_⟩
            have h1 : q = _ := HQK.out
            rw [if_neg (by rw [line_a]; simpa using h0)] at h1
            rw [← line_a]; exact h1
          case measure => simp [intOf]; omega
        · have hqp : q = _ := HQK.out
          rw [if_pos (by rw [line_a]; exact h0), line_a] at hqp
          refine panicD_end ?_
          refine leaves_cons (f := 38) (args := #[.pointer (some ⟨w.heap.size, 0, none⟩), .pointer (some ⟨w.heap.size + 1, 0, none⟩)]) (by simp) (by simp [go_sem]) ?_
          refine (catch_pan w.heap.size (w.heap.size + 1) _ 0 _ _ _ _ _ [] _ (HS3.out.blocks hk4 HNE.out).1 (HS3.out.blocks hk4 HNE.out).2).mono ?_
          rintro e u' wx ⟨rfl, rfl, hPx, hEx, hkx⟩
          have hBx := par_below HG.out.2.2 (HS3.out.kept.trans hk4) hkx
          obtain ⟨⟨d0, d1, d2, d3, d4⟩, -⟩ := Blk.five hPx
          have de := hEx.cell 0
          simp only [List.getElem?_toArray, List.getElem?_cons_zero, List.getElem?_cons_succ] at de
          have hqe := hqp
          show Leaves _ _ _ _ [] .returning wx
          refine ⟨.tuple #[probV false none 0 0 none 0 0 0 0, .int .u16 _, .int .i64 _], by simp [results, Tryz.results20, go_sem, d0, d1, d2, d3, d4, de, probV]; exact ⟨rfl, rfl⟩, ?_⟩
          rw [show q = _ from hqe]
          exact ⟨_, rfl, prob0_is _, hBx⟩
      · have hno : NoLetter x := ⟨x1, x2, x3, x4⟩
        have hlk := run_look_none Tryz.underlying78 Tryz.underlying9 zeroF HS3.out.m (find_no hno)
        have hqp : q = _ := HQK.out
        rw [if_pos (by rw [line_no hno]; simp), line_no hno] at hqp
        have HQP := Lib.hid (show PIs q _ from hqp)
        clear hqp x1 x2 x3 x4
        go_wp2_with fail
        refine (refuse_or _ _ _).mono ?_
        rintro e _ ⟨rfl, (⟨hq, rfl⟩ | ⟨hq, rfl⟩)⟩
        · refine panicD_end ?_
          refine leaves_cons (f := 38) (args := #[.pointer (some ⟨w.heap.size, 0, none⟩), .pointer (some ⟨w.heap.size + 1, 0, none⟩)]) (by simp) (by simp [go_sem]) ?_
          refine (catch_pan w.heap.size (w.heap.size + 1) _ 0 _ _ _ _ _ [] _ (And.intro HS3.out.p HS3.out.e).1 (And.intro HS3.out.p HS3.out.e).2).mono ?_
          rintro e u' wx ⟨rfl, rfl, hPx, hEx, hkx⟩
          have hBx := par_below HG.out.2.2 HS3.out.kept hkx
          obtain ⟨⟨d0, d1, d2, d3, d4⟩, -⟩ := Blk.five hPx
          have de := hEx.cell 0
          simp only [List.getElem?_toArray, List.getElem?_cons_zero, List.getElem?_cons_succ] at de
          have hqe := HQP.out
          show Leaves _ _ _ _ [] .returning wx
          refine ⟨.tuple #[probV false none 0 0 none 0 0 0 0, .int .u16 _, .int .i64 _], by simp [results, Tryz.results20, go_sem, d0, d1, d2, d3, d4, de, probV]; exact ⟨rfl, rfl⟩, ?_⟩
          rw [show q = _ from hqe]
          exact ⟨_, rfl, prob0_is _, hBx⟩
        · exact absurd hq (by simp)
    · have hkm : k = L.length := by omega
      have hkd : L.drop k = [] := by rw [hkm]; exact List.drop_length
      have hqf : q = ((finE r).1, (finE r).2, 0) := by
        have h1 : q = _ := hqk
        rw [hkd] at h1
        exact h1
      have HQF := Lib.hid (show PIs q _ from hqf)
      have hrB : w.heap.size + 1 + 1 < W2.heap.size := by omega
      have hFN := finish_any W2.heap.size (w.heap.size + 1 + 1) r wr HS.out.rd HS.out.ok HS.out.kept.size hrB
      have HFN := Lib.hid hFN
      clear hkm hkd hqf hqk hFN
      go_wp2_with fail
      refine HFN.out.mono ?_
      rintro e w4 ⟨hk4, (⟨h0, v, rfl, hpv⟩ | ⟨h0, rfl⟩)⟩
      · obtain ⟨S, n, c1, A', m', c2, rfl, hn, hm', hc1, hc2, hrS, hrA, hfS, hfA⟩ := hpv
        have hbl := HS.out.blocks hk4 HNE.out
        have hp4 := hbl.1
        unfold zeroP at hp4
        obtain ⟨⟨p0, p1, p2, p3, p4⟩, f0, f1, f2, f3, f4⟩ := hp4.five
        have lp := hp4.lt
        have e0 := hbl.2.cell 0
        simp only [List.getElem?_toArray, List.getElem?_cons_zero, List.getElem?_cons_succ] at e0
        have g0 := hbl.2.frozen 0
        have le := hbl.2.lt
        have hpe : ¬ w.heap.size = w.heap.size + 1 := by omega
        have hpe' : ¬ w.heap.size + 1 = w.heap.size := by omega
        have HP4 := Lib.hid (And.intro hp4 hbl.2)
        have HV := Lib.hid (And.intro hn (And.intro hm' (And.intro hc1 (And.intro hc2 (And.intro hrS (And.intro hrA (And.intro hfS hfA)))))))
        have HK4 := Lib.hid (HS.out.kept.trans hk4)
        have H0 := Lib.hid h0
        clear hbl hp4 hn hm' hc1 hc2 hrS hrA hfS hfA hk4 h0
        unfold probV
        go_wp2_with fail
        have hBz := (HP4.out.1.put5 (.bool (finE r).1.max) (.slice S n c1) (.slice A' m' c2) (.int .i64 (finE r).1.s) (.int .i64 (finE r).1.t)).far (p := ⟨w.heap.size + 1, 0, none⟩) hpe (.int .u16 0)
        have hEz := (HP4.out.2.far5 (b := w.heap.size) hpe' (.bool (finE r).1.max) (.slice S n c1) (.slice A' m' c2) (.int .i64 (finE r).1.s) (.int .i64 (finE r).1.t)).set_ 0 (.int .u16 0)
        have hKz : Kept (fun b => b = w.heap.size ∨ b = w.heap.size + 1) w4 ((put5 w4 w.heap.size (.bool (finE r).1.max) (.slice S n c1) (.slice A' m' c2) (.int .i64 (finE r).1.s) (.int .i64 (finE r).1.t)).setCell ⟨w.heap.size + 1, 0, none⟩ (.int .u16 0)) := ((Kept.refl _ w4).put5 (b := w.heap.size) (fun _ => .inl rfl) _ _ _ _ _).setCell (p := ⟨w.heap.size + 1, 0, none⟩) (fun _ => .inr rfl) _
        change bodyPostD _ _ _ _ _ ((put5 w4 w.heap.size (.bool (finE r).1.max) (.slice S n c1) (.slice A' m' c2) (.int .i64 (finE r).1.s) (.int .i64 (finE r).1.t)).setCell ⟨w.heap.size + 1, 0, none⟩ (.int .u16 0))
        generalize (put5 w4 w.heap.size (.bool (finE r).1.max) (.slice S n c1) (.slice A' m' c2) (.int .i64 (finE r).1.s) (.int .i64 (finE r).1.t)).setCell ⟨w.heap.size + 1, 0, none⟩ (.int .u16 0) = WF at hBz hEz hKz ⊢
        have hBx := par_below HG.out.2.2 HK4.out hKz
        have hkeep : ∀ b i, W2.heap.size ≤ b → b < w4.heap.size → WF.cell? ⟨b, i, none⟩ = w4.cell? ⟨b, i, none⟩ := fun b i hb hb4 => World.cell?_of_block (hKz.block b hb4 (by rintro (e | e) <;> omega))
        obtain ⟨hn, hm', hc1, hc2, hrS, hrA, hfS, hfA⟩ := HV.out
        have hIs : ProbIs WF (finE r).1 (probV (finE r).1.max S n c1 A' m' c2 (finE r).1.s (finE r).1.t) := ⟨S, n, c1, A', m', c2, rfl, hn, hm', hc1, hc2, (hrS.stay2 hfS hkeep).more hKz.size, (hrA.stay2 hfA hkeep).more hKz.size⟩
        obtain ⟨⟨d0, d1, d2, d3, d4⟩, -⟩ := hBz.five
        have de := hEz.cell 0
        simp only [List.getElem?_toArray, List.getElem?_cons_zero, List.getElem?_cons_succ, List.setIfInBounds_toArray, List.set_cons_zero] at de
        have hqe : q = _ := HQF.out
        rw [H0.out] at hqe
        show Leaves _ _ _ _ _ .returning _
        refine leaves_cons (f := 38) (args := #[.pointer (some ⟨w.heap.size, 0, none⟩), .pointer (some ⟨w.heap.size + 1, 0, none⟩)]) (by simp) (by simp [go_sem]) ?_
        refine (catch_idle w.heap.size (w.heap.size + 1) WF).mono ?_
        rintro e u' wx ⟨rfl, rfl, rfl⟩
        show Leaves _ _ _ _ [] .returning wx
        refine ⟨.tuple #[probV (finE r).1.max S n c1 A' m' c2 (finE r).1.s (finE r).1.t, .int .u16 0, .int .i64 0], by simp [results, Tryz.results20, go_sem, d0, d1, d2, d3, d4, de, probV], ?_⟩
        rw [show q = _ from hqe]
        exact ⟨_, rfl, hIs, hBx⟩
      · have hqp : q = _ := HQF.out
        rw [fin_err h0] at hqp
        refine panicD_end ?_
        refine leaves_cons (f := 38) (args := #[.pointer (some ⟨w.heap.size, 0, none⟩), .pointer (some ⟨w.heap.size + 1, 0, none⟩)]) (by simp) (by simp [go_sem]) ?_
        refine (catch_pan w.heap.size (w.heap.size + 1) _ 0 _ _ _ _ _ [] _ (HS.out.blocks hk4 HNE.out).1 (HS.out.blocks hk4 HNE.out).2).mono ?_
        rintro e u' wx ⟨rfl, rfl, hPx, hEx, hkx⟩
        have hBx := par_below HG.out.2.2 (HS.out.kept.trans hk4) hkx
        obtain ⟨⟨d0, d1, d2, d3, d4⟩, -⟩ := Blk.five hPx
        have de := hEx.cell 0
        simp only [List.getElem?_toArray, List.getElem?_cons_zero, List.getElem?_cons_succ] at de
        have hqe := hqp
        show Leaves _ _ _ _ [] .returning wx
        refine ⟨.tuple #[probV false none 0 0 none 0 0 0 0, .int .u16 _, .int .i64 _], by simp [results, Tryz.results20, go_sem, d0, d1, d2, d3, d4, de, probV]; exact ⟨rfl, rfl⟩, ?_⟩
        rw [show q = _ from hqe]
        exact ⟨_, rfl, prob0_is _, hBx⟩
set_option maxRecDepth 100000 in
set_option maxHeartbeats 1600000 in
theorem Parse_long (s : ByteArray) (hs : ¬ s.size ≤ 60000) (w : World) : Calls Tryz.prog 20 #[.string s] w (ParTells w (parseF s.data.toList)) := by
  have hq : parseF s.data.toList = (prob0, 3, 0) := by
    unfold parseF; rw [if_pos (by show 60000 < s.data.toList.length; have : s.data.toList.length = s.size := rfl; omega)]
  rw [hq]
  have hnl : (60000 : Int) < s.size := by omega
  clear hq hs
  have hb0 : Below w.heap.size w ((w.alloc (.cells #[.bool false, .slice none 0 0, .slice none 0 0, .int .i64 0, .int .i64 0] 31)).alloc (.cells #[.int .u16 3] 45)) := ((Below.refl _ w).alloc (Nat.le_refl _) _).alloc (by simp) _
  have hP0 := (Blk.new w 31 #[.bool false, .slice none 0 0, .slice none 0 0, .int .i64 0, .int .i64 0]).alloc (.cells #[.int .u16 3] 45)
  have hE0 := Blk.new (w.alloc (.cells #[.bool false, .slice none 0 0, .slice none 0 0, .int .i64 0, .int .i64 0] 31)) 45 #[.int .u16 3]
  simp only [World.size_alloc] at hE0
  have HA := Lib.hid (And.intro hb0 (And.intro hP0 hE0))
  clear hb0 hP0 hE0
  go_enter_defers Tryz.func20, Tryz.ntmps20
  go_wp2_with fail
  obtain ⟨hb0, hP0, hE0⟩ := HA.out
  clear HA
  generalize (w.alloc (.cells #[.bool false, .slice none 0 0, .slice none 0 0, .int .i64 0, .int .i64 0] 31)).alloc (.cells #[.int .u16 3] 45) = WF at *
  obtain ⟨⟨d0, d1, d2, d3, d4⟩, -⟩ := hP0.five
  have de := hE0.cell 0
  simp only [List.getElem?_toArray, List.getElem?_cons_zero, List.getElem?_cons_succ] at de
  show Leaves _ _ _ _ [] .returning WF
  refine ⟨.tuple #[probV false none 0 0 none 0 0 0 0, .int .u16 3, .int .i64 0], by simp [results, Tryz.results20, go_sem, d0, d1, d2, d3, d4, de, probV], ?_⟩
  exact ⟨_, rfl, prob0_is _, hb0⟩
theorem Parse_any (s : ByteArray) (w : World) (hE : Env w) : Calls Tryz.prog 20 #[.string s] w (ParTells w (parseF s.data.toList)) := by
  by_cases hs : s.size ≤ 60000
  · exact Parse_in s hs w hE
  · exact Parse_long s hs w
end Go.Proofs.YtoagphighgejnaaGreatDoor
