/- bit (65), arc (67), list at numbers (62), marks (64), places (66). Conditions: none. Printed by genQ2.py. -/
import Derived.Test.YtpfbgoogajgciaaDoorP1
set_option linter.unusedSimpArgs false
set_option linter.unusedVariables false
namespace Go.Proofs.YtpfbgoogajgciaaDoor
open Go.RowKit Go.Shelf

def I (x : Int) : Value := .int .i64 x
def Bv (x : Int) : Value := .bool (decide (x = 1))
theorem info2 : (Tryd.prog.info? 2).map (fun i => (i.zero, i.size, i.bytes)) = some (some (.int .i64 0), 1, 8) := by kernel_rfl
theorem info3 : (Tryd.prog.info? 3).map (fun i => (i.zero, i.size, i.bytes)) = some (some (.int .i64 0), 1, 8) := by kernel_rfl
theorem info4 : (Tryd.prog.info? 4).map (fun i => (i.zero, i.size, i.bytes)) = some (some (.bool false), 1, 1) := by kernel_rfl

theorem str_ne (s : ByteArray) (l : List UInt8) (h : s.data.toList ≠ l) : (s.toList == l) = false := by rw [Lib.toList_data]; simpa using h
theorem bit_in (s : ByteArray) (w : World) :
    Calls Tryd.prog 37 #[.string s] w fun e w' => e = .returned (.tuple #[Bv (bitL s.data.toList).1, .int .u16 (bitL s.data.toList).2]) ∧ Below w.heap.size w w' := by
  by_cases h1 : s.data.toList = [49]
  · obtain rfl := (bs_eq_iff s [49]).2 h1
    go_enter Tryd.func37, Tryd.ntmps37
    go_wp2
    exact bodyPost_ret (v := .tuple #[.bool true, .int .u16 0]) (by simp [results, Tryd.results37, go_sem]) rfl ⟨rfl, Below.refl _ _⟩
  · by_cases h2 : s.data.toList = [48]
    · obtain rfl := (bs_eq_iff s [48]).2 h2
      clear h1 h2
      go_enter Tryd.func37, Tryd.ntmps37
      go_wp2
      exact bodyPost_ret (v := .tuple #[.bool false, .int .u16 0]) (by simp [results, Tryd.results37, go_sem]) rfl ⟨rfl, Below.refl _ _⟩
    · have e1 := str_ne s [49] h1
      have e2 := str_ne s [48] h2
      have HB : Hid (bitL s.data.toList = (0, 10)) := Lib.hid (by unfold bitL; rw [if_neg h1, if_neg h2])
      clear h1 h2
      go_enter Tryd.func37, Tryd.ntmps37
      go_wp2
      refine bodyPost_ret (v := .tuple #[.bool false, .int .u16 10]) (by simp [results, Tryd.results37, go_sem]) rfl ⟨?_, Below.refl _ _⟩
      rw [HB.out]; rfl
theorem arc_in (s : ByteArray) (hlim : s.size ≤ 281474976710656) (w : World) (hE : Env w) :
    Calls Tryd.prog 39 #[.string s] w fun e w' => e = .returned (.tuple #[I (arcL s.data.toList).1, .int .u16 (arcL s.data.toList).2]) ∧ Below w.heap.size w w' := by
  have hN := Number_in s hlim w hE
  have HC : Hid (arcL s.data.toList = if (numL s.data.toList).2 ≠ 0 then (0, (numL s.data.toList).2) else if (numL s.data.toList).1 < 0 then (0, 11) else ((numL s.data.toList).1, 0)) := Lib.hid rfl
  generalize arcL s.data.toList = c at HC ⊢
  generalize numL s.data.toList = q at hN HC
  obtain ⟨n, er⟩ := q
  simp only at hN HC
  unfold I
  by_cases h1 : er = 0
  · by_cases h2 : n < 0
    · obtain rfl : c = (0, 11) := by rw [HC.out, if_neg (by simpa using h1), if_pos h2]
      go_enter Tryd.func39, Tryd.ntmps39
      go_wp2_with fail
      refine hN.mono ?_
      rintro e w1 ⟨rfl, hb1⟩
      go_wp2_with fail
      exact bodyPost_ret (v := .tuple #[.int .i64 0, .int .u16 11]) (by simp [results, Tryd.results39, go_sem]) rfl ⟨rfl, hb1⟩
    · obtain rfl : c = (n, 0) := by rw [HC.out, if_neg (by simpa using h1), if_neg h2]
      go_enter Tryd.func39, Tryd.ntmps39
      go_wp2_with fail
      refine hN.mono ?_
      rintro e w1 ⟨rfl, hb1⟩
      go_wp2_with fail
      exact bodyPost_ret (v := .tuple #[.int .i64 n, .int .u16 0]) (by simp [results, Tryd.results39, go_sem]) rfl ⟨rfl, hb1⟩
  · obtain rfl : c = (0, er) := by rw [HC.out, if_pos h1]
    have h1' : (er != 0) = true := by simpa using h1
    go_enter Tryd.func39, Tryd.ntmps39
    go_wp2_with fail
    refine hN.mono ?_
    rintro e w1 ⟨rfl, hb1⟩
    go_wp2_with fail
    exact bodyPost_ret (v := .tuple #[.int .i64 0, .int .u16 er]) (by simp [results, Tryd.results39, go_sem]) rfl ⟨rfl, hb1⟩

theorem any_snoc {ts : List (List UInt8)} {turn : List UInt8 → Int × Int} {k : Nat} {x : List UInt8} (f : Int × Int → Bool) (h : ts[k]? = some x) : ((ts.take (k + 1)).map turn).any f = (((ts.take k).map turn).any f || f (turn x)) := by
  rw [List.take_add_one, h]; simp
theorem map_snoc {ts : List (List UInt8)} {turn : List UInt8 → Int × Int} {k : Nat} {x : List UInt8} (h : ts[k]? = some x) : ((ts.take (k + 1)).map turn).map (·.1) = ((ts.take k).map turn).map (·.1) ++ [(turn x).1] := by
  rw [List.take_add_one, h]; simp
theorem list_bad {turn : List UInt8 → Int × Int} {name : List UInt8} {ws : List (List UInt8)} {x : List UInt8} (h : ws.head? = some name) (hx : x ∈ ws.tail) (he : (turn x).2 ≠ 0) (he' : (turn x).2 ≠ 11) : listL turn name ws = ([], 10) := by
  unfold listL
  rw [if_neg (by simp [h]), if_pos]
  rw [List.any_eq_true]
  exact ⟨turn x, List.mem_map.2 ⟨x, hx, rfl⟩, decide_eq_true ⟨he, he'⟩⟩


set_option maxHeartbeats 1600000 in
set_option maxRecDepth 100000 in
theorem list62_in (name : ByteArray) (A : Option Addr) (n c : Nat) (ws : List (List UInt8)) (w : World) (hE : Env w) (hr : Reads w w.heap.size 1 A n (ws.map strV)) (hcap : n ≤ c) (hn : n ≤ 100000) (hw : ∀ x ∈ ws, x.length ≤ 1000000) :
    Calls Tryd.prog 34 #[.string name, .slice A n c, .func (.func 35) #[] #[]] w fun e w' => ∃ B m cp, e = .returned (.tuple #[.slice B m cp, .int .u16 (listL numL name.data.toList ws).2]) ∧ m = (listL numL name.data.toList ws).1.length ∧ w'.ownsRow w.heap.size 2 1 (.slice B m cp) m ((listL numL name.data.toList ws).1.map I) ∧ Below w.heap.size w w' := by
  have hlen : ws.length = n := by have := hr.1; simpa using this
  cases ws with
  | nil =>
    obtain rfl : n = 0 := by simpa using hlen.symm
    go_enter Tryd.func34, Tryd.ntmps34
    go_wp2
    exact bodyPost_ret (v := .tuple #[.slice none 0 0, .int .u16 10]) (by simp [results, Tryd.results34, go_sem]) rfl ⟨none, 0, 0, rfl, rfl, World.ownsRow_nil _ _ _ _, Below.refl _ _⟩
  | cons x0 ts =>
    obtain ⟨N, rfl⟩ : ∃ N, n = N + 1 := ⟨ts.length, by simpa using hlen.symm⟩
    have hts : ts.length = N := by simpa using hlen
    obtain ⟨b, off, rfl, hb, hcells⟩ := hr.2 (by omega)
    have hc0 : w.cell? ⟨b, off, none⟩ = some (.string ⟨x0.toArray⟩) := by have := hcells 0 _ rfl; rwa [Nat.add_zero] at this
    by_cases hx0 : x0 = name.data.toList
    · have hX0 : (⟨x0.toArray⟩ : ByteArray) = name := by rw [hx0]
      have hhead : (x0 :: ts).head? = some name.data.toList := by rw [hx0]; rfl
      rw [hX0] at hc0
      have hnn : (name.toList == name.toList) = true := by simp
      have HL : Hid (∀ t, listL t name.data.toList (x0 :: ts) = if (ts.map t).any (fun p => decide (p.2 ≠ 0 ∧ p.2 ≠ 11)) then ([], 10) else if 1000 < ts.length then ([], 20) else if (ts.map t).any (fun p => decide (p.2 ≠ 0)) then ([], 11) else ((ts.map t).map (·.1), 0)) := Lib.hid (fun t => by
        unfold listL; rw [if_neg (by simp [hx0])]; rfl)
      have HH := Lib.hid hhead
      have HCL : Hid (∀ j u, (ts.map strV)[j]? = some u → w.cell? ⟨b, off + 1 + j, none⟩ = some u) := Lib.hid (fun j u hu => by
        have := hcells (j + 1) u (by simpa using hu)
        rwa [show off + (j + 1) = off + 1 + j by omega] at this)
      have HW : Hid (∀ x ∈ ts, x.length ≤ 1000000) := Lib.hid (fun x hx => hw x (by simp [hx]))
      obtain ⟨i0, hi, hz0, hz1, hz2⟩ := info_parts info2
      have HI := Lib.hid hi
      have HZ0 := Lib.hid hz0
      have HZ1 := Lib.hid hz1
      have HZ2 := Lib.hid hz2
      clear hi hz0 hz1 hz2 hhead hx0 hX0 hw hcells hr hlen
      by_cases hc1 : c = 1
      · subst hc1
        obtain rfl : N = 0 := by omega
        obtain rfl : ts = [] := List.length_eq_zero_iff.1 hts
        have HE := Lib.hid (HL.out numL)
        go_enter Tryd.func34, Tryd.ntmps34
        go_wp2_with fail
        go_loopw [8, 9, 27] (fun l bg i wr => l = .slice none 0 0 ∧ bg = .bool false ∧ i = .int .i64 0 ∧ wr = w) (fun _ _ _ _ => 0)
        case atStart => exact ⟨rfl, rfl, rfl, rfl⟩
        case round =>
          obtain ⟨rfl, rfl, rfl, rfl⟩ := hrel
          go_wp2_with fail
          refine bodyPost_ret (v := .tuple #[.slice none 0 0, .int .u16 0]) (by simp [results, Tryd.results34, go_sem]) rfl ?_
          rw [HE.out]
          exact ⟨none, 0, 0, rfl, rfl, World.ownsRow_nil _ _ _ _, Below.refl _ _⟩
      have hc2 : 1 < c := by omega
      have hz : (((N : Int) + 1) == 0) = false := by simp; omega
      go_enter Tryd.func34, Tryd.ntmps34
      go_wp2_with fail
      go_loopw [8, 9, 27] (fun l bg i wr => ∃ (k : Nat) (X : List Int), k ≤ N ∧ i = .int .i64 k ∧ bg = .bool (((ts.take k).map numL).any (fun p => decide (p.2 ≠ 0))) ∧ ((ts.take k).map numL).any (fun p => decide (p.2 ≠ 0 ∧ p.2 ≠ 11)) = false ∧ (((ts.take k).map numL).any (fun p => decide (p.2 ≠ 0)) = false → X = ((ts.take k).map numL).map (·.1)) ∧ X.length ≤ k ∧ wr.ownsRow w.heap.size 2 1 l X.length (X.map I) ∧ Below w.heap.size w wr) (fun _ _ i _ => N - (Lib.intOf i).toNat)
      case atStart => exact ⟨0, [], Nat.zero_le _, rfl, rfl, rfl, fun _ => rfl, Nat.le_refl _, World.ownsRow_nil _ _ _ _, Below.refl _ _⟩
      case round =>
        obtain ⟨k, X, hk, rfl, rfl, hno, hXX, hXl, hown, hbw⟩ := hrel
        have HNO := Lib.hid hno
        have HXX := Lib.hid hXX
        have HO := Lib.hid hown
        have hbs := hbw.size
        have hE1 := hE.on hbw
        clear hno hXX hown
        obtain ⟨p, hp⟩ : ∃ p, p = X.length := ⟨_, rfl⟩
        rw [← hp] at HO hXl
        obtain ⟨A', cp, rfl⟩ := own_form HO.out
        have HP := Lib.hid hp
        clear hp
        by_cases hlt : k < N
        · obtain ⟨x, hx⟩ : ∃ x, ts[k]? = some x := ⟨_, List.getElem?_eq_getElem (by omega)⟩
          have hcell : wr.cell? ⟨b, off + 1 + k, none⟩ = some (.string ⟨x.toArray⟩) := (hbw.cell (p := ⟨b, off + 1 + k, none⟩) hb).trans (HCL.out k _ (by rw [List.getElem?_map, hx]; rfl))
          have hxl : (⟨x.toArray⟩ : ByteArray).size ≤ 1000000 := HW.out x (List.mem_of_getElem? hx)
          have HT : Hid (∀ W, Env W → Calls Tryd.prog 35 #[.string ⟨x.toArray⟩] W fun e w' => e = .returned (.tuple #[.int .i64 (numL x).1, .int .u16 (numL x).2]) ∧ Below W.heap.size W w') := Lib.hid (fun W hW => Number_in ⟨x.toArray⟩ (by omega) W hW)
          have HA1 := Lib.hid (fun f => any_snoc (turn := numL) f hx)
          have HA2 := Lib.hid (map_snoc (turn := numL) hx)
          have HM := Lib.hid (List.mem_of_getElem? hx)
          generalize (⟨x.toArray⟩ : ByteArray) = Xs at hcell hxl HT
          have HBX := Lib.hid (list_bad (turn := numL) HH.out (x := x) (List.mem_of_getElem? hx))
          obtain ⟨vv, hvv⟩ : ∃ vv, numL x = vv := ⟨_, rfl⟩
          rw [hvv] at HT HA1 HA2 HBX
          obtain ⟨v, er⟩ := vv
          clear hx hvv
          obtain ⟨bg, hbg⟩ : ∃ bg, ((ts.take k).map numL).any (fun p => decide (p.2 ≠ 0)) = bg := ⟨_, rfl⟩
          rw [hbg] at HXX ⊢
          have HBG := Lib.hid hbg
          clear hbg
          by_cases he0 : er = 0
          · subst he0
            go_wp2_with fail
            refine (HT.out wr hE1).mono ?_
            rintro e w1 ⟨rfl, hb1⟩
            have hbw1 := hbw.trans (hb1.mono hbw.size)
            have hown1 : (w1.alloc (.cells #[.int .i64 v] 2)).ownsRow w.heap.size 2 1 (.slice A' p cp) p (X.map I) := (own_below HO.out hb1).alloc _
            have b1 : p + 1 ≤ maxLen := by unfold maxLen; omega
            have b2 : (p + 1) * 8 ≤ 140737488355328 := by omega
            have b3 : w.heap.size ≤ (w1.alloc (.cells #[.int .i64 v] 2)).heap.size := by have := hbw1.size; simp; omega
            have HO1 := Lib.hid hown1
            have B1 := Lib.hid b1
            have B2 := Lib.hid b2
            have B3 := Lib.hid b3
            clear hown1 b1 b2 b3 hb1
            go_wp2_with (at_builtin; refine wpList_append_own _ rfl _ _ 22 rfl w.heap.size 2 i0 (.int .i64 0) 1 8 Tryd.underlying22 HI.out HZ0.out HZ1.out HZ2.out rfl (by decide) _ _ _ rfl HO1.out ⟨w1.heap.size, 0, none⟩ 1 1 [.int .i64 v] rfl rfl (cell_one_new _ _ _) (by simp [Value.oneCell']) B1.out B2.out B3.out ?_)
            intro v' w2 hown' hgrow _
            go_wp2_with fail
            go_roundw
            case measure => simp [Lib.intOf]; omega
            case rel =>
              refine ⟨k + 1, X ++ [v], by omega, by go_num, ?_, ?_, ?_, ?_, ?_, ?_⟩
              · rw [HA1.out, HBG.out]; simp
              · rw [HA1.out, HNO.out]; simp
              · rw [HA1.out, HBG.out, HA2.out]
                intro h
                rw [HXX.out (by simpa using h)]
              · rw [List.length_append, ← HP.out]; simp; omega
              · rw [List.length_append, ← HP.out, List.map_append]; exact hown'
              · exact (hbw1.alloc hbw1.size _).grown hgrow (by have := hbw1.size; simp; omega) (fun j hj => (HO.out.lt j hj).1)
          · by_cases he1 : er = 11
            · subst he1
              go_wp2_with fail
              refine (HT.out wr hE1).mono ?_
              rintro e w1 ⟨rfl, hb1⟩
              have hbw1 := hbw.trans (hb1.mono hbw.size)
              go_wp2_with fail
              go_roundw
              case measure => simp [Lib.intOf]; omega
              case rel =>
                refine ⟨k + 1, X, by omega, by go_num, ?_, ?_, ?_, by rw [← HP.out]; omega, ?_, hbw1⟩
                · rw [HA1.out]; simp
                · rw [HA1.out, HNO.out]; simp
                · rw [HA1.out]; intro h; simp at h
                · rw [← HP.out]; exact own_below HO.out hb1
            · have hq0 : (er == 0) = false := by simpa using he0
              have hq1 : (er == 11) = false := by simpa using he1
              go_wp2_with fail
              refine (HT.out wr hE1).mono ?_
              rintro e w1 ⟨rfl, hb1⟩
              have hbw1 := hbw.trans (hb1.mono hbw.size)
              go_wp2_with fail
              refine bodyPost_ret (v := .tuple #[.slice none 0 0, .int .u16 10]) (by simp [results, Tryd.results34, go_sem]) rfl ?_
              rw [HBX.out he0 he1]
              exact ⟨none, 0, 0, rfl, rfl, World.ownsRow_nil _ _ _ _, hbw1⟩
        · have htk : ts.take k = ts := List.take_of_length_le (by omega)
          rw [htk] at HNO HXX ⊢
          clear htk
          have HE := Lib.hid (HL.out numL)
          rw [if_neg (by rw [HNO.out]; simp)] at HE
          obtain ⟨bg, hbg⟩ : ∃ bg, (ts.map numL).any (fun p => decide (p.2 ≠ 0)) = bg := ⟨_, rfl⟩
          rw [hbg] at HXX HE ⊢
          clear hbg
          rw [hts] at HE
          by_cases h1000 : 1000 < N
          · rw [if_pos h1000] at HE
            go_wp2_with fail
            refine bodyPost_ret (v := .tuple #[.slice none 0 0, .int .u16 20]) (by simp [results, Tryd.results34, go_sem]) rfl ?_
            rw [HE.out]
            exact ⟨none, 0, 0, rfl, rfl, World.ownsRow_nil _ _ _ _, hbw⟩
          · rw [if_neg h1000] at HE
            cases bg
            · rw [if_neg (by simp)] at HE
              go_wp2_with fail
              refine bodyPost_ret (v := .tuple #[.slice A' p cp, .int .u16 0]) (by simp [results, Tryd.results34, go_sem]) rfl ?_
              rw [HE.out]
              have hX := HXX.out (by simp)
              refine ⟨A', p, cp, rfl, ?_, ?_, hbw⟩
              · show p = ((ts.map numL).map (·.1)).length
                rw [← hX, HP.out]
              · show wr.ownsRow w.heap.size 2 1 (.slice A' p cp) p (((ts.map numL).map (·.1)).map I)
                rw [← hX]; exact HO.out
            · rw [if_pos rfl] at HE
              go_wp2_with fail
              refine bodyPost_ret (v := .tuple #[.slice none 0 0, .int .u16 11]) (by simp [results, Tryd.results34, go_sem]) rfl ?_
              rw [HE.out]
              exact ⟨none, 0, 0, rfl, rfl, World.ownsRow_nil _ _ _ _, hbw⟩
    · have hbs : ((⟨x0.toArray⟩ : ByteArray).toList == name.toList) = false := by
        rw [Lib.toList_data, Lib.toList_data]; simpa using hx0
      have HE : Hid (listL numL name.data.toList (x0 :: ts) = ([], 10)) := Lib.hid (by unfold listL; rw [if_pos (by simpa using hx0)])
      generalize (⟨x0.toArray⟩ : ByteArray) = X0 at hc0 hbs
      clear hr hcells hw hlen
      go_enter Tryd.func34, Tryd.ntmps34
      go_wp2_with fail
      refine bodyPost_ret (v := .tuple #[.slice none 0 0, .int .u16 10]) (by simp [results, Tryd.results34, go_sem]) rfl ?_
      rw [HE.out]
      exact ⟨none, 0, 0, rfl, rfl, World.ownsRow_nil _ _ _ _, Below.refl _ _⟩


set_option maxHeartbeats 1600000 in
set_option maxRecDepth 100000 in
theorem list64_in (name : ByteArray) (A : Option Addr) (n c : Nat) (ws : List (List UInt8)) (w : World) (hE : Env w) (hr : Reads w w.heap.size 1 A n (ws.map strV)) (hcap : n ≤ c) (hn : n ≤ 100000) (hw : ∀ x ∈ ws, x.length ≤ 1000000) :
    Calls Tryd.prog 36 #[.string name, .slice A n c, .func (.func 37) #[] #[]] w fun e w' => ∃ B m cp, e = .returned (.tuple #[.slice B m cp, .int .u16 (listL bitL name.data.toList ws).2]) ∧ m = (listL bitL name.data.toList ws).1.length ∧ w'.ownsRow w.heap.size 4 1 (.slice B m cp) m ((listL bitL name.data.toList ws).1.map Bv) ∧ Below w.heap.size w w' := by
  have hlen : ws.length = n := by have := hr.1; simpa using this
  cases ws with
  | nil =>
    obtain rfl : n = 0 := by simpa using hlen.symm
    go_enter Tryd.func36, Tryd.ntmps36
    go_wp2
    exact bodyPost_ret (v := .tuple #[.slice none 0 0, .int .u16 10]) (by simp [results, Tryd.results36, go_sem]) rfl ⟨none, 0, 0, rfl, rfl, World.ownsRow_nil _ _ _ _, Below.refl _ _⟩
  | cons x0 ts =>
    obtain ⟨N, rfl⟩ : ∃ N, n = N + 1 := ⟨ts.length, by simpa using hlen.symm⟩
    have hts : ts.length = N := by simpa using hlen
    obtain ⟨b, off, rfl, hb, hcells⟩ := hr.2 (by omega)
    have hc0 : w.cell? ⟨b, off, none⟩ = some (.string ⟨x0.toArray⟩) := by have := hcells 0 _ rfl; rwa [Nat.add_zero] at this
    by_cases hx0 : x0 = name.data.toList
    · have hX0 : (⟨x0.toArray⟩ : ByteArray) = name := by rw [hx0]
      have hhead : (x0 :: ts).head? = some name.data.toList := by rw [hx0]; rfl
      rw [hX0] at hc0
      have hnn : (name.toList == name.toList) = true := by simp
      have HL : Hid (∀ t, listL t name.data.toList (x0 :: ts) = if (ts.map t).any (fun p => decide (p.2 ≠ 0 ∧ p.2 ≠ 11)) then ([], 10) else if 1000 < ts.length then ([], 20) else if (ts.map t).any (fun p => decide (p.2 ≠ 0)) then ([], 11) else ((ts.map t).map (·.1), 0)) := Lib.hid (fun t => by
        unfold listL; rw [if_neg (by simp [hx0])]; rfl)
      have HH := Lib.hid hhead
      have HCL : Hid (∀ j u, (ts.map strV)[j]? = some u → w.cell? ⟨b, off + 1 + j, none⟩ = some u) := Lib.hid (fun j u hu => by
        have := hcells (j + 1) u (by simpa using hu)
        rwa [show off + (j + 1) = off + 1 + j by omega] at this)
      have HW : Hid (∀ x ∈ ts, x.length ≤ 1000000) := Lib.hid (fun x hx => hw x (by simp [hx]))
      obtain ⟨i0, hi, hz0, hz1, hz2⟩ := info_parts info4
      have HI := Lib.hid hi
      have HZ0 := Lib.hid hz0
      have HZ1 := Lib.hid hz1
      have HZ2 := Lib.hid hz2
      clear hi hz0 hz1 hz2 hhead hx0 hX0 hw hcells hr hlen
      by_cases hc1 : c = 1
      · subst hc1
        obtain rfl : N = 0 := by omega
        obtain rfl : ts = [] := List.length_eq_zero_iff.1 hts
        have HE := Lib.hid (HL.out bitL)
        go_enter Tryd.func36, Tryd.ntmps36
        go_wp2_with fail
        go_loopw [8, 9, 27] (fun l bg i wr => l = .slice none 0 0 ∧ bg = .bool false ∧ i = .int .i64 0 ∧ wr = w) (fun _ _ _ _ => 0)
        case atStart => exact ⟨rfl, rfl, rfl, rfl⟩
        case round =>
          obtain ⟨rfl, rfl, rfl, rfl⟩ := hrel
          go_wp2_with fail
          refine bodyPost_ret (v := .tuple #[.slice none 0 0, .int .u16 0]) (by simp [results, Tryd.results36, go_sem]) rfl ?_
          rw [HE.out]
          exact ⟨none, 0, 0, rfl, rfl, World.ownsRow_nil _ _ _ _, Below.refl _ _⟩
      have hc2 : 1 < c := by omega
      have hz : (((N : Int) + 1) == 0) = false := by simp; omega
      go_enter Tryd.func36, Tryd.ntmps36
      go_wp2_with fail
      go_loopw [8, 9, 27] (fun l bg i wr => ∃ (k : Nat) (X : List Int), k ≤ N ∧ i = .int .i64 k ∧ bg = .bool (((ts.take k).map bitL).any (fun p => decide (p.2 ≠ 0))) ∧ ((ts.take k).map bitL).any (fun p => decide (p.2 ≠ 0 ∧ p.2 ≠ 11)) = false ∧ (((ts.take k).map bitL).any (fun p => decide (p.2 ≠ 0)) = false → X = ((ts.take k).map bitL).map (·.1)) ∧ X.length ≤ k ∧ wr.ownsRow w.heap.size 4 1 l X.length (X.map Bv) ∧ Below w.heap.size w wr) (fun _ _ i _ => N - (Lib.intOf i).toNat)
      case atStart => exact ⟨0, [], Nat.zero_le _, rfl, rfl, rfl, fun _ => rfl, Nat.le_refl _, World.ownsRow_nil _ _ _ _, Below.refl _ _⟩
      case round =>
        obtain ⟨k, X, hk, rfl, rfl, hno, hXX, hXl, hown, hbw⟩ := hrel
        have HNO := Lib.hid hno
        have HXX := Lib.hid hXX
        have HO := Lib.hid hown
        have hbs := hbw.size
        have hE1 := hE.on hbw
        clear hno hXX hown
        obtain ⟨p, hp⟩ : ∃ p, p = X.length := ⟨_, rfl⟩
        rw [← hp] at HO hXl
        obtain ⟨A', cp, rfl⟩ := own_form HO.out
        have HP := Lib.hid hp
        clear hp
        by_cases hlt : k < N
        · obtain ⟨x, hx⟩ : ∃ x, ts[k]? = some x := ⟨_, List.getElem?_eq_getElem (by omega)⟩
          have hcell : wr.cell? ⟨b, off + 1 + k, none⟩ = some (.string ⟨x.toArray⟩) := (hbw.cell (p := ⟨b, off + 1 + k, none⟩) hb).trans (HCL.out k _ (by rw [List.getElem?_map, hx]; rfl))
          have hxl : (⟨x.toArray⟩ : ByteArray).size ≤ 1000000 := HW.out x (List.mem_of_getElem? hx)
          have HT : Hid (∀ W, Env W → Calls Tryd.prog 37 #[.string ⟨x.toArray⟩] W fun e w' => e = .returned (.tuple #[.bool (decide ((bitL x).1 = 1)), .int .u16 (bitL x).2]) ∧ Below W.heap.size W w') := Lib.hid (fun W hW => bit_in ⟨x.toArray⟩ W)
          have HA1 := Lib.hid (fun f => any_snoc (turn := bitL) f hx)
          have HA2 := Lib.hid (map_snoc (turn := bitL) hx)
          have HM := Lib.hid (List.mem_of_getElem? hx)
          generalize (⟨x.toArray⟩ : ByteArray) = Xs at hcell hxl HT
          have HBX := Lib.hid (list_bad (turn := bitL) HH.out (x := x) (List.mem_of_getElem? hx))
          obtain ⟨vv, hvv⟩ : ∃ vv, bitL x = vv := ⟨_, rfl⟩
          rw [hvv] at HT HA1 HA2 HBX
          obtain ⟨v, er⟩ := vv
          clear hx hvv
          obtain ⟨bg, hbg⟩ : ∃ bg, ((ts.take k).map bitL).any (fun p => decide (p.2 ≠ 0)) = bg := ⟨_, rfl⟩
          rw [hbg] at HXX ⊢
          have HBG := Lib.hid hbg
          clear hbg
          by_cases he0 : er = 0
          · subst he0
            go_wp2_with fail
            refine (HT.out wr hE1).mono ?_
            rintro e w1 ⟨rfl, hb1⟩
            have hbw1 := hbw.trans (hb1.mono hbw.size)
            have hown1 : (w1.alloc (.cells #[.bool (decide (v = 1))] 4)).ownsRow w.heap.size 4 1 (.slice A' p cp) p (X.map Bv) := (own_below HO.out hb1).alloc _
            have b1 : p + 1 ≤ maxLen := by unfold maxLen; omega
            have b2 : (p + 1) * 1 ≤ 140737488355328 := by omega
            have b3 : w.heap.size ≤ (w1.alloc (.cells #[.bool (decide (v = 1))] 4)).heap.size := by have := hbw1.size; simp; omega
            have HO1 := Lib.hid hown1
            have B1 := Lib.hid b1
            have B2 := Lib.hid b2
            have B3 := Lib.hid b3
            clear hown1 b1 b2 b3 hb1
            go_wp2_with (at_builtin; refine wpList_append_own _ rfl _ _ 28 rfl w.heap.size 4 i0 (.bool false) 1 1 Tryd.underlying28 HI.out HZ0.out HZ1.out HZ2.out rfl (by decide) _ _ _ rfl HO1.out ⟨w1.heap.size, 0, none⟩ 1 1 [.bool (decide (v = 1))] rfl rfl (cell_one_new _ _ _) (by simp [Value.oneCell']) B1.out B2.out B3.out ?_)
            intro v' w2 hown' hgrow _
            go_wp2_with fail
            go_roundw
            case measure => simp [Lib.intOf]; omega
            case rel =>
              refine ⟨k + 1, X ++ [v], by omega, by go_num, ?_, ?_, ?_, ?_, ?_, ?_⟩
              · rw [HA1.out, HBG.out]; simp
              · rw [HA1.out, HNO.out]; simp
              · rw [HA1.out, HBG.out, HA2.out]
                intro h
                rw [HXX.out (by simpa using h)]
              · rw [List.length_append, ← HP.out]; simp; omega
              · rw [List.length_append, ← HP.out, List.map_append]; exact hown'
              · exact (hbw1.alloc hbw1.size _).grown hgrow (by have := hbw1.size; simp; omega) (fun j hj => (HO.out.lt j hj).1)
          · by_cases he1 : er = 11
            · subst he1
              go_wp2_with fail
              refine (HT.out wr hE1).mono ?_
              rintro e w1 ⟨rfl, hb1⟩
              have hbw1 := hbw.trans (hb1.mono hbw.size)
              go_wp2_with fail
              go_roundw
              case measure => simp [Lib.intOf]; omega
              case rel =>
                refine ⟨k + 1, X, by omega, by go_num, ?_, ?_, ?_, by rw [← HP.out]; omega, ?_, hbw1⟩
                · rw [HA1.out]; simp
                · rw [HA1.out, HNO.out]; simp
                · rw [HA1.out]; intro h; simp at h
                · rw [← HP.out]; exact own_below HO.out hb1
            · have hq0 : (er == 0) = false := by simpa using he0
              have hq1 : (er == 11) = false := by simpa using he1
              go_wp2_with fail
              refine (HT.out wr hE1).mono ?_
              rintro e w1 ⟨rfl, hb1⟩
              have hbw1 := hbw.trans (hb1.mono hbw.size)
              go_wp2_with fail
              refine bodyPost_ret (v := .tuple #[.slice none 0 0, .int .u16 10]) (by simp [results, Tryd.results36, go_sem]) rfl ?_
              rw [HBX.out he0 he1]
              exact ⟨none, 0, 0, rfl, rfl, World.ownsRow_nil _ _ _ _, hbw1⟩
        · have htk : ts.take k = ts := List.take_of_length_le (by omega)
          rw [htk] at HNO HXX ⊢
          clear htk
          have HE := Lib.hid (HL.out bitL)
          rw [if_neg (by rw [HNO.out]; simp)] at HE
          obtain ⟨bg, hbg⟩ : ∃ bg, (ts.map bitL).any (fun p => decide (p.2 ≠ 0)) = bg := ⟨_, rfl⟩
          rw [hbg] at HXX HE ⊢
          clear hbg
          rw [hts] at HE
          by_cases h1000 : 1000 < N
          · rw [if_pos h1000] at HE
            go_wp2_with fail
            refine bodyPost_ret (v := .tuple #[.slice none 0 0, .int .u16 20]) (by simp [results, Tryd.results36, go_sem]) rfl ?_
            rw [HE.out]
            exact ⟨none, 0, 0, rfl, rfl, World.ownsRow_nil _ _ _ _, hbw⟩
          · rw [if_neg h1000] at HE
            cases bg
            · rw [if_neg (by simp)] at HE
              go_wp2_with fail
              refine bodyPost_ret (v := .tuple #[.slice A' p cp, .int .u16 0]) (by simp [results, Tryd.results36, go_sem]) rfl ?_
              rw [HE.out]
              have hX := HXX.out (by simp)
              refine ⟨A', p, cp, rfl, ?_, ?_, hbw⟩
              · show p = ((ts.map bitL).map (·.1)).length
                rw [← hX, HP.out]
              · show wr.ownsRow w.heap.size 4 1 (.slice A' p cp) p (((ts.map bitL).map (·.1)).map Bv)
                rw [← hX]; exact HO.out
            · rw [if_pos rfl] at HE
              go_wp2_with fail
              refine bodyPost_ret (v := .tuple #[.slice none 0 0, .int .u16 11]) (by simp [results, Tryd.results36, go_sem]) rfl ?_
              rw [HE.out]
              exact ⟨none, 0, 0, rfl, rfl, World.ownsRow_nil _ _ _ _, hbw⟩
    · have hbs : ((⟨x0.toArray⟩ : ByteArray).toList == name.toList) = false := by
        rw [Lib.toList_data, Lib.toList_data]; simpa using hx0
      have HE : Hid (listL bitL name.data.toList (x0 :: ts) = ([], 10)) := Lib.hid (by unfold listL; rw [if_pos (by simpa using hx0)])
      generalize (⟨x0.toArray⟩ : ByteArray) = X0 at hc0 hbs
      clear hr hcells hw hlen
      go_enter Tryd.func36, Tryd.ntmps36
      go_wp2_with fail
      refine bodyPost_ret (v := .tuple #[.slice none 0 0, .int .u16 10]) (by simp [results, Tryd.results36, go_sem]) rfl ?_
      rw [HE.out]
      exact ⟨none, 0, 0, rfl, rfl, World.ownsRow_nil _ _ _ _, Below.refl _ _⟩


set_option maxHeartbeats 1600000 in
set_option maxRecDepth 100000 in
theorem list66_in (name : ByteArray) (A : Option Addr) (n c : Nat) (ws : List (List UInt8)) (w : World) (hE : Env w) (hr : Reads w w.heap.size 1 A n (ws.map strV)) (hcap : n ≤ c) (hn : n ≤ 100000) (hw : ∀ x ∈ ws, x.length ≤ 1000000) :
    Calls Tryd.prog 38 #[.string name, .slice A n c, .func (.func 39) #[] #[]] w fun e w' => ∃ B m cp, e = .returned (.tuple #[.slice B m cp, .int .u16 (listL arcL name.data.toList ws).2]) ∧ m = (listL arcL name.data.toList ws).1.length ∧ w'.ownsRow w.heap.size 3 1 (.slice B m cp) m ((listL arcL name.data.toList ws).1.map I) ∧ Below w.heap.size w w' := by
  have hlen : ws.length = n := by have := hr.1; simpa using this
  cases ws with
  | nil =>
    obtain rfl : n = 0 := by simpa using hlen.symm
    go_enter Tryd.func38, Tryd.ntmps38
    go_wp2
    exact bodyPost_ret (v := .tuple #[.slice none 0 0, .int .u16 10]) (by simp [results, Tryd.results38, go_sem]) rfl ⟨none, 0, 0, rfl, rfl, World.ownsRow_nil _ _ _ _, Below.refl _ _⟩
  | cons x0 ts =>
    obtain ⟨N, rfl⟩ : ∃ N, n = N + 1 := ⟨ts.length, by simpa using hlen.symm⟩
    have hts : ts.length = N := by simpa using hlen
    obtain ⟨b, off, rfl, hb, hcells⟩ := hr.2 (by omega)
    have hc0 : w.cell? ⟨b, off, none⟩ = some (.string ⟨x0.toArray⟩) := by have := hcells 0 _ rfl; rwa [Nat.add_zero] at this
    by_cases hx0 : x0 = name.data.toList
    · have hX0 : (⟨x0.toArray⟩ : ByteArray) = name := by rw [hx0]
      have hhead : (x0 :: ts).head? = some name.data.toList := by rw [hx0]; rfl
      rw [hX0] at hc0
      have hnn : (name.toList == name.toList) = true := by simp
      have HL : Hid (∀ t, listL t name.data.toList (x0 :: ts) = if (ts.map t).any (fun p => decide (p.2 ≠ 0 ∧ p.2 ≠ 11)) then ([], 10) else if 1000 < ts.length then ([], 20) else if (ts.map t).any (fun p => decide (p.2 ≠ 0)) then ([], 11) else ((ts.map t).map (·.1), 0)) := Lib.hid (fun t => by
        unfold listL; rw [if_neg (by simp [hx0])]; rfl)
      have HH := Lib.hid hhead
      have HCL : Hid (∀ j u, (ts.map strV)[j]? = some u → w.cell? ⟨b, off + 1 + j, none⟩ = some u) := Lib.hid (fun j u hu => by
        have := hcells (j + 1) u (by simpa using hu)
        rwa [show off + (j + 1) = off + 1 + j by omega] at this)
      have HW : Hid (∀ x ∈ ts, x.length ≤ 1000000) := Lib.hid (fun x hx => hw x (by simp [hx]))
      obtain ⟨i0, hi, hz0, hz1, hz2⟩ := info_parts info3
      have HI := Lib.hid hi
      have HZ0 := Lib.hid hz0
      have HZ1 := Lib.hid hz1
      have HZ2 := Lib.hid hz2
      clear hi hz0 hz1 hz2 hhead hx0 hX0 hw hcells hr hlen
      by_cases hc1 : c = 1
      · subst hc1
        obtain rfl : N = 0 := by omega
        obtain rfl : ts = [] := List.length_eq_zero_iff.1 hts
        have HE := Lib.hid (HL.out arcL)
        go_enter Tryd.func38, Tryd.ntmps38
        go_wp2_with fail
        go_loopw [8, 9, 27] (fun l bg i wr => l = .slice none 0 0 ∧ bg = .bool false ∧ i = .int .i64 0 ∧ wr = w) (fun _ _ _ _ => 0)
        case atStart => exact ⟨rfl, rfl, rfl, rfl⟩
        case round =>
          obtain ⟨rfl, rfl, rfl, rfl⟩ := hrel
          go_wp2_with fail
          refine bodyPost_ret (v := .tuple #[.slice none 0 0, .int .u16 0]) (by simp [results, Tryd.results38, go_sem]) rfl ?_
          rw [HE.out]
          exact ⟨none, 0, 0, rfl, rfl, World.ownsRow_nil _ _ _ _, Below.refl _ _⟩
      have hc2 : 1 < c := by omega
      have hz : (((N : Int) + 1) == 0) = false := by simp; omega
      go_enter Tryd.func38, Tryd.ntmps38
      go_wp2_with fail
      go_loopw [8, 9, 27] (fun l bg i wr => ∃ (k : Nat) (X : List Int), k ≤ N ∧ i = .int .i64 k ∧ bg = .bool (((ts.take k).map arcL).any (fun p => decide (p.2 ≠ 0))) ∧ ((ts.take k).map arcL).any (fun p => decide (p.2 ≠ 0 ∧ p.2 ≠ 11)) = false ∧ (((ts.take k).map arcL).any (fun p => decide (p.2 ≠ 0)) = false → X = ((ts.take k).map arcL).map (·.1)) ∧ X.length ≤ k ∧ wr.ownsRow w.heap.size 3 1 l X.length (X.map I) ∧ Below w.heap.size w wr) (fun _ _ i _ => N - (Lib.intOf i).toNat)
      case atStart => exact ⟨0, [], Nat.zero_le _, rfl, rfl, rfl, fun _ => rfl, Nat.le_refl _, World.ownsRow_nil _ _ _ _, Below.refl _ _⟩
      case round =>
        obtain ⟨k, X, hk, rfl, rfl, hno, hXX, hXl, hown, hbw⟩ := hrel
        have HNO := Lib.hid hno
        have HXX := Lib.hid hXX
        have HO := Lib.hid hown
        have hbs := hbw.size
        have hE1 := hE.on hbw
        clear hno hXX hown
        obtain ⟨p, hp⟩ : ∃ p, p = X.length := ⟨_, rfl⟩
        rw [← hp] at HO hXl
        obtain ⟨A', cp, rfl⟩ := own_form HO.out
        have HP := Lib.hid hp
        clear hp
        by_cases hlt : k < N
        · obtain ⟨x, hx⟩ : ∃ x, ts[k]? = some x := ⟨_, List.getElem?_eq_getElem (by omega)⟩
          have hcell : wr.cell? ⟨b, off + 1 + k, none⟩ = some (.string ⟨x.toArray⟩) := (hbw.cell (p := ⟨b, off + 1 + k, none⟩) hb).trans (HCL.out k _ (by rw [List.getElem?_map, hx]; rfl))
          have hxl : (⟨x.toArray⟩ : ByteArray).size ≤ 1000000 := HW.out x (List.mem_of_getElem? hx)
          have HT : Hid (∀ W, Env W → Calls Tryd.prog 39 #[.string ⟨x.toArray⟩] W fun e w' => e = .returned (.tuple #[.int .i64 (arcL x).1, .int .u16 (arcL x).2]) ∧ Below W.heap.size W w') := Lib.hid (fun W hW => arc_in ⟨x.toArray⟩ (by omega) W hW)
          have HA1 := Lib.hid (fun f => any_snoc (turn := arcL) f hx)
          have HA2 := Lib.hid (map_snoc (turn := arcL) hx)
          have HM := Lib.hid (List.mem_of_getElem? hx)
          generalize (⟨x.toArray⟩ : ByteArray) = Xs at hcell hxl HT
          have HBX := Lib.hid (list_bad (turn := arcL) HH.out (x := x) (List.mem_of_getElem? hx))
          obtain ⟨vv, hvv⟩ : ∃ vv, arcL x = vv := ⟨_, rfl⟩
          rw [hvv] at HT HA1 HA2 HBX
          obtain ⟨v, er⟩ := vv
          clear hx hvv
          obtain ⟨bg, hbg⟩ : ∃ bg, ((ts.take k).map arcL).any (fun p => decide (p.2 ≠ 0)) = bg := ⟨_, rfl⟩
          rw [hbg] at HXX ⊢
          have HBG := Lib.hid hbg
          clear hbg
          by_cases he0 : er = 0
          · subst he0
            go_wp2_with fail
            refine (HT.out wr hE1).mono ?_
            rintro e w1 ⟨rfl, hb1⟩
            have hbw1 := hbw.trans (hb1.mono hbw.size)
            have hown1 : (w1.alloc (.cells #[.int .i64 v] 3)).ownsRow w.heap.size 3 1 (.slice A' p cp) p (X.map I) := (own_below HO.out hb1).alloc _
            have b1 : p + 1 ≤ maxLen := by unfold maxLen; omega
            have b2 : (p + 1) * 8 ≤ 140737488355328 := by omega
            have b3 : w.heap.size ≤ (w1.alloc (.cells #[.int .i64 v] 3)).heap.size := by have := hbw1.size; simp; omega
            have HO1 := Lib.hid hown1
            have B1 := Lib.hid b1
            have B2 := Lib.hid b2
            have B3 := Lib.hid b3
            clear hown1 b1 b2 b3 hb1
            go_wp2_with (at_builtin; refine wpList_append_own _ rfl _ _ 29 rfl w.heap.size 3 i0 (.int .i64 0) 1 8 Tryd.underlying29 HI.out HZ0.out HZ1.out HZ2.out rfl (by decide) _ _ _ rfl HO1.out ⟨w1.heap.size, 0, none⟩ 1 1 [.int .i64 v] rfl rfl (cell_one_new _ _ _) (by simp [Value.oneCell']) B1.out B2.out B3.out ?_)
            intro v' w2 hown' hgrow _
            go_wp2_with fail
            go_roundw
            case measure => simp [Lib.intOf]; omega
            case rel =>
              refine ⟨k + 1, X ++ [v], by omega, by go_num, ?_, ?_, ?_, ?_, ?_, ?_⟩
              · rw [HA1.out, HBG.out]; simp
              · rw [HA1.out, HNO.out]; simp
              · rw [HA1.out, HBG.out, HA2.out]
                intro h
                rw [HXX.out (by simpa using h)]
              · rw [List.length_append, ← HP.out]; simp; omega
              · rw [List.length_append, ← HP.out, List.map_append]; exact hown'
              · exact (hbw1.alloc hbw1.size _).grown hgrow (by have := hbw1.size; simp; omega) (fun j hj => (HO.out.lt j hj).1)
          · by_cases he1 : er = 11
            · subst he1
              go_wp2_with fail
              refine (HT.out wr hE1).mono ?_
              rintro e w1 ⟨rfl, hb1⟩
              have hbw1 := hbw.trans (hb1.mono hbw.size)
              go_wp2_with fail
              go_roundw
              case measure => simp [Lib.intOf]; omega
              case rel =>
                refine ⟨k + 1, X, by omega, by go_num, ?_, ?_, ?_, by rw [← HP.out]; omega, ?_, hbw1⟩
                · rw [HA1.out]; simp
                · rw [HA1.out, HNO.out]; simp
                · rw [HA1.out]; intro h; simp at h
                · rw [← HP.out]; exact own_below HO.out hb1
            · have hq0 : (er == 0) = false := by simpa using he0
              have hq1 : (er == 11) = false := by simpa using he1
              go_wp2_with fail
              refine (HT.out wr hE1).mono ?_
              rintro e w1 ⟨rfl, hb1⟩
              have hbw1 := hbw.trans (hb1.mono hbw.size)
              go_wp2_with fail
              refine bodyPost_ret (v := .tuple #[.slice none 0 0, .int .u16 10]) (by simp [results, Tryd.results38, go_sem]) rfl ?_
              rw [HBX.out he0 he1]
              exact ⟨none, 0, 0, rfl, rfl, World.ownsRow_nil _ _ _ _, hbw1⟩
        · have htk : ts.take k = ts := List.take_of_length_le (by omega)
          rw [htk] at HNO HXX ⊢
          clear htk
          have HE := Lib.hid (HL.out arcL)
          rw [if_neg (by rw [HNO.out]; simp)] at HE
          obtain ⟨bg, hbg⟩ : ∃ bg, (ts.map arcL).any (fun p => decide (p.2 ≠ 0)) = bg := ⟨_, rfl⟩
          rw [hbg] at HXX HE ⊢
          clear hbg
          rw [hts] at HE
          by_cases h1000 : 1000 < N
          · rw [if_pos h1000] at HE
            go_wp2_with fail
            refine bodyPost_ret (v := .tuple #[.slice none 0 0, .int .u16 20]) (by simp [results, Tryd.results38, go_sem]) rfl ?_
            rw [HE.out]
            exact ⟨none, 0, 0, rfl, rfl, World.ownsRow_nil _ _ _ _, hbw⟩
          · rw [if_neg h1000] at HE
            cases bg
            · rw [if_neg (by simp)] at HE
              go_wp2_with fail
              refine bodyPost_ret (v := .tuple #[.slice A' p cp, .int .u16 0]) (by simp [results, Tryd.results38, go_sem]) rfl ?_
              rw [HE.out]
              have hX := HXX.out (by simp)
              refine ⟨A', p, cp, rfl, ?_, ?_, hbw⟩
              · show p = ((ts.map arcL).map (·.1)).length
                rw [← hX, HP.out]
              · show wr.ownsRow w.heap.size 3 1 (.slice A' p cp) p (((ts.map arcL).map (·.1)).map I)
                rw [← hX]; exact HO.out
            · rw [if_pos rfl] at HE
              go_wp2_with fail
              refine bodyPost_ret (v := .tuple #[.slice none 0 0, .int .u16 11]) (by simp [results, Tryd.results38, go_sem]) rfl ?_
              rw [HE.out]
              exact ⟨none, 0, 0, rfl, rfl, World.ownsRow_nil _ _ _ _, hbw⟩
    · have hbs : ((⟨x0.toArray⟩ : ByteArray).toList == name.toList) = false := by
        rw [Lib.toList_data, Lib.toList_data]; simpa using hx0
      have HE : Hid (listL arcL name.data.toList (x0 :: ts) = ([], 10)) := Lib.hid (by unfold listL; rw [if_pos (by simpa using hx0)])
      generalize (⟨x0.toArray⟩ : ByteArray) = X0 at hc0 hbs
      clear hr hcells hw hlen
      go_enter Tryd.func38, Tryd.ntmps38
      go_wp2_with fail
      refine bodyPost_ret (v := .tuple #[.slice none 0 0, .int .u16 10]) (by simp [results, Tryd.results38, go_sem]) rfl ?_
      rw [HE.out]
      exact ⟨none, 0, 0, rfl, rfl, World.ownsRow_nil _ _ _ _, Below.refl _ _⟩

end Go.Proofs.YtpfbgoogajgciaaDoor
