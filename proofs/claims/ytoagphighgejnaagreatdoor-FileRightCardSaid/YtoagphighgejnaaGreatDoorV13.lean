/- Source (7), parses (6), known (5). Conditions: none. -/
import Derived.Test.YtoagphighgejnaaGreatDoorV12
import Derived.Test.YtoagphighgejnaaGreatDoorFP4
import Derived.Test.YtoagphighgejnaaGreatDoorN7
set_option linter.unusedSimpArgs false
set_option linter.unusedVariables false
namespace Go.Proofs.YtoagphighgejnaaGreatDoor
open Go.RowKit Go.Shelf

theorem src_cells : ∀ J : Fin 20, ∃ Y : ByteArray, (#[Value.string ⟨#[112, 32, 109, 105, 110, 32, 50, 32, 49]⟩, Value.string ⟨#[112, 32, 109, 97, 120, 32, 51, 32, 50]⟩, Value.string ⟨#[110, 32, 49, 32, 51]⟩, Value.string ⟨#[110, 32, 50, 32, 45, 51]⟩, Value.string ⟨#[110, 32, 49, 32, 115]⟩, Value.string ⟨#[110, 32, 51, 32, 116]⟩, Value.string ⟨#[97, 32, 49, 32, 50, 32, 48, 32, 53, 32, 45, 55]⟩, Value.string ⟨#[97, 32, 49, 32, 50, 32, 52]⟩, Value.string ⟨#[97, 32, 50, 32, 51, 32, 45, 49]⟩, Value.string ⟨#[99, 32, 120]⟩, Value.string ⟨#[]⟩, Value.string ⟨#[110, 32, 49, 32, 115, 32, 116]⟩, Value.string ⟨#[97, 32, 51, 32, 49, 32, 48]⟩, Value.string ⟨#[112, 32, 109, 105, 110, 32, 50, 32, 48]⟩, Value.string ⟨#[97, 32, 49, 32, 50, 32, 51, 32, 50, 32, 49]⟩, Value.string ⟨#[110, 32, 52, 32, 49]⟩, Value.string ⟨#[97, 32, 49, 32, 50, 32, 48, 32, 45, 49, 32, 50, 49, 52, 55, 52, 56, 51, 54, 52, 57]⟩, Value.string ⟨#[112, 32, 109, 105, 110, 32, 48, 32, 49]⟩, Value.string ⟨#[110, 32, 48, 49, 32, 50]⟩, Value.string ⟨#[97, 32, 49, 32, 32, 50, 32, 51]⟩] : Array Value)[J.val]? = some (.string Y) ∧ Y.size ≤ 21
  | ⟨0, _⟩ => ⟨_, rfl, by decide⟩
  | ⟨1, _⟩ => ⟨_, rfl, by decide⟩
  | ⟨2, _⟩ => ⟨_, rfl, by decide⟩
  | ⟨3, _⟩ => ⟨_, rfl, by decide⟩
  | ⟨4, _⟩ => ⟨_, rfl, by decide⟩
  | ⟨5, _⟩ => ⟨_, rfl, by decide⟩
  | ⟨6, _⟩ => ⟨_, rfl, by decide⟩
  | ⟨7, _⟩ => ⟨_, rfl, by decide⟩
  | ⟨8, _⟩ => ⟨_, rfl, by decide⟩
  | ⟨9, _⟩ => ⟨_, rfl, by decide⟩
  | ⟨10, _⟩ => ⟨_, rfl, by decide⟩
  | ⟨11, _⟩ => ⟨_, rfl, by decide⟩
  | ⟨12, _⟩ => ⟨_, rfl, by decide⟩
  | ⟨13, _⟩ => ⟨_, rfl, by decide⟩
  | ⟨14, _⟩ => ⟨_, rfl, by decide⟩
  | ⟨15, _⟩ => ⟨_, rfl, by decide⟩
  | ⟨16, _⟩ => ⟨_, rfl, by decide⟩
  | ⟨17, _⟩ => ⟨_, rfl, by decide⟩
  | ⟨18, _⟩ => ⟨_, rfl, by decide⟩
  | ⟨19, _⟩ => ⟨_, rfl, by decide⟩
  | ⟨j + 20, h⟩ => absurd h (by omega)

set_option maxHeartbeats 1600000 in
set_option maxRecDepth 100000 in
theorem Source_in (A : Option Addr) (n c : Nat) (ys : List Int) (w : World) (hr : Reads w w.heap.size 1 A n (ys.map (fun x : Int => .int .u8 x))) (hy : ∀ x ∈ ys, 0 ≤ x ∧ x ≤ 255) (hn : n ≤ 9223372036854775807) :
    Calls Tryz.prog 23 #[.slice A n c] w fun e w' => ∃ T : ByteArray, e = .returned (.string T) ∧ T.size ≤ 230 ∧ Below w.heap.size w w' := by
  have HY := Lib.hid hy
  clear hy
  go_enter Tryz.func23, Tryz.ntmps23
  go_wp2_with fail
  have kb := Blk.new w 9 #[.string ⟨#[112, 32, 109, 105, 110, 32, 50, 32, 49]⟩, .string ⟨#[112, 32, 109, 97, 120, 32, 51, 32, 50]⟩, .string ⟨#[110, 32, 49, 32, 51]⟩, .string ⟨#[110, 32, 50, 32, 45, 51]⟩, .string ⟨#[110, 32, 49, 32, 115]⟩, .string ⟨#[110, 32, 51, 32, 116]⟩, .string ⟨#[97, 32, 49, 32, 50, 32, 48, 32, 53, 32, 45, 55]⟩, .string ⟨#[97, 32, 49, 32, 50, 32, 52]⟩, .string ⟨#[97, 32, 50, 32, 51, 32, 45, 49]⟩, .string ⟨#[99, 32, 120]⟩, .string ⟨#[]⟩, .string ⟨#[110, 32, 49, 32, 115, 32, 116]⟩, .string ⟨#[97, 32, 51, 32, 49, 32, 48]⟩, .string ⟨#[112, 32, 109, 105, 110, 32, 50, 32, 48]⟩, .string ⟨#[97, 32, 49, 32, 50, 32, 51, 32, 50, 32, 49]⟩, .string ⟨#[110, 32, 52, 32, 49]⟩, .string ⟨#[97, 32, 49, 32, 50, 32, 48, 32, 45, 49, 32, 50, 49, 52, 55, 52, 56, 51, 54, 52, 57]⟩, .string ⟨#[112, 32, 109, 105, 110, 32, 48, 32, 49]⟩, .string ⟨#[110, 32, 48, 49, 32, 50]⟩, .string ⟨#[97, 32, 49, 32, 32, 50, 32, 51]⟩]
  have hr0 := hr.alloc (Nat.le_refl _) (.cells #[.string ⟨#[112, 32, 109, 105, 110, 32, 50, 32, 49]⟩, .string ⟨#[112, 32, 109, 97, 120, 32, 51, 32, 50]⟩, .string ⟨#[110, 32, 49, 32, 51]⟩, .string ⟨#[110, 32, 50, 32, 45, 51]⟩, .string ⟨#[110, 32, 49, 32, 115]⟩, .string ⟨#[110, 32, 51, 32, 116]⟩, .string ⟨#[97, 32, 49, 32, 50, 32, 48, 32, 53, 32, 45, 55]⟩, .string ⟨#[97, 32, 49, 32, 50, 32, 52]⟩, .string ⟨#[97, 32, 50, 32, 51, 32, 45, 49]⟩, .string ⟨#[99, 32, 120]⟩, .string ⟨#[]⟩, .string ⟨#[110, 32, 49, 32, 115, 32, 116]⟩, .string ⟨#[97, 32, 51, 32, 49, 32, 48]⟩, .string ⟨#[112, 32, 109, 105, 110, 32, 50, 32, 48]⟩, .string ⟨#[97, 32, 49, 32, 50, 32, 51, 32, 50, 32, 49]⟩, .string ⟨#[110, 32, 52, 32, 49]⟩, .string ⟨#[97, 32, 49, 32, 50, 32, 48, 32, 45, 49, 32, 50, 49, 52, 55, 52, 56, 51, 54, 52, 57]⟩, .string ⟨#[112, 32, 109, 105, 110, 32, 48, 32, 49]⟩, .string ⟨#[110, 32, 48, 49, 32, 50]⟩, .string ⟨#[97, 32, 49, 32, 32, 50, 32, 51]⟩] 9)
  have hb0 : Below w.heap.size w (w.alloc (.cells #[.string ⟨#[112, 32, 109, 105, 110, 32, 50, 32, 49]⟩, .string ⟨#[112, 32, 109, 97, 120, 32, 51, 32, 50]⟩, .string ⟨#[110, 32, 49, 32, 51]⟩, .string ⟨#[110, 32, 50, 32, 45, 51]⟩, .string ⟨#[110, 32, 49, 32, 115]⟩, .string ⟨#[110, 32, 51, 32, 116]⟩, .string ⟨#[97, 32, 49, 32, 50, 32, 48, 32, 53, 32, 45, 55]⟩, .string ⟨#[97, 32, 49, 32, 50, 32, 52]⟩, .string ⟨#[97, 32, 50, 32, 51, 32, 45, 49]⟩, .string ⟨#[99, 32, 120]⟩, .string ⟨#[]⟩, .string ⟨#[110, 32, 49, 32, 115, 32, 116]⟩, .string ⟨#[97, 32, 51, 32, 49, 32, 48]⟩, .string ⟨#[112, 32, 109, 105, 110, 32, 50, 32, 48]⟩, .string ⟨#[97, 32, 49, 32, 50, 32, 51, 32, 50, 32, 49]⟩, .string ⟨#[110, 32, 52, 32, 49]⟩, .string ⟨#[97, 32, 49, 32, 50, 32, 48, 32, 45, 49, 32, 50, 49, 52, 55, 52, 56, 51, 54, 52, 57]⟩, .string ⟨#[112, 32, 109, 105, 110, 32, 48, 32, 49]⟩, .string ⟨#[110, 32, 48, 49, 32, 50]⟩, .string ⟨#[97, 32, 49, 32, 32, 50, 32, 51]⟩] 9)) := (Below.refl _ w).alloc (Nat.le_refl _) _
  have HK : Hid (∀ J : Nat, J < 20 → ∃ Y : ByteArray, (w.alloc (.cells #[.string ⟨#[112, 32, 109, 105, 110, 32, 50, 32, 49]⟩, .string ⟨#[112, 32, 109, 97, 120, 32, 51, 32, 50]⟩, .string ⟨#[110, 32, 49, 32, 51]⟩, .string ⟨#[110, 32, 50, 32, 45, 51]⟩, .string ⟨#[110, 32, 49, 32, 115]⟩, .string ⟨#[110, 32, 51, 32, 116]⟩, .string ⟨#[97, 32, 49, 32, 50, 32, 48, 32, 53, 32, 45, 55]⟩, .string ⟨#[97, 32, 49, 32, 50, 32, 52]⟩, .string ⟨#[97, 32, 50, 32, 51, 32, 45, 49]⟩, .string ⟨#[99, 32, 120]⟩, .string ⟨#[]⟩, .string ⟨#[110, 32, 49, 32, 115, 32, 116]⟩, .string ⟨#[97, 32, 51, 32, 49, 32, 48]⟩, .string ⟨#[112, 32, 109, 105, 110, 32, 50, 32, 48]⟩, .string ⟨#[97, 32, 49, 32, 50, 32, 51, 32, 50, 32, 49]⟩, .string ⟨#[110, 32, 52, 32, 49]⟩, .string ⟨#[97, 32, 49, 32, 50, 32, 48, 32, 45, 49, 32, 50, 49, 52, 55, 52, 56, 51, 54, 52, 57]⟩, .string ⟨#[112, 32, 109, 105, 110, 32, 48, 32, 49]⟩, .string ⟨#[110, 32, 48, 49, 32, 50]⟩, .string ⟨#[97, 32, 49, 32, 32, 50, 32, 51]⟩] 9)).cell? ⟨w.heap.size, J, none⟩ = some (.string Y) ∧ Y.size ≤ 21) := Lib.hid (fun J hJ => by
    obtain ⟨Y, h1, h2⟩ := src_cells ⟨J, hJ⟩
    exact ⟨Y, (kb.cell J).trans h1, h2⟩)
  clear kb hr
  generalize (w.alloc (.cells #[.string ⟨#[112, 32, 109, 105, 110, 32, 50, 32, 49]⟩, .string ⟨#[112, 32, 109, 97, 120, 32, 51, 32, 50]⟩, .string ⟨#[110, 32, 49, 32, 51]⟩, .string ⟨#[110, 32, 50, 32, 45, 51]⟩, .string ⟨#[110, 32, 49, 32, 115]⟩, .string ⟨#[110, 32, 51, 32, 116]⟩, .string ⟨#[97, 32, 49, 32, 50, 32, 48, 32, 53, 32, 45, 55]⟩, .string ⟨#[97, 32, 49, 32, 50, 32, 52]⟩, .string ⟨#[97, 32, 50, 32, 51, 32, 45, 49]⟩, .string ⟨#[99, 32, 120]⟩, .string ⟨#[]⟩, .string ⟨#[110, 32, 49, 32, 115, 32, 116]⟩, .string ⟨#[97, 32, 51, 32, 49, 32, 48]⟩, .string ⟨#[112, 32, 109, 105, 110, 32, 50, 32, 48]⟩, .string ⟨#[97, 32, 49, 32, 50, 32, 51, 32, 50, 32, 49]⟩, .string ⟨#[110, 32, 52, 32, 49]⟩, .string ⟨#[97, 32, 49, 32, 50, 32, 48, 32, 45, 49, 32, 50, 49, 52, 55, 52, 56, 51, 54, 52, 57]⟩, .string ⟨#[112, 32, 109, 105, 110, 32, 48, 32, 49]⟩, .string ⟨#[110, 32, 48, 49, 32, 50]⟩, .string ⟨#[97, 32, 49, 32, 32, 50, 32, 51]⟩] 9)) = W0 at hr0 hb0 HK ⊢
  go_loopw [4, 5] (fun t i wr => ∃ (k : Nat) (T : ByteArray), k ≤ 10 ∧ k ≤ n ∧ i = .int .i64 k ∧ t = .string T ∧ T.size ≤ 23 * k ∧ ∃ q, wr = W0.drewN q) (fun _ i _ => 10 - (Lib.intOf i).toNat)
  case atStart => exact ⟨0, ⟨#[]⟩, by omega, Nat.zero_le _, rfl, rfl, by decide, 0, rfl⟩
  case round =>
    obtain ⟨k, T, hk, hkn, rfl, rfl, hTs, q, rfl⟩ := hrel
    by_cases hlt : k < n
    · by_cases hl24 : k < 10
      · obtain ⟨b, off, u, rfl, -, hx, hcell⟩ := hr0.at_ hlt
        simp only [List.getElem?_map, Option.map_eq_some_iff] at hx
        obtain ⟨x, hx, rfl⟩ := hx
        have hx2 := HY.out x (List.mem_of_getElem? hx)
        have hx0 := hx2.1
        have hx1 := hx2.2
        obtain ⟨J, hJ, hJx⟩ : ∃ J : Nat, J < 20 ∧ x.tmod 20 = (J : Int) := ⟨(x % 20).toNat, by omega, by rw [Int.tmod_eq_emod_of_nonneg hx0]; omega⟩
        have hJx2 : x % 20 = (J : Int) := by rw [← Int.tmod_eq_emod_of_nonneg hx0]; exact hJx
        obtain ⟨Y, hYc, hYs⟩ := HK.out J hJ
        have hTs2 : T.size ≤ 230 := by omega
        clear hx hx2
        go_wp2
        refine ⟨⟨k + 1, _, by omega, by omega, rfl, rfl, ?_, q, rfl⟩, by simp [Lib.intOf]; omega⟩
        have h1 : (⟨#[10]⟩ : ByteArray).size = 1 := rfl
        simp only [ByteArray.size_append]; omega
      · obtain rfl : k = 10 := by omega
        go_wp2
        go_ret
        exact ⟨T, rfl, by omega, hb0.trans ((below_drewN W0 q).mono hb0.size)⟩
    · go_wp2
      go_ret
      exact ⟨T, rfl, by omega, hb0.trans ((below_drewN W0 q).mono hb0.size)⟩

/-- the errors that there are -/
def ErrOk (k : Int) : Prop := 0 ≤ k ∧ k ≤ 255
theorem headE_er (r : RdV) (ws : List (List UInt8)) : ErrOk (headE r ws).1 := by
  unfold headE; split
  · repeat' split
    all_goals (constructor <;> (simp only; decide))
  · constructor <;> (simp only; decide)
theorem nodeE_er (r : RdV) (ws : List (List UInt8)) : ErrOk (nodeE r ws).1 := by
  unfold nodeE; split
  · repeat' split
    all_goals (constructor <;> (simp only; decide))
  · constructor <;> (simp only; decide)
theorem endE_er (r : RdV) (ws : List (List UInt8)) : ErrOk (endE r ws).1 := by
  unfold endE; split
  · repeat' split
    all_goals (constructor <;> (simp only; decide))
  · constructor <;> (simp only; decide)
theorem arcE_er (r : RdV) (ws : List (List UInt8)) : ErrOk (arcE r ws).1 := by
  unfold arcE; split
  · unfold arcMaxE; split
    · repeat' split
      all_goals (constructor <;> (simp only; decide))
    · constructor <;> (simp only; decide)
  · unfold arcMinE; split
    · repeat' split
      all_goals (constructor <;> (simp only; decide))
    · constructor <;> (simp only; decide)
theorem lineE_er (r : RdV) (ws : List (List UInt8)) : ErrOk (lineE r ws).1 := by
  have c0 : ErrOk 0 := by constructor <;> decide
  have c10 : ErrOk 10 := by constructor <;> decide
  have c12 : ErrOk 12 := by constructor <;> decide
  unfold lineE
  split
  · exact c0
  split
  · exact headE_er r ws
  split
  · split
    · exact c12
    split
    · exact endE_er r ws
    · exact nodeE_er r ws
  split
  · split
    · exact c12
    · exact arcE_er r ws
  · exact c10
theorem finE_er (r : RdV) : ErrOk (finE r).2 := by
  unfold finE; repeat' split
  all_goals (constructor <;> (simp only; decide))
theorem readE_er : ∀ (ts : List (List UInt8)) (r : RdV) (k : Nat), ErrOk (readE r k ts).2.1
  | [], r, k => by unfold readE; exact finE_er r
  | t :: ts, r, k => by
    unfold readE; split
    · exact lineE_er r _
    · exact readE_er ts _ _
theorem parseF_er (s : List UInt8) : ErrOk (parseF s).2.1 := by
  unfold parseF; split
  · constructor <;> (simp only; decide)
  · exact readE_er _ _ _
theorem parse_short (s : List UInt8) : Short (parseF s).1 := by
  rcases parse_fits s with ⟨_, _, h⟩ | ⟨_, h, _⟩
  · exact ⟨h.n64, h.m256⟩
  · rw [h]; exact ⟨by decide, by decide⟩
set_option maxHeartbeats 3200000 in
set_option maxRecDepth 100000 in
theorem parses_in (s : ByteArray) (w : World) (hE : Env w) : Calls Tryz.prog 16 #[.string s] w fun e w' => e = .returned (.bool true) ∧ Below w.heap.size w w' := by
  have HP := Lib.hid (Parse_any s w hE)
  have HR := Lib.hid (fun W => rParse_any s W)
  have hsh := parse_short s.data.toList
  have her := parseF_er s.data.toList
  obtain ⟨q, hq⟩ : ∃ q, q = parseF s.data.toList := ⟨_, rfl⟩
  rw [← hq] at HP HR hsh her
  obtain ⟨p, k, l⟩ := q
  simp only [ParTells, RParTells] at HP HR hsh her
  obtain ⟨k0, k1⟩ := her
  have hkw : IntKind.i64.wrap k = k := IntWalk.i64_in _ (by omega)
  have hkk : (k == k) = true := by simp
  have hll : (l == l) = true := by simp
  clear hq hE
  go_enter Tryz.func16, Tryz.ntmps16
  go_wp2_with fail
  refine HP.out.mono ?_
  rintro e w1 ⟨v, rfl, hv, hb1⟩
  clear HP
  have HS := Lib.hid (fun W u1 u2 h1 h2 => Same_eq p u1 u2 W h1 h2 hsh)
  obtain ⟨S1, n1, c1, A1, m1, d1, rfl, hn1, hm1, hc1, hd1, r1, a1⟩ := hv
  obtain ⟨mx, hmx⟩ : ∃ x, x = p.max := ⟨_, rfl⟩
  obtain ⟨ps, hps⟩ : ∃ x, x = p.s := ⟨_, rfl⟩
  obtain ⟨pt, hpt⟩ : ∃ x, x = p.t := ⟨_, rfl⟩
  rw [← hmx, ← hps, ← hpt]
  unfold probV
  have hP1 := Blk.new w1 31 #[.bool mx, .slice S1 n1 c1, .slice A1 m1 d1, .int .i64 ps, .int .i64 pt]
  have hb2 : Below w1.heap.size w1 (w1.alloc (.cells #[.bool mx, .slice S1 n1 c1, .slice A1 m1 d1, .int .i64 ps, .int .i64 pt] 31)) := (Below.refl _ w1).alloc (Nat.le_refl _) _
  have H1 := Lib.hid (And.intro hP1 (And.intro hb2 (And.intro hb1 (And.intro hn1 (And.intro hm1 (And.intro hc1 (And.intro hd1 (And.intro r1 a1))))))))
  have HV := Lib.hid (And.intro hmx (And.intro hps hpt))
  clear hP1 hb2 hb1 hn1 hm1 hc1 hd1 r1 a1 hmx hps hpt hsh
  go_wp2_with fail
  generalize w1.alloc (.cells #[.bool mx, .slice S1 n1 c1, .slice A1 m1 d1, .int .i64 ps, .int .i64 pt] 31) = W1 at *
  refine (HR.out _).mono ?_
  rintro e w2 ⟨v, rfl, hv, hb3⟩
  obtain ⟨S2, n2, c2, A2, m2, d2, rfl, hn2, hm2, hc2, hd2, r2, a2⟩ := hv
  rw [← HV.out.1, ← HV.out.2.1, ← HV.out.2.2]
  unfold probV
  have hb4 : Below w2.heap.size w2 (w2.alloc (.cells #[.bool mx, .slice S2 n2 c2, .slice A2 m2 d2, .int .i64 ps, .int .i64 pt] 31)) := (Below.refl _ w2).alloc (Nat.le_refl _) _
  have hQ2 := Blk.new w2 31 #[.bool mx, .slice S2 n2 c2, .slice A2 m2 d2, .int .i64 ps, .int .i64 pt]
  have hP2 := (H1.out.1.below hb3 H1.out.1.lt).alloc (.cells #[.bool mx, .slice S2 n2 c2, .slice A2 m2 d2, .int .i64 ps, .int .i64 pt] 31)
  have hb13 := H1.out.2.1.trans ((hb3.trans (hb4.mono hb3.size)).mono H1.out.2.1.size)
  have HS1 := Lib.hid (HS.out (w2.alloc (.cells #[.bool mx, .slice S2 n2 c2, .slice A2 m2 d2, .int .i64 ps, .int .i64 pt] 31)) (probV p.max S1 n1 c1 A1 m1 d1 p.s p.t) (probV p.max S2 n2 c2 A2 m2 d2 p.s p.t)
    ⟨_, _, _, _, _, _, rfl, H1.out.2.2.2.1, H1.out.2.2.2.2.1, H1.out.2.2.2.2.2.1, H1.out.2.2.2.2.2.2.1, (H1.out.2.2.2.2.2.2.2.1.below hb13).more hb13.size, (H1.out.2.2.2.2.2.2.2.2.below hb13).more hb13.size⟩
    ⟨_, _, _, _, _, _, rfl, hn2, hm2, hc2, hd2, (r2.below hb4).more hb4.size, (a2.below hb4).more hb4.size⟩)
  rw [← HV.out.1, ← HV.out.2.1, ← HV.out.2.2] at HS1
  unfold probV at HS1
  have HB := Lib.hid (H1.out.2.2.1.trans (hb13.mono H1.out.2.2.1.size))
  obtain ⟨⟨x0, x1, x2, x3, x4⟩, -⟩ := hP2.five
  obtain ⟨⟨y0, y1, y2, y3, y4⟩, -⟩ := hQ2.five
  clear HS H1 HV HR hb3 hb4 hQ2 hP2 hb13 hn2 hm2 hc2 hd2 r2 a2
  go_wp2_with fail
  generalize w2.alloc (.cells #[.bool mx, .slice S2 n2 c2, .slice A2 m2 d2, .int .i64 ps, .int .i64 pt] 31) = W2 at *
  refine HS1.out.mono ?_
  rintro e w3 ⟨rfl, hb5⟩
  have HB3 := Lib.hid (HB.out.trans (hb5.mono HB.out.size))
  clear hb5 x0 x1 x2 x3 x4 y0 y1 y2 y3 y4
  go_wp2_with fail
  go_ret
  exact ⟨rfl, HB3.out⟩
def pknown : ProbV := ⟨false, [3, -3], [⟨0, 1, 0, infC, 5⟩], 0, 0⟩
theorem parse_k1 : parseF (⟨#[99, 32, 97, 10, 112, 32, 109, 105, 110, 32, 50, 32, 49, 10, 110, 32, 49, 32, 51, 10, 110, 32, 50, 32, 45, 51, 10, 97, 32, 49, 32, 50, 32, 48, 32, 45, 49, 32, 53, 10]⟩ : ByteArray).data.toList = (pknown, 0, 0) := by decide +kernel
theorem parse_k2 : parseF (⟨#[112, 32, 109, 105, 110, 32, 50, 32, 49, 10, 110, 32, 49, 32, 51, 10, 110, 32, 49, 32, 45, 51, 10]⟩ : ByteArray).data.toList = (prob0, 13, 3) := by decide +kernel
set_option maxHeartbeats 3200000 in
set_option maxRecDepth 100000 in
theorem known_in (w : World) (hE : Env w) : Calls Tryz.prog 11 #[] w fun e w' => e = .returned (.bool true) ∧ Below w.heap.size w w' := by
  have HP := Lib.hid (Parse_any ⟨#[99, 32, 97, 10, 112, 32, 109, 105, 110, 32, 50, 32, 49, 10, 110, 32, 49, 32, 51, 10, 110, 32, 50, 32, 45, 51, 10, 97, 32, 49, 32, 50, 32, 48, 32, 45, 49, 32, 53, 10]⟩ w hE)
  rw [parse_k1] at HP
  have HQ := Lib.hid (fun W (hb : Below w.heap.size w W) => Parse_any ⟨#[112, 32, 109, 105, 110, 32, 50, 32, 49, 10, 110, 32, 49, 32, 51, 10, 110, 32, 49, 32, 45, 51, 10]⟩ W (hE.on hb))
  rw [parse_k2] at HQ
  simp only [ParTells] at HP HQ
  go_enter Tryz.func11, Tryz.ntmps11
  go_wp2_with fail
  refine HP.out.mono ?_
  rintro e w1 ⟨v, rfl, hv, hb1⟩
  obtain ⟨S1, n1, c1, A1, m1, d1, rfl, hn1, hm1, hc1, hd1, r1, a1⟩ := hv
  have hP1 := Blk.new w1 31 #[.bool false, .slice S1 n1 c1, .slice A1 m1 d1, .int .i64 0, .int .i64 0]
  have hb2 : Below w1.heap.size w1 (w1.alloc (.cells #[.bool false, .slice S1 n1 c1, .slice A1 m1 d1, .int .i64 0, .int .i64 0] 31)) := (Below.refl _ w1).alloc (Nat.le_refl _) _
  have hbw := hb1.trans (hb2.mono hb1.size)
  have HI1 := Lib.hid (show ProbIs (w1.alloc (.cells #[.bool false, .slice S1 n1 c1, .slice A1 m1 d1, .int .i64 0, .int .i64 0] 31)) pknown (probV false S1 n1 c1 A1 m1 d1 0 0) from ⟨S1, n1, c1, A1, m1, d1, rfl, hn1, hm1, hc1, hd1, (r1.below hb2).more hb2.size, (a1.below hb2).more hb2.size⟩)
  have H1 := Lib.hid (And.intro hP1 hbw)
  clear hP1 hb2 hb1 hbw hn1 hm1 hc1 hd1 r1 a1 HP
  unfold probV
  simp only [pknown]
  go_wp2_with fail
  generalize w1.alloc (.cells #[.bool false, .slice S1 n1 c1, .slice A1 m1 d1, .int .i64 0, .int .i64 0] 31) = W1 at *
  refine (HQ.out _ H1.out.2).mono ?_
  rintro e w2 ⟨v, rfl, hv, hb3⟩
  obtain ⟨S2, n2, c2, A2, m2, d2, rfl, hn2, hm2, hc2, hd2, r2, a2⟩ := hv
  have hI2 : ProbIs w2 pknown (probV false S1 n1 c1 A1 m1 d1 0 0) := by
    obtain ⟨x1, x2, x3, x4, x5, x6, x7, x8, x9, x10, x11, x12, x13⟩ := HI1.out
    exact ⟨x1, x2, x3, x4, x5, x6, x7, x8, x9, x10, x11, (x12.below hb3).more hb3.size, (x13.below hb3).more hb3.size⟩
  have hP2 := H1.out.1.below hb3 H1.out.1.lt
  have hbw2 := H1.out.2.trans (hb3.mono H1.out.2.size)
  have H2 := Lib.hid (And.intro hP2 (And.intro hbw2 hI2))
  clear H1 HI1 hn2 hm2 hc2 hd2 r2 a2 hb3 hP2 hbw2 hI2 HQ
  unfold probV
  simp only [prob0]
  obtain ⟨⟨x0, x1, x2, x3, x4⟩, -⟩ := H2.out.1.five
  have lx := H2.out.1.lt
  have hb4 : Below w2.heap.size w2 ((((w2.alloc (.cells #[.bool false, .slice S2 n2 c2, .slice A2 m2 d2, .int .i64 0, .int .i64 0] 31)).alloc (.cells #[.int .i64 3, .int .i64 (-3)] 2)).alloc (.cells #[.int .i64 0, .int .i64 1, .int .i64 0, .int .i64 4611686018427387904, .int .i64 5] 42)).alloc (.cells #[.bool false, .slice (some ⟨w2.heap.size + 1, 0, none⟩) 2 2, .slice (some ⟨w2.heap.size + 1 + 1, 0, none⟩) 1 1, .int .i64 0, .int .i64 0] 31)) := ((((Below.refl _ w2).alloc (Nat.le_refl _) _).alloc (by simp) _).alloc (by simp; omega) _).alloc (by simp; omega) _
  have hbI := ((Blk.new (w2.alloc (.cells #[.bool false, .slice S2 n2 c2, .slice A2 m2 d2, .int .i64 0, .int .i64 0] 31)) 2 #[.int .i64 3, .int .i64 (-3)]).alloc (.cells #[.int .i64 0, .int .i64 1, .int .i64 0, .int .i64 4611686018427387904, .int .i64 5] 42)).alloc (.cells #[.bool false, .slice (some ⟨w2.heap.size + 1, 0, none⟩) 2 2, .slice (some ⟨w2.heap.size + 1 + 1, 0, none⟩) 1 1, .int .i64 0, .int .i64 0] 31)
  have hbA := (Blk.new ((w2.alloc (.cells #[.bool false, .slice S2 n2 c2, .slice A2 m2 d2, .int .i64 0, .int .i64 0] 31)).alloc (.cells #[.int .i64 3, .int .i64 (-3)] 2)) 42 #[.int .i64 0, .int .i64 1, .int .i64 0, .int .i64 4611686018427387904, .int .i64 5]).alloc (.cells #[.bool false, .slice (some ⟨w2.heap.size + 1, 0, none⟩) 2 2, .slice (some ⟨w2.heap.size + 1 + 1, 0, none⟩) 1 1, .int .i64 0, .int .i64 0] 31)
  have hb7 := Blk.new (((w2.alloc (.cells #[.bool false, .slice S2 n2 c2, .slice A2 m2 d2, .int .i64 0, .int .i64 0] 31)).alloc (.cells #[.int .i64 3, .int .i64 (-3)] 2)).alloc (.cells #[.int .i64 0, .int .i64 1, .int .i64 0, .int .i64 4611686018427387904, .int .i64 5] 42)) 31 #[.bool false, .slice (some ⟨w2.heap.size + 1, 0, none⟩) 2 2, .slice (some ⟨w2.heap.size + 1 + 1, 0, none⟩) 1 1, .int .i64 0, .int .i64 0]
  simp only [World.size_alloc] at hbI hbA hb7
  have HS := Lib.hid (Same_eq pknown (probV false S1 n1 c1 A1 m1 d1 0 0) (.agg #[.bool false, .slice (some ⟨w2.heap.size + 1, 0, none⟩) 2 2, .slice (some ⟨w2.heap.size + 1 + 1, 0, none⟩) 1 1, .int .i64 0, .int .i64 0]) ((((w2.alloc (.cells #[.bool false, .slice S2 n2 c2, .slice A2 m2 d2, .int .i64 0, .int .i64 0] 31)).alloc (.cells #[.int .i64 3, .int .i64 (-3)] 2)).alloc (.cells #[.int .i64 0, .int .i64 1, .int .i64 0, .int .i64 4611686018427387904, .int .i64 5] 42)).alloc (.cells #[.bool false, .slice (some ⟨w2.heap.size + 1, 0, none⟩) 2 2, .slice (some ⟨w2.heap.size + 1 + 1, 0, none⟩) 1 1, .int .i64 0, .int .i64 0] 31)) (by
      obtain ⟨y1, y2, y3, y4, y5, y6, y7, y8, y9, y10, y11, y12, y13⟩ := H2.out.2.2
      exact ⟨y1, y2, y3, y4, y5, y6, y7, y8, y9, y10, y11, (y12.below hb4).more hb4.size, (y13.below hb4).more hb4.size⟩)
    ⟨some ⟨w2.heap.size + 1, 0, none⟩, 2, 2, some ⟨w2.heap.size + 1 + 1, 0, none⟩, 1, 1, rfl, rfl, rfl, by decide, by decide, reads_ints (l := [3, -3]) hbI, ⟨rfl, fun _ => ⟨_, 0, rfl, hbA.lt, fun j u hu => by rw [Nat.zero_add, hbA.cell, List.getElem?_toArray]; exact hu⟩⟩⟩ ⟨by decide, by decide⟩)
  unfold probV at HS
  have HB := Lib.hid (H2.out.2.1.trans (hb4.mono H2.out.2.1.size))
  obtain ⟨⟨y0, y1, y2, y3, y4⟩, -⟩ := hb7.five
  have X0 := (hb4.cell (p := ⟨w1.heap.size, 0, none⟩) lx).trans x0
  have X1 := (hb4.cell (p := ⟨w1.heap.size, 1, none⟩) lx).trans x1
  have X2 := (hb4.cell (p := ⟨w1.heap.size, 2, none⟩) lx).trans x2
  have X3 := (hb4.cell (p := ⟨w1.heap.size, 3, none⟩) lx).trans x3
  have X4 := (hb4.cell (p := ⟨w1.heap.size, 4, none⟩) lx).trans x4
  clear hb4 hbI hbA hb7 H2 x0 x1 x2 x3 x4
  go_wp2_with fail
  refine HS.out.mono ?_
  rintro e w5 ⟨rfl, hb5⟩
  have HB3 := Lib.hid (HB.out.trans (hb5.mono HB.out.size))
  clear hb5 X0 X1 X2 X3 X4 y0 y1 y2 y3 y4 HS HB
  go_wp2_with fail
  go_ret
  exact ⟨rfl, HB3.out⟩
end Go.Proofs.YtoagphighgejnaaGreatDoor
