/- Lists of texts in a row of one's own: what appends make of them. Conditions: none. -/
import Derived.Test.YtoagphighgejnaaGreatDoorNC
set_option linter.unusedSimpArgs false
set_option linter.unusedVariables false
namespace Go.Proofs.YtoagphighgejnaaGreatDoor
open Go.RowKit Go.Shelf

theorem reads_low {w : World} {B k m : Nat} {b off : Nat} {xs : List Value} (h : Reads w B 1 (some ⟨b, off, none⟩) (k + m) xs) : Reads w B 1 (some ⟨b, off + k, none⟩) m (xs.drop k) := by
  refine ⟨by rw [List.length_drop, h.1]; omega, fun hm => ?_⟩
  obtain ⟨b', off', e, hb, hc⟩ := h.2 (by omega)
  injection e with e
  injection e with e1 e2
  subst e1 e2
  refine ⟨b, off + k, rfl, hb, fun j u hu => ?_⟩
  rw [List.getElem?_drop] at hu
  have := hc (k + j) u hu
  rwa [Nat.add_assoc]
theorem reads_up {w : World} {B n k : Nat} {A : Option Addr} {xs : List Value} (h : Reads w B 1 A n xs) (hk : k ≤ n) : Reads w B 1 A k (xs.take k) := by
  refine ⟨by rw [List.length_take, h.1]; omega, fun hp => ?_⟩
  obtain ⟨b, off, e, hb, hc⟩ := h.2 (by omega)
  refine ⟨b, off, e, hb, fun j u hu => hc j u ?_⟩
  have hjk : j < k := by
    rcases Nat.lt_or_ge j k with h | h
    · exact h
    · rw [List.getElem?_eq_none (by rw [List.length_take]; omega)] at hu; cases hu
  rwa [List.getElem?_take_of_lt hjk] at hu
theorem reads_none {w : World} {B : Nat} {A : Option Addr} : Reads w B 1 A 0 [] := ⟨rfl, fun h => absurd h (by omega)⟩
theorem reads_str {w : World} {B n b off : Nat} {L : List (List UInt8)} (h : Reads w B 1 (some ⟨b, off, none⟩) n (L.map strV)) {i : Nat} {t : List UInt8} (ht : L[i]? = some t) : w.cell? ⟨b, off + i, none⟩ = some (strV t) := by
  have hi : i < L.length := (List.getElem?_eq_some_iff.1 ht).1
  have hl := h.1
  rw [List.length_map] at hl
  obtain ⟨b', off', e, hb, hc⟩ := h.2 (by omega)
  injection e with e
  injection e with e1 e2
  subst e1 e2
  exact hc i _ (by rw [List.getElem?_map, ht]; rfl)
theorem one_cells (L : List (List UInt8)) : ∀ u ∈ L.map strV, u.oneCell' = true := by
  intro u hu
  obtain ⟨x, -, rfl⟩ := List.mem_map.1 hu
  rfl
/-- a list of texts in a row of one's own, behind a world -/
structure TxtIs (Wb : World) (ws : List (List UInt8)) (A : Option Addr) (n c : Nat) (wx : World) : Prop where
  own : wx.ownsRow Wb.heap.size 9 1 (.slice A n c) n (ws.map strV)
  b : Below Wb.heap.size Wb wx
theorem TxtIs.nil (Wb wx : World) (hb : Below Wb.heap.size Wb wx) : TxtIs Wb [] none 0 0 wx := ⟨World.ownsRow_nil _ _ _ _, hb⟩
theorem TxtIs.len {Wb wx : World} {ws : List (List UInt8)} {A : Option Addr} {n c : Nat} (h : TxtIs Wb ws A n c wx) : n = ws.length := by have := h.own.1; simpa using this.symm
theorem TxtIs.on {Wb wx wy : World} {ws : List (List UInt8)} {A : Option Addr} {n c : Nat} (h : TxtIs Wb ws A n c wx) (hb : Below wx.heap.size wx wy) : TxtIs Wb ws A n c wy := ⟨own_below h.own hb, h.b.trans (hb.mono h.b.size)⟩
theorem TxtIs.reads {Wb wx : World} {ws : List (List UInt8)} {A : Option Addr} {n c : Nat} (h : TxtIs Wb ws A n c wx) : Reads wx wx.heap.size 1 A n (ws.map strV) := Reads.of_own h.own
theorem TxtIs.app {Wb wx wy : World} {ws news : List (List UInt8)} {A : Option Addr} {n c m : Nat} {v' : Value} (h : TxtIs Wb ws A n c wx) (ho : wy.ownsRow Wb.heap.size 9 1 v' (n + m) (ws.map strV ++ news.map strV)) (hg : wx.grownBy wy (Value.slice A n c).ownBlock) :
    ∃ A' c', v' = .slice A' (n + m) c' ∧ TxtIs Wb (ws ++ news) A' (n + m) c' wy := by
  obtain ⟨A', c', rfl⟩ := own_form ho
  exact ⟨A', c', rfl, by rw [List.map_append]; exact ho, h.b.grown hg h.b.size (fun g hg => (h.own.lt g hg).1)⟩
theorem str_cat {T L : ByteArray} {a b : List UInt8} (hT : strV a = .string T) (hL : strV b = .string L) : Value.string (T ++ L) = strV (a ++ b) := by
  unfold strV at hT hL
  injection hT with hT
  injection hL with hL
  subst hT hL
  rw [← strV_data]
  refine congrArg strV ?_
  simp
theorem TxtIs.first {Wb wx wy : World} {news : List (List UInt8)} {m : Nat} {v' : Value} (hb : Below Wb.heap.size Wb wx) (ho : wy.ownsRow Wb.heap.size 9 1 v' m (news.map strV)) (hg : wx.grownBy wy (Value.slice none 0 0).ownBlock) :
    ∃ A' c', v' = .slice A' m c' ∧ TxtIs Wb news A' m c' wy := by
  obtain ⟨A', c', rfl⟩ := own_form ho
  exact ⟨A', c', rfl, ho, hb.grown hg hb.size (fun g hg => by cases hg)⟩
theorem TxtIs.add {Wb wx wy : World} {ws : List (List UInt8)} {t : List UInt8} {Y : ByteArray} {A : Option Addr} {n c : Nat} {v' : Value} {o : Obj} (h : TxtIs Wb ws A n c wx) (hY : strV t = .string Y) (ho : wy.ownsRow Wb.heap.size 9 1 v' (n + 1) (ws.map strV ++ [.string Y])) (hg : (wx.alloc o).grownBy wy (Value.slice A n c).ownBlock) :
    ∃ A' c', v' = .slice A' (n + 1) c' ∧ TxtIs Wb (ws ++ [t]) A' (n + 1) c' wy := by
  obtain ⟨A', c', rfl⟩ := own_form ho
  exact ⟨A', c', rfl, by rw [List.map_append, List.map_cons, List.map_nil, hY]; exact ho, (h.b.alloc h.b.size o).grown hg (by have := h.b.size; simp; omega) (fun g hg => (h.own.lt g hg).1)⟩
theorem TxtIs.firstOne {Wb wx wy : World} {t : List UInt8} {Y : ByteArray} {v' : Value} {o : Obj} (hb : Below Wb.heap.size Wb wx) (hY : strV t = .string Y) (ho : wy.ownsRow Wb.heap.size 9 1 v' 1 [.string Y]) (hg : (wx.alloc o).grownBy wy (Value.slice none 0 0).ownBlock) :
    ∃ A' c', v' = .slice A' 1 c' ∧ TxtIs Wb [t] A' 1 c' wy := by
  obtain ⟨A', c', rfl⟩ := own_form ho
  exact ⟨A', c', rfl, by rw [List.map_cons, List.map_nil, hY]; exact ho, (hb.alloc hb.size o).grown hg (by have := hb.size; simp; omega) (fun g hg => by cases hg)⟩
end Go.Proofs.YtoagphighgejnaaGreatDoor
