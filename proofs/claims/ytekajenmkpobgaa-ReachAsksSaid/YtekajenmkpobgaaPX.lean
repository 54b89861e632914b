/- Plain: a line of arcs, and a ring. -/
import Derived.Test.YtekajenmkpobgaaM8
set_option linter.unusedSimpArgs false
set_option linter.unusedVariables false
namespace Go.Proofs.Ytekajenmkpobgaa

def lineFT (k : Nat) : List (Int × Int) := (List.range k).map fun i : Nat => ((i : Int), (i : Int) + 1)
theorem lineFT_succ (k : Nat) : lineFT (k + 1) = lineFT k ++ [((k : Int), (k : Int) + 1)] := by simp [lineFT, List.range_succ]
theorem ft_of_mem {arcs : List ArcV} {l : List (Int × Int)} (h : arcs.map ArcV.ft = l) {p : Int × Int} (hp : p ∈ l) : ∃ x ∈ arcs, x.f = p.1 ∧ x.t = p.2 := by
  rw [← h] at hp
  obtain ⟨x, hx, rfl⟩ := List.mem_map.1 hp
  exact ⟨x, hx, rfl, rfl⟩
theorem mem_of_ft {arcs : List ArcV} {l : List (Int × Int)} (h : arcs.map ArcV.ft = l) {x : ArcV} (hx : x ∈ arcs) : (x.f, x.t) ∈ l := by
  rw [← h]; exact List.mem_map_of_mem hx
theorem lineFT_mem {k : Nat} {a b : Int} : (a, b) ∈ lineFT k ↔ 0 ≤ a ∧ a < k ∧ b = a + 1 := by
  unfold lineFT
  rw [List.mem_map]
  constructor
  · rintro ⟨i, hi, e⟩
    injection e with e1 e2
    rw [List.mem_range] at hi
    omega
  · rintro ⟨h1, h2, rfl⟩
    exact ⟨a.toNat, by rw [List.mem_range]; omega, by rw [Int.toNat_of_nonneg h1]⟩
section
variable {N : Nat} {arcs : List ArcV}
theorem line_nb0 (h : arcs.map ArcV.ft = lineFT (N - 1)) {u v : Int} : v ∈ nb0 N arcs u ↔ 0 ≤ u ∧ v = u + 1 ∧ v < N := by
  rw [nb0_iff]
  constructor
  · rintro ⟨x, hx, hf, rfl, rfl⟩
    have := lineFT_mem.1 (mem_of_ft h hx)
    omega
  · rintro ⟨h1, rfl, h2⟩
    obtain ⟨x, hx, e1, e2⟩ := ft_of_mem h (p := (u, u + 1)) (lineFT_mem.2 ⟨h1, by omega, rfl⟩)
    exact ⟨x, hx, by simp [fitB, e1, e2]; omega, e1, e2⟩
theorem line_le (h : arcs.map ArcV.ft = lineFT (N - 1)) {u v : Int} (hr : Rch (nb0 N arcs) u v) : u ≤ v :=
  hr (fun x => u ≤ x) (Int.le_refl _) (fun x y hx hy => by have := (line_nb0 h).1 hy; omega)
theorem line_rch (h : arcs.map ArcV.ft = lineFT (N - 1)) {u : Int} (hu : 0 ≤ u) : ∀ d : Nat, u + d < N → Rch (nb0 N arcs) u (u + d)
  | 0, _ => by simpa using Rch.refl _ _
  | d + 1, hd => (line_rch h hu d (by omega)).step ((line_nb0 h).2 ⟨by omega, by omega, by omega⟩)
theorem line_from (h : arcs.map ArcV.ft = lineFT (N - 1)) {v : Nat} (hv : v < N) {met : List Bool} (hR : RInv N (nbW N arcs 0) [(v : Int)] met []) {k : Nat} (hk : k < N) : met[k]? = some (decide (v ≤ k)) := by
  obtain ⟨b, hb, hi⟩ := met_at hR.len hk
  rw [hb]
  congr 1
  rw [Bool.eq_iff_iff, hi, From_iff hR, one_start (P := fun s => Rch (nb0 N arcs) s (k : Int)) hv, decide_eq_true_eq]
  constructor
  · intro hr
    have := line_le h hr
    omega
  · intro hle
    have := line_rch h (u := (v : Int)) (by omega) (k - v) (by omega)
    rwa [show (v : Int) + ((k - v : Nat) : Int) = k by omega] at this
theorem line_order (h : arcs.map ArcV.ft = lineFT (N - 1)) {told : List Int} (hg : Greedy N arcs told) (hs : Stuck N arcs told) : told.length = N ∧ ∀ k : Nat, k < N → told[k]? = some (k : Int) := by
  have hl : told.length = N := by
    have hle := hg.len
    rcases Nat.lt_or_ge told.length N with h1 | h1
    · obtain ⟨x, hx, hf, hm⟩ := hs.back hg.nodup hg.has h1
      have h2 := lineFT_mem.1 (mem_of_ft h hx)
      have h3 := line_le h hm.2
      omega
    · omega
  refine ⟨hl, ?_⟩
  have hpos : ∀ k : Nat, k < N → ∃ p : Nat, p < N ∧ k ≤ p ∧ told[p]? = some (k : Int) := by
    intro k
    induction k with
    | zero =>
      intro hk
      obtain ⟨p, hp⟩ := hg.all hl 0 (by simp [hasB]; omega)
      exact ⟨p, by have := lt_of_at' hp; omega, by omega, hp⟩
    | succ k ih =>
      intro hk
      obtain ⟨p, hp1, hp2, hp3⟩ := ih (by omega)
      obtain ⟨q, hq⟩ := hg.all hl ((k + 1 : Nat) : Int) (by simp [hasB]; omega)
      obtain ⟨x, hx, e1, e2⟩ := ft_of_mem h (p := ((k : Int), (k : Int) + 1)) (lineFT_mem.2 ⟨by omega, by omega, rfl⟩)
      obtain ⟨i, hi, hi2⟩ := hg.arc hx (by simp [fitB, e1, e2]; omega) (j := q) (by rw [hq, e2]; simp)
      rw [e1] at hi2
      have := hg.inj hi2 hp3
      exact ⟨q, by have := lt_of_at' hq; omega, by omega, hq⟩
  have hup : ∀ d k : Nat, k + d + 1 = N → told[k]? = some (k : Int) := by
    intro d
    induction d with
    | zero =>
      intro k hk
      obtain ⟨p, hp1, hp2, hp3⟩ := hpos k (by omega)
      have : p = k := by omega
      rwa [this] at hp3
    | succ d ih =>
      intro k hk
      have h1 := ih (k + 1) (by omega)
      obtain ⟨p, hp1, hp2, hp3⟩ := hpos k (by omega)
      obtain ⟨x, hx, e1, e2⟩ := ft_of_mem h (p := ((k : Int), (k : Int) + 1)) (lineFT_mem.2 ⟨by omega, by omega, rfl⟩)
      obtain ⟨i, hi, hi2⟩ := hg.arc hx (by simp [fitB, e1, e2]; omega) (j := k + 1) (by rw [h1, e2]; simp)
      rw [e1] at hi2
      have := hg.inj hi2 hp3
      have : p = k := by omega
      rwa [this] at hp3
  intro k hk
  exact hup (N - 1 - k) k (by omega)
theorem ring_low (h : arcs.map ArcV.ft = lineFT (N - 1) ++ [((N : Int) - 1, 0)]) (hN : 0 < N) {ofl : List Int} (hL : LowAll N arcs ofl) : ofl = List.replicate N 0 := by
  have hnb : ∀ u : Int, 0 ≤ u → u + 1 < N → u + 1 ∈ nb0 N arcs u := by
    intro u h1 h2
    obtain ⟨x, hx, e1, e2⟩ := ft_of_mem h (p := (u, u + 1)) (List.mem_append_left _ (lineFT_mem.2 ⟨h1, by omega, rfl⟩))
    exact nb0_iff.2 ⟨x, hx, by simp [fitB, e1, e2]; omega, e1, e2⟩
  have hz : (0 : Int) ∈ nb0 N arcs ((N : Int) - 1) := by
    obtain ⟨x, hx, e1, e2⟩ := ft_of_mem h (p := ((N : Int) - 1, 0)) (by simp)
    exact nb0_iff.2 ⟨x, hx, by simp [fitB, e1, e2]; omega, e1, e2⟩
  have hup : ∀ (u : Int) (d : Nat), 0 ≤ u → u + d < N → Rch (nb0 N arcs) u (u + d) := by
    intro u d hu
    induction d with
    | zero => intro _; simpa using Rch.refl _ _
    | succ d ih =>
      intro hd
      have h1 := ih (by omega)
      have h2 := hnb (u + d) (by omega) (by omega)
      have := h1.step h2
      rwa [show u + (d : Int) + 1 = u + ((d + 1 : Nat) : Int) by omega] at this
  have hmut : ∀ v : Int, hasB N v = true → Mut N arcs 0 v := by
    intro v hv
    simp [hasB] at hv
    constructor
    · have := hup 0 v.toNat (by omega) (by omega)
      rwa [show (0 : Int) + (v.toNat : Int) = v by omega] at this
    · have h1 := hup v (N - 1 - v.toNat) (by omega) (by omega)
      rw [show v + ((N - 1 - v.toNat : Nat) : Int) = (N : Int) - 1 by omega] at h1
      exact h1.step hz
  apply List.ext_getElem?
  intro k
  rcases Nat.lt_or_ge k N with hk | hk
  · have hh : hasB N (k : Int) = true := by simp [hasB]; omega
    obtain ⟨m, e, l⟩ := hL.2 k hh
    simp only [Int.toNat_natCast] at e
    have h1 := l.2.2 0 (hmut k hh) (by simp [hasB]; omega)
    have h2 := l.2.1
    simp [hasB] at h2
    rw [e, List.getElem?_replicate, if_pos hk]
    congr 1
    omega
  · rw [List.getElem?_eq_none (by rw [hL.1]; exact hk), List.getElem?_eq_none (by simpa using hk)]
end
end Go.Proofs.Ytekajenmkpobgaa
