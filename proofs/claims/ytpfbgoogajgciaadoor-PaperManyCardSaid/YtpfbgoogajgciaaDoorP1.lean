/- Plain words for certificates as texts: what is printed, what is told. Conditions: none. -/
import Derived.Test.YtpfbgoogajgciaaDoorF5
set_option linter.unusedSimpArgs false
set_option linter.unusedVariables false
namespace Go.Proofs.YtpfbgoogajgciaaDoor
open Go.RowKit Go.Shelf

/-- A certificate: its kind and lists; marks are 1 and 0. -/
structure CertV where
  kind : Int
  flow : List Int
  pot : List Int
  side : List Int
  cycle : List Int

def cert0 : CertV := ⟨0, [], [], [], []⟩
inductive Fld where
  | flow | pot | side | cycle
def Fld.name : Fld → List UInt8
  | .flow => [102, 108, 111, 119]
  | .pot => [112, 111, 116]
  | .side => [115, 105, 100, 101]
  | .cycle => [99, 121, 99, 108, 101]
def CertV.put (c : CertV) : Fld → List Int → CertV
  | .flow, l => { c with flow := l }
  | .pot, l => { c with pot := l }
  | .side, l => { c with side := l }
  | .cycle, l => { c with cycle := l }
def CertV.get (c : CertV) : Fld → List Int
  | .flow => c.flow
  | .pot => c.pot
  | .side => c.side
  | .cycle => c.cycle

/-- what a word of each list tells, and what is wrong -/
def bitL (w : List UInt8) : Int × Int := if w = [49] then (1, 0) else if w = [48] then (0, 0) else (0, 10)
def arcL (w : List UInt8) : Int × Int := if (numL w).2 ≠ 0 then (0, (numL w).2) else if (numL w).1 < 0 then (0, 11) else ((numL w).1, 0)
def Fld.turn : Fld → List UInt8 → Int × Int
  | .flow => numL
  | .pot => numL
  | .side => bitL
  | .cycle => arcL

/-- what words tell behind a name -/
def listL (turn : List UInt8 → Int × Int) (name : List UInt8) (ws : List (List UInt8)) : List Int × Int :=
  if ws.head? ≠ some name then ([], 10)
  else if (ws.tail.map turn).any (fun p => decide (p.2 ≠ 0 ∧ p.2 ≠ 11)) then ([], 10)
  else if 1000 < ws.tail.length then ([], 20)
  else if (ws.tail.map turn).any (fun p => decide (p.2 ≠ 0)) then ([], 11)
  else ((ws.tail.map turn).map (·.1), 0)

def bestL : List UInt8 := [98, 101, 115, 116]
def cutN : List UInt8 := [99, 117, 116]
def rayL : List UInt8 := [114, 97, 121]
def wantF (t : List UInt8) : Option (Int × List Fld) :=
  if t = bestL then some (1, [.flow, .pot]) else if t = cutN then some (2, [.side]) else if t = rayL then some (3, [.flow, .cycle]) else none
def goL : List Fld → CertV → Nat → List (List UInt8) → CertV × Int × Int
  | [], c, _, [] => (c, 0, 0)
  | _ :: _, _, k, [] => (cert0, 10, k + 1)
  | [], _, k, _ :: _ => (cert0, 10, k + 2)
  | f :: fs, c, k, t :: ts =>
    if (listL f.turn f.name (cutL 32 t)).2 ≠ 0 then (cert0, (listL f.turn f.name (cutL 32 t)).2, k + 2)
    else goL fs (c.put f (listL f.turn f.name (cutL 32 t)).1) (k + 1) ts
/-- what lines tell -/
def parseT : List (List UInt8) → CertV × Int × Int
  | [] => (cert0, 36, 0)
  | t :: ts => match wantF t with
    | none => (cert0, 36, 1)
    | some (k, fs) => goL fs ⟨k, [], [], [], []⟩ 0 ts
/-- what a text tells: the certificate, what is wrong, and where -/
def parseL (s : List UInt8) : CertV × Int × Int := if 60000 < s.length then (cert0, 3, 0) else parseT (linesL s)
theorem cut_len (c : UInt8) (l : List UInt8) : ∀ x ∈ cutL c l, x.length ≤ l.length := by
  induction l with
  | nil => simp [cutL]
  | cons b l ih =>
    simp only [cutL]
    by_cases h : b = c
    · rw [if_pos h]; intro x hx
      rcases List.mem_cons.1 hx with rfl | hx
      · simp
      · have := ih x hx; simp; omega
    · rw [if_neg h]
      cases hc : cutL c l with
      | nil => exact absurd hc (cutL_ne c l)
      | cons p q =>
        rw [hc] at ih
        intro x hx
        rcases List.mem_cons.1 hx with rfl | hx
        · have := ih p (by simp); simp; omega
        · have := ih x (by simp [hx]); simp; omega
theorem cut_many (c : UInt8) (l : List UInt8) : (cutL c l).length ≤ l.length + 1 := by
  rw [cutL_length]; have := List.count_le_length (a := c) (l := l); omega
theorem lines_len (l : List UInt8) : ∀ x ∈ linesL l, x.length ≤ l.length := by
  intro x hx
  refine cut_len 10 l x ?_
  unfold linesL at hx
  split at hx
  · exact List.dropLast_subset _ hx
  · exact hx
theorem lines_many (l : List UInt8) : (linesL l).length ≤ l.length + 1 := by
  have := cut_many 10 l
  unfold linesL
  split
  · rw [List.length_dropLast]; omega
  · exact this

def plainC (c : CertV) : Bool :=
  if c.kind = 1 then c.side.isEmpty && c.cycle.isEmpty
  else if c.kind = 2 then c.flow.isEmpty && (c.pot.isEmpty && c.cycle.isEmpty)
  else if c.kind = 3 then c.pot.isEmpty && c.side.isEmpty
  else false
def lineL (f : Fld) (l : List Int) : List UInt8 := Lib.join (f.name :: l.map Lib.itoa) [32] ++ [10]
def textL (c : CertV) : List UInt8 :=
  if c.kind = 1 then bestL ++ [10] ++ lineL .flow c.flow ++ lineL .pot c.pot
  else if c.kind = 2 then cutN ++ [10] ++ lineL .side c.side
  else rayL ++ [10] ++ lineL .flow c.flow ++ lineL .cycle c.cycle
/-- a certificate's text, and what is wrong -/
def printL (c : CertV) : List UInt8 × Int :=
  if plainC c = false then ([], 36)
  else if 1000 < c.flow.length ∨ 1000 < c.pot.length ∨ 1000 < c.side.length ∨ 1000 < c.cycle.length then ([], 20)
  else if c.cycle.any (fun a => decide (a < 0)) then ([], 11)
  else if 60000 < (textL c).length then ([], 3)
  else (textL c, 0)

theorem numL_err (l : List UInt8) : (numL l).2 = 0 ∨ (numL l).2 = 10 ∨ (numL l).2 = 11 := by
  unfold numL; split
  · simp
  · split <;> simp
theorem numL_range (l : List UInt8) : -9223372036854775808 ≤ (numL l).1 ∧ (numL l).1 ≤ 9223372036854775807 := by
  unfold numL; split
  · simp
  · split
    · rename_i h; exact h
    · simp
end Go.Proofs.YtpfbgoogajgciaaDoor
