/- What all texts of this seat share: the library's variables in memory, Text, formed. Conditions: none. -/
import Derived.Test.YtoagphighgejnaaGreatDoorRows
import Derived.Test.YtoagphighgejnaaGreatDoorShelf
import Derived.WalkKit
import Derived.WalkSpells
import Derived.WalkLawsBesides
import Derived.WalkSmall
import Derived.Deep.QuietTactic
import Derived.BigQuiet
import Derived.BigCall
import Derived.Lib.Hide
import Derived.Below
import Derived.Laws.OwnMore
import Derived.Lib.OthersKept
import Derived.Lib.AppendIntMem
import Derived.Lib.AtoiErrMem
import Derived.Lib.Strings
set_option linter.unusedSimpArgs false
set_option linter.unusedVariables false
namespace Go.Proofs.YtoagphighgejnaaGreatDoor
open Go.RowKit Go.Shelf

/-- The library's variables as the rows list them, and what is asked of a world. -/
structure Env (w : World) : Prop where
  tab : Lib.TabIs Tryz.prog w "internal/strconv.uint64pow10" .u64 Lib.pow10Tab
  err : ∃ tp p, w.var? Tryz.prog "strconv.ErrRange" = some #[.iface tp p]
  max : ∃ m, w.cell? ⟨3, 0, none⟩ = some (.int .i64 m)
  size : 8 ≤ w.heap.size

theorem gPow : Tryz.prog.globalNamed "internal/strconv.uint64pow10" = some 0 := by kernel_rfl
theorem gErr : Tryz.prog.globalNamed "strconv.ErrRange" = some 7 := by kernel_rfl

theorem Env.below {w w' : World} (h : Env w) {B : Nat} (hb : Below B w w') (hB : 8 ≤ B) : Env w' := by
  obtain ⟨m, hm⟩ := h.max
  obtain ⟨tp, p, he⟩ := h.err
  exact ⟨var?_below hb gPow (by omega) h.tab, ⟨tp, p, var?_below hb gErr (by omega) he⟩, ⟨m, (hb.cell (p := ⟨3, 0, none⟩) (by show 3 < B; omega)).trans hm⟩, Nat.le_trans h.size hb.size⟩

theorem Env.on {w w' : World} (h : Env w) (hb : Below w.heap.size w w') : Env w' := h.below hb h.size

theorem Text_in (n : Int) (h0 : -9223372036854775808 ≤ n) (h1 : n ≤ 9223372036854775807) (w : World) (hE : Env w) :
    Calls Tryz.prog 35 #[.int .i64 n] w fun e w' => e = .returned (.string ⟨(Lib.itoa n).toArray⟩) ∧ Below w.heap.size w w' := by
  go_enter Tryz.func35, Tryz.ntmps35
  go_wp2_with (go_at_call 54; refine (Tryz.strconv_FormatInt_10 n h0 h1 w hE.tab).mono ?_; rintro e w' ⟨rfl, k, os, rfl⟩)
  go_ret
  exact ⟨rfl, Lib.below_grow _ w (Nat.le_refl _) k os⟩

end Go.Proofs.YtoagphighgejnaaGreatDoor
