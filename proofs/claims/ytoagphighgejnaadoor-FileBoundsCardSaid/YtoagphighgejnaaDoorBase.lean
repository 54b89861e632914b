/- What all texts of this seat share: the library's variables in memory, Text, formed. Conditions: none. -/
import Derived.Test.YtoagphighgejnaaDoorRows
import Derived.Test.YtoagphighgejnaaDoorShelf
import Derived.WalkKit
import Derived.WalkSpells
import Derived.WalkLawsBesides
import Derived.WalkSmall
import Derived.Deep.QuietTactic
import Derived.BigQuiet
import Derived.BigCall
import Derived.Lib.Hide
import Derived.Below
import Derived.Laws.OwnMore
import Derived.Lib.OthersKept
import Derived.Lib.AppendIntMem
import Derived.Lib.AtoiErrMem
import Derived.Lib.Strings
set_option linter.unusedSimpArgs false
set_option linter.unusedVariables false
namespace Go.Proofs.YtoagphighgejnaaDoor
open Go.RowKit Go.Shelf

/-- The library's variables as the rows list them, and what is asked of a world. -/
structure Env (w : World) : Prop where
  tab : Lib.TabIs Tryd.prog w "internal/strconv.uint64pow10" .u64 Lib.pow10Tab
  err : ∃ tp p, w.var? Tryd.prog "strconv.ErrRange" = some #[.iface tp p]
  max : ∃ m, w.cell? ⟨2, 0, none⟩ = some (.int .i64 m)
  size : 8 ≤ w.heap.size

theorem gPow : Tryd.prog.globalNamed "internal/strconv.uint64pow10" = some 5 := by kernel_rfl
theorem gErr : Tryd.prog.globalNamed "strconv.ErrRange" = some 4 := by kernel_rfl

theorem Env.below {w w' : World} (h : Env w) {B : Nat} (hb : Below B w w') (hB : 8 ≤ B) : Env w' := by
  obtain ⟨m, hm⟩ := h.max
  obtain ⟨tp, p, he⟩ := h.err
  exact ⟨var?_below hb gPow (by omega) h.tab, ⟨tp, p, var?_below hb gErr (by omega) he⟩, ⟨m, (hb.cell (p := ⟨2, 0, none⟩) (by show 2 < B; omega)).trans hm⟩, Nat.le_trans h.size hb.size⟩

theorem Env.on {w w' : World} (h : Env w) (hb : Below w.heap.size w w') : Env w' := h.below hb h.size

end Go.Proofs.YtoagphighgejnaaDoor
