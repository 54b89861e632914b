/- WordParts (6). Conditions: none. -/
import Derived.Test.YtpfbgoogajgciaaDoorK
set_option linter.unusedSimpArgs false
set_option linter.unusedVariables false
namespace Go.Proofs.YtpfbgoogajgciaaDoor
open Go.RowKit Go.Shelf


theorem get_at {s : ByteArray} {p : Nat} (hp : p < s.size) : s.data.toList[p]? = some (s[p]'hp) := by
  have h1 : p < s.data.size := hp
  rw [Array.getElem?_toList, Array.getElem?_eq_getElem h1]
  rfl

end Go.Proofs.YtpfbgoogajgciaaDoor
