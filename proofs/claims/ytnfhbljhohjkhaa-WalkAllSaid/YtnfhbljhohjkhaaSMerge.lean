/- The merge of a stable sort over a row of pairs; the sort. -/
import Derived.Test.YtnfhbljhohjkhaaSOne
import Derived.Deep.DeepCutAuto
set_option linter.unusedVariables false
set_option linter.unusedSimpArgs false
namespace Go.Proofs.Ytnfhbljhohjkhaa
open Go.RowKit Stab

theorem wsm (x : Int) (h : -10000000 ≤ x ∧ x ≤ 10000000) : IntKind.i64.wrap x = x := i64_small (by omega)

end Go.Proofs.Ytnfhbljhohjkhaa
