/- Insertion sort over a row of pairs. -/
import Derived.Test.YtnfhbljhohjkhaaSRow
set_option linter.unusedVariables false
set_option linter.unusedSimpArgs false
namespace Go.Proofs.Ytnfhbljhohjkhaa
open Go.RowKit Stab

end Go.Proofs.Ytnfhbljhohjkhaa
