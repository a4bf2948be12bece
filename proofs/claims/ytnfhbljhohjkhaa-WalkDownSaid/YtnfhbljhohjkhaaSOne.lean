/- The merge of a stable sort over a row of pairs: where one side is a single pair. -/
import Derived.Test.YtnfhbljhohjkhaaSIns
set_option linter.unusedVariables false
set_option linter.unusedSimpArgs false
namespace Go.Proofs.Ytnfhbljhohjkhaa
open Go.RowKit Stab

end Go.Proofs.Ytnfhbljhohjkhaa
