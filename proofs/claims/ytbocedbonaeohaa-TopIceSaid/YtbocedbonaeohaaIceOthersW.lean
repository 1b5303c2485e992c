/- The walk over the law IceOthers. -/
import Derived.Test.YtbocedbonaeohaaIceTurn2
namespace Go.Proofs.Ytbocedbonaeohaa
set_option linter.unusedVariables false
open Go.RowKit

end Go.Proofs.Ytbocedbonaeohaa
