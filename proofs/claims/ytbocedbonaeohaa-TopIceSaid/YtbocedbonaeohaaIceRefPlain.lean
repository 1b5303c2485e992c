/- The walk over the reference's Plain. -/
import Derived.Test.YtbocedbonaeohaaIcePlainW
namespace Go.Proofs.Ytbocedbonaeohaa
set_option linter.unusedVariables false
open Go.RowKit

end Go.Proofs.Ytbocedbonaeohaa
