/- The walks over Plain and its reference. -/
import Derived.Test.YtbocedbonaeohaaIcePlain
import Derived.Test.YtbocedbonaeohaaLib2
import Derived.BigRegion
namespace Go.Proofs.Ytbocedbonaeohaa
set_option linter.unusedVariables false
open Go.RowKit

end Go.Proofs.Ytbocedbonaeohaa
