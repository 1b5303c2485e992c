/- Walks over package ice and its reference: the reference's Loss; the mean of a loss. -/
import Derived.Test.YtbocedbonaeohaaIceE
namespace Go.Proofs.Ytbocedbonaeohaa
set_option linter.unusedVariables false
open Go.RowKit

theorem lossI_le {l : List Int} {i j : Nat} (h : ix l i ≤ ix l j) : lossI l i j = ix l j - ix l i := by unfold lossI; omega
theorem lossI_comm (l : List Int) (i j : Nat) : lossI l i j = lossI l j i := by unfold lossI; omega

end Go.Proofs.Ytbocedbonaeohaa
