/- Walks over the reference of ice: Lit, Down, Up, Middle; the walk of IceLights. -/
import Derived.Test.YtbocedbonaeohaaIceL
namespace Go.Proofs.Ytbocedbonaeohaa
set_option linter.unusedVariables false
open Go.RowKit

theorem lossI_lo {l : List Int} (h : ∀ d ∈ l, 0 ≤ d) {k : Nat} (hk : k ≤ l.length) : lossI (cum l) 0 k = cm l k ∧ lossI (cum l) k l.length = cm l l.length - cm l k := by
  have h1 := cm_mono h (i := 0) (j := k) (by omega) hk
  have h2 := cm_mono h hk (Nat.le_refl _)
  have h0 : cm l 0 = 0 := by simp [cm]
  unfold lossI
  rw [cm_ix (by omega), cm_ix hk, cm_ix (Nat.le_refl _)]
  omega
end Go.Proofs.Ytbocedbonaeohaa
