/- Plain law of nested numbers: gather undoes the bits by turns. -/
import Derived.Test.YtgbpmleipdecgaaSkyN
import Derived.Test.YtgbpmleipdecgaaSkyF
namespace Go.Proofs.Ytgbpmleipdecgaa
set_option linter.unusedSimpArgs false
set_option linter.unusedVariables false
open Go.RowKit

theorem btF_gat (k : Fin 5) (n : Fin 256) : (n.val : Int) < 4 ^ k.val → btF k.val (gat n.val) (gat ((n.val : Int) / 2)) = n.val := by
  revert k n; decide +kernel
theorem gat_btF (k : Fin 5) (a b : Fin 16) : (a.val : Int) < 2 ^ k.val → (b.val : Int) < 2 ^ k.val → gat (btF k.val a.val b.val) = a.val ∧ gat (btF k.val a.val b.val / 2) = b.val := by
  revert k a b; decide +kernel
end Go.Proofs.Ytgbpmleipdecgaa
