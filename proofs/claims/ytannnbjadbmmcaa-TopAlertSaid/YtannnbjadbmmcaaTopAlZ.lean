/- In a seat of few functions: the zero value of a plan, its cells under a name of their own. -/
import Derived.Test.YtannnbjadbmmcaaLibQ
import Derived.Test.YtannnbjadbmmcaaProg
namespace Go.Proofs.Ytannnbjadbmmcaa
set_option linter.unusedVariables false
open Go.RowKit
def _root_.Go.Proofs.Try.zeroCells43 : Array Value := ((List.replicate 100 (0 : Int)).map (Value.int .i64)).toArray
theorem zeroPlanV (w : World) : (zeroValue 43).run Try.prog w = .ok (.agg Try.zeroCells43) w := by kernel_rfl
theorem zeroPlan_size : Array.size Try.zeroCells43 = 100 := by kernel_rfl
theorem zeroPlan_ne : Try.zeroCells43 ≠ #[] := fun h => by
  have h1 := zeroPlan_size
  rw [h] at h1
  cases h1
end Go.Proofs.Ytannnbjadbmmcaa
