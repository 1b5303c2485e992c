/- Walks over the reference of alert: the slack and the first stretch that is overfull. -/
import Derived.Test.YtannnbjadbmmcaaAlF
namespace Go.Proofs.Ytannnbjadbmmcaa
open Go.RowKit
set_option linter.unusedSimpArgs false
set_option linter.unusedVariables false

theorem strUp_mem {a b : Nat} (ha : a < 100) (hb : b ≤ 101) : ∀ x ∈ strUp a ++ strRow a b, x ∈ strAll := fun x hx => (strPart_pre ha hb).subset hx
theorem strUp_mem0 {a : Nat} (ha : a ≤ 100) : ∀ x ∈ strUp a, x ∈ strAll := fun x hx => by rw [← strAll_eq]; exact (strUp_pre ha).subset hx

end Go.Proofs.Ytannnbjadbmmcaa
