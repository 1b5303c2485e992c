/- Walks over package ice: the mean of a loss, in lowest terms. -/
import Derived.Test.YtbocedbonaeohaaIceG
import Derived.BigRegion
namespace Go.Proofs.Ytbocedbonaeohaa
set_option linter.unusedVariables false
open Go.RowKit

theorem MeanV_no {L : List (Int × Int)} {x y : Int} (h : MeanE L x y ≠ 0) : MeanV L x y = .tuple #[.agg #[.int .i64 0, .int .i64 0], .int .i64 (MeanE L x y)] := by
  unfold MeanV; rw [val_no h, val_no h]
theorem MeanV_ok {L : List (Int × Int)} {x y : Int} (h : MeanE L x y = 0) : MeanV L x y = .tuple #[.agg #[.int .i64 (ratN (LossV L x y) (dist x y)), .int .i64 (ratD (LossV L x y) (dist x y))], .int .i64 0] := by
  unfold MeanV; rw [h, val_ok rfl, val_ok rfl]

end Go.Proofs.Ytbocedbonaeohaa
