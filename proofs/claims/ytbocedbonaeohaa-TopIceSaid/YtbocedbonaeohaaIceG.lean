/- Walks over package ice and its reference: the reference's Loss; the mean of a loss. -/
import Derived.Test.YtbocedbonaeohaaIceF
namespace Go.Proofs.Ytbocedbonaeohaa
set_option linter.unusedVariables false
open Go.RowKit

theorem LossR_eq (L : List (Int × Int)) (x y : Int) : LossR L x y = (btw 0 x (mets L).length && btw 0 y (mets L).length) := by
  unfold LossR
  rw [cum_length, isB_two_eq]

def MeanR (L : List (Int × Int)) (x y : Int) : Bool := LossR L x y && (x != y)
def MeanE (L : List (Int × Int)) (x y : Int) : Int := gate (vld L) (MeanR L x y)
def dist (x y : Int) : Int := max (x - y) (y - x)
def ratN (n d : Int) : Int := n / (Int.gcd n d : Nat)
def ratD (n d : Int) : Int := d / (Int.gcd n d : Nat)
def MeanV (L : List (Int × Int)) (x y : Int) : Value := .tuple #[.agg #[.int .i64 (val (MeanE L x y) (ratN (LossV L x y) (dist x y))), .int .i64 (val (MeanE L x y) (ratD (LossV L x y) (dist x y)))], .int .i64 (MeanE L x y)]

end Go.Proofs.Ytbocedbonaeohaa
