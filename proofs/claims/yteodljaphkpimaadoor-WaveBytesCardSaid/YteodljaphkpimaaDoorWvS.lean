/- Walks over the reference of chapter wave: the shortest text. -/
import Derived.Test.YteodljaphkpimaaDoorWvR
import Derived.Test.YteodljaphkpimaaDoorWvH
import Derived.Deep.RegionHeld3
namespace Go.Proofs.YteodljaphkpimaaDoor
open Go.RowKit Go.Shelf
set_option linter.unusedSimpArgs false
set_option linter.unusedVariables false
attribute [local go_sem] Oper.semAt_some

theorem encF_leB : ∀ l : List Int, LeB (1000 * l.length) (encF l)
  | [] => fun i hi x hx => by simp [encF] at hx; subst hx; simp
  | d :: r => (leB_step (encF_leB r) d).more (by simp; omega)
/-- of the first k widths, from width i on -/
def mnF (F : Nat → Ot) (d : Int) (i k : Nat) : Ot := minD upK dnK (f0 F d) i k
theorem mnF_zero (F : Nat → Ot) (d : Int) (i : Nat) : mnF F d i 0 = none := rfl
theorem mnF_no {F : Nat → Ot} {d : Int} {i k : Nat} (h : canD (wid k) d = false) : mnF F d i (k + 1) = mnF F d i k := by
  unfold mnF
  rw [minD]
  unfold cand f0
  rw [if_neg (by rw [h]; decide)]
  cases minD upK dnK _ i k <;> rfl
theorem mnF_yes {F : Nat → Ot} {d : Int} {i k : Nat} {x : Tx} (h : canD (wid k) d = true) (hx : F k = some x) : mnF F d i (k + 1) = better (mnF F d i k) (some (toT upK dnK i k ++ wordB (wid k) d ++ x)) := by
  unfold mnF
  rw [minD]
  congr 1
  unfold cand f0
  rw [if_pos h, hx]
  simp [pre]
theorem mnF_five {F : Nat → Ot} {d : Int} {i : Nat} (hi : i < 5) : mnF F d i 5 = stepP F d i := (rl_min upK dnK _ hi).symm
end Go.Proofs.YteodljaphkpimaaDoor
