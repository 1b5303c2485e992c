/- Lists that are told are short; a list is the same as itself. -/
import Derived.Test.YtgbpmleipdecgaaSkyDa
namespace Go.Proofs.Ytgbpmleipdecgaa
open Go.RowKit
set_option linter.unusedSimpArgs false
set_option linter.unusedVariables false

theorem toldL_len (S : Px) : (toldL S).length ≤ 400 := by
  unfold toldL; split
  · simp
  · omega
/-- a list is the same as itself -/
theorem Same_self (A A' : Option Addr) (c c' : Nat) (l : List (Int × Int)) (w : World) (hr : RdP w w.heap.size A l) (hr' : RdP w w.heap.size A' l) (hl : l.length ≤ 1000000) :
    Calls Try.prog 20 #[.slice A l.length c, .slice A' l.length c'] w fun e w' => e = .returned (.bool true) ∧ Below w.heap.size w w' := by
  have h := SameCells_any A A' c c' l l w hr hr' hl (by omega)
  rw [decide_eq_true rfl] at h
  exact h
theorem Long_any (A : Option Addr) (n c : Nat) (k : Int) (w : World) : Calls Try.prog 4 #[.slice A n c, .int .i64 k] w fun e w' => e = .returned (.bool (decide (k < (n : Int)))) ∧ w' = w := by
  go_enter Try.func4, Try.ntmps4
  go_wp2
  go_ret
  exact ⟨rfl, rfl⟩
theorem mixL_len (l m : List (Int × Int)) (R : Px) : (mixL l m R).length ≤ 400 := by
  unfold mixL; split
  · exact toldL_len _
  · simp
end Go.Proofs.Ytgbpmleipdecgaa
