/- Walks over sky's reference: two sets taken together; Set. -/
import Derived.Test.YtgbpmleipdecgaaSkyRc
namespace Go.Proofs.Ytgbpmleipdecgaa
open Go.RowKit
set_option linter.unusedSimpArgs false
set_option linter.unusedVariables false

/-- how two truths are taken together -/
def mixT (p q r a b : Bool) : Bool := a && !b && p || !a && b && q || a && b && r
def mixS (p q r : Bool) (S T : Px) : Px := fun x => mixT p q r (S x) (T x)
def halfM (p q r : Bool) (S T : Px) (n : Nat) : Px := fun x => decide (x < n) && mixS p q r S T x
theorem halfM_zero (p q r : Bool) (S T : Px) : halfM p q r S T 0 = fun _ => false := by funext x; simp [halfM]
theorem halfM_all (p q r : Bool) (S T : Px) : ∀ x, x < 3072 → halfM p q r S T 3072 x = mixS p q r S T x := fun x hx => by simp [halfM, hx]
theorem halfM_set (p q r : Bool) (S T : Px) (n : Nat) : (fun x => if x = n then mixT p q r (S n) (T n) else halfM p q r S T n x) = halfM p q r S T (n + 1) := by
  funext x
  unfold halfM
  rcases Nat.lt_trichotomy x n with h1 | rfl | h1
  · have e1 : x < n + 1 := by omega
    have e2 : ¬ x = n := by omega
    simp [h1, e1, e2]
  · simp [mixS]
  · have e1 : ¬ x < n + 1 := by omega
    have e2 : ¬ x = n := by omega
    have e3 : ¬ x < n := by omega
    simp [e1, e2, e3]
theorem mixS_join (l m : List (Int × Int)) : mixS true true true (uniP l) (uniP m) = fun x => uniP l x || uniP m x := by
  funext x; unfold mixS mixT; cases uniP l x <;> cases uniP m x <;> rfl
theorem mixS_both (l m : List (Int × Int)) : mixS false false true (uniP l) (uniP m) = fun x => uniP l x && uniP m x := by
  funext x; unfold mixS mixT; cases uniP l x <;> cases uniP m x <;> rfl
theorem mixS_less (l m : List (Int × Int)) : mixS true false false (uniP l) (uniP m) = fun x => uniP l x && !(uniP m x) := by
  funext x; unfold mixS mixT; cases uniP l x <;> cases uniP m x <;> rfl
/-- the first n faces -/
def skyN (n : Nat) : List (Int × Int) := (List.range n).map fun f : Nat => ((0 : Int), (f : Int))
theorem skyN_succ (n : Nat) : skyN n ++ [(0, (n : Int))] = skyN (n + 1) := by simp [skyN, List.range_succ]
theorem skyN_all : skyN 12 = skyL := by
  unfold skyL cellsP
  have key : ∀ f, lookC (fun _ => true) 4 f = [(0, (f : Int))] := fun f => by
    have h : allP (fun _ => true) (f * 4 ^ 4) (4 ^ 4) = true := allP_iff.2 fun _ _ => rfl
    have := look_full h
    simpa using this
  rw [show lookC (fun _ => true) 4 = fun f : Nat => [((0 : Int), (f : Int))] from funext key]
  rfl
end Go.Proofs.Ytgbpmleipdecgaa
