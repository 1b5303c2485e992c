/- Plain lemmas: the urgent plan of tasks, minute by minute. -/
import Derived.Test.YtdafiblnanpiiaaLibQ
import Derived.Test.YtdafiblnanpiiaaAlB
namespace Go.Proofs.Ytdafiblnanpiiaa
set_option linter.unusedVariables false

def openB (x y m : Int) : Bool := decide (x ≤ m) && decide (m < y)
theorem openB_iff {x y m : Int} : openB x y m = true ↔ x ≤ m ∧ m < y := by simp [openB]
/-- how often a task stands in a plan -/
def cntI (p : List Int) (i : Nat) : Int := (p.count (i : Int) : Nat)
theorem cntI_nil (i : Nat) : cntI [] i = 0 := rfl
theorem cntI_snoc (p : List Int) (b : Int) (i : Nat) : cntI (p ++ [b]) i = cntI p i + (if b = (i : Int) then 1 else 0) := by
  unfold cntI
  rw [List.count_append, List.count_singleton]
  by_cases h : b = (i : Int)
  · simp [h]
  · simp [h]
theorem cntI_bd (p : List Int) (i : Nat) : 0 ≤ cntI p i ∧ cntI p i ≤ p.length := by
  unfold cntI
  have := List.count_le_length (a := (i : Int)) (l := p)
  omega
/-- the task that is worked on in a minute, off the first tasks -/
def bestT (L : List (Int × Int × Int)) (p : List Int) (m : Int) : Nat → Int
  | 0 => -1
  | i + 1 => if openB (ta L i) (tb L i) m && decide (cntI p i < tc L i) && (decide (bestT L p m i = -1) || decide (tb L i < tb L (bestT L p m i).toNat)) then i else bestT L p m i
theorem bestT_bd (L : List (Int × Int × Int)) (p : List Int) (m : Int) (i : Nat) : -1 ≤ bestT L p m i ∧ bestT L p m i < i := by
  induction i with
  | zero => simp [bestT]
  | succ i ih => simp only [bestT]; split <;> omega
/-- the urgent plan of the first minutes -/
def urgP (L : List (Int × Int × Int)) : Nat → List Int
  | 0 => []
  | m + 1 => urgP L m ++ [bestT L (urgP L m) m L.length]
theorem urgP_len (L : List (Int × Int × Int)) (m : Nat) : (urgP L m).length = m := by
  induction m with
  | zero => rfl
  | succ m ih => simp [urgP, ih]
theorem urgP_mem (L : List (Int × Int × Int)) (m : Nat) : ∀ b ∈ urgP L m, -1 ≤ b ∧ b < L.length := by
  induction m with
  | zero => intro b hb; cases hb
  | succ m ih =>
    intro b hb
    simp only [urgP, List.mem_append, List.mem_singleton] at hb
    rcases hb with hb | rfl
    · exact ih b hb
    · exact bestT_bd L _ _ _
def urg (L : List (Int × Int × Int)) : List Int := urgP L 100
theorem urg_len (L : List (Int × Int × Int)) : (urg L).length = 100 := urgP_len L 100
/-- what is left of each task -/
def lefts (L : List (Int × Int × Int)) (p : List Int) : List Int := (List.range L.length).map fun i => tc L i - cntI p i
theorem lefts_len (L : List (Int × Int × Int)) (p : List Int) : (lefts L p).length = L.length := by simp [lefts]
theorem lefts_ix (L : List (Int × Int × Int)) (p : List Int) (i : Nat) (hi : i < L.length) : ix (lefts L p) i = tc L i - cntI p i := by simp [lefts, ix, hi]
theorem lefts_rest (L : List (Int × Int × Int)) (p : List Int) : lefts L (p ++ [-1]) = lefts L p := by
  unfold lefts
  refine List.map_congr_left fun i _ => ?_
  rw [cntI_snoc, if_neg (by omega), Int.add_zero]
theorem lefts_work (L : List (Int × Int × Int)) (p : List Int) (b : Nat) (hb : b < L.length) : lefts L (p ++ [(b : Int)]) = (lefts L p).set b (tc L b - cntI p b - 1) := by
  apply List.ext_getElem
  · simp [lefts]
  · intro i h1 h2
    rw [List.getElem_set]
    simp only [lefts, List.getElem_map, List.getElem_range, cntI_snoc]
    by_cases e : b = i
    · subst e; rw [if_pos rfl, if_pos rfl]; omega
    · rw [if_neg e, if_neg (by omega)]; omega
/-- the works, the first ones laid -/
def worksT (L : List (Int × Int × Int)) (i : Nat) : List Int := (List.range L.length).map fun k => if k < i then tc L k else 0
theorem worksT_len (L : List (Int × Int × Int)) (i : Nat) : (worksT L i).length = L.length := by simp [worksT]
theorem worksT_zero (L : List (Int × Int × Int)) : worksT L 0 = List.replicate L.length 0 := by
  apply List.ext_getElem
  · simp [worksT]
  · intro i h1 h2; simp [worksT]
theorem worksT_succ (L : List (Int × Int × Int)) (i : Nat) (hi : i < L.length) : worksT L (i + 1) = (worksT L i).set i (tc L i) := by
  apply List.ext_getElem
  · simp [worksT]
  · intro k h1 h2
    rw [List.getElem_set]
    simp only [worksT, List.getElem_map, List.getElem_range]
    by_cases e : i = k
    · subst e; rw [if_pos (by omega), if_pos rfl]
    · rw [if_neg e]
      by_cases h : k < i
      · rw [if_pos (by omega), if_pos h]
      · rw [if_neg (by omega), if_neg h]
theorem worksT_all (L : List (Int × Int × Int)) : worksT L L.length = lefts L [] := by
  unfold worksT lefts
  refine List.map_congr_left fun i hi => ?_
  rw [if_pos (by simpa using hi), cntI_nil]; omega
/-- the plan so far, in a row of 100 -/
def padP (p : List Int) : List Int := p ++ List.replicate (100 - p.length) 0
theorem padP_len (p : List Int) (h : p.length ≤ 100) : (padP p).length = 100 := by simp [padP]; omega
theorem padP_set (p : List Int) (b : Int) (h : p.length < 100) : (padP p).set p.length b = padP (p ++ [b]) := by
  unfold padP
  rw [List.set_append_right _ _ (Nat.le_refl _), Nat.sub_self]
  rw [show 100 - p.length = (100 - (p ++ [b]).length) + 1 by simp; omega, List.replicate_succ, List.set_cons_zero, List.append_assoc]
  rfl
theorem padP_full (p : List Int) (h : p.length = 100) : padP p = p := by simp [padP, h]
theorem padP_nil : padP [] = List.replicate 100 0 := rfl
end Go.Proofs.Ytdafiblnanpiiaa
