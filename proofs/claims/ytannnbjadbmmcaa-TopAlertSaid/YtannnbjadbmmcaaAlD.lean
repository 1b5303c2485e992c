/- Walks over package alert: the slack. -/
import Derived.Test.YtannnbjadbmmcaaAlC
import Derived.Test.YtannnbjadbmmcaaLibR
import Derived.Outline
namespace Go.Proofs.Ytannnbjadbmmcaa
open Go.RowKit Go.Shelf
set_option linter.unusedSimpArgs false
set_option linter.unusedVariables false
attribute [local go_sem] Oper.semAt_some

/-- the least that a stretch of a list has more than its demand -/
def slkF (L : List (Int × Int × Int)) (l : List (Int × Int)) : Int := l.foldl (fun m p => min m (p.2 - p.1 - dem L p.1 p.2)) 100
def slk (L : List (Int × Int × Int)) : Int := slkF L strAll
theorem slkF_snoc (L : List (Int × Int × Int)) (l : List (Int × Int)) (x : Int × Int) : slkF L (l ++ [x]) = min (slkF L l) (x.2 - x.1 - dem L x.1 x.2) := by simp [slkF]
theorem slkF_bd {L : List (Int × Int × Int)} (h : okT L) (l : List (Int × Int)) (hl : ∀ x ∈ l, x ∈ strAll) : -1200 ≤ slkF L l ∧ slkF L l ≤ 100 := by
  obtain ⟨r, rfl⟩ : ∃ r, l = r.reverse := ⟨l.reverse, by simp⟩
  induction r with
  | nil => simp [slkF]
  | cons x r ih =>
    rw [List.reverse_cons, slkF_snoc]
    have h1 := ih (fun y hy => hl y (by rw [List.reverse_cons]; exact List.mem_append_left _ hy))
    have h2 := dem_bd h x.1 x.2
    have h3 := mem_strAll.1 (hl x (by simp))
    simp only [Int.min_def]; split <;> omega

end Go.Proofs.Ytannnbjadbmmcaa
