/- Walks over package sky: children; the sanity check. -/
import Derived.Test.YtgbpmleipdecgaaSkyA
namespace Go.Proofs.Ytgbpmleipdecgaa
set_option linter.unusedSimpArgs false
set_option linter.unusedVariables false
open Go.RowKit

/-- a list and an error -/
def IntsRet (l : List Int) (er : Int) (w : World) (e : Ending) (w' : World) : Prop :=
  Below w.heap.size w w' ∧ ∃ A c, e = .returned (.tuple #[.slice A l.length c, .int .i64 er]) ∧ RdI w' w'.heap.size A l
def kidsL (k p : Int) : List Int := if okP k p then (if k = 4 then [] else kids p) else []
def kidsE (k p : Int) : Int := if okP k p then (if k = 4 then 5 else 0) else 2
theorem kids_no {k p : Int} {w w' : World} (h : okP k p = false) (hb : Below w.heap.size w w') : IntsRet (kidsL k p) (kidsE k p) w (.returned (.tuple #[.slice none 0 0, .int .i64 2])) w' := by
  simp only [kidsL, kidsE, h]
  exact ⟨hb, none, 0, rfl, .inl rfl⟩
theorem kids_four {p : Int} {w w' : World} (h : okP 4 p = true) (hb : Below w.heap.size w w') : IntsRet (kidsL 4 p) (kidsE 4 p) w (.returned (.tuple #[.slice none 0 0, .int .i64 5])) w' := by
  simp only [kidsL, kidsE, h]
  exact ⟨hb, none, 0, rfl, .inl rfl⟩
theorem kids_ok {k p : Int} {w w' : World} {v : Value} (h : okP k p = true) (hk : k ≠ 4) (hv : IsInts (kids p) v w') (hb : Below w.heap.size w w') : IntsRet (kidsL k p) (kidsE k p) w (.returned (.tuple #[v, .int .i64 0])) w' := by
  simp only [kidsL, kidsE, h, hk, if_true, if_false]
  obtain ⟨A, c, rfl, hr⟩ := hv
  exact ⟨hb, A, c, rfl, hr⟩

end Go.Proofs.Ytgbpmleipdecgaa
