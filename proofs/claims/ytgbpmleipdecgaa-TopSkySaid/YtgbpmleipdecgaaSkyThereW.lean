/- The walk of SkyThere. -/
import Derived.Test.YtgbpmleipdecgaaSkyZ
import Derived.Test.YtgbpmleipdecgaaSkyU
import Derived.OpenShut
namespace Go.Proofs.Ytgbpmleipdecgaa
set_option linter.unusedSimpArgs false
set_option linter.unusedVariables false
open Go.RowKit

/-- a pixel's place leads back to it -/
theorem nst_back {k p : Int} (h : okP k p = true) : okN k (fF k p) (fX k p) (fY k p) = true ∧ nst k (fF k p) (fX k p) (fY k p) = p := by
  have hk := okP_k h
  have hkk := btw_iff.1 hk
  obtain ⟨hx, hy, hf⟩ := spot_bounds h
  obtain ⟨q1, q2, q3, q4⟩ := sd_sq hk
  refine ⟨by rw [okN, btw_iff.2 hf, btw_iff.2 hx, btw_iff.2 hy]; rfl, ?_⟩
  have m1 := Int.emod_nonneg p (show sd k * sd k ≠ 0 by omega)
  have m2 := Int.emod_lt_of_pos p (show 0 < sd k * sd k by omega)
  have g2 := btF_gat ⟨k.toNat, by omega⟩ ⟨(p % (sd k * sd k)).toNat, by omega⟩ (by simp only; omega)
  simp only [show (((p % (sd k * sd k)).toNat : Nat) : Int) = p % (sd k * sd k) by omega] at g2
  unfold nst fF fX fY fN
  rw [g2, Int.mul_assoc, Int.mul_comm]
  exact Int.mul_ediv_add_emod p (sd k * sd k)

end Go.Proofs.Ytgbpmleipdecgaa
