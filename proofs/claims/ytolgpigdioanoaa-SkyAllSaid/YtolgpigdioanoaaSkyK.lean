/- Walks over package sky: the spot of a pixel. -/
import Derived.Test.YtolgpigdioanoaaSkyJ
namespace Go.Proofs.Ytolgpigdioanoaa
set_option linter.unusedSimpArgs false
set_option linter.unusedVariables false
open Go.RowKit

/-- the pixel's number on its face, its face, its place there -/
def fN (k p : Int) : Int := p % (sd k * sd k)
def fX (k p : Int) : Int := gat (fN k p)
def fY (k p : Int) : Int := gat (fN k p / 2)
def fF (k p : Int) : Int := p / (sd k * sd k)
theorem gat_fin (k : Fin 5) (n : Fin 256) : (n.val : Int) < 4 ^ k.val → (0 ≤ gat n.val ∧ gat n.val < 2 ^ k.val) ∧ 0 ≤ gat ((n.val : Int) / 2) ∧ gat ((n.val : Int) / 2) < 2 ^ k.val := by
  revert k n; decide +kernel
theorem sd_sq {k : Int} (hk : btw 0 k 4 = true) : sd k * sd k = 4 ^ k.toNat ∧ 1 ≤ sd k * sd k ∧ sd k * sd k ≤ 256 ∧ px k = 12 * (sd k * sd k) := by
  rcases ord_cases hk with rfl | rfl | rfl | rfl | rfl <;> decide
theorem spot_bounds {k p : Int} (h : okP k p = true) : (0 ≤ fX k p ∧ fX k p ≤ sd k - 1) ∧ (0 ≤ fY k p ∧ fY k p ≤ sd k - 1) ∧ 0 ≤ fF k p ∧ fF k p ≤ 11 := by
  have hk := okP_k h
  obtain ⟨h1, h2, h3, h4⟩ := sd_sq hk
  have hkk := btw_iff.1 hk
  have hp : 0 ≤ p ∧ p ≤ px k - 1 := by
    unfold okP at h; exact btw_iff.1 (Bool.and_eq_true_iff.1 h).2
  have m1 := Int.emod_nonneg p (show sd k * sd k ≠ 0 by omega)
  have m2 := Int.emod_lt_of_pos p (show 0 < sd k * sd k by omega)
  have g := gat_fin ⟨k.toNat, by omega⟩ ⟨(fN k p).toNat, by unfold fN; omega⟩ (by
    show (((fN k p).toNat : Nat) : Int) < 4 ^ k.toNat
    unfold fN; omega)
  simp only [show (((fN k p).toNat : Nat) : Int) = fN k p by unfold fN; omega] at g
  have hs : sd k = 2 ^ k.toNat := rfl
  refine ⟨⟨g.1.1, by have := g.1.2; unfold fX; omega⟩, ⟨g.2.1, by have := g.2.2; unfold fY; omega⟩, ?_, ?_⟩
  · exact Int.ediv_nonneg hp.1 (by omega)
  · unfold fF
    have : p / (sd k * sd k) < 12 := Int.ediv_lt_of_lt_mul (by omega) (by omega)
    omega

theorem spot_any (k p : Int) (w : World) (h : okP k p = true) :
    Calls Try.prog 89 #[.agg #[.int .i64 k, .int .i64 (sd k)], .int .i64 p] w fun e w' => e = .returned (.agg #[.int .i64 (fF k p), .int .i64 (fX k p), .int .i64 (fY k p)]) ∧ Below w.heap.size w w' := by
  have hk := okP_k h
  obtain ⟨h1, h2, h3, h4⟩ := sd_sq hk
  have hp := okP_p h
  exact spot_gen k (sd k) p (sd k * sd k) w (IntWalk.i64_in _ (by omega)) (IntWalk.wrap64_in _ (by omega)) (by omega) (by omega) (by omega) (by omega)
end Go.Proofs.Ytolgpigdioanoaa
