/- Walks over the reference of ice: the mean of a loss. -/
import Derived.Test.YtbocedbonaeohaaIceH
namespace Go.Proofs.Ytbocedbonaeohaa
set_option linter.unusedVariables false
open Go.RowKit

theorem gcd_round {N D g k n d : Nat} (hg : g = Nat.gcd N D) (hD : 1 ≤ D) (hk : 2 ≤ k) (h : (g ≤ k ∧ n = N ∧ d = D) ∨ (k < g ∧ n = N / g ∧ d = D / g)) :
    ((n % k = 0 ∧ d % k = 0) → k = g ∧ n / k = N / g ∧ d / k = D / g) ∧ (¬ (n % k = 0 ∧ d % k = 0) → (g ≤ k - 1 ∧ n = N ∧ d = D) ∨ (k - 1 < g ∧ n = N / g ∧ d = D / g)) := by
  have hgp : 1 ≤ g := by rw [hg]; exact Nat.gcd_pos_of_pos_right N hD
  rcases h with ⟨h1, rfl, rfl⟩ | ⟨h1, rfl, rfl⟩
  · refine ⟨fun ⟨a, b⟩ => ?_, fun hn => ?_⟩
    · have hkd : k ∣ g := by rw [hg]; exact Nat.dvd_gcd (Nat.dvd_of_mod_eq_zero a) (Nat.dvd_of_mod_eq_zero b)
      have : k = g := Nat.le_antisymm (Nat.le_of_dvd hgp hkd) h1
      subst this
      exact ⟨rfl, rfl, rfl⟩
    · left
      refine ⟨?_, rfl, rfl⟩
      rcases Nat.lt_or_ge g k with hlt | hge
      · omega
      · have : k = g := by omega
        subst this
        exact absurd ⟨Nat.mod_eq_zero_of_dvd (by rw [hg]; exact Nat.gcd_dvd_left _ _), Nat.mod_eq_zero_of_dvd (by rw [hg]; exact Nat.gcd_dvd_right _ _)⟩ hn
  · refine ⟨fun ⟨a, b⟩ => ?_, fun _ => .inr ⟨by omega, rfl, rfl⟩⟩
    exfalso
    have hc : Nat.gcd (N / g) (D / g) = 1 := by
      rw [hg]; exact Nat.gcd_div_gcd_div_gcd_of_pos_right hD
    have : k ∣ 1 := by rw [← hc]; exact Nat.dvd_gcd (Nat.dvd_of_mod_eq_zero a) (Nat.dvd_of_mod_eq_zero b)
    have := Nat.le_of_dvd (by decide) this
    omega

theorem MeanE_no {L : List (Int × Int)} {x y : Int} (h : LossE L x y ≠ 0) : MeanE L x y = LossE L x y := by
  unfold MeanE MeanR
  unfold LossE at *
  cases hv : vld L
  · rfl
  · cases hr : LossR L x y
    · rfl
    · rw [hv, hr] at h; exact absurd rfl h
theorem LossE_ok {L : List (Int × Int)} {x y : Int} (h : LossE L x y = 0) : vld L = true ∧ LossR L x y = true := by
  unfold LossE at h
  cases hv : vld L
  · rw [hv] at h; cases h
  · cases hr : LossR L x y
    · rw [hv, hr] at h; cases h
    · exact ⟨rfl, rfl⟩

end Go.Proofs.Ytbocedbonaeohaa
