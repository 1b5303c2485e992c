/- Walks over package sky: the ring of a pixel, its numbers said. -/
import Derived.Test.YtgbpmleipdecgaaSkyL
namespace Go.Proofs.Ytgbpmleipdecgaa
set_option linter.unusedSimpArgs false
set_option linter.unusedVariables false
open Go.RowKit

def rgR (s f x y : Int) : Int := (f / 4 + 2) * s - x - y - 1
def rgB (f : Int) : Int := if f / 4 = 1 then 2 * (f % 4) else 2 * (f % 4) + 1
def rgC (s R : Int) : Int := if btw s R (3 * s) = true ∧ (R - s) % 2 = 1 then 1 else 0
def rgH (s f x y : Int) : Int := rgB f * (lenS s (rgR s f x y) / 4) + x - y + 1 + rgC s (rgR s f x y)
def rgP (s f x y : Int) : Int := if (rgH s f x y).tdiv 2 < 1 then (rgH s f x y).tdiv 2 + 4 * s else if 4 * s < (rgH s f x y).tdiv 2 then (rgH s f x y).tdiv 2 - 4 * s else (rgH s f x y).tdiv 2

theorem ring_any (k p : Int) (w : World) (h : okP k p = true) :
    Calls Try.prog 38 #[.agg #[.int .i64 k, .int .i64 (sd k)], .int .i64 p] w fun e w' => e = .returned (.tuple #[.int .i64 (rgR (sd k) (fF k p) (fX k p) (fY k p)), .int .i64 (rgP (sd k) (fF k p) (fX k p) (fY k p))]) ∧ Below w.heap.size w w' := by
  have hk := okP_k h
  obtain ⟨hx, hy, hf⟩ := spot_bounds h
  have hS := fun W => spot_any k p W h
  have hL := fun r W hr => length_any k r W hk hr
  have hsc := sd_cases hk
  generalize fF k p = f at *
  generalize fX k p = x at *
  generalize fY k p = y at *
  generalize sd k = s at *
  have hs : 1 ≤ s ∧ s ≤ 16 := by rcases hsc with h | h | h | h | h <;> omega
  have hR : 1 ≤ rgR s f x y ∧ rgR s f x y ≤ 4 * s - 1 := by
    unfold rgR; rcases hsc with rfl | rfl | rfl | rfl | rfl <;> omega
  have hm : 0 ≤ (f / 4 + 2) * s ∧ (f / 4 + 2) * s ≤ 64 := by rcases hsc with rfl | rfl | rfl | rfl | rfl <;> omega
  have hLb := lenS_bound hs hR
  have hbQ : 0 ≤ rgB f * (lenS s (rgR s f x y) / 4) ∧ rgB f * (lenS s (rgR s f x y) / 4) ≤ 112 := by
    have hb : 0 ≤ rgB f ∧ rgB f ≤ 7 := by unfold rgB; split <;> omega
    exact ⟨Int.mul_nonneg hb.1 (by omega), Int.le_trans (Int.mul_le_mul hb.2 (show lenS s (rgR s f x y) / 4 ≤ 16 by omega) (by omega) (by omega)) (by decide)⟩
  have hc : rgC s (rgR s f x y) = 0 ∨ rgC s (rgR s f x y) = 1 := by unfold rgC; split <;> simp
  have hH : rgH s f x y = rgB f * (lenS s (rgR s f x y) / 4) + x - y + 1 + rgC s (rgR s f x y) := rfl
  have ht : -100 ≤ (rgH s f x y).tdiv 2 ∧ (rgH s f x y).tdiv 2 ≤ 100 := by
    have : -100 ≤ rgH s f x y ∧ rgH s f x y ≤ 140 := by omega
    rcases Int.le_total 0 (rgH s f x y) with h0 | h0
    · rw [Int.tdiv_eq_ediv_of_nonneg h0]; omega
    · obtain ⟨z, hz⟩ : ∃ z, rgH s f x y = -z := ⟨-rgH s f x y, by omega⟩
      rw [hz, Int.neg_tdiv, Int.tdiv_eq_ediv_of_nonneg (by omega)]; omega
  refine ring_gen k s p f x y (f / 4) (f / 4 + 2) ((f / 4 + 2) * s) ((f / 4 + 2) * s - x) ((f / 4 + 2) * s - x - y) (rgR s f x y) (lenS s (rgR s f x y)) (lenS s (rgR s f x y) / 4) (f % 4) (2 * (f % 4)) (rgB f) (rgB f * (lenS s (rgR s f x y) / 4)) (rgB f * (lenS s (rgR s f x y) / 4) + x) (rgB f * (lenS s (rgR s f x y) / 4) + x - y) (rgB f * (lenS s (rgR s f x y) / 4) + x - y + 1) (3 * s) (rgR s f x y - s) ((rgR s f x y - s).tmod 2) (rgH s f x y) ((rgH s f x y).tdiv 2) (4 * s) (rgP s f x y) w hS (fun W => hL _ W hR)
    (Int.tdiv_eq_ediv_of_nonneg (by omega)) rfl (IntWalk.i64_in _ (by omega)) (IntWalk.wrap64_in _ (by omega)) (IntWalk.i64_in _ (by omega)) (IntWalk.i64_in _ (by omega)) (IntWalk.wrap64_in _ (by omega)) (IntWalk.i64_in _ (by omega)) (IntWalk.i64_in _ (by omega)) (IntWalk.i64_in _ (by omega))
    (Int.tdiv_eq_ediv_of_nonneg (by omega)) rfl (IntWalk.i64_in _ (by omega)) (IntWalk.wrap64_in _ (by omega)) (Int.tmod_eq_emod_of_nonneg (by omega)) rfl (IntWalk.i64_in _ (by omega)) (IntWalk.wrap64_in _ (by omega)) (IntWalk.i64_in _ (by omega)) (IntWalk.wrap64_in _ (by omega))
    ?_ (IntWalk.i64_in _ (by omega)) (IntWalk.wrap64_in _ (by omega)) (IntWalk.i64_in _ (by omega)) (IntWalk.i64_in _ (by omega)) (IntWalk.i64_in _ (by omega))
    (IntWalk.i64_in _ (by omega)) (IntWalk.wrap64_in _ (by omega)) (IntWalk.i64_in _ (by omega)) rfl (IntWalk.i64_in _ ?_) (IntWalk.wrap64_in _ ?_) ?_ rfl (IntWalk.i64_in _ (by omega)) (IntWalk.wrap64_in _ (by omega)) (IntWalk.i64_in _ (by omega)) (IntWalk.wrap64_in _ (by omega)) ?_
  · by_cases h1 : f / 4 = 1
    · exact .inl ⟨h1, by rw [h1]; omega, by simp [rgB, h1]⟩
    · exact .inr ⟨h1, by rw [IntWalk.i64_in _ (by omega)]; simp [rgB, h1]⟩
  · have q1 := Int.tmod_lt_of_pos (rgR s f x y - s) (show (0 : Int) < 2 by decide)
    have q2 := Int.lt_tmod_of_pos (rgR s f x y - s) (show (0 : Int) < 2 by decide)
    omega
  · have q1 := Int.tmod_lt_of_pos (rgR s f x y - s) (show (0 : Int) < 2 by decide)
    have q2 := Int.lt_tmod_of_pos (rgR s f x y - s) (show (0 : Int) < 2 by decide)
    omega
  · cases hb : btw s (rgR s f x y) (3 * s)
    · have hc0 : rgC s (rgR s f x y) = 0 := by simp [rgC, hb]
      exact .inl ⟨rfl, by rw [hH, hc0]; omega⟩
    · have hb2 := btw_iff.1 hb
      have ht0 : (rgR s f x y - s).tmod 2 = (rgR s f x y - s) % 2 := Int.tmod_eq_emod_of_nonneg (by omega)
      by_cases ho : (rgR s f x y - s) % 2 = 1
      · have hc0 : rgC s (rgR s f x y) = 1 := by simp [rgC, hb, ho]
        exact .inr (.inr ⟨rfl, by omega, ht0.symm, by rw [ht0]; exact ho, by rw [IntWalk.i64_in _ (by omega), hH, hc0]⟩)
      · have hc0 : rgC s (rgR s f x y) = 0 := by simp [rgC, hb, ho]
        exact .inr (.inl ⟨rfl, by omega, ht0.symm, by rw [ht0]; exact ho, by rw [hH, hc0]; omega⟩)
  · by_cases h1 : (rgH s f x y).tdiv 2 < 1
    · exact .inl ⟨h1, by rw [IntWalk.i64_in _ (by omega)]; simp [rgP, h1]⟩
    · by_cases h2 : 4 * s < (rgH s f x y).tdiv 2
      · exact .inr (.inl ⟨h1, h2, by rw [IntWalk.i64_in _ (by omega)]; simp [rgP, h1, h2]⟩)
      · exact .inr (.inr ⟨h1, h2, by simp [rgP, h1, h2]⟩)
end Go.Proofs.Ytgbpmleipdecgaa
