/- What a quiet wave form is: plain. -/
import Derived.Test.YtkjiancdhaocaaaDoorWvJ
namespace Go.Proofs.YtkjiancdhaocaaaDoor
open Go.RowKit
set_option linter.unusedSimpArgs false
set_option linter.unusedVariables false

theorem qv_again {l : List Int} {m : Int} (hm : 0 ≤ m) : ∀ k, k < l.length → qv (quI l m) m k = qv l m k
  | 0, hk => by rw [qv, quI_ix l m hk]
  | k + 1, hk => by
    rw [qv, qv_again hm k (by omega), quI_ix l m hk]
    by_cases h : btw (-m) (ix l (k + 1) - qv l m k) m = true
    · rw [qv, if_pos h, Int.sub_self, if_pos (btw_iff.2 ⟨by omega, by omega⟩)]
    · rw [qv, if_neg h, if_neg h]
theorem qv_zero (l : List Int) : ∀ k, qv l 0 k = ix l k
  | 0 => rfl
  | k + 1 => by
    rw [qv, qv_zero l k]
    split
    · rename_i h
      have := btw_iff.1 h
      omega
    · rfl
theorem ix_ext {a b : List Int} (h : a.length = b.length) (hi : ∀ k, k < a.length → ix a k = ix b k) : a = b := by
  refine List.ext_getElem h fun k h1 h2 => ?_
  have := hi k h1
  simpa [ix, h1, h2] using this
theorem quI_again {l : List Int} {m : Int} (hm : 0 ≤ m) : quI (quI l m) m = quI l m :=
  ix_ext (by rw [quI_len]) (fun k hk => by
    rw [quI_len, quI_len] at hk
    rw [quI_ix _ _ (by rw [quI_len]; exact hk), qv_again hm k hk, quI_ix _ _ hk])
theorem quI_zero (l : List Int) : quI l 0 = l :=
  ix_ext (quI_len _ _) (fun k hk => by
    rw [quI_len] at hk
    rw [quI_ix _ _ hk, qv_zero])
theorem quI_vld {l : List Int} {m : Int} (h : vldW l = true) : vldW (quI l m) = true := by
  obtain ⟨h1, h2, h3⟩ := vldW_iff.1 h
  refine vldW_iff.2 ⟨by rw [quI_len]; exact h1, by rw [quI_len]; exact h2, fun k hk => ?_⟩
  rw [quI_len] at hk
  rw [quI_ix _ _ hk]
  exact qv_small h3 m k hk
theorem QuE_zero {l : List Int} {m : Int} (h : QuE l m = 0) : vldW l = true ∧ 0 ≤ m ∧ m ≤ 1023 := by
  unfold QuE at h
  cases hv : vldW l <;> rw [hv] at h
  · simp at h
  · cases hb : btw 0 m 1023 <;> rw [hb] at h
    · simp at h
    · exact ⟨rfl, btw_iff.1 hb⟩
theorem QuE_of {l : List Int} {m : Int} (h : vldW l = true) (h0 : 0 ≤ m) (h1 : m ≤ 1023) : QuE l m = 0 := by
  unfold QuE
  rw [h, btw_iff.2 ⟨h0, h1⟩]
  rfl
theorem QuE_bad {l : List Int} {m : Int} (h : QuE l m ≠ 0) : QuE l m = 2 ∨ (QuE l m = 30 ∧ vldW l = false) := by
  unfold QuE at *
  cases hv : vldW l <;> rw [hv] at h
  · exact .inr ⟨rfl, rfl⟩
  · cases hb : btw 0 m 1023 <;> rw [hb] at h
    · exact .inl rfl
    · exact absurd rfl h
/-- a sample that is not as it was is the one before, and not far away -/
theorem qv_moved {l : List Int} {m : Int} {k : Nat} (h : qv l m k ≠ ix l k) : ∃ j, k = j + 1 ∧ qv l m k = qv l m j ∧ -m ≤ ix l k - qv l m k ∧ ix l k - qv l m k ≤ m := by
  cases k with
  | zero => exact absurd rfl h
  | succ j =>
    rw [qv] at h
    by_cases hb : btw (-m) (ix l (j + 1) - qv l m j) m = true
    · have := btw_iff.1 hb
      refine ⟨j, rfl, by rw [qv, if_pos hb], ?_⟩
      rw [qv, if_pos hb]
      exact this
    · rw [if_neg hb] at h
      exact absurd rfl h
end Go.Proofs.YtkjiancdhaocaaaDoor
