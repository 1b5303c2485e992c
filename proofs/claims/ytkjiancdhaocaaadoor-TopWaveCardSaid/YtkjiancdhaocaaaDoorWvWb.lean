/- Walks over package wave and its reference: Word and Number. -/
import Derived.Test.YtkjiancdhaocaaaDoorWvW
namespace Go.Proofs.YtkjiancdhaocaaaDoor
open Go.RowKit Go.Shelf
set_option linter.unusedSimpArgs false
set_option linter.unusedVariables false
attribute [local go_sem] Oper.semAt_some

theorem okB_w {k : Nat} (hk : k < 5) : okB (wid k : Int) = true := by
  unfold okB
  rw [kxI_yes hk]
  simp
theorem wrdE_no {v n : Int} (h : okB v = false) : wrdE v n = 2 ∧ wrdX v n = [] := by
  have e : wrdE v n = 2 := by unfold wrdE; rw [h]; rfl
  exact ⟨e, by unfold wrdX; rw [e]; rfl⟩
theorem wrdE_wid {k : Nat} (hk : k < 5) (n : Int) : wrdE (wid k : Int) n = (if btw (-(hf (wid k))) n (hf (wid k) - 1) = true then 0 else 2) ∧ wrdX (wid k : Int) n = if btw (-(hf (wid k))) n (hf (wid k) - 1) = true then wordB (wid k) n else [] := by
  have e : wrdE (wid k : Int) n = if btw (-(hf (wid k))) n (hf (wid k) - 1) = true then 0 else 2 := by
    unfold wrdE
    rw [okB_w hk, Int.toNat_natCast, Bool.true_and]
  refine ⟨e, ?_⟩
  unfold wrdX
  rw [e, Int.toNat_natCast]
  by_cases h : btw (-(hf (wid k))) n (hf (wid k) - 1) = true
  · rw [if_pos h, if_pos rfl, if_pos h]
  · rw [if_neg h, if_neg (by decide), if_neg h]
theorem okW_of {n : Nat} (h : okB (n : Int) = true) : okW n := by
  rcases okB_cases (n : Int) with ⟨-, k, -, e⟩ | ⟨h1, -⟩
  · rw [Int.ofNat.inj e]; exact wid_ok k
  · rw [h1] at h; cases h
theorem str_list (s : ByteArray) : ∃ t : Tx, s = ⟨t.toArray⟩ ∧ t.length = s.size := ⟨s.data.toList, by cases s with | mk d => exact congrArg ByteArray.mk (Array.toArray_toList).symm, Array.length_toList⟩
theorem Long_any (t : Tx) (w : World) : Calls Tryd.prog 5 #[.string ⟨t.toArray⟩] w fun e w' => e = .returned (.bool (decide (2000 < (t.length : Int)))) ∧ w' = w := by
  have hsz := size_bt t
  go_enter Tryd.func5, Tryd.ntmps5
  go_wp2
  go_ret
  exact ⟨by simp, rfl⟩
end Go.Proofs.YtkjiancdhaocaaaDoor
