/- The walk of the law AlertKept. -/
import Derived.Test.YtannnbjadbmmcaaAlY
import Derived.Test.YtannnbjadbmmcaaAlertStretchesW
import Derived.OpenShut
namespace Go.Proofs.Ytannnbjadbmmcaa
open Go.RowKit
set_option linter.unusedSimpArgs false
set_option linter.unusedVariables false

/-! ### what is kept, in order -/
theorem kepI_mem (L : List (Int × Int × Int)) (n : Nat) (x : Nat) : (x : Int) ∈ kepI L n ↔ x < n ∧ 0 ≤ slk (kepT L x ++ [tx L x]) := by
  induction n with
  | zero => simp [kepI]
  | succ n ih =>
    rw [kepI_succ]
    by_cases e : x = n
    · subst e
      have hn : ¬ (x : Int) ∈ kepI L x := fun h => by have := (kepI_bd L x _ h).2; omega
      split
      · rename_i h; simp [h]
      · rename_i h; simp [h, hn]
    · have h1 : x < n + 1 ↔ x < n := by omega
      rw [h1]
      split
      · rw [List.mem_append, ih, List.mem_singleton]
        constructor
        · rintro (h | h)
          · exact h
          · exact absurd (by omega : x = n) e
        · exact .inl
      · exact ih
theorem kepI_filter (L : List (Int × Int × Int)) (x n : Nat) (hx : x ≤ n) : (kepI L n).filter (fun k => decide (k < (x : Int))) = kepI L x := by
  induction n with
  | zero =>
    have : x = 0 := by omega
    subst this; simp [kepI]
  | succ n ih =>
    by_cases e : x = n + 1
    · subst e
      rw [List.filter_eq_self]
      intro k hk
      have := (kepI_bd L (n + 1) k hk).2
      rw [decide_eq_true_eq]; omega
    · have h2 := ih (by omega)
      rw [kepI_succ]
      split
      · rw [List.filter_append, h2, List.filter_cons_of_neg (by rw [decide_eq_true_eq]; omega), List.filter_nil, List.append_nil]
      · exact h2
theorem kepI_up (L : List (Int × Int × Int)) (n : Nat) : (kepI L n).Pairwise (· < ·) := by
  induction n with
  | zero => exact List.Pairwise.nil
  | succ n ih =>
    rw [kepI_succ]
    split
    · rw [List.pairwise_append]
      refine ⟨ih, List.pairwise_singleton _ _, fun a ha b hb => ?_⟩
      rw [List.mem_singleton] at hb
      have := (kepI_bd L n a ha).2
      omega
    · exact ih
theorem kepI_ix (L : List (Int × Int × Int)) (n j : Nat) (hj : j < (kepI L n).length) : 0 ≤ ix (kepI L n) j ∧ ix (kepI L n) j < n := by
  refine kepI_bd L n _ ?_
  rw [show ix (kepI L n) j = (kepI L n)[j] by simp [ix, hj]]
  exact List.getElem_mem _
theorem kepI_lt (L : List (Int × Int × Int)) (n j : Nat) (hj : j + 1 < (kepI L n).length) : ix (kepI L n) j < ix (kepI L n) (j + 1) := by
  have := List.pairwise_iff_getElem.1 (kepI_up L n) j (j + 1) (by omega) hj (by omega)
  rw [show ix (kepI L n) j = (kepI L n)[j] by simp [ix, show j < (kepI L n).length by omega], show ix (kepI L n) (j + 1) = (kepI L n)[j + 1] by simp [ix, hj]]
  exact this
/-- what the law gathers of the first ones -/
def gK (L : List (Int × Int × Int)) (K : List Int) (j : Nat) : List (Int × Int × Int) := (K.take j).map fun k => tx L k.toNat
def gS (L : List (Int × Int × Int)) (K : List Int) (x : Int) (j : Nat) : List (Int × Int × Int) := ((K.take j).filter fun k => decide (k < x)).map fun k => tx L k.toNat
def gI (K : List Int) (x : Int) (j : Nat) : Bool := (K.take j).any fun k => decide (k = x)
theorem gK_succ {L : List (Int × Int × Int)} {K : List Int} {j : Nat} (hj : j < K.length) : gK L K (j + 1) = gK L K j ++ [tx L (ix K j).toNat] := by
  unfold gK; rw [take_succ_ix hj, List.map_append]; rfl
theorem gS_succ {L : List (Int × Int × Int)} {K : List Int} {x : Int} {j : Nat} (hj : j < K.length) : gS L K x (j + 1) = if ix K j < x then gS L K x j ++ [tx L (ix K j).toNat] else gS L K x j := by
  unfold gS; rw [take_succ_ix hj, List.filter_append]
  split
  · rename_i h; rw [List.filter_cons_of_pos (by simpa using h), List.map_append]; rfl
  · rename_i h; rw [List.filter_cons_of_neg (by simpa using h), List.filter_nil, List.append_nil]
theorem gI_succ {K : List Int} {x : Int} {j : Nat} (hj : j < K.length) : gI K x (j + 1) = (gI K x j || decide (ix K j = x)) := by
  unfold gI; rw [take_succ_ix hj, List.any_append]; simp
theorem gK_len (L : List (Int × Int × Int)) (K : List Int) (j : Nat) : (gK L K j).length ≤ K.length := by unfold gK; rw [List.length_map]; exact (List.length_take_le' j K)
theorem gS_len (L : List (Int × Int × Int)) (K : List Int) (x : Int) (j : Nat) : (gS L K x j).length ≤ K.length := by
  unfold gS; rw [List.length_map]
  exact Nat.le_trans (List.length_filter_le _ _) (List.length_take_le' j K)

end Go.Proofs.Ytannnbjadbmmcaa
