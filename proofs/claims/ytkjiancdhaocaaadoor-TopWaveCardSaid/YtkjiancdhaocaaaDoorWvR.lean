/- Walks over the reference of chapter wave: widths, words, changes, the lesser text. -/
import Derived.Test.YtkjiancdhaocaaaDoorWvC
namespace Go.Proofs.YtkjiancdhaocaaaDoor
open Go.RowKit Go.Shelf
set_option linter.unusedSimpArgs false
set_option linter.unusedVariables false
attribute [local go_sem] Oper.semAt_some

set_option maxHeartbeats 1000000 in
theorem refWidth_any (k : Nat) (w : World) (hk : k < 5) : Calls Tryd.prog 73 #[.int .i64 k] w fun e w' => e = .returned (.int .i64 (wid k)) ∧ w' = w := by
  have : k = 0 ∨ k = 1 ∨ k = 2 ∨ k = 3 ∨ k = 4 := by omega
  rcases this with rfl | rfl | rfl | rfl | rfl
  all_goals
    go_enter Tryd.func73, Tryd.ntmps73
    go_wp2
    go_ret
    exact ⟨rfl, rfl⟩
theorem hf_small {n : Nat} (h : n ≤ 11) : 1 ≤ hf n ∧ hf n ≤ 1024 := by
  unfold hf
  have : n = 0 ∨ n = 1 ∨ n = 2 ∨ n = 3 ∨ n = 4 ∨ n = 5 ∨ n = 6 ∨ n = 7 ∨ n = 8 ∨ n = 9 ∨ n = 10 ∨ n = 11 := by omega
  rcases this with rfl | rfl | rfl | rfl | rfl | rfl | rfl | rfl | rfl | rfl | rfl | rfl <;> decide
theorem hf_succ {n : Nat} (h : 1 ≤ n) : hf (n + 1) = hf n * 2 := by
  unfold hf
  rw [show n + 1 - 1 = (n - 1) + 1 by omega, Int.pow_succ]
theorem okW_le {n : Nat} (h : okW n) : 1 ≤ n ∧ n ≤ 11 := by unfold okW at h; omega
set_option maxHeartbeats 1000000 in
theorem refHalf_any (n : Nat) (w : World) (hn : 1 ≤ n ∧ n ≤ 11) : Calls Tryd.prog 75 #[.int .i64 n] w fun e w' => e = .returned (.int .i64 (hf n)) ∧ w' = w := by
  obtain ⟨h1, h2⟩ := hn
  go_enter Tryd.func75, Tryd.ntmps75
  go_wp2
  go_loopg [3, 4] n (fun gk u v wr => ∃ i : Nat, v = .int .i64 i ∧ u = .int .i64 (hf i) ∧ 1 ≤ i ∧ i ≤ n ∧ n - i ≤ gk ∧ wr = w)
  case atStart => exact ⟨1, rfl, by rw [show hf 1 = 1 by decide], by omega, by omega, by omega, rfl⟩
  case round =>
    obtain ⟨i, rfl, rfl, hi1, hi2, hgk, rfl⟩ := hrel
    by_cases hlt : i < n
    · have hltI : (i : Int) < (n : Int) := by omega
      have hs := hf_small (n := i) (by omega)
      have HS := Lib.hid (hf_succ hi1)
      generalize hf i = h at *
      have e1 : IntKind.i64.wrap (h * 2) = h * 2 := IntWalk.i64_in _ (by omega)
      have e2 : wrap64 (h * 2) = h * 2 := IntWalk.wrap64_in _ (by omega)
      go_wp2
      go_roundg (n - (i + 1))
      case measure => omega
      case rel => exact ⟨i + 1, by go_num, by rw [HS.out], by omega, by omega, by omega, rfl⟩
    · obtain rfl : i = n := by omega
      go_wp2
      go_ret
      exact ⟨rfl, rfl⟩
theorem bit_top {n : Nat} {d : Int} (h1 : 1 ≤ n) (h2 : n ≤ 11) (h3 : -(hf n) ≤ d) (h4 : d < hf n) : bitC d (n - 1) = (if d < 0 then 49 else 48) ∧ (d - if d < 0 then -(hf n) else 0) = d % 2 ^ (n - 1) := by
  unfold hf bitC at *
  have : n = 1 ∨ n = 2 ∨ n = 3 ∨ n = 4 ∨ n = 5 ∨ n = 6 ∨ n = 7 ∨ n = 8 ∨ n = 9 ∨ n = 10 ∨ n = 11 := by omega
  rcases this with rfl | rfl | rfl | rfl | rfl | rfl | rfl | rfl | rfl | rfl | rfl <;> simp only [Nat.add_one_sub_one, Nat.reduceSub, Int.reducePow, Int.pow_zero] at * <;> constructor <;> (by_cases h : d < 0 <;> simp only [h, if_true, if_false]) <;> first | omega | (rw [if_pos (by omega)]) | (rw [if_neg (by omega)])
theorem bit_low {i : Nat} {d : Int} (h1 : 1 ≤ i) (h2 : i ≤ 11) : bitC d (i - 1) = (if hf i ≤ d % 2 ^ i then 49 else 48) ∧ (d % 2 ^ i - if hf i ≤ d % 2 ^ i then hf i else 0) = d % 2 ^ (i - 1) := by
  unfold hf bitC at *
  have : i = 1 ∨ i = 2 ∨ i = 3 ∨ i = 4 ∨ i = 5 ∨ i = 6 ∨ i = 7 ∨ i = 8 ∨ i = 9 ∨ i = 10 ∨ i = 11 := by omega
  rcases this with rfl | rfl | rfl | rfl | rfl | rfl | rfl | rfl | rfl | rfl | rfl <;> simp only [Nat.add_one_sub_one, Nat.reduceSub, Int.reducePow, Int.pow_zero] at * <;> constructor <;> (split <;> first | omega | (rw [if_pos (by omega)]) | (rw [if_neg (by omega)]))
/-- what is left of a number behind j bits -/
def lfW (n : Nat) (d : Int) (j : Nat) : Int := if j = 0 then d else d % 2 ^ (n - j)
theorem lfW_small {n : Nat} {d : Int} {j : Nat} (h : n ≤ 11) (h0 : -1024 ≤ d) (h1 : d ≤ 1023) : -1024 ≤ lfW n d j ∧ lfW n d j ≤ 2047 := by
  unfold lfW
  split
  · omega
  · have hp : (0 : Int) < 2 ^ (n - j) := Int.pow_pos (by decide)
    have h2 := Int.emod_nonneg d (Int.ne_of_gt hp)
    have h3 := Int.emod_lt_of_pos d hp
    have h4 := (hf_small (n := n - j) (by omega)).2
    have h5 : (2 : Int) ^ (n - j) ≤ 2048 := by
      have : n - j = 0 ∨ n - j = (n - j - 1) + 1 := by omega
      rcases this with e | e
      · rw [e]; decide
      · rw [e, Int.pow_succ]; unfold hf at h4; omega
    omega
theorem toT_len : ∀ i k : Fin 5, (toT upK dnK i k).length ≤ 60 := by decide +kernel
theorem toT_le {i k : Nat} (hi : i < 5) (hk : k < 5) : (toT upK dnK i k).length ≤ 60 := toT_len ⟨i, hi⟩ ⟨k, hk⟩
def shT (a b : Tx) : Bool := decide (a.length < b.length) || (decide (a.length = b.length) && Go.Op.bytesLess a b)
theorem shT_leT (a b : Tx) : shT a b = !(leT b a) := by
  rw [Bool.eq_iff_iff, Bool.not_eq_true', ← Bool.not_eq_true, leT_iff]
  unfold shT
  simp only [Bool.or_eq_true, decide_eq_true_eq, Bool.and_eq_true]
  constructor
  · rintro (h | ⟨h1, h2⟩)
    · omega
    · rintro (h3 | ⟨h3, h4 | h4⟩)
      · omega
      · have := bl_trans h2 h4; rw [bl_irr] at this; cases this
      · subst h4; rw [bl_irr] at h2; cases h2
  · intro h
    rcases Nat.lt_trichotomy a.length b.length with h1 | h1 | h1
    · exact .inl h1
    · refine .inr ⟨h1, ?_⟩
      rcases bl_tri a b with h2 | h2 | h2
      · exact h2
      · exact absurd (.inr ⟨h1.symm, .inr h2.symm⟩) h
      · exact absurd (.inr ⟨h1.symm, .inl h2⟩) h
    · exact absurd (.inl h1) h
theorem better_shT (a b : Tx) : better (some a) (some b) = if shT b a then some b else some a := by
  rw [shT_leT]
  simp only [better]
  cases leT a b <;> rfl
end Go.Proofs.YtkjiancdhaocaaaDoor
