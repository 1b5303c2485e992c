/- Words of 64 pixels: plain. -/
import Derived.Test.YtolgpigdioanoaaLib
import Derived.Laws.BitsLemmas
namespace Go.Proofs.Ytolgpigdioanoaa
set_option linter.unusedSimpArgs false
set_option linter.unusedVariables false

/-- the number with these bits -/
def bnF (f : Nat → Bool) : Nat → Nat
  | 0 => 0
  | n + 1 => 2 ^ n * (f n).toNat + bnF f n
theorem bnF_lt (f : Nat → Bool) : ∀ n, bnF f n < 2 ^ n
  | 0 => by simp [bnF]
  | n + 1 => by
    have := bnF_lt f n
    simp only [bnF, Nat.pow_succ]
    cases f n <;> simp <;> omega
theorem bnF_bit (f : Nat → Bool) (j : Nat) : ∀ n, (bnF f n).testBit j = (decide (j < n) && f j)
  | 0 => by simp [bnF]
  | n + 1 => by
    have h := bnF_lt f n
    have ih := bnF_bit f j n
    simp only [bnF]
    rcases Nat.lt_trichotomy j n with hj | rfl | hj
    · have : decide (j < n + 1) = true := by simp; omega
      rw [this, Bool.true_and]
      rw [show decide (j < n) = true by simpa using hj, Bool.true_and] at ih
      cases hf : f n
      · simpa using ih
      · simp only [Bool.toNat_true, Nat.mul_one]
        rw [Nat.testBit_two_pow_add_gt hj]
        exact ih
    · have : decide (j < j + 1) = true := by simp
      rw [this, Bool.true_and]
      have h0 : (bnF f j).testBit j = false := Nat.testBit_lt_two_pow h
      cases hf : f j
      · simpa using h0
      · simp only [Bool.toNat_true, Nat.mul_one]
        rw [Nat.testBit_two_pow_add_eq, h0]
        rfl
    · have : decide (j < n + 1) = false := by simp; omega
      rw [this, Bool.false_and]
      refine Nat.testBit_lt_two_pow ?_
      have h2 := bnF_lt f (n + 1)
      simp only [bnF] at h2
      exact Nat.lt_of_lt_of_le h2 (Nat.pow_le_pow_right (by omega) hj)
/-- the pixels of the order 4 that a set has -/
abbrev Px := Nat → Bool
/-- the i-th word -/
def wd (S : Px) (i : Nat) : Nat := bnF (fun j => S (64 * i + j)) 64
theorem wd_lt (S : Px) (i : Nat) : wd S i < 18446744073709551616 := bnF_lt _ 64
theorem wd_bit (S : Px) (i j : Nat) : (wd S i).testBit j = (decide (j < 64) && S (64 * i + j)) := bnF_bit _ _ _
theorem wd_ext {S T : Px} {i : Nat} (h : ∀ j, j < 64 → S (64 * i + j) = T (64 * i + j)) : wd S i = wd T i := by
  refine Nat.eq_of_testBit_eq fun j => ?_
  rw [wd_bit, wd_bit]
  by_cases hj : j < 64
  · rw [h j hj]
  · simp [hj]
theorem wd_none (i : Nat) : wd (fun _ => false) i = 0 := by
  refine Nat.eq_of_testBit_eq fun j => ?_
  rw [wd_bit]; simp
theorem wd_all (i : Nat) : wd (fun _ => true) i = 18446744073709551615 := by
  refine Nat.eq_of_testBit_eq fun j => ?_
  rw [wd_bit, show (18446744073709551615 : Nat) = 2 ^ 64 - 1 by rfl, Nat.testBit_two_pow_sub_one]; simp
theorem wd_set (S : Px) (p : Nat) : wd S (p / 64) ||| 2 ^ (p % 64) = wd (fun x => S x || x == p) (p / 64) := by
  refine Nat.eq_of_testBit_eq fun j => ?_
  rw [Nat.testBit_or, wd_bit, wd_bit, Nat.testBit_two_pow]
  by_cases hj : j < 64
  · have : decide (p % 64 = j) = (64 * (p / 64) + j == p) := by
      rw [Bool.eq_iff_iff, decide_eq_true_eq, beq_iff_eq]; omega
    simp [hj, this]
  · have : ¬ p % 64 = j := by omega
    simp [hj, this]
theorem wd_set_far (S : Px) (p i : Nat) (h : i ≠ p / 64) : wd S i = wd (fun x => S x || x == p) i := by
  refine wd_ext fun j hj => ?_
  have : (64 * i + j == p) = false := by rw [beq_eq_false_iff_ne]; omega
  rw [this, Bool.or_false]
theorem wd_or (S T : Px) (i : Nat) : wd S i ||| wd T i = wd (fun x => S x || T x) i := by
  refine Nat.eq_of_testBit_eq fun j => ?_
  rw [Nat.testBit_or, wd_bit, wd_bit, wd_bit]
  cases decide (j < 64) <;> simp
theorem wd_and (S T : Px) (i : Nat) : wd S i &&& wd T i = wd (fun x => S x && T x) i := by
  refine Nat.eq_of_testBit_eq fun j => ?_
  rw [Nat.testBit_and, wd_bit, wd_bit, wd_bit]
  cases decide (j < 64) <;> simp
/-- the words of a set -/
def wds (S : Px) : List Int := (List.range 48).map fun i => (wd S i : Int)
theorem wds_len (S : Px) : (wds S).length = 48 := by simp [wds]
theorem wds_ext {S T : Px} (h : ∀ x, x < 3072 → S x = T x) : wds S = wds T := by
  unfold wds
  refine List.map_congr_left fun i hi => ?_
  have hi2 : i < 48 := by simpa using hi
  rw [wd_ext fun j hj => h _ (by omega)]
theorem wds_set (S : Px) (p : Nat) (hp : p < 3072) : (wds S).set (p / 64) (wd (fun x => S x || x == p) (p / 64) : Int) = wds (fun x => S x || x == p) := by
  refine List.ext_getElem (by simp [wds]) fun i h1 h2 => ?_
  rw [List.getElem_set]
  split
  · next h => subst h; simp [wds]
  · next h => simp only [wds, List.getElem_map, List.getElem_range]; rw [wd_set_far S p i (fun e => h e.symm)]
theorem wds_none : wds (fun _ => false) = List.replicate 48 0 := by
  unfold wds
  rw [List.eq_replicate_iff]
  refine ⟨by simp, fun x hx => ?_⟩
  obtain ⟨i, -, rfl⟩ := List.mem_map.1 hx
  rw [wd_none]
  rfl
/-- a word bit by bit -/
theorem wd_half (S : Px) (p : Nat) : wd S (p / 64) / 2 ^ (p % 64) % 2 = (S p).toNat := by
  have h := wd_bit S (p / 64) (p % 64)
  rw [show decide (p % 64 < 64) = true by simp; omega, Bool.true_and, show 64 * (p / 64) + p % 64 = p by omega] at h
  rw [← h, Nat.testBit_eq_decide_div_mod_eq]
  have : wd S (p / 64) / 2 ^ (p % 64) % 2 = 0 ∨ wd S (p / 64) / 2 ^ (p % 64) % 2 = 1 := by omega
  rcases this with h | h <;> rw [h] <;> rfl
/-- how many of the first n pixels behind a are there -/
def cntP (S : Px) (a : Nat) : Nat → Nat
  | 0 => 0
  | n + 1 => cntP S a n + (S (a + n)).toNat
theorem cntP_le (S : Px) (a : Nat) : ∀ n, cntP S a n ≤ n
  | 0 => Nat.le_refl _
  | n + 1 => by have := cntP_le S a n; simp only [cntP]; cases S (a + n) <;> simp <;> omega
/-- all of the first n pixels behind a -/
def allP (S : Px) (a n : Nat) : Bool := decide (cntP S a n = n)
def anyP (S : Px) (a n : Nat) : Bool := decide (0 < cntP S a n)
theorem allP_iff {S : Px} {a n : Nat} : allP S a n = true ↔ ∀ k, k < n → S (a + k) = true := by
  unfold allP
  rw [decide_eq_true_eq]
  induction n with
  | zero => simp [cntP]
  | succ n ih =>
    have := cntP_le S a n
    simp only [cntP]
    constructor
    · intro h k hk
      cases hs : S (a + n)
      · rw [hs] at h; simp at h; omega
      · rw [hs] at h
        rcases Nat.lt_succ_iff_lt_or_eq.1 hk with h' | rfl
        · exact ih.1 (by simpa using h) k h'
        · exact hs
    · intro h
      rw [h n (by omega), ih.2 (fun k hk => h k (by omega))]
      rfl
theorem anyP_no {S : Px} {a n : Nat} : anyP S a n = false ↔ ∀ k, k < n → S (a + k) = false := by
  unfold anyP
  rw [decide_eq_false_iff_not]
  induction n with
  | zero => simp [cntP]
  | succ n ih =>
    simp only [cntP]
    constructor
    · intro h k hk
      cases hs : S (a + n)
      · rw [hs] at h
        rcases Nat.lt_succ_iff_lt_or_eq.1 hk with h' | rfl
        · exact ih.1 (by simpa using h) k h'
        · exact hs
      · rw [hs] at h; simp at h
    · intro h
      rw [h n (by omega)]
      have := ih.2 (fun k hk => h k (by omega))
      simpa using this
theorem cntP_congr {S T : Px} {a : Nat} : ∀ {n : Nat}, (∀ k, k < n → S (a + k) = T (a + k)) → cntP S a n = cntP T a n
  | 0, _ => rfl
  | n + 1, h => by simp only [cntP]; rw [cntP_congr (fun k hk => h k (by omega)), h n (by omega)]
theorem cntP_add (S : Px) (a : Nat) (m : Nat) : ∀ n, cntP S a (m + n) = cntP S a m + cntP S (a + m) n
  | 0 => rfl
  | n + 1 => by rw [← Nat.add_assoc]; simp only [cntP]; rw [cntP_add S a m n, Nat.add_assoc, show a + m + n = a + (m + n) by omega]
end Go.Proofs.Ytolgpigdioanoaa
