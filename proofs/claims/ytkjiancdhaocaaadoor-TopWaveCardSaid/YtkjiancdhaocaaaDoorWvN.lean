/- Numbers and their words: plain. -/
import Derived.Test.YtkjiancdhaocaaaDoorWvR
namespace Go.Proofs.YtkjiancdhaocaaaDoor
open Go.RowKit
set_option linter.unusedSimpArgs false
set_option linter.unusedVariables false

def bitV (c : UInt8) : Int := if c = 49 then 1 else 0
theorem bitV_01 (c : UInt8) : bitV c = 0 ∨ bitV c = 1 := by unfold bitV; split <;> simp
/-- the bits as a number of no sign -/
def rawN : Tx → Int
  | [] => 0
  | c :: t => bitV c * 2 ^ t.length + rawN t
theorem rawN_bd : ∀ t : Tx, 0 ≤ rawN t ∧ rawN t < 2 ^ t.length
  | [] => by simp [rawN]
  | c :: t => by
    have h := rawN_bd t
    rw [rawN, List.length_cons, Int.pow_succ]
    rcases bitV_01 c with e | e <;> rw [e] <;> omega
theorem rawN_snoc : ∀ (t : Tx) (c : UInt8), rawN (t ++ [c]) = 2 * rawN t + bitV c
  | [], c => by simp [rawN]
  | a :: t, c => by
    rw [List.cons_append, rawN, rawN_snoc t c, rawN, List.length_append, List.length_singleton, Int.pow_succ]
    rcases bitV_01 a with e | e <;> rw [e] <;> omega
/-- the number of a word -/
def numB (t : Tx) : Int := if hf t.length ≤ rawN t then rawN t - 2 * hf t.length else rawN t
def bitB (c : UInt8) : Bool := c == 48 || c == 49
def bitsB (t : Tx) : Bool := t.all bitB
theorem bitC_01 (n : Int) (i : Nat) : bitB (bitC n i) = true := by unfold bitC; split <;> rfl
theorem wordB_bits (w : Nat) (n : Int) : bitsB (wordB w n) = true := by
  unfold bitsB wordB
  rw [List.all_eq_true]
  intro c hc
  obtain ⟨j, -, rfl⟩ := List.mem_map.1 hc
  exact bitC_01 n _
theorem raw_bit : ∀ (t : Tx) (j : Nat) (hj : j < t.length), rawN t / 2 ^ (t.length - 1 - j) % 2 = bitV t[j]
  | c :: t, 0, _ => by
    have h := rawN_bd t
    have hp : (0 : Int) < 2 ^ t.length := Int.pow_pos (by decide)
    rw [rawN, List.length_cons, Nat.add_sub_cancel, Nat.sub_zero, Int.add_comm, Int.add_mul_ediv_right _ _ (Int.ne_of_gt hp), Int.ediv_eq_zero_of_lt h.1 h.2, Int.zero_add]
    rcases bitV_01 c with e | e <;> simp [e]
  | c :: t, j + 1, hj => by
    have hj' : j < t.length := by simpa using hj
    have ih := raw_bit t j hj'
    rw [rawN, List.length_cons, Nat.add_sub_cancel, show t.length - (j + 1) = t.length - 1 - j by omega]
    have hp : (2 : Int) ^ (t.length - 1 - j) ≠ 0 := Int.ne_of_gt (Int.pow_pos (by decide))
    have e : bitV c * 2 ^ t.length = (bitV c * 2 ^ j * 2) * 2 ^ (t.length - 1 - j) := by
      rw [Int.mul_assoc, Int.mul_assoc, ← Int.pow_succ', ← Int.pow_add]
      congr 2
      omega
    rw [e, Int.add_comm, Int.add_mul_ediv_right _ _ hp]
    rw [Int.add_mul_emod_self_right]
    exact ih
theorem bitC_of {t : Tx} (hb : bitsB t = true) {j : Nat} (hj : j < t.length) : bitC (rawN t) (t.length - 1 - j) = t[j] := by
  have h := raw_bit t j hj
  have hc : bitB t[j] = true := List.all_eq_true.1 hb _ (List.getElem_mem hj)
  unfold bitC
  rw [h]
  unfold bitV
  unfold bitB at hc
  simp only [Bool.or_eq_true, beq_iff_eq] at hc
  rcases hc with e | e <;> rw [e] <;> decide
theorem wordB_raw {t : Tx} (hb : bitsB t = true) : wordB t.length (rawN t) = t := by
  refine List.ext_getElem (wordB_len _ _) fun j h1 h2 => ?_
  simp only [wordB, List.getElem_map, List.getElem_range]
  exact bitC_of hb h2
theorem bitC_sub {n : Int} {w i : Nat} (h : i < w) : bitC (n - 2 ^ w) i = bitC n i := by
  unfold bitC
  have hp : (2 : Int) ^ i ≠ 0 := Int.ne_of_gt (Int.pow_pos (by decide))
  have e : n - 2 ^ w = n + (-(2 ^ (w - i - 1)) * 2) * 2 ^ i := by
    rw [Int.mul_assoc, ← Int.pow_succ', Int.neg_mul, ← Int.pow_add, show w - i - 1 + (i + 1) = w by omega]
    omega
  rw [e, Int.add_mul_ediv_right _ _ hp, Int.add_mul_emod_self_right]
theorem wordB_sub (n : Int) (w : Nat) : wordB w (n - 2 ^ w) = wordB w n := by
  unfold wordB
  refine List.map_congr_left fun j hj => ?_
  have := List.mem_range.1 hj
  exact bitC_sub (by omega)
/-- the word of the number of a word -/
theorem word_num {t : Tx} (hb : bitsB t = true) (h1 : 1 ≤ t.length) : wordB t.length (numB t) = t := by
  unfold numB
  split
  · rw [show 2 * hf t.length = 2 ^ t.length by unfold hf; rw [Int.mul_comm, ← Int.pow_succ]; congr 1; omega, wordB_sub, wordB_raw hb]
  · exact wordB_raw hb
theorem numB_in {t : Tx} (h1 : 1 ≤ t.length) : -(hf t.length) ≤ numB t ∧ numB t < hf t.length := by
  have h := rawN_bd t
  have e : (2 : Int) ^ t.length = 2 * hf t.length := by unfold hf; rw [Int.mul_comm, ← Int.pow_succ]; congr 1; omega
  rw [e] at h
  unfold numB
  split <;> omega
theorem num_word11 : ∀ x : Fin 2048, numB (wordB 11 ((x.val : Int) - 1024)) = (x.val : Int) - 1024 := by decide +kernel
theorem num_word6 : ∀ x : Fin 64, numB (wordB 6 ((x.val : Int) - 32)) = (x.val : Int) - 32 := by decide +kernel
theorem num_word3 : ∀ x : Fin 8, numB (wordB 3 ((x.val : Int) - 4)) = (x.val : Int) - 4 := by decide +kernel
theorem num_word2 : ∀ x : Fin 4, numB (wordB 2 ((x.val : Int) - 2)) = (x.val : Int) - 2 := by decide +kernel
theorem num_word1 : ∀ x : Fin 2, numB (wordB 1 ((x.val : Int) - 1)) = (x.val : Int) - 1 := by decide +kernel
/-- the number of the word of a number -/
theorem num_word {w : Nat} {n : Int} (hw : okW w) (h0 : -(hf w) ≤ n) (h1 : n < hf w) : numB (wordB w n) = n := by
  rcases hw with rfl | rfl | rfl | rfl | rfl
  · rw [show hf 1 = 1 by decide] at h0 h1
    have := num_word1 ⟨(n + 1).toNat, by omega⟩
    simp only at this
    rwa [show ((n + 1).toNat : Int) - 1 = n by omega] at this
  · rw [show hf 2 = 2 by decide] at h0 h1
    have := num_word2 ⟨(n + 2).toNat, by omega⟩
    simp only at this
    rwa [show ((n + 2).toNat : Int) - 2 = n by omega] at this
  · rw [show hf 3 = 4 by decide] at h0 h1
    have := num_word3 ⟨(n + 4).toNat, by omega⟩
    simp only at this
    rwa [show ((n + 4).toNat : Int) - 4 = n by omega] at this
  · rw [show hf 6 = 32 by decide] at h0 h1
    have := num_word6 ⟨(n + 32).toNat, by omega⟩
    simp only at this
    rwa [show ((n + 32).toNat : Int) - 32 = n by omega] at this
  · rw [show hf 11 = 1024 by decide] at h0 h1
    have := num_word11 ⟨(n + 1024).toNat, by omega⟩
    simp only at this
    rwa [show ((n + 1024).toNat : Int) - 1024 = n by omega] at this
end Go.Proofs.YtkjiancdhaocaaaDoor
