/- Texts of bits in bytes: plain. -/
import Derived.Test.YtkjiancdhaocaaaDoorWvW
namespace Go.Proofs.YtkjiancdhaocaaaDoor
open Go.RowKit
set_option linter.unusedSimpArgs false
set_option linter.unusedVariables false

def bI (t : Tx) (i : Nat) : Int := if bt t i = 49 then 1 else 0
theorem bI_01 (t : Tx) (i : Nat) : bI t i = 0 ∨ bI t i = 1 := by unfold bI; split <;> simp
/-- byte number j of the bits, behind the first i bits -/
def pv (t : Tx) : Nat → Nat → Int
  | 0, _ => 0
  | i + 1, j => if i / 8 = j then pv t i j + bI t i * 2 ^ (7 - i % 8) else pv t i j
theorem pv_fut (t : Tx) : ∀ {i j : Nat}, i ≤ 8 * j → pv t i j = 0
  | 0, _, _ => rfl
  | i + 1, j, h => by
    rw [pv, if_neg (by omega)]
    exact pv_fut t (by omega)
theorem mod8 (i : Nat) : i % 8 = 0 ∨ i % 8 = 1 ∨ i % 8 = 2 ∨ i % 8 = 3 ∨ i % 8 = 4 ∨ i % 8 = 5 ∨ i % 8 = 6 ∨ i % 8 = 7 := by omega
/-- the byte that is being made is a multiple -/
theorem pv_mul (t : Tx) : ∀ i, ∃ q : Int, pv t i (i / 8) = q * 2 ^ (8 - i % 8) ∧ 0 ≤ q ∧ q < 2 ^ (i % 8)
  | 0 => ⟨0, by simp [pv], by omega, by simp⟩
  | i + 1 => by
    obtain ⟨q, h1, h2, h3⟩ := pv_mul t i
    by_cases h : (i + 1) % 8 = 0
    · refine ⟨0, ?_, by omega, by rw [h]; simp⟩
      rw [pv_fut t (by omega)]
      simp
    · have hj : (i + 1) / 8 = i / 8 := by omega
      refine ⟨2 * q + bI t i, ?_, ?_, ?_⟩
      · rw [hj, pv, if_pos rfl, h1]
        have hb := bI_01 t i
        rcases mod8 i with e | e | e | e | e | e | e | e
        all_goals
          first
          | (rw [e, show (i + 1) % 8 = _ from Nat.mod_eq_sub_mod_aux]; omega)
          | (have e' := e
             rw [show (i + 1) % 8 = i % 8 + 1 by omega, e]
             simp only [Nat.reduceAdd, Nat.reduceSub, Int.reducePow, Int.pow_zero, Int.pow_one] at *
             omega)
          | omega
      · rcases bI_01 t i with e | e <;> rw [e] <;> omega
      · rw [show (i + 1) % 8 = i % 8 + 1 by omega, Int.pow_succ]
        rcases bI_01 t i with e | e <;> rw [e] <;> omega
theorem pv_bd (t : Tx) : ∀ i j, 0 ≤ pv t i j ∧ pv t i j ≤ 255
  | 0, _ => by simp [pv]
  | i + 1, j => by
    have ih := pv_bd t i j
    rw [pv]
    split
    · rename_i h
      subst h
      obtain ⟨q, h1, h2, h3⟩ := pv_mul t i
      rw [h1]
      have hb := bI_01 t i
      rcases mod8 i with e | e | e | e | e | e | e | e <;> rw [e] at h3 ⊢ <;> simp only [Nat.reduceSub, Int.reducePow, Int.pow_zero, Int.pow_one] at * <;> omega
    · exact ih
/-- a bit comes back from its byte -/
theorem pv_bit (t : Tx) (i : Nat) : ∀ k, i < k → pv t k (i / 8) / 2 ^ (7 - i % 8) % 2 = bI t i
  | 0, h => by omega
  | k + 1, h => by
    obtain ⟨q, h1, h2, h3⟩ := pv_mul t k
    have hb := bI_01 t k
    have hbi := bI_01 t i
    by_cases e : k = i
    · subst e
      rw [pv, if_pos rfl, h1]
      rcases mod8 k with e | e | e | e | e | e | e | e <;> rw [e] at h3 ⊢ <;> simp only [Nat.reduceSub, Int.reducePow, Int.pow_zero, Int.pow_one] at * <;> omega
    · have ih := pv_bit t i k (by omega)
      rw [pv]
      split
      · rename_i hj
        rw [← hj, h1] at ih ⊢
        have hr : i % 8 < k % 8 := by omega
        rcases mod8 k with e1 | e1 | e1 | e1 | e1 | e1 | e1 | e1 <;> rcases mod8 i with e2 | e2 | e2 | e2 | e2 | e2 | e2 | e2 <;> rw [e1, e2] at hr <;> first | omega | (rw [e1, e2] at ih ⊢; rw [e1] at h3; simp only [Nat.reduceSub, Int.reducePow, Int.pow_zero, Int.pow_one] at *; omega)
      · exact ih
/-- how many bytes -/
def nB (n : Nat) : Nat := (n + 7) / 8
/-- the bytes behind the first i bits -/
def pkS (t : Tx) (i : Nat) : List Int := ((t.length / 256 : Nat) : Int) :: ((t.length % 256 : Nat) : Int) :: (List.range (nB t.length)).map (pv t i)
theorem pkS_len (t : Tx) (i : Nat) : (pkS t i).length = 2 + nB t.length := by simp [pkS]; omega
theorem pkS_ix (t : Tx) (i : Nat) {j : Nat} (hj : j < nB t.length) : ix (pkS t i) (2 + j) = pv t i j := by
  unfold ix pkS
  rw [show 2 + j = j + 1 + 1 by omega]
  simp [hj]
def packL (t : Tx) : List Int := pkS t t.length
/-- the text of n bits in bytes -/
def upB (l : List Int) (i : Nat) : UInt8 := if ix l (2 + i / 8) / 2 ^ (7 - i % 8) % 2 = 1 then 49 else 48
def upT (l : List Int) (n : Nat) : Tx := (List.range n).map (upB l)
theorem upT_len (l : List Int) (n : Nat) : (upT l n).length = n := by simp [upT]
theorem upT_bits (l : List Int) (n : Nat) : bitsB (upT l n) = true := by
  unfold bitsB upT
  rw [List.all_eq_true]
  intro c hc
  obtain ⟨j, -, rfl⟩ := List.mem_map.1 hc
  unfold upB
  split <;> rfl
/-- a text comes back from its bytes -/
theorem up_pack {t : Tx} (hb : bitsB t = true) : upT (packL t) t.length = t := by
  refine List.ext_getElem (upT_len _ _) fun i h1 h2 => ?_
  have hj : i / 8 < nB t.length := by unfold nB; omega
  simp only [upT, List.getElem_map, List.getElem_range]
  unfold upB packL
  rw [pkS_ix t _ hj, pv_bit t i _ h2]
  have h3 := bt_bits hb h2
  unfold bI
  have h4 : bt t i = (t[i].toNat : Int) := by unfold bt; rw [List.getElem?_eq_getElem h2]; rfl
  rcases h3 with h3 | h3
  · rw [h3]
    simp only [show ((48 : Int) = 49) = False by decide, show ((0 : Int) = 1) = False by decide, if_false]
    rw [h3] at h4
    exact (UInt8.toNat_inj.1 (show t[i].toNat = 48 by omega)).symm
  · rw [h3]
    simp only [if_true]
    rw [h3] at h4
    exact (UInt8.toNat_inj.1 (show t[i].toNat = 49 by omega)).symm
theorem or_fin : ∀ r : Fin 8, ∀ q : Fin 128, ∀ b : Fin 2, q.val < 2 ^ r.val → bits .or .u8 ((q.val : Int) * 2 ^ (8 - r.val)) ((b.val : Int) * 2 ^ (7 - r.val)) = (q.val : Int) * 2 ^ (8 - r.val) + (b.val : Int) * 2 ^ (7 - r.val) := by decide +kernel
theorem pkS_zero {t : Tx} {n m : Nat} (hn : t.length = n) (hm : nB n = m) : pkS t 0 = ((List.replicate (2 + m) (0 : Int)).set 0 ((n : Int) / 256)).set 1 ((n : Int) % 256) := by
  subst hn hm
  unfold pkS
  rw [show 2 + nB t.length = nB t.length + 1 + 1 by omega, List.replicate_succ, List.replicate_succ, List.set_cons_zero, List.set_cons_succ, List.set_cons_zero]
  congr 1
  congr 1
  exact List.ext_getElem (by simp) fun i h1 h2 => by simp [pv]
theorem pkS_next {t : Tx} {i : Nat} (hi : i < t.length) : (pkS t i).set (2 + i / 8) (pv t i (i / 8) + bI t i * 2 ^ (7 - i % 8)) = pkS t (i + 1) := by
  unfold pkS
  rw [show 2 + i / 8 = i / 8 + 1 + 1 by omega, List.set_cons_succ, List.set_cons_succ]
  congr 1
  congr 1
  refine List.ext_getElem (by simp) fun j h1 h2 => ?_
  rw [List.getElem_set]
  simp only [List.getElem_map, List.getElem_range, pv]
  split
  · rename_i h; subst h; simp
  · simp
theorem pk_or {t : Tx} (hb : bitsB t = true) {i : Nat} (hi : i < t.length) : ∀ y, y = (bt t i - 48) * 2 ^ (7 - i % 8) → bits .or .u8 (pv t i (i / 8)) y = pv t i (i / 8) + bI t i * 2 ^ (7 - i % 8) := by
  rintro y rfl
  obtain ⟨q, h1, h2, h3⟩ := pv_mul t i
  have h4 := bt_bits hb hi
  have h5 : bt t i - 48 = bI t i := by unfold bI; rcases h4 with h | h <;> rw [h] <;> rfl
  have h6 := bI_01 t i
  rw [h5, h1]
  have h7 : q < 128 := by
    rcases mod8 i with e | e | e | e | e | e | e | e <;> rw [e] at h3 <;> simp only [Int.reducePow, Int.pow_zero, Int.pow_one] at h3 <;> omega
  have := or_fin ⟨i % 8, by omega⟩ ⟨q.toNat, by omega⟩ ⟨(bI t i).toNat, by omega⟩ (by
    show q.toNat < 2 ^ (i % 8)
    have : ((q.toNat : Nat) : Int) < ((2 ^ (i % 8) : Nat) : Int) := by push_cast; omega
    omega)
  simp only at this
  rw [show ((q.toNat : Nat) : Int) = q by omega, show (((bI t i).toNat : Nat) : Int) = bI t i by omega] at this
  exact this
end Go.Proofs.YtkjiancdhaocaaaDoor
