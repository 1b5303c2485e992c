/- Walks over package wave: widths, words, changes. -/
import Derived.Test.YteodljaphkpimaaDoorWvB
import Derived.Test.YteodljaphkpimaaDoorWvLaw
import Derived.Deep.Cut
import Derived.Deep.LoopGhost
import Derived.Deep.QuietTactic
namespace Go.Proofs.YteodljaphkpimaaDoor
open Go.RowKit
set_option linter.unusedSimpArgs false
set_option linter.unusedVariables false

/-- the widths, by their numbers -/
def wid : Nat → Nat
  | 0 => 1
  | 1 => 2
  | 2 => 3
  | 3 => 6
  | _ => 11
def okW (w : Nat) : Prop := w = 1 ∨ w = 2 ∨ w = 3 ∨ w = 6 ∨ w = 11
theorem wid_ok (k : Nat) : okW (wid k) := by
  unfold okW
  match k with
  | 0 => exact .inl rfl
  | 1 => exact .inr (.inl rfl)
  | 2 => exact .inr (.inr (.inl rfl))
  | 3 => exact .inr (.inr (.inr (.inl rfl)))
  | _ + 4 => exact .inr (.inr (.inr (.inr rfl)))
def hf (w : Nat) : Int := 2 ^ (w - 1)
theorem hf_le {w : Nat} (h : okW w) : 1 ≤ hf w ∧ hf w ≤ 1024 := by
  unfold hf
  rcases h with rfl | rfl | rfl | rfl | rfl <;> decide
def canD (w : Nat) (n : Int) : Bool := btw (1 - hf w) n (hf w - 1)
set_option maxHeartbeats 1000000 in
theorem wvbetween_any (a n b : Int) (w : World) : Calls Tryd.prog 52 #[.int .i64 a, .int .i64 n, .int .i64 b] w fun e w' => e = .returned (.bool (btw a n b)) ∧ w' = w := by
  unfold btw
  by_cases h1 : a ≤ n
  · have h1' : ¬ n < a := by omega
    by_cases h2 : n ≤ b
    · have h2' : ¬ b < n := by omega
      go_enter Tryd.func52, Tryd.ntmps52
      go_wp2
      go_ret
      exact ⟨by simp [h1, h2], rfl⟩
    · have h2' : b < n := by omega
      go_enter Tryd.func52, Tryd.ntmps52
      go_wp2
      go_ret
      exact ⟨by simp [h1, h2], rfl⟩
  · have h1' : n < a := by omega
    go_enter Tryd.func52, Tryd.ntmps52
    go_wp2
    go_ret
    exact ⟨by rw [decide_eq_false (show ¬ a ≤ n by omega), Bool.false_and]; rfl, rfl⟩
set_option maxHeartbeats 1000000 in
theorem half_any (n : Nat) (w : World) (hn : okW n) : Calls Tryd.prog 58 #[.int .i64 n] w fun e w' => e = .returned (.int .i64 (hf n)) ∧ w' = w := by
  rcases hn with rfl | rfl | rfl | rfl | rfl
  all_goals
    go_enter Tryd.func58, Tryd.ntmps58
    go_wp2
    go_ret
    exact ⟨rfl, rfl⟩
set_option maxHeartbeats 1000000 in
theorem has_any (n : Nat) (d : Int) (w : World) (hn : okW n) : Calls Tryd.prog 74 #[.int .i64 n, .int .i64 d] w fun e w' => e = .returned (.bool (canD n d)) ∧ w' = w := by
  have HH := Lib.hid (fun W => half_any n W hn)
  have hh := hf_le hn
  have HB := Lib.hid (fun W => wvbetween_any (1 - hf n) d (hf n - 1) W)
  have e1 : IntKind.i64.wrap (1 - hf n) = 1 - hf n := IntWalk.i64_in _ (by omega)
  have e2 : IntKind.i64.wrap (hf n - 1) = hf n - 1 := IntWalk.i64_in _ (by omega)
  have e3 : wrap64 (1 - hf n) = 1 - hf n := IntWalk.wrap64_in _ (by omega)
  have e4 : wrap64 (hf n - 1) = hf n - 1 := IntWalk.wrap64_in _ (by omega)
  unfold canD
  clear hn hh
  generalize hf n = h at *
  generalize btw (1 - h) d (h - 1) = r at *
  go_enter Tryd.func74, Tryd.ntmps74
  go_wp2_with (first
    | (go_at_call 58; refine (HH.out _).mono ?_; rintro e w' ⟨rfl, rfl⟩)
    | (go_at_call 52; refine (HB.out _).mono ?_; rintro e w' ⟨rfl, rfl⟩))
  go_ret
  exact ⟨rfl, rfl⟩
/-! ### words -/
def bitC (n : Int) (i : Nat) : UInt8 := if n / 2 ^ i % 2 = 1 then 49 else 48
def wordB (w : Nat) (n : Int) : Tx := (List.range w).map fun j => bitC n (w - 1 - j)
theorem wordB_len (w : Nat) (n : Int) : (wordB w n).length = w := by simp [wordB]
theorem bits_fin : ∀ x : Fin 2048, bits .and .i64 ((x.val : Int) - 1024) 1 = ((x.val : Int) - 1024) % 2 := by decide +kernel
theorem and_bit {x : Int} (h0 : -1024 ≤ x) (h1 : x ≤ 1023) : bits .and .i64 x 1 = x % 2 := by
  have := bits_fin ⟨(x + 1024).toNat, by omega⟩
  simp only at this
  rwa [show ((x + 1024).toNat : Int) - 1024 = x by omega] at this
theorem div_small {n : Int} (h0 : -1024 ≤ n) (h1 : n ≤ 1023) (i : Nat) : -1024 ≤ n / 2 ^ i ∧ n / 2 ^ i ≤ 1023 := by
  have hp : (0 : Int) < 2 ^ i := Int.pow_pos (by decide)
  constructor
  · rw [Int.le_ediv_iff_mul_le hp]
    have : (1 : Int) ≤ 2 ^ i := hp
    have := Int.mul_le_mul_of_nonneg_left this (show (0 : Int) ≤ 1024 by decide)
    omega
  · refine Int.ediv_le_of_le_mul hp ?_
    have : (1 : Int) ≤ 2 ^ i := hp
    have := Int.mul_le_mul_of_nonneg_left this (show (0 : Int) ≤ 1023 by decide)
    omega
theorem bit_num (n : Int) (i : Nat) : (bitC n i).toNat = (48 + n / 2 ^ i % 2 : Int) := by
  unfold bitC
  have h1 := Int.emod_nonneg (n / 2 ^ i) (show (2 : Int) ≠ 0 by decide)
  have h2 := Int.emod_lt_of_pos (n / 2 ^ i) (show (0 : Int) < 2 by decide)
  split
  · next h => rw [h]; rfl
  · next h => rw [show n / 2 ^ i % 2 = 0 by omega]; rfl
theorem word_take {w : Nat} {n : Int} {j : Nat} (h : j < w) : (wordB w n).take j ++ [bitC n (w - 1 - j)] = (wordB w n).take (j + 1) := by
  rw [List.take_succ_eq_append_getElem (by rw [wordB_len]; exact h)]
  simp [wordB]
set_option maxRecDepth 100000 in
set_option maxHeartbeats 4000000 in
theorem word_any (n : Nat) (d : Int) (w : World) (hn : 1 ≤ n ∧ n ≤ 11) (h0 : -1024 ≤ d) (h1 : d ≤ 1023) : Calls Tryd.prog 59 #[.int .i64 n, .int .i64 d] w fun e w' => e = .returned (.string ⟨(wordB n d).toArray⟩) ∧ Below w.heap.size w w' := by
  have HT := Lib.hid (fun j (h : j < n) => word_take (n := d) h)
  have HL : Hid ((wordB n d).take n = wordB n d) := Lib.hid (by rw [List.take_of_length_le (by rw [wordB_len]; omega)])
  have HN : Hid (wordB n d ≠ []) := Lib.hid (fun e => by have := wordB_len n d; rw [e] at this; simp at this; omega)
  have HBN := Lib.hid (bit_num d)
  have HAB := Lib.hid (fun i => and_bit (div_small h0 h1 i).1 (div_small h0 h1 i).2)
  have hw0 : IntKind.i64.wrap ((n : Int) - 1) = (n : Int) - 1 := IntWalk.i64_in _ (by omega)
  have hw1 : wrap64 ((n : Int) - 1) = (n : Int) - 1 := IntWalk.wrap64_in _ (by omega)
  have HF := Lib.hid (Bld.fresh w)
  have HBL := Lib.hid (below_alloc w (.cells #[.pointer none, .slice none 0 0] 91))
  have HTL : Hid (∀ j, ((wordB n d).take j).length ≤ n) := Lib.hid (fun j => by rw [List.length_take, wordB_len]; omega)
  have HT0 : Hid ((wordB n d).take 0 = []) := Lib.hid rfl
  generalize wordB n d = W at *
  go_enter Tryd.func59, Tryd.ntmps59
  go_upto_region 2 with (fail)
  generalize hW0 : w.alloc (.cells #[.pointer none, .slice none 0 0] 91) = W0 at *
  clear hW0
  go_wp2
  go_loopg [6] (n + 1) (fun gk t wr => ∃ j : Nat, t = .int .i64 ((n : Int) - 1 - j) ∧ j ≤ n ∧ n - j ≤ gk ∧ Bld w.heap.size w.heap.size (W.take j) wr ∧ Below w.heap.size w wr)
  case atStart => exact ⟨0, by simp, by omega, by omega, by rw [HT0.out]; exact HF.out, HBL.out⟩
  case round =>
    obtain ⟨j, rfl, hj, hgk, hX, hB⟩ := hrel
    by_cases hlt : j < n
    · obtain ⟨i, hi, hin⟩ : ∃ i : Nat, (n : Int) - 1 - j = i ∧ n - 1 - j = i := ⟨n - 1 - j, by omega, rfl⟩
      have hj2 : (n : Int) - 1 - ((j + 1 : Nat) : Int) = (i : Int) - 1 := by omega
      have hs1 : IntKind.i64.wrap ((i : Int) - 1) = (i : Int) - 1 := IntWalk.i64_in _ (by omega)
      have hs2 : wrap64 ((i : Int) - 1) = (i : Int) - 1 := IntWalk.wrap64_in _ (by omega)
      have HTj := Lib.hid (HT.out j hlt)
      have htl := HTL.out j
      have hm := HAB.out i
      have hc := HBN.out i
      have hm0 := Int.emod_nonneg (d / 2 ^ i) (show (2 : Int) ≠ 0 by decide)
      have hm1 := Int.emod_lt_of_pos (d / 2 ^ i) (show (0 : Int) < 2 by decide)
      have HWB := Lib.hid (fun W' h => WriteByte_any w.heap.size w.heap.size (W.take j) (bitC d i) W' h (by omega))
      rw [hin] at HTj
      rw [HTj.out] at HWB
      generalize d / 2 ^ i % 2 = m at *
      have hu1 : m % 256 = m := by omega
      have hu2 : (48 + m) % 256 = 48 + m := by omega
      have hmi : min i 64 = i := by omega
      rw [hc] at HWB
      have HX := Lib.hid (And.intro hX hB)
      have HJ := Lib.hid (And.intro hlt (And.intro hgk hj2))
      have hi0 : ¬ (i : Int) < 0 := by omega
      rw [hi]
      clear hX hB hc hi hin hj2 hgk hj hlt HTj
      go_wp2_with (go_at_call 89; refine (HWB.out _ HX.out.1 HX.out.2.size).mono ?_; rintro e w2 ⟨rfl, h2, h3⟩)
      go_roundg (n - (j + 1))
      case measure => have := HJ.out; omega
      case rel => exact ⟨j + 1, by rw [HJ.out.2.2], by have := HJ.out; omega, by have := HJ.out; omega, h2, HX.out.2.trans h3⟩
    · obtain rfl : j = n := by omega
      have hi0 : (j : Int) - 1 - (j : Int) < 0 := by omega
      rw [show (j : Int) - 1 - (j : Int) = -1 by omega]
      have HX := Lib.hid hX
      rw [HL.out] at hX
      have HS := Lib.hid (String_any _ _ _ _ hX HN.out)
      have HBB := Lib.hid hB
      clear hX hB hi0
      go_wp2_with (go_at_call 90; refine HS.out.mono ?_; rintro e w2 ⟨rfl, h2⟩)
      go_ret
      exact ⟨rfl, HBB.out.trans h2⟩
end Go.Proofs.YteodljaphkpimaaDoor
