/- slices.Min, slices.Max and slices.Index over integers. -/
import Derived.Test.YtnodeooammplfaaIceA
namespace Go.Proofs.Ytnodeooammplfaa
open Go.RowKit
set_option linter.unusedSimpArgs false
set_option linter.unusedVariables false

/-- the least of the first and of the first k -/
def mnL (l : List Int) : Nat → Int
  | 0 => ix l 0
  | k + 1 => if ix l k < mnL l k then ix l k else mnL l k
def mxL (l : List Int) : Nat → Int
  | 0 => ix l 0
  | k + 1 => if mxL l k < ix l k then ix l k else mxL l k
/-- where the least of the first k stands first -/
def bsL (l : List Int) : Nat → Nat
  | 0 => 0
  | k + 1 => if ix l k < ix l (bsL l k) then k else bsL l k
theorem mnL_one (l : List Int) : mnL l 1 = ix l 0 := by simp [mnL]
theorem mxL_one (l : List Int) : mxL l 1 = ix l 0 := by simp [mxL]
theorem bsL_lt (l : List Int) (k : Nat) (hk : 0 < k) : bsL l k < k := by
  induction k with
  | zero => omega
  | succ k ih =>
    simp only [bsL]
    split
    · omega
    · by_cases h : k = 0
      · subst h; simp [bsL]
      · have := ih (by omega); omega
theorem bsL_at (l : List Int) (k : Nat) : ix l (bsL l k) = mnL l k := by
  induction k with
  | zero => rfl
  | succ k ih =>
    simp only [bsL, mnL]
    rw [← ih]
    split <;> rfl
theorem mnL_le (l : List Int) (k : Nat) : ∀ j, j < k → mnL l k ≤ ix l j := by
  induction k with
  | zero => intro j h; omega
  | succ k ih =>
    intro j hj
    simp only [mnL]
    by_cases e : j = k
    · subst e; split <;> omega
    · have := ih j (by omega); split <;> omega
theorem bsL_first (l : List Int) (k : Nat) : ∀ j, j < bsL l k → mnL l k < ix l j := by
  induction k with
  | zero => intro j h; simp [bsL] at h
  | succ k ih =>
    intro j hj
    rw [← bsL_at]
    simp only [bsL] at hj ⊢
    split at hj
    · rename_i h
      rw [if_pos h]
      rw [bsL_at] at h
      have := mnL_le l k j hj
      omega
    · rename_i h
      rw [if_neg h, bsL_at]
      exact ih j hj

set_option maxHeartbeats 2000000 in
theorem Min_any (A : Option Addr) (c : Nat) (l : List Int) (w : World) (hr : RdI w w.heap.size A l) (h0 : 1 ≤ l.length) (hl : l.length ≤ 1000000) :
    Calls Try.prog 88 #[.slice A l.length c] w fun e w' => e = .returned (.int .i64 (mnL l l.length)) ∧ w' = w := by
  have HR := Lib.hid hr
  obtain ⟨b, o, rfl, hb, c0⟩ := hr.at_ (k := 0) (by omega)
  rw [Nat.add_zero] at c0
  have hn0 : (0 : Int) < (l.length : Int) := by omega
  have hn1 : ¬ (l.length : Int) < 1 := by omega
  have hn2 : decide ((l.length : Int) < 1) = false := by rw [decide_eq_false_iff_not]; omega
  have hn3 : ¬ l.length = 0 := by omega
  have hn4 : ¬ l = [] := by rintro rfl; simp at h0
  have HM1 := Lib.hid (mnL_one l)
  clear hr
  go_enter Try.func88, Try.ntmps88
  go_wp2
  go_loopg [3, 4] l.length (fun k x3 x4 wr => ∃ i : Nat, x4 = .int .i64 i ∧ x3 = .int .i64 (mnL l i) ∧ 1 ≤ i ∧ i ≤ l.length ∧ l.length - i ≤ k ∧ wr = w)
  case atStart => exact ⟨1, rfl, by rw [HM1.out], by omega, by omega, by omega, rfl⟩
  case round =>
    obtain ⟨i, rfl, rfl, h1, h2, hk, rfl⟩ := hrel
    by_cases hlt : i < l.length
    · obtain ⟨b', o', e1, hb', ci⟩ := HR.out.at_ (k := i) hlt
      obtain ⟨rfl, rfl⟩ : b = b' ∧ o = o' := by injection e1 with e1; injection e1 with e1 e2; exact ⟨e1, e2⟩
      have hlt2 : (i : Int) < (l.length : Int) := by omega
      have HN : Hid (mnL l (i + 1) = if ix l i < mnL l i then ix l i else mnL l i) := Lib.hid rfl
      generalize ix l i = y at *
      generalize mnL l i = z at *
      by_cases hyz : y < z
      · rw [if_pos hyz] at HN
        go_wp2
        go_roundg (l.length - (i + 1))
        case measure => omega
        case rel => exact ⟨i + 1, by go_num, by rw [HN.out]; first | done | rfl, by omega, by omega, by omega, rfl⟩
      · rw [if_neg hyz] at HN
        go_wp2
        go_roundg (l.length - (i + 1))
        case measure => omega
        case rel => exact ⟨i + 1, by go_num, by rw [HN.out]; first | done | rfl, by omega, by omega, by omega, rfl⟩
    · obtain rfl : i = l.length := by omega
      have hlt2 : ¬ (l.length : Int) < (l.length : Int) := by omega
      go_wp2
      go_ret
      exact ⟨rfl, rfl⟩

set_option maxHeartbeats 2000000 in
theorem Max_any (A : Option Addr) (c : Nat) (l : List Int) (w : World) (hr : RdI w w.heap.size A l) (h0 : 1 ≤ l.length) (hl : l.length ≤ 1000000) :
    Calls Try.prog 89 #[.slice A l.length c] w fun e w' => e = .returned (.int .i64 (mxL l l.length)) ∧ w' = w := by
  have HR := Lib.hid hr
  obtain ⟨b, o, rfl, hb, c0⟩ := hr.at_ (k := 0) (by omega)
  rw [Nat.add_zero] at c0
  have hn0 : (0 : Int) < (l.length : Int) := by omega
  have hn1 : ¬ (l.length : Int) < 1 := by omega
  have hn2 : decide ((l.length : Int) < 1) = false := by rw [decide_eq_false_iff_not]; omega
  have hn3 : ¬ l.length = 0 := by omega
  have hn4 : ¬ l = [] := by rintro rfl; simp at h0
  have HM1 := Lib.hid (mxL_one l)
  clear hr
  go_enter Try.func89, Try.ntmps89
  go_wp2
  go_loopg [3, 4] l.length (fun k x3 x4 wr => ∃ i : Nat, x4 = .int .i64 i ∧ x3 = .int .i64 (mxL l i) ∧ 1 ≤ i ∧ i ≤ l.length ∧ l.length - i ≤ k ∧ wr = w)
  case atStart => exact ⟨1, rfl, by rw [HM1.out], by omega, by omega, by omega, rfl⟩
  case round =>
    obtain ⟨i, rfl, rfl, h1, h2, hk, rfl⟩ := hrel
    by_cases hlt : i < l.length
    · obtain ⟨b', o', e1, hb', ci⟩ := HR.out.at_ (k := i) hlt
      obtain ⟨rfl, rfl⟩ : b = b' ∧ o = o' := by injection e1 with e1; injection e1 with e1 e2; exact ⟨e1, e2⟩
      have hlt2 : (i : Int) < (l.length : Int) := by omega
      have HN : Hid (mxL l (i + 1) = if mxL l i < ix l i then ix l i else mxL l i) := Lib.hid rfl
      generalize ix l i = y at *
      generalize mxL l i = z at *
      by_cases hyz : z < y
      · rw [if_pos hyz] at HN
        go_wp2
        go_roundg (l.length - (i + 1))
        case measure => omega
        case rel => exact ⟨i + 1, by go_num, by rw [HN.out]; first | done | rfl, by omega, by omega, by omega, rfl⟩
      · rw [if_neg hyz] at HN
        go_wp2
        go_roundg (l.length - (i + 1))
        case measure => omega
        case rel => exact ⟨i + 1, by go_num, by rw [HN.out]; first | done | rfl, by omega, by omega, by omega, rfl⟩
    · obtain rfl : i = l.length := by omega
      have hlt2 : ¬ (l.length : Int) < (l.length : Int) := by omega
      go_wp2
      go_ret
      exact ⟨rfl, rfl⟩

set_option maxHeartbeats 2000000 in
theorem Index_any (A : Option Addr) (c : Nat) (l : List Int) (x : Int) (j : Nat) (w : World) (hr : RdI w w.heap.size A l) (hj : j < l.length) (hx : ix l j = x) (hf : ∀ i, i < j → ix l i ≠ x) (hl : l.length ≤ 1000000) :
    Calls Try.prog 91 #[.slice A l.length c, .int .i64 x] w fun e w' => e = .returned (.int .i64 j) ∧ w' = w := by
  have HR := Lib.hid hr
  have HX := Lib.hid hx
  have HF := Lib.hid hf
  clear hr hx hf
  go_enter Try.func91, Try.ntmps91
  go_wp2
  go_loopg [5, 8] l.length (fun k x5 x8 wr => ∃ i : Nat, x8 = .int .i64 i ∧ i ≤ j ∧ l.length - i ≤ k ∧ wr = w)
  case atStart => exact ⟨0, rfl, by omega, by omega, rfl⟩
  case round =>
    obtain ⟨i, rfl, h2, hk, rfl⟩ := hrel
    have hlt : i < l.length := by omega
    obtain ⟨b, o, rfl, hb, ci⟩ := HR.out.at_ (k := i) hlt
    have hlt2 : (i : Int) < (l.length : Int) := by omega
    by_cases e : i = j
    · subst e
      rw [HX.out] at ci
      go_wp2
      go_ret
      exact ⟨rfl, rfl⟩
    · have hne : ¬ x = ix l i := fun h => HF.out i (by omega) h.symm
      generalize ix l i = y at *
      go_wp2
      go_roundg (l.length - (i + 1))
      case measure => omega
      case rel => exact ⟨i + 1, by go_num, by omega, by omega, rfl⟩
end Go.Proofs.Ytnodeooammplfaa
