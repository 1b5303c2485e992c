/- Walks over the reference of chapter wave: widths, words, changes, the lesser text. -/
import Derived.Test.YteodljaphkpimaaDoorWvF
namespace Go.Proofs.YteodljaphkpimaaDoor
open Go.RowKit Go.Shelf
set_option linter.unusedSimpArgs false
set_option linter.unusedVariables false
attribute [local go_sem] Oper.semAt_some

set_option maxHeartbeats 1000000 in
theorem refWidth_any (k : Nat) (w : World) (hk : k < 5) : Calls Tryd.prog 91 #[.int .i64 k] w fun e w' => e = .returned (.int .i64 (wid k)) ∧ w' = w := by
  have : k = 0 ∨ k = 1 ∨ k = 2 ∨ k = 3 ∨ k = 4 := by omega
  rcases this with rfl | rfl | rfl | rfl | rfl
  all_goals
    go_enter Tryd.func91, Tryd.ntmps91
    go_wp2
    go_ret
    exact ⟨rfl, rfl⟩
theorem hf_small {n : Nat} (h : n ≤ 11) : 1 ≤ hf n ∧ hf n ≤ 1024 := by
  unfold hf
  have : n = 0 ∨ n = 1 ∨ n = 2 ∨ n = 3 ∨ n = 4 ∨ n = 5 ∨ n = 6 ∨ n = 7 ∨ n = 8 ∨ n = 9 ∨ n = 10 ∨ n = 11 := by omega
  rcases this with rfl | rfl | rfl | rfl | rfl | rfl | rfl | rfl | rfl | rfl | rfl | rfl <;> decide
theorem hf_succ {n : Nat} (h : 1 ≤ n) : hf (n + 1) = hf n * 2 := by
  unfold hf
  rw [show n + 1 - 1 = (n - 1) + 1 by omega, Int.pow_succ]
theorem okW_le {n : Nat} (h : okW n) : 1 ≤ n ∧ n ≤ 11 := by unfold okW at h; omega
set_option maxHeartbeats 1000000 in
theorem refHalf_any (n : Nat) (w : World) (hn : 1 ≤ n ∧ n ≤ 11) : Calls Tryd.prog 61 #[.int .i64 n] w fun e w' => e = .returned (.int .i64 (hf n)) ∧ w' = w := by
  obtain ⟨h1, h2⟩ := hn
  go_enter Tryd.func61, Tryd.ntmps61
  go_wp2
  go_loopg [3, 4] n (fun gk u v wr => ∃ i : Nat, v = .int .i64 i ∧ u = .int .i64 (hf i) ∧ 1 ≤ i ∧ i ≤ n ∧ n - i ≤ gk ∧ wr = w)
  case atStart => exact ⟨1, rfl, by rw [show hf 1 = 1 by decide], by omega, by omega, by omega, rfl⟩
  case round =>
    obtain ⟨i, rfl, rfl, hi1, hi2, hgk, rfl⟩ := hrel
    by_cases hlt : i < n
    · have hltI : (i : Int) < (n : Int) := by omega
      have hs := hf_small (n := i) (by omega)
      have HS := Lib.hid (hf_succ hi1)
      generalize hf i = h at *
      have e1 : IntKind.i64.wrap (h * 2) = h * 2 := IntWalk.i64_in _ (by omega)
      have e2 : wrap64 (h * 2) = h * 2 := IntWalk.wrap64_in _ (by omega)
      go_wp2
      go_roundg (n - (i + 1))
      case measure => omega
      case rel => exact ⟨i + 1, by go_num, by rw [HS.out], by omega, by omega, by omega, rfl⟩
    · obtain rfl : i = n := by omega
      go_wp2
      go_ret
      exact ⟨rfl, rfl⟩
theorem bit_top {n : Nat} {d : Int} (h1 : 1 ≤ n) (h2 : n ≤ 11) (h3 : -(hf n) ≤ d) (h4 : d < hf n) : bitC d (n - 1) = (if d < 0 then 49 else 48) ∧ (d - if d < 0 then -(hf n) else 0) = d % 2 ^ (n - 1) := by
  unfold hf bitC at *
  have : n = 1 ∨ n = 2 ∨ n = 3 ∨ n = 4 ∨ n = 5 ∨ n = 6 ∨ n = 7 ∨ n = 8 ∨ n = 9 ∨ n = 10 ∨ n = 11 := by omega
  rcases this with rfl | rfl | rfl | rfl | rfl | rfl | rfl | rfl | rfl | rfl | rfl <;> simp only [Nat.add_one_sub_one, Nat.reduceSub, Int.reducePow, Int.pow_zero] at * <;> constructor <;> (by_cases h : d < 0 <;> simp only [h, if_true, if_false]) <;> first | omega | (rw [if_pos (by omega)]) | (rw [if_neg (by omega)])
theorem bit_low {i : Nat} {d : Int} (h1 : 1 ≤ i) (h2 : i ≤ 11) : bitC d (i - 1) = (if hf i ≤ d % 2 ^ i then 49 else 48) ∧ (d % 2 ^ i - if hf i ≤ d % 2 ^ i then hf i else 0) = d % 2 ^ (i - 1) := by
  unfold hf bitC at *
  have : i = 1 ∨ i = 2 ∨ i = 3 ∨ i = 4 ∨ i = 5 ∨ i = 6 ∨ i = 7 ∨ i = 8 ∨ i = 9 ∨ i = 10 ∨ i = 11 := by omega
  rcases this with rfl | rfl | rfl | rfl | rfl | rfl | rfl | rfl | rfl | rfl | rfl <;> simp only [Nat.add_one_sub_one, Nat.reduceSub, Int.reducePow, Int.pow_zero] at * <;> constructor <;> (split <;> first | omega | (rw [if_pos (by omega)]) | (rw [if_neg (by omega)]))
/-- what is left of a number behind j bits -/
def lfW (n : Nat) (d : Int) (j : Nat) : Int := if j = 0 then d else d % 2 ^ (n - j)
theorem lfW_small {n : Nat} {d : Int} {j : Nat} (h : n ≤ 11) (h0 : -1024 ≤ d) (h1 : d ≤ 1023) : -1024 ≤ lfW n d j ∧ lfW n d j ≤ 2047 := by
  unfold lfW
  split
  · omega
  · have hp : (0 : Int) < 2 ^ (n - j) := Int.pow_pos (by decide)
    have h2 := Int.emod_nonneg d (Int.ne_of_gt hp)
    have h3 := Int.emod_lt_of_pos d hp
    have h4 := (hf_small (n := n - j) (by omega)).2
    have h5 : (2 : Int) ^ (n - j) ≤ 2048 := by
      have : n - j = 0 ∨ n - j = (n - j - 1) + 1 := by omega
      rcases this with e | e
      · rw [e]; decide
      · rw [e, Int.pow_succ]; unfold hf at h4; omega
    omega
set_option maxRecDepth 100000 in
set_option maxHeartbeats 4000000 in
theorem refWord_any (n : Nat) (d : Int) (w : World) (hn : 1 ≤ n ∧ n ≤ 11) (h0 : -(hf n) ≤ d) (h1 : d < hf n) : Calls Tryd.prog 62 #[.int .i64 n, .int .i64 d] w fun e w' => e = .returned (.string ⟨(wordB n d).toArray⟩) ∧ w' = w := by
  have hh := hf_small hn.2
  have HT := Lib.hid (fun j (h : j < n) => word_take (n := d) h)
  have HL : Hid ((wordB n d).take n = wordB n d) := Lib.hid (by rw [List.take_of_length_le (by rw [wordB_len]; omega)])
  have HTL : Hid (∀ j, ((wordB n d).take j).length ≤ n) := Lib.hid (fun j => by rw [List.length_take, wordB_len]; omega)
  have HT0 : Hid ((wordB n d).take 0 = []) := Lib.hid rfl
  have HBT := Lib.hid (bit_top hn.1 hn.2 h0 h1)
  have HBL := Lib.hid (fun i (a : 1 ≤ i) (b : i ≤ 11) => bit_low (d := d) a b)
  have HLS := Lib.hid (fun j => lfW_small (n := n) (d := d) (j := j) hn.2 (by omega) (by omega))
  have HLD : Hid (∀ j, lfW n d j = if j = 0 then d else d % 2 ^ (n - j)) := Lib.hid (fun _ => rfl)
  have HHF := Lib.hid (fun i (h : 1 ≤ i ∧ i ≤ 11) W => refHalf_any i W h)
  have HD := Lib.hid (And.intro h0 h1)
  generalize wordB n d = X at *
  generalize lfW n d = lf at *
  obtain ⟨hn1, hn2⟩ := hn
  go_enter Tryd.func62, Tryd.ntmps62
  go_wp2
  go_loopg [5, 6, 7] (n + 1) (fun gk u v t wr => ∃ j : Nat, t = .int .i64 ((n : Int) - j) ∧ u = .string ⟨(X.take j).toArray⟩ ∧ v = .int .i64 (lf j) ∧ j ≤ n ∧ n - j ≤ gk ∧ wr = w)
  case atStart => exact ⟨0, by simp, by rw [HT0.out], by rw [HLD.out, if_pos rfl], by omega, by omega, rfl⟩
  case round =>
    obtain ⟨j, rfl, rfl, rfl, hj, hgk, rfl⟩ := hrel
    by_cases hlt : j < n
    · obtain ⟨i, hi, hin, hi1⟩ : ∃ i : Nat, (n : Int) - j = i ∧ n - j = i ∧ 1 ≤ i := ⟨n - j, by omega, rfl, by omega⟩
      have htl := HTL.out j
      have HTj := Lib.hid (HT.out j hlt)
      rw [show n - 1 - j = i - 1 by omega] at HTj
      have hls := HLS.out j
      have hls2 := HLS.out (j + 1)
      have hhi := hf_small (n := i) (by omega)
      have HHi := Lib.hid (HHF.out i (by omega))
      have hi1I : (1 : Int) ≤ (i : Int) := by omega
      have hiw : IntKind.i64.wrap ((i : Int) - 1) = (i : Int) - 1 := IntWalk.i64_in _ (by omega)
      have hiw2 : wrap64 ((i : Int) - 1) = (i : Int) - 1 := IntWalk.wrap64_in _ (by omega)
      have hLN := HLD.out (j + 1)
      rw [if_neg (by omega), show n - (j + 1) = i - 1 by omega] at hLN
      have HB : Hid ((j = 0 → bitC d (i - 1) = (if d < 0 then 49 else 48) ∧ lf 0 = d ∧ lf (j + 1) = d - if d < 0 then -(hf i) else 0) ∧ (j ≠ 0 → bitC d (i - 1) = (if hf i ≤ lf j then 49 else 48) ∧ lf (j + 1) = lf j - if hf i ≤ lf j then hf i else 0)) := Lib.hid ⟨fun e => by
          subst e
          have hni : n = i := by omega
          subst hni
          rw [hLN]
          exact ⟨HBT.out.1, by rw [HLD.out, if_pos rfl], HBT.out.2.symm⟩, fun e => by
          have h5 := HLD.out j
          rw [if_neg e, hin] at h5
          rw [hLN, h5]
          exact ⟨(HBL.out i hi1 (by omega)).1, (HBL.out i hi1 (by omega)).2.symm⟩⟩
      have HJN : Hid ((n : Int) - ((j + 1 : Nat) : Int) = (i : Int) - 1 ∧ j + 1 ≤ n ∧ n - (j + 1) < gk + 1 ∧ n - (j + 1) < n - j ∧ n - j ≤ gk) := Lib.hid ⟨by omega, by omega, by omega, by omega, hgk⟩
      rw [hi]
      clear hLN
      generalize bitC d (i - 1) = bc at *
      have hbb : ¬ 9223372036854775807 < (X.take j).length + 1 := by omega
      have a1 : (⟨(X.take j).toArray⟩ : ByteArray) ++ ⟨#[49]⟩ = ⟨(X.take j ++ [49]).toArray⟩ := ba_app (X.take j) [49]
      have a0 : (⟨(X.take j).toArray⟩ : ByteArray) ++ ⟨#[48]⟩ = ⟨(X.take j ++ [48]).toArray⟩ := ba_app (X.take j) [48]
      have HI := Lib.hid (And.intro hgk (And.intro hlt hin))
      by_cases hj0 : j = 0
      · obtain ⟨hb1, hb2, hb3⟩ := HB.out.1 hj0
        have hin' : i = n := by omega
        have hlj : lf j = d := by rw [hj0, hb2]
        rw [hlj]
        clear hgk hlt hj hi hin hj0
        subst hin'
        by_cases hd : d < 0
        · rw [if_pos hd] at hb1 hb3
          generalize hf i = h at *
          have e1 : IntKind.i64.wrap (-h) = -h := IntWalk.i64_in _ (by omega)
          have e2 : wrap64 (-h) = -h := IntWalk.wrap64_in _ (by omega)
          have e3 : IntKind.i64.wrap (d - -h) = d - -h := IntWalk.i64_in _ (by omega)
          have e4 : wrap64 (d - -h) = d - -h := IntWalk.wrap64_in _ (by omega)
          have HE := Lib.hid (And.intro hb1 hb3)
          clear hb1 hb2 hb3 hlj hls hls2
          generalize X.take j = Y at *
          go_wp2_with (go_at_call 61; refine (HHi.out _).mono ?_; rintro e w' ⟨rfl, rfl⟩)
          go_roundg (i - (j + 1))
          case measure => have := HJN.out; omega
          case rel => exact ⟨j + 1, by rw [HJN.out.1], by rw [← HTj.out, HE.out.1], by rw [HE.out.2, Int.sub_neg], HJN.out.2.1, by omega, rfl⟩
        · have hd0 : (0 : Int) ≤ d := by omega
          rw [if_neg hd] at hb1 hb3
          generalize hf i = h at *
          have HE := Lib.hid (And.intro hb1 hb3)
          clear hb1 hb2 hb3 hlj hls hls2
          generalize X.take j = Y at *
          go_wp2_with (go_at_call 61; refine (HHi.out _).mono ?_; rintro e w' ⟨rfl, rfl⟩)
          go_roundg (i - (j + 1))
          case measure => have := HJN.out; omega
          case rel => exact ⟨j + 1, by rw [HJN.out.1], by rw [← HTj.out, HE.out.1], by rw [HE.out.2, Int.sub_zero], HJN.out.2.1, by omega, rfl⟩
      · obtain ⟨hb1, hb3⟩ := HB.out.2 hj0
        have hni : ((i : Int) == (n : Int)) = false := by rw [beq_eq_false_iff_ne]; omega
        have hni2 : ¬ (i : Int) = (n : Int) := by omega
        have hni3 : ¬ i = n := by omega
        clear hgk hlt hj hi hin hj0
        by_cases hd : hf i ≤ lf j
        · rw [if_pos hd] at hb1 hb3
          generalize hf i = h at *
          generalize hlj : lf j = y at *
          have e3 : IntKind.i64.wrap (y - h) = y - h := IntWalk.i64_in _ (by omega)
          have e4 : wrap64 (y - h) = y - h := IntWalk.wrap64_in _ (by omega)
          have hd2 : ¬ y < h := by omega
          have HE := Lib.hid (And.intro hb1 hb3)
          clear hb1 hb3 hlj hls hls2
          generalize X.take j = Y at *
          go_wp2_with (go_at_call 61; refine (HHi.out _).mono ?_; rintro e w' ⟨rfl, rfl⟩)
          go_roundg (n - (j + 1))
          case measure => have := HJN.out; omega
          case rel => exact ⟨j + 1, by rw [HJN.out.1], by rw [← HTj.out, HE.out.1], by rw [HE.out.2], HJN.out.2.1, by omega, rfl⟩
        · rw [if_neg hd] at hb1 hb3
          generalize hf i = h at *
          generalize hlj : lf j = y at *
          have hd2 : y < h := by omega
          have HE := Lib.hid (And.intro hb1 hb3)
          clear hb1 hb3 hlj hls hls2
          generalize X.take j = Y at *
          go_wp2_with (go_at_call 61; refine (HHi.out _).mono ?_; rintro e w' ⟨rfl, rfl⟩)
          go_roundg (n - (j + 1))
          case measure => have := HJN.out; omega
          case rel => exact ⟨j + 1, by rw [HJN.out.1], by rw [← HTj.out, HE.out.1], by rw [HE.out.2, Int.sub_zero], HJN.out.2.1, by omega, rfl⟩
    · obtain rfl : j = n := by omega
      have h10 : ¬ (1 : Int) ≤ (j : Int) - (j : Int) := by omega
      rw [HL.out]
      clear hgk hj hlt
      rw [Int.sub_self]
      generalize lf j = y at *
      go_wp2
      go_ret
      exact ⟨rfl, rfl⟩
theorem toT_len : ∀ i k : Fin 5, (toT upK dnK i k).length ≤ 60 := by decide +kernel
theorem toT_le {i k : Nat} (hi : i < 5) (hk : k < 5) : (toT upK dnK i k).length ≤ 60 := toT_len ⟨i, hi⟩ ⟨k, hk⟩
def shT (a b : Tx) : Bool := decide (a.length < b.length) || (decide (a.length = b.length) && Go.Op.bytesLess a b)
theorem shT_leT (a b : Tx) : shT a b = !(leT b a) := by
  rw [Bool.eq_iff_iff, Bool.not_eq_true', ← Bool.not_eq_true, leT_iff]
  unfold shT
  simp only [Bool.or_eq_true, decide_eq_true_eq, Bool.and_eq_true]
  constructor
  · rintro (h | ⟨h1, h2⟩)
    · omega
    · rintro (h3 | ⟨h3, h4 | h4⟩)
      · omega
      · have := bl_trans h2 h4; rw [bl_irr] at this; cases this
      · subst h4; rw [bl_irr] at h2; cases h2
  · intro h
    rcases Nat.lt_trichotomy a.length b.length with h1 | h1 | h1
    · exact .inl h1
    · refine .inr ⟨h1, ?_⟩
      rcases bl_tri a b with h2 | h2 | h2
      · exact h2
      · exact absurd (.inr ⟨h1.symm, .inr h2.symm⟩) h
      · exact absurd (.inr ⟨h1.symm, .inl h2⟩) h
    · exact absurd (.inl h1) h
theorem better_shT (a b : Tx) : better (some a) (some b) = if shT b a then some b else some a := by
  rw [shT_leT]
  simp only [better]
  cases leT a b <;> rfl
end Go.Proofs.YteodljaphkpimaaDoor
