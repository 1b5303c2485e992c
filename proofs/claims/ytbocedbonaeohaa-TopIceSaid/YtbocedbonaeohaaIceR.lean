/- Walks over package ice and its reference: numbers that ascend. -/
import Derived.Test.YtbocedbonaeohaaIceQ
import Derived.Test.YtbocedbonaeohaaIceLaw4
namespace Go.Proofs.Ytbocedbonaeohaa
set_option linter.unusedVariables false
open Go.RowKit

set_option maxHeartbeats 1000000 in
theorem rise_any (A : Option Addr) (c : Nat) (l : List Int) (n : Int) (w : World) (hr : RdI w w.heap.size A l) (hl : l.length ≤ 1000000) :
    Calls Try.prog 26 #[.slice A l.length c, .int .i64 n] w fun e w' => e = .returned (.bool (riseB l n)) ∧ w = w' := by
  have HR := Lib.hid hr; clear hr
  have H1 := Lib.hid (fun k => riseB_no (l := l) (n := n) (k := k))
  have H2 := Lib.hid (riseB_yes (l := l) (n := n))
  have HP : Hid (∀ k, riseP l n k = (!(btw 0 (ix l k) n) || (decide (0 < k) && decide (ix l k ≤ ix l (k - 1))))) := fun k => rfl
  generalize riseB l n = r at *
  generalize hm : l.length = m at *
  have HM := Lib.hid hm; clear hm
  go_enter Try.func26, Try.ntmps26
  go_wp2
  go_loopg [9] m (fun kk s wr => ∃ i : Nat, s = .int .i64 i ∧ i ≤ m ∧ m - i ≤ kk ∧ (w = wr) ∧ Aside (∀ t, t < i → riseP l n t = false))
  case atStart => exact ⟨0, rfl, by omega, by omega, rfl, (fun t ht => absurd ht (Nat.not_lt_zero t) : ∀ t, t < 0 → riseP l n t = false)⟩
  case round =>
    obtain ⟨i, rfl, hi, hk, rfl, HA⟩ := hrel
    by_cases hlt : i < m
    · obtain ⟨b, o, rfl, hb, c1⟩ := HR.out.at_ (k := i) (by rw [HM.out]; exact hlt)
      have hP := HP.out i
      have j0 : 0 ≤ (i : Int) := by omega
      have j1 : (i : Int) < (m : Int) := by omega
      have HBi := Lib.hid (fun W => between_any 0 (ix l i) n W)
      have NX : Hid (riseP l n i = false → ∀ t, t < i + 1 → riseP l n t = false) := Lib.hid (fun h t ht => by
        rcases Nat.lt_succ_iff_lt_or_eq.1 ht with h' | rfl
        · exact HA.out t h'
        · exact h)
      cases hbt : btw 0 (ix l i) n
      · have HE := Lib.hid (H1.out i hlt (by rw [hP, hbt]; rfl))
        rw [hbt] at HBi
        clear hP hbt
        generalize ix l i = x at *
        go_wp2_with (go_at_call 38; refine (HBi.out _).mono ?_; rintro e w' ⟨rfl, rfl⟩)
        go_ret
        exact ⟨ret_bool HE.out.symm, rfl⟩
      · rw [hbt] at HBi
        cases i with
        | zero =>
          have HN := Lib.hid (NX.out (by rw [hP, hbt]; rfl))
          clear hP hbt NX
          generalize ix l 0 = x at *
          have e0 : ((0 : Nat) : Int) = 0 := rfl
          rw [e0]
          rw [e0] at j0 j1
          rw [Nat.add_zero] at c1
          go_wp2_with (go_at_call 38; refine (HBi.out _).mono ?_; rintro e w' ⟨rfl, rfl⟩)
          go_roundg (m - 1)
          case measure => omega
          case rel => exact ⟨1, by first | rfl | go_num, by omega, by omega, rfl, HN.out⟩
        | succ i =>
          obtain ⟨b', o', he, _, c2⟩ := HR.out.at_ (k := i) (by rw [HM.out]; omega)
          injection he with he
          injection he with e1 e2 _
          subst e1; subst e2
          rw [Nat.add_sub_cancel] at hP
          have e3 : ((i + 1 : Nat) : Int) = (i : Int) + 1 := by omega
          rw [e3]
          rw [e3] at j0 j1
          have i0 : 0 < (i : Int) + 1 := by omega
          have i1 : (i : Int) < (m : Int) := by omega
          have i2 : 0 ≤ (i : Int) := by omega
          have i4 : IntKind.i64.wrap ((i : Int) + 1 - 1) = (i : Int) := by rw [show (i : Int) + 1 - 1 = i by omega]; exact IntWalk.i64_in _ (by omega)
          have i5 : ((i : Int) + 1).toNat = i + 1 := by omega
          by_cases hle : ix l (i + 1) ≤ ix l i
          · have HE := Lib.hid (H1.out (i + 1) hlt (by rw [hP, hbt]; simp [hle]))
            clear hP hbt NX
            generalize ix l (i + 1) = x at *
            generalize ix l i = y at *
            have hled : decide (x ≤ y) = true := by simpa using hle
            go_wp2_with (go_at_call 38; refine (HBi.out _).mono ?_; rintro e w' ⟨rfl, rfl⟩)
            go_ret
            exact ⟨ret_bool HE.out.symm, rfl⟩
          · have HN := Lib.hid (NX.out (by rw [hP, hbt]; simp; omega))
            clear hP hbt NX
            generalize ix l (i + 1) = x at *
            generalize ix l i = y at *
            have hled : decide (x ≤ y) = false := by simpa using hle
            go_wp2_with (go_at_call 38; refine (HBi.out _).mono ?_; rintro e w' ⟨rfl, rfl⟩)
            go_roundg (m - (i + 1 + 1))
            case measure => omega
            case rel => exact ⟨i + 1 + 1, by first | rfl | go_num, by omega, by omega, rfl, HN.out⟩
    · obtain rfl : i = m := by omega
      go_wp2
      go_ret
      exact ⟨ret_bool (H2.out HA.out).symm, rfl⟩

set_option maxHeartbeats 1000000 in
theorem ascends_any (A : Option Addr) (c : Nat) (l : List Int) (n : Int) (w : World) (hr : RdI w w.heap.size A l) (hl : l.length ≤ 1000000) :
    Calls Try.prog 33 #[.slice A l.length c, .int .i64 n] w fun e w' => e = .returned (.bool (riseB l n)) ∧ Below w.heap.size w w' := by
  have HR := Lib.hid hr; clear hr
  have H1 := Lib.hid (fun k => riseB_no (l := l) (n := n) (k := k))
  have H2 := Lib.hid (riseB_yes (l := l) (n := n))
  have HP : Hid (∀ k, riseP l n k = (!(btw 0 (ix l k) n) || (decide (0 < k) && decide (ix l k ≤ ix l (k - 1))))) := fun k => rfl
  generalize riseB l n = r at *
  generalize hm : l.length = m at *
  have HM := Lib.hid hm; clear hm
  go_enter Try.func33, Try.ntmps33
  go_wp2
  go_loopg [5] m (fun kk s wr => ∃ i : Nat, s = .int .i64 i ∧ i ≤ m ∧ m - i ≤ kk ∧ (Below w.heap.size w wr) ∧ Aside (∀ t, t < i → riseP l n t = false))
  case atStart => exact ⟨0, rfl, by omega, by omega, Below.refl _ _, (fun t ht => absurd ht (Nat.not_lt_zero t) : ∀ t, t < 0 → riseP l n t = false)⟩
  case round =>
    obtain ⟨i, rfl, hi, hk, hB, HA⟩ := hrel
    by_cases hlt : i < m
    · obtain ⟨b, o, rfl, hb, c1⟩ := HR.out.at_ (k := i) (by rw [HM.out]; exact hlt)
      rw [← hB.cell hb] at c1
      have hP := HP.out i
      have j0 : 0 ≤ (i : Int) := by omega
      have j1 : (i : Int) < (m : Int) := by omega
      have HBi := Lib.hid (fun W => within_any 0 (ix l i) n W)
      have NX : Hid (riseP l n i = false → ∀ t, t < i + 1 → riseP l n t = false) := Lib.hid (fun h t ht => by
        rcases Nat.lt_succ_iff_lt_or_eq.1 ht with h' | rfl
        · exact HA.out t h'
        · exact h)
      cases hbt : btw 0 (ix l i) n
      · have HE := Lib.hid (H1.out i hlt (by rw [hP, hbt]; rfl))
        rw [hbt] at HBi
        clear hP hbt
        generalize ix l i = x at *
        go_wp2_with fail
        go_quiet ((go_at_call 15; exact quiet_left (HBi.out _)))
        go_wp2_with fail
        go_ret
        exact ⟨ret_bool HE.out.symm, hB.drewsN _⟩
      · rw [hbt] at HBi
        cases i with
        | zero =>
          have HN := Lib.hid (NX.out (by rw [hP, hbt]; rfl))
          clear hP hbt NX
          generalize ix l 0 = x at *
          have e0 : ((0 : Nat) : Int) = 0 := rfl
          rw [e0]
          rw [e0] at j0 j1
          rw [Nat.add_zero] at c1
          go_wp2_with fail
          go_quiet ((go_at_call 15; exact quiet_left (HBi.out _)))
          go_wp2_with fail
          go_roundg (m - 1)
          case measure => omega
          case rel => exact ⟨1, by first | rfl | go_num, by omega, by omega, hB.drewsN _, HN.out⟩
        | succ i =>
          obtain ⟨b', o', he, _, c2⟩ := HR.out.at_ (k := i) (by rw [HM.out]; omega)
          injection he with he
          injection he with e1 e2 _
          subst e1; subst e2
          rw [← hB.cell hb] at c2
          rw [Nat.add_sub_cancel] at hP
          have e3 : ((i + 1 : Nat) : Int) = (i : Int) + 1 := by omega
          rw [e3]
          rw [e3] at j0 j1
          have i0 : 0 < (i : Int) + 1 := by omega
          have i1 : (i : Int) < (m : Int) := by omega
          have i2 : 0 ≤ (i : Int) := by omega
          have i4 : IntKind.i64.wrap ((i : Int) + 1 - 1) = (i : Int) := by rw [show (i : Int) + 1 - 1 = i by omega]; exact IntWalk.i64_in _ (by omega)
          have i5 : ((i : Int) + 1).toNat = i + 1 := by omega
          by_cases hle : ix l (i + 1) ≤ ix l i
          · have HE := Lib.hid (H1.out (i + 1) hlt (by rw [hP, hbt]; simp [hle]))
            clear hP hbt NX
            generalize ix l (i + 1) = x at *
            generalize ix l i = y at *
            have hled : decide (x ≤ y) = true := by simpa using hle
            go_wp2_with fail
            go_quiet ((go_at_call 15; exact quiet_left (HBi.out _)))
            go_wp2_with fail
            go_ret
            exact ⟨ret_bool HE.out.symm, hB.drewsN _⟩
          · have HN := Lib.hid (NX.out (by rw [hP, hbt]; simp; omega))
            clear hP hbt NX
            generalize ix l (i + 1) = x at *
            generalize ix l i = y at *
            have hled : decide (x ≤ y) = false := by simpa using hle
            go_wp2_with fail
            go_quiet ((go_at_call 15; exact quiet_left (HBi.out _)))
            go_wp2_with fail
            go_roundg (m - (i + 1 + 1))
            case measure => omega
            case rel => exact ⟨i + 1 + 1, by first | rfl | go_num, by omega, by omega, hB.drewsN _, HN.out⟩
    · obtain rfl : i = m := by omega
      go_wp2
      go_ret
      exact ⟨ret_bool (H2.out HA.out).symm, hB⟩
end Go.Proofs.Ytbocedbonaeohaa
