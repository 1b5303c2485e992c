/- Walks over package wave and its reference: Word and Number. -/
import Derived.Test.YteodljaphkpimaaDoorWvW
namespace Go.Proofs.YteodljaphkpimaaDoor
open Go.RowKit Go.Shelf
set_option linter.unusedSimpArgs false
set_option linter.unusedVariables false
attribute [local go_sem] Oper.semAt_some

theorem okB_w {k : Nat} (hk : k < 5) : okB (wid k : Int) = true := by
  unfold okB
  rw [kxI_yes hk]
  simp
theorem wrdE_no {v n : Int} (h : okB v = false) : wrdE v n = 2 ∧ wrdX v n = [] := by
  have e : wrdE v n = 2 := by unfold wrdE; rw [h]; rfl
  exact ⟨e, by unfold wrdX; rw [e]; rfl⟩
theorem wrdE_wid {k : Nat} (hk : k < 5) (n : Int) : wrdE (wid k : Int) n = (if btw (-(hf (wid k))) n (hf (wid k) - 1) = true then 0 else 2) ∧ wrdX (wid k : Int) n = if btw (-(hf (wid k))) n (hf (wid k) - 1) = true then wordB (wid k) n else [] := by
  have e : wrdE (wid k : Int) n = if btw (-(hf (wid k))) n (hf (wid k) - 1) = true then 0 else 2 := by
    unfold wrdE
    rw [okB_w hk, Int.toNat_natCast, Bool.true_and]
  refine ⟨e, ?_⟩
  unfold wrdX
  rw [e, Int.toNat_natCast]
  by_cases h : btw (-(hf (wid k))) n (hf (wid k) - 1) = true
  · rw [if_pos h, if_pos rfl, if_pos h]
  · rw [if_neg h, if_neg (by decide), if_neg h]
set_option maxHeartbeats 2000000 in
theorem Word_any (v n : Int) (w : World) : Calls Tryd.prog 25 #[.int .i64 v, .int .i64 n] w fun e w' => e = .returned (.tuple #[.string ⟨(wrdX v n).toArray⟩, .int .i64 (wrdE v n)]) ∧ Below w.heap.size w w' := by
  have HIX := Lib.hid (fun W => index_any v W)
  rcases okB_cases v with ⟨hv, k, hk, rfl⟩ | ⟨hv, hno⟩
  · rw [kxI_yes hk] at HIX
    rw [(wrdE_wid hk n).1, (wrdE_wid hk n).2]
    have hok := wid_ok k
    have hh := hf_le hok
    have HH := Lib.hid (fun W => half_any (wid k) W hok)
    have HB := Lib.hid (fun W => wvbetween_any (-(hf (wid k))) n (hf (wid k) - 1) W)
    have HW : Hid (btw (-(hf (wid k))) n (hf (wid k) - 1) = true → ∀ W, Calls Tryd.prog 59 #[.int .i64 (wid k), .int .i64 n] W fun e w' => e = .returned (.string ⟨(wordB (wid k) n).toArray⟩) ∧ Below W.heap.size W w') := Lib.hid (fun h W => word_any (wid k) n W (okW_le hok) (by have := btw_iff.1 h; omega) (by have := btw_iff.1 h; omega))
    have e1 : IntKind.i64.wrap (-(hf (wid k))) = -(hf (wid k)) := IntWalk.i64_in _ (by omega)
    have e2 : IntKind.i64.wrap (hf (wid k) - 1) = hf (wid k) - 1 := IntWalk.i64_in _ (by omega)
    have e3 : wrap64 (-(hf (wid k))) = -(hf (wid k)) := IntWalk.wrap64_in _ (by omega)
    have e4 : wrap64 (hf (wid k) - 1) = hf (wid k) - 1 := IntWalk.wrap64_in _ (by omega)
    clear hok hh hv
    generalize hf (wid k) = h at *
    generalize wordB (wid k) n = X at *
    generalize wid k = wk at *
    cases hb : btw (-h) n (h - 1)
    · rw [hb] at HB
      go_enter Tryd.func25, Tryd.ntmps25
      go_wp2_with (first
        | (go_at_call 57; refine (HIX.out _).mono ?_; rintro e w1 ⟨rfl, h1⟩)
        | (go_at_call 58; refine (HH.out _).mono ?_; rintro e w2 ⟨rfl, rfl⟩)
        | (go_at_call 52; refine (HB.out _).mono ?_; rintro e w3 ⟨rfl, rfl⟩))
      go_ret2
      exact ⟨by simp, h1⟩
    · rw [hb] at HB
      have HW2 := Lib.hid (HW.out hb)
      go_enter Tryd.func25, Tryd.ntmps25
      go_wp2_with (first
        | (go_at_call 57; refine (HIX.out _).mono ?_; rintro e w1 ⟨rfl, h1⟩)
        | (go_at_call 58; refine (HH.out _).mono ?_; rintro e w2 ⟨rfl, rfl⟩)
        | (go_at_call 52; refine (HB.out _).mono ?_; rintro e w3 ⟨rfl, rfl⟩)
        | (go_at_call 59; refine (HW2.out _).mono ?_; rintro e w4 ⟨rfl, h4⟩))
      go_ret2
      exact ⟨by simp, h1.trs h4⟩
  · rw [(wrdE_no (n := n) hv).1, (wrdE_no (n := n) hv).2]
    have hk0 : kxI v < 0 := by unfold okB at hv; simpa using hv
    generalize kxI v = r at *
    clear hv hno
    go_enter Tryd.func25, Tryd.ntmps25
    go_wp2_with (first
      | (go_at_call 57; refine (HIX.out _).mono ?_; rintro e w1 ⟨rfl, h1⟩))
    go_ret2
    exact ⟨by simp, h1⟩
set_option maxHeartbeats 2000000 in
theorem refWordE_any (v n : Int) (w : World) : Calls Tryd.prog 26 #[.int .i64 v, .int .i64 n] w fun e w' => e = .returned (.tuple #[.string ⟨(wrdX v n).toArray⟩, .int .i64 (wrdE v n)]) ∧ w' = w := by
  have HKD := Lib.hid (fun W => refKind_any v W)
  rcases okB_cases v with ⟨hv, k, hk, rfl⟩ | ⟨hv, hno⟩
  · rw [hv, if_pos rfl, kxI_yes hk] at HKD
    rw [(wrdE_wid hk n).1, (wrdE_wid hk n).2]
    have hok := wid_ok k
    have hh := hf_le hok
    have HH := Lib.hid (fun W => refHalf_any (wid k) W (okW_le hok))
    have HW : Hid (-(hf (wid k)) ≤ n → n < hf (wid k) → ∀ W, Calls Tryd.prog 62 #[.int .i64 (wid k), .int .i64 n] W fun e w' => e = .returned (.string ⟨(wordB (wid k) n).toArray⟩) ∧ w' = W) := Lib.hid (fun h h' W => refWord_any (wid k) n W (okW_le hok) h h')
    have e1 : IntKind.i64.wrap (-(hf (wid k))) = -(hf (wid k)) := IntWalk.i64_in _ (by omega)
    have e3 : wrap64 (-(hf (wid k))) = -(hf (wid k)) := IntWalk.wrap64_in _ (by omega)
    clear hok hh hv
    generalize hf (wid k) = h at *
    generalize wordB (wid k) n = X at *
    generalize wid k = wk at *
    by_cases h1 : n < -h
    · have hb : btw (-h) n (h - 1) = false := by unfold btw; simp; omega
      have hlD : decide (n < -h) = true := decide_eq_true h1
      rw [hb]
      go_enter Tryd.func26, Tryd.ntmps26
      go_wp2_with (first
        | (go_at_call 60; refine (HKD.out _).mono ?_; rintro e w1 ⟨rfl, rfl⟩)
        | (go_at_call 61; refine (HH.out _).mono ?_; rintro e w2 ⟨rfl, rfl⟩))
      go_ret2
      exact ⟨by simp, rfl⟩
    · have hlD : decide (n < -h) = false := decide_eq_false h1
      by_cases h2 : n < h
      · have hb : btw (-h) n (h - 1) = true := btw_iff.2 ⟨by omega, by omega⟩
        have HW2 := Lib.hid (HW.out (by omega) h2)
        have h2' : ¬ h ≤ n := by omega
        have h2D : decide (h ≤ n) = false := decide_eq_false h2'
        rw [hb]
        go_enter Tryd.func26, Tryd.ntmps26
        go_wp2_with (first
          | (go_at_call 60; refine (HKD.out _).mono ?_; rintro e w1 ⟨rfl, rfl⟩)
          | (go_at_call 61; refine (HH.out _).mono ?_; rintro e w2 ⟨rfl, rfl⟩)
          | (go_at_call 62; refine (HW2.out _).mono ?_; rintro e w4 ⟨rfl, rfl⟩))
        go_ret2
        exact ⟨by simp, rfl⟩
      · have hb : btw (-h) n (h - 1) = false := by unfold btw; simp; omega
        have h2' : h ≤ n := by omega
        have h2D : decide (h ≤ n) = true := decide_eq_true h2'
        rw [hb]
        go_enter Tryd.func26, Tryd.ntmps26
        go_wp2_with (first
          | (go_at_call 60; refine (HKD.out _).mono ?_; rintro e w1 ⟨rfl, rfl⟩)
          | (go_at_call 61; refine (HH.out _).mono ?_; rintro e w2 ⟨rfl, rfl⟩))
        go_ret2
        exact ⟨by simp, rfl⟩
  · rw [hv] at HKD
    rw [(wrdE_no (n := n) hv).1, (wrdE_no (n := n) hv).2]
    generalize (if false = true then kxI v else 0) = kz at *
    clear hv hno
    go_enter Tryd.func26, Tryd.ntmps26
    go_wp2_with (first
      | (go_at_call 60; refine (HKD.out _).mono ?_; rintro e w1 ⟨rfl, rfl⟩))
    go_ret2
    exact ⟨by simp, rfl⟩
/-! ### numbers -/
theorem okW_of {n : Nat} (h : okB (n : Int) = true) : okW n := by
  rcases okB_cases (n : Int) with ⟨-, k, -, e⟩ | ⟨h1, -⟩
  · rw [Int.ofNat.inj e]; exact wid_ok k
  · rw [h1] at h; cases h
set_option maxHeartbeats 2000000 in
theorem Number_any (t : Tx) (w : World) (h : t.length ≤ 1000000) : Calls Tryd.prog 27 #[.string ⟨t.toArray⟩] w fun e w' => e = .returned (.tuple #[.int .i64 (numX t), .int .i64 (numE t)]) ∧ Below w.heap.size w w' := by
  have HIX := Lib.hid (fun W => index_any (t.length : Int) W)
  unfold numX numE
  cases ho : okB (t.length : Int)
  · have hk0 : kxI (t.length : Int) < 0 := by unfold okB at ho; simpa using ho
    have hsz := size_bt t
    generalize kxI (t.length : Int) = r at *
    clear ho
    go_enter Tryd.func27, Tryd.ntmps27
    go_wp2_with (first
      | (go_at_call 57; refine (HIX.out _).mono ?_; rintro e w1 ⟨rfl, h1⟩))
    all_goals
      go_ret2
      exact ⟨by simp, h1⟩
  · have hok := okW_of ho
    have hl11 := (okW_le hok).2
    have HV := Lib.hid (fun W => ValidBits_any t W h)
    have hvb : vbB t = bitsB t := by unfold vbB; rw [decide_eq_true (by omega), Bool.true_and]
    rw [hvb] at HV
    have hkx : ¬ kxI (t.length : Int) < 0 := by unfold okB at ho; have := of_decide_eq_true ho; omega
    have hsz := size_bt t
    generalize kxI (t.length : Int) = r at *
    cases hb : bitsB t
    · rw [hb] at HV
      clear ho hok hvb
      go_enter Tryd.func27, Tryd.ntmps27
      go_wp2_with (first
        | (go_at_call 57; refine (HIX.out _).mono ?_; rintro e w1 ⟨rfl, h1⟩)
        | (go_at_call 22; refine (HV.out _).mono ?_; rintro e w2 ⟨rfl, h2⟩))
      go_ret2
      exact ⟨by simp, h1.trs h2⟩
    · have HN := Lib.hid (fun W => number_any t W hb hok)
      rw [hb] at HV
      clear ho hok hvb
      generalize numB t = N at *
      go_enter Tryd.func27, Tryd.ntmps27
      go_wp2_with (first
        | (go_at_call 57; refine (HIX.out _).mono ?_; rintro e w1 ⟨rfl, h1⟩)
        | (go_at_call 22; refine (HV.out _).mono ?_; rintro e w2 ⟨rfl, h2⟩)
        | (go_at_call 63; refine (HN.out _).mono ?_; rintro e w3 ⟨rfl, rfl⟩))
      go_ret2
      exact ⟨by simp, h1.trs h2⟩
set_option maxHeartbeats 2000000 in
theorem refNumberE_any (t : Tx) (w : World) (h : t.length ≤ 1000000) : Calls Tryd.prog 28 #[.string ⟨t.toArray⟩] w fun e w' => e = .returned (.tuple #[.int .i64 (numX t), .int .i64 (numE t)]) ∧ w' = w := by
  have HKD := Lib.hid (fun W => refKind_any (t.length : Int) W)
  have hsz := size_bt t
  unfold numX numE
  cases ho : okB (t.length : Int)
  · rw [ho] at HKD
    generalize (if false = true then kxI (t.length : Int) else 0) = kz at *
    clear ho
    go_enter Tryd.func28, Tryd.ntmps28
    go_wp2_with (first
      | (go_at_call 60; refine (HKD.out _).mono ?_; rintro e w1 ⟨rfl, rfl⟩))
    all_goals
      go_ret2
      exact ⟨by simp, rfl⟩
  · have hok := okW_of ho
    have HV := Lib.hid (fun W => refAreBits_any t W h)
    rw [ho] at HKD
    generalize (if true = true then kxI (t.length : Int) else 0) = kz at *
    cases hb : bitsB t
    · rw [hb] at HV
      clear ho hok
      go_enter Tryd.func28, Tryd.ntmps28
      go_wp2_with (first
        | (go_at_call 60; refine (HKD.out _).mono ?_; rintro e w1 ⟨rfl, rfl⟩)
        | (go_at_call 56; refine (HV.out _).mono ?_; rintro e w2 ⟨rfl, rfl⟩))
      go_ret2
      exact ⟨by simp, rfl⟩
    · have HN := Lib.hid (fun W => refNumber_any t W hb hok)
      rw [hb] at HV
      clear ho hok
      generalize numB t = N at *
      go_enter Tryd.func28, Tryd.ntmps28
      go_wp2_with (first
        | (go_at_call 60; refine (HKD.out _).mono ?_; rintro e w1 ⟨rfl, rfl⟩)
        | (go_at_call 56; refine (HV.out _).mono ?_; rintro e w2 ⟨rfl, rfl⟩)
        | (go_at_call 64; refine (HN.out _).mono ?_; rintro e w3 ⟨rfl, rfl⟩))
      go_ret2
      exact ⟨by simp, rfl⟩
theorem str_list (s : ByteArray) : ∃ t : Tx, s = ⟨t.toArray⟩ ∧ t.length = s.size := ⟨s.data.toList, by cases s with | mk d => exact congrArg ByteArray.mk (Array.toArray_toList).symm, Array.length_toList⟩
theorem Long_any (t : Tx) (w : World) : Calls Tryd.prog 14 #[.string ⟨t.toArray⟩] w fun e w' => e = .returned (.bool (decide (2000 < (t.length : Int)))) ∧ w' = w := by
  have hsz := size_bt t
  go_enter Tryd.func14, Tryd.ntmps14
  go_wp2
  go_ret
  exact ⟨by simp, rfl⟩
end Go.Proofs.YteodljaphkpimaaDoor
