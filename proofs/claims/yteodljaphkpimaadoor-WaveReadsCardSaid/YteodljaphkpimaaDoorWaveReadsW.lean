/- The walk of WaveReads. -/
import Derived.Test.YteodljaphkpimaaDoorWvPc
import Derived.Test.YteodljaphkpimaaDoorWaveDecodesW
namespace Go.Proofs.YteodljaphkpimaaDoor
open Go.RowKit Go.Shelf
set_option linter.unusedSimpArgs false
set_option linter.unusedVariables false
attribute [local go_sem] Oper.semAt_some

theorem isV_own {t : Tx} (h : deE t = 0) : isV (accL (dD t)) t = true ∧ isE (accL (dD t)) t = 0 := by
  have hv := (text_plan h).1
  rcases de_cases t with ⟨-, hE, -⟩ | ⟨-, -, hE, -⟩ | ⟨d, ws, m, hb, ho, -, hd, -⟩
  · rw [hE] at h; cases h
  · rw [hE] at h; cases h
  · rw [hd] at hv ⊢
    refine ⟨?_, ?_⟩
    · unfold isV deV
      rw [hv, hb, if_pos rfl, ho]
      simp [difs_accL]
    · unfold isE
      rw [hv, hb]
      rfl
set_option maxRecDepth 100000 in
set_option maxHeartbeats 8000000 in
theorem WaveReads_walk (w : World) (s : ByteArray) (hs : s.size ≤ maxLen) :
    Calls Tryd.prog 10 #[.string s] w fun e w' => e = .returned (.bool true) ∧ Below w.heap.size w w' := by
  obtain ⟨t, rfl, hts⟩ := str_list s
  clear hs hts
  have HLo := Lib.hid (fun W => Long_any t W)
  have HAw := Lib.hid Awake_any
  by_cases hM : 2000 < (t.length : Int)
  · rw [show decide (2000 < (t.length : Int)) = true from decide_eq_true hM] at HLo
    clear hM
    go_enter Tryd.func10, Tryd.ntmps10
    go_wp2_with (first
      | (go_at_call 14; refine (HLo.out _).mono ?_; rintro e w1 ⟨rfl, rfl⟩)
      | (go_at_call 15; refine (HAw.out _).mono ?_; rintro e w2 ⟨rfl, h2⟩))
    go_ret
    exact ⟨rfl, h2⟩
  · rw [show decide (2000 < (t.length : Int)) = false from decide_eq_false hM] at HLo
    have H1 := Lib.hid (fun W => Decode_any t W (by omega))
    have H2 := Lib.hid (fun W => Widths_any t W (by omega))
    have H3 := Lib.hid (fun W => Changes_any t W (by omega))
    unfold LisE at H1 H2
    by_cases hE : deE t = 0
    · obtain ⟨hv, p, p1, p2, p3, p4, p5, p6⟩ := text_plan hE
      have hd2 : dsL p = difs (accL (dD t)) := by rw [difs_accL]; exact p2
      have hpl : (plL 2 p).length ≤ t.length := by
        rcases p5 with h | h
        · omega
        · rw [h]; exact Nat.le_refl _
      obtain ⟨q1, q2, q3⟩ := plan_of hv p1 hd2 (by omega)
      obtain ⟨a1, a2, a3, a4, -, -⟩ := plan_says hv p1 hd2 (by omega)
      have hbest := leT_len (enc_best hv p1 hd2)
      obtain ⟨i1, i2⟩ := isV_own hE
      obtain ⟨-, -, -, -, hencE⟩ := enc_plan hv
      have hal := accL_len (dD t)
      have hdl := dD_len t
      have hwl := dW_len t
      have HI := Lib.hid (fun A c W h => IsText_any A c (accL (dD t)) t W h (by omega) (by omega))
      have HV := Lib.hid (fun A c W h => refValid_any A c (accL (dD t)) W h (by omega))
      have HP := Lib.hid (fun A c A2 c2 W h h2 => Plan_any A c A2 c2 (accL (dD t)) (dW t) W h h2 (by omega) (by omega))
      have HC := Lib.hid (fun W => Changes_any (plL 2 p) W (by omega))
      have HL := Lib.hid (fun A c W h => Length_any A c (accL (dD t)) W h (by omega))
      rw [i1, i2] at HI
      rw [hv] at HV
      unfold PlanQ at HP
      rw [← p3, q1, q2, p3] at HP
      rw [a1, a4] at HC
      rw [hencE] at HL
      rw [hE] at H1 H2 H3
      rw [hwl] at H2 HP
      rw [hal] at H1 HI HV HP HL
      have hszt := size_bt t
      have hszx := size_bt (plL 2 p)
      have k1 : ((plL 2 p).length : Int) ≤ (t.length : Int) := by omega
      have k2 : ((chL 2 p : Nat) : Int) ≤ (dC t : Int) := by omega
      have k3 : ((encT (accL (dD t))).length : Int) ≤ ((plL 2 p).length : Int) := by omega
      have hel := encT_len (accL (dD t))
      clear hM hE hv p1 p2 p3 p4 p6 hd2 hpl q1 q2 q3 a1 a2 a3 a4 hbest i1 i2 hencE hal hwl
      generalize (encT (accL (dD t))).length = n3 at *
      generalize chL 2 p = n4 at *
      generalize dC t = n5 at *
      generalize plL 2 p = X at *
      generalize accL (dD t) = S at *
      generalize dW t = V at *
      generalize (dD t).length = nd at *
      rcases p5 with h5 | h5
      · have h5I : (X.length : Int) < (t.length : Int) := by omega
        go_enter Tryd.func10, Tryd.ntmps10
        go_wp2_with (first
          | (go_at_call 14; refine (HLo.out _).mono ?_; rintro e w1 ⟨rfl, rfl⟩)
          | (go_at_call 36; refine (H1.out _).mono ?_; rintro e w2 ⟨h2, A2, c2, rfl, hr2⟩; replace hr2 := Lib.hid hr2)
          | (go_at_call 38; refine (H2.out _).mono ?_; rintro e w3 ⟨h3, A3, c3, rfl, hr3⟩; replace hr3 := Lib.hid hr3)
          | (go_at_call 40; have := h7; refine (HC.out _).mono ?_; rintro e w8 ⟨rfl, h8⟩)
          | (go_at_call 40; refine (H3.out _).mono ?_; rintro e w4 ⟨rfl, h4⟩)
          | (go_at_call 42; refine (HI.out _ _ _ (hr2.out.on (h3.trs h4))).mono ?_; rintro e w5 ⟨rfl, h5'⟩)
          | (go_at_call 21; refine (HV.out _ _ _ (hr2.out.on ((h3.trs h4).trs h5'))).mono ?_; rintro e w6 ⟨rfl, h6⟩)
          | (go_at_call 44; refine (HP.out _ _ _ _ _ (hr2.out.on (((h3.trs h4).trs h5').trs h6)) (hr3.out.on ((h4.trs h5').trs h6))).mono ?_; rintro e w7 ⟨rfl, h7⟩)
          | (go_at_call 45; refine (HL.out _ _ _ (hr2.out.on (((((h3.trs h4).trs h5').trs h6).trs h7).trs h8))).mono ?_; rintro e w9 ⟨rfl, h9⟩)
          | (go_at_call 15; refine (HAw.out _).mono ?_; rintro e w10 ⟨rfl, h10⟩))
        go_ret
        exact ⟨rfl, ((((((((h2.trs h3).trs h4).trs h5').trs h6).trs h7).trs h8).trs h9).trs h10)⟩
      · subst h5
        have h5I : ¬ (X.length : Int) < (X.length : Int) := by omega
        go_enter Tryd.func10, Tryd.ntmps10
        go_wp2_with (first
          | (go_at_call 14; refine (HLo.out _).mono ?_; rintro e w1 ⟨rfl, rfl⟩)
          | (go_at_call 36; refine (H1.out _).mono ?_; rintro e w2 ⟨h2, A2, c2, rfl, hr2⟩; replace hr2 := Lib.hid hr2)
          | (go_at_call 38; refine (H2.out _).mono ?_; rintro e w3 ⟨h3, A3, c3, rfl, hr3⟩; replace hr3 := Lib.hid hr3)
          | (go_at_call 40; have := h7; refine (HC.out _).mono ?_; rintro e w8 ⟨rfl, h8⟩)
          | (go_at_call 40; refine (H3.out _).mono ?_; rintro e w4 ⟨rfl, h4⟩)
          | (go_at_call 42; refine (HI.out _ _ _ (hr2.out.on (h3.trs h4))).mono ?_; rintro e w5 ⟨rfl, h5'⟩)
          | (go_at_call 21; refine (HV.out _ _ _ (hr2.out.on ((h3.trs h4).trs h5'))).mono ?_; rintro e w6 ⟨rfl, h6⟩)
          | (go_at_call 44; refine (HP.out _ _ _ _ _ (hr2.out.on (((h3.trs h4).trs h5').trs h6)) (hr3.out.on ((h4.trs h5').trs h6))).mono ?_; rintro e w7 ⟨rfl, h7⟩)
          | (go_at_call 45; refine (HL.out _ _ _ (hr2.out.on (((((h3.trs h4).trs h5').trs h6).trs h7).trs h8))).mono ?_; rintro e w9 ⟨rfl, h9⟩)
          | (go_at_call 15; refine (HAw.out _).mono ?_; rintro e w10 ⟨rfl, h10⟩))
        go_ret
        exact ⟨rfl, ((((((((h2.trs h3).trs h4).trs h5').trs h6).trs h7).trs h8).trs h9).trs h10)⟩
    · obtain ⟨b1, b2, b3⟩ := deE_bad hE
      rw [b1] at H1
      rw [b2] at H2
      rw [b3] at H3
      have hE0 : (deE t == 0) = false := beq_eq_false_iff_ne.2 hE
      rw [show accL [] = [] from rfl] at H1
      clear hM b1 b2 b3
      generalize deE t = E at *
      go_enter Tryd.func10, Tryd.ntmps10
      go_wp2_with (first
        | (go_at_call 14; refine (HLo.out _).mono ?_; rintro e w1 ⟨rfl, rfl⟩)
        | (go_at_call 36; refine (H1.out _).mono ?_; rintro e w2 ⟨h2, A2, c2, rfl, hr2⟩; clear hr2)
        | (go_at_call 38; refine (H2.out _).mono ?_; rintro e w3 ⟨h3, A3, c3, rfl, hr3⟩; clear hr3)
        | (go_at_call 40; refine (H3.out _).mono ?_; rintro e w4 ⟨rfl, h4⟩)
        | (go_at_call 15; refine (HAw.out _).mono ?_; rintro e w10 ⟨rfl, h10⟩))
      go_ret
      exact ⟨by simp, ((h2.trs h3).trs h4).trs h10⟩
end Go.Proofs.YteodljaphkpimaaDoor
