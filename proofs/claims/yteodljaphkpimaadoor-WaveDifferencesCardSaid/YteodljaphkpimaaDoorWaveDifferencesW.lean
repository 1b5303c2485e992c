/- The walk of WaveDifferences. -/
import Derived.Test.YteodljaphkpimaaDoorWvDb
import Derived.Test.YteodljaphkpimaaDoorWvWb
namespace Go.Proofs.YteodljaphkpimaaDoor
open Go.RowKit Go.Shelf
set_option linter.unusedSimpArgs false
set_option linter.unusedVariables false
attribute [local go_sem] Oper.semAt_some

theorem difE_len (s : List Int) : (difE s).length ≤ s.length := by
  unfold difE
  split
  · rw [difs_len]; exact Nat.le_refl _
  · simp
theorem smpL_len (l : List Int) : (smpL l).length ≤ l.length := by
  unfold smpL
  split
  · rw [accL_len]; exact Nat.le_refl _
  · simp
set_option maxRecDepth 100000 in
set_option maxHeartbeats 8000000 in
theorem WaveDifferences_walk (w : World) (A : Option Addr) (c : Nat) (l : List Int) (hr : RdI w w.heap.size A l ∧ ∀ x ∈ l, (Lit.int .i64 x).wf = true) (hl : l.length ≤ maxLen) (A2 : Option Addr) (c2 : Nat) (l2 : List Int) (hr2 : RdI w w.heap.size A2 l2 ∧ ∀ x ∈ l2, (Lit.int .i64 x).wf = true) (hl2 : l2.length ≤ maxLen) (s : ByteArray) (hs : s.size ≤ maxLen) :
    Calls Tryd.prog 3 #[.slice A l.length c, .slice A2 l2.length c2, .string s] w fun e w' => e = .returned (.bool true) ∧ Below w.heap.size w w' := by
  obtain ⟨t, rfl, hts⟩ := str_list s
  clear hs hts
  replace hr := hr.1
  replace hr2 := hr2.1
  have HMa := Lib.hid (fun W => Many_any A c l.length W)
  have HMb := Lib.hid (fun W => Many_any A2 c2 l2.length W)
  have HLo := Lib.hid (fun W => Long_any t W)
  have HAw := Lib.hid Awake_any
  by_cases hM : 200 < (l.length : Int)
  · rw [show decide (200 < (l.length : Int)) = true from decide_eq_true hM] at HMa
    clear hr hr2 hM
    go_enter Tryd.func3, Tryd.ntmps3
    go_wp2_with (first
      | (go_at_call 13; refine (HMa.out _).mono ?_; rintro e w1 ⟨rfl, rfl⟩)
      | (go_at_call 15; refine (HAw.out _).mono ?_; rintro e w2 ⟨rfl, h2⟩))
    go_ret
    exact ⟨rfl, h2⟩
  · rw [show decide (200 < (l.length : Int)) = false from decide_eq_false hM] at HMa
    by_cases hM2 : 200 < (l2.length : Int)
    · rw [show decide (200 < (l2.length : Int)) = true from decide_eq_true hM2] at HMb
      clear hr hr2 hM hM2
      go_enter Tryd.func3, Tryd.ntmps3
      go_wp2_with (first
        | (go_at_call 13; have := w1; refine (HMb.out _).mono ?_; rintro e w2 ⟨rfl, rfl⟩)
        | (go_at_call 13; refine (HMa.out _).mono ?_; rintro e w1 ⟨rfl, hw1⟩; rw [hw1]; clear hw1)
        | (go_at_call 15; refine (HAw.out _).mono ?_; rintro e w2 ⟨rfl, h2⟩))
      go_ret
      exact ⟨rfl, h2⟩
    · rw [show decide (200 < (l2.length : Int)) = false from decide_eq_false hM2] at HMb
      by_cases hM3 : 2000 < (t.length : Int)
      · rw [show decide (2000 < (t.length : Int)) = true from decide_eq_true hM3] at HLo
        clear hr hr2 hM hM2 hM3
        go_enter Tryd.func3, Tryd.ntmps3
        go_wp2_with (first
          | (go_at_call 13; have := w1; refine (HMb.out _).mono ?_; rintro e w2 ⟨rfl, rfl⟩)
          | (go_at_call 13; refine (HMa.out _).mono ?_; rintro e w1 ⟨rfl, hw1⟩; rw [hw1]; clear hw1)
          | (go_at_call 14; refine (HLo.out _).mono ?_; rintro e w1 ⟨rfl, rfl⟩)
          | (go_at_call 15; refine (HAw.out _).mono ?_; rintro e w2 ⟨rfl, h2⟩))
        go_ret
        exact ⟨rfl, h2⟩
      · rw [show decide (2000 < (t.length : Int)) = false from decide_eq_false hM3] at HLo
        have H1 := Lib.hid (fun W (hW : Below w.heap.size w W) => Differences_any A c l W (hr.on hW) (by omega))
        have H2 := Lib.hid (fun W (hW : Below w.heap.size w W) => refDifferencesE_any A c l W (hr.on hW) (by omega))
        have H3 := Lib.hid (fun W (hW : Below w.heap.size w W) => Samples_any A2 c2 l2 W (hr2.on hW) (by omega))
        have H4 := Lib.hid (fun W (hW : Below w.heap.size w W) => refSamples_any A2 c2 l2 W (hr2.on hW) (by omega))
        have H5 := Lib.hid (fun W (hW : Below w.heap.size w W) => Valid_any A c l W (hr.on hW) (by omega))
        have H6 := Lib.hid (fun W (hW : Below w.heap.size w W) => refValid_any A c l W (hr.on hW) (by omega))
        have H7 := Lib.hid (fun W => ValidBits_any t W (by omega))
        have H8 := Lib.hid (fun W => refValidBits_any t W (by omega))
        have hdl := difE_len l
        have hsl := smpL_len l2
        have HS1 := Lib.hid (fun A c A2 c2 W h1 h2 => SameInts_any A c A2 c2 (difE l) W h1 h2 (by omega))
        have HS2 := Lib.hid (fun A c A2 c2 W h1 h2 => SameInts_any A c A2 c2 (smpL l2) W h1 h2 (by omega))
        unfold LisE at H1 H2 H3 H4
        clear hr hr2 hM hM2 hM3 hdl hsl
        generalize difE l = D at *
        generalize encE l = E at *
        generalize smpL l2 = S at *
        generalize smpE l2 = F at *
        generalize vldW l = V at *
        generalize vbB t = B at *
        generalize l.length = n at *
        generalize l2.length = n2 at *
        go_enter Tryd.func3, Tryd.ntmps3
        go_wp2_with (first
          | (go_at_call 13; have := w1; refine (HMb.out _).mono ?_; rintro e w2 ⟨rfl, rfl⟩)
          | (go_at_call 13; refine (HMa.out _).mono ?_; rintro e w1 ⟨rfl, hw1⟩; rw [hw1]; clear hw1)
          | (go_at_call 14; refine (HLo.out _).mono ?_; rintro e w1 ⟨rfl, rfl⟩)
          | (go_at_call 16; refine (H1.out _ (Below.refl _ _)).mono ?_; rintro e w3 ⟨h3, A3, c3, rfl, hr3⟩; replace hr3 := Lib.hid hr3)
          | (go_at_call 17; refine (H2.out _ h3).mono ?_; rintro e w4 ⟨h4, A4, c4, rfl, hr4⟩; replace hr4 := Lib.hid hr4)
          | (go_at_call 18; refine (H3.out _ (h3.trs h4)).mono ?_; rintro e w5 ⟨h5, A5, c5, rfl, hr5⟩; replace hr5 := Lib.hid hr5)
          | (go_at_call 19; refine (H4.out _ ((h3.trs h4).trs h5)).mono ?_; rintro e w6 ⟨h6, A6, c6, rfl, hr6⟩; replace hr6 := Lib.hid hr6)
          | (go_at_call 20; refine (H5.out _ (((h3.trs h4).trs h5).trs h6)).mono ?_; rintro e w7 ⟨rfl, h7⟩)
          | (go_at_call 21; refine (H6.out _ ((((h3.trs h4).trs h5).trs h6).trs h7)).mono ?_; rintro e w8 ⟨rfl, h8⟩)
          | (go_at_call 22; refine (H7.out _).mono ?_; rintro e w9 ⟨rfl, h9⟩)
          | (go_at_call 23; refine (H8.out _).mono ?_; rintro e w10 ⟨rfl, rfl⟩)
          | (go_at_call 24; have := h11; refine (HS2.out _ _ _ _ _ (hr5.out.on ((((h6.trs h7).trs h8).trs h9).trs h11)) (hr6.out.on (((h7.trs h8).trs h9).trs h11))).mono ?_; rintro e w12 ⟨rfl, h12⟩)
          | (go_at_call 24; refine (HS1.out _ _ _ _ _ (hr3.out.on (((((h4.trs h5).trs h6).trs h7).trs h8).trs h9)) (hr4.out.on ((((h5.trs h6).trs h7).trs h8).trs h9))).mono ?_; rintro e w11 ⟨rfl, h11⟩)
          | (go_at_call 15; refine (HAw.out _).mono ?_; rintro e w13 ⟨rfl, h13⟩))
        go_ret
        exact ⟨by simp, ((((((((h3.trs h4).trs h5).trs h6).trs h7).trs h8).trs h9).trs h11).trs h12).trs h13⟩
end Go.Proofs.YteodljaphkpimaaDoor
