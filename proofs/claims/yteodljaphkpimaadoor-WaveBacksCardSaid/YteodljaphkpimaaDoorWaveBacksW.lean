/- The walk of WaveBacks. -/
import Derived.Test.YteodljaphkpimaaDoorWvPc
namespace Go.Proofs.YteodljaphkpimaaDoor
open Go.RowKit Go.Shelf
set_option linter.unusedSimpArgs false
set_option linter.unusedVariables false
attribute [local go_sem] Oper.semAt_some

set_option maxRecDepth 100000 in
set_option maxHeartbeats 8000000 in
theorem WaveBacks_walk (w : World) (A : Option Addr) (c : Nat) (l : List Int) (hr : RdI w w.heap.size A l ∧ ∀ x ∈ l, (Lit.int .i64 x).wf = true) (hl : l.length ≤ maxLen) :
    Calls Tryd.prog 11 #[.slice A l.length c] w fun e w' => e = .returned (.bool true) ∧ Below w.heap.size w w' := by
  replace hr := hr.1
  have HMa := Lib.hid (fun W => Many_any A c l.length W)
  have HAw := Lib.hid Awake_any
  by_cases hM : 200 < (l.length : Int)
  · rw [show decide (200 < (l.length : Int)) = true from decide_eq_true hM] at HMa
    clear hr hM
    go_enter Tryd.func11, Tryd.ntmps11
    go_wp2_with (first
      | (go_at_call 13; refine (HMa.out _).mono ?_; rintro e w1 ⟨rfl, rfl⟩)
      | (go_at_call 15; refine (HAw.out _).mono ?_; rintro e w2 ⟨rfl, h2⟩))
    go_ret
    exact ⟨rfl, h2⟩
  · rw [show decide (200 < (l.length : Int)) = false from decide_eq_false hM] at HMa
    have HV := Lib.hid (refValid_any A c l w hr (by omega))
    cases hv : vldW l
    · rw [hv] at HV
      clear hr hM
      generalize l.length = n at *
      go_enter Tryd.func11, Tryd.ntmps11
      go_wp2_with (first
        | (go_at_call 13; refine (HMa.out _).mono ?_; rintro e w1 ⟨rfl, hw1⟩; rw [hw1]; clear hw1)
        | (go_at_call 21; refine HV.out.mono ?_; rintro e w3 ⟨rfl, h3⟩)
        | (go_at_call 15; refine (HAw.out _).mono ?_; rintro e w4 ⟨rfl, h4⟩))
      go_ret
      exact ⟨rfl, h3.trs h4⟩
    · rw [hv] at HV
      have H1 := Lib.hid (fun W (hW : Below w.heap.size w W) => Differences_any A c l W (hr.on hW) (by omega))
      have H2 := Lib.hid (fun A c W h => Samples_any A c (difs l) W h (by rw [difs_len]; omega))
      have H3 := Lib.hid (fun W (hW : Below w.heap.size w W) => Encode_any A c l W (hr.on hW) (by omega))
      have H4 := Lib.hid (fun W (hW : Below w.heap.size w W) => Wide_any A c l W (hr.on hW) (by omega))
      obtain ⟨p, p1, p2, p3, p4⟩ := enc_plan hv
      obtain ⟨q1, q2, q3, q4⟩ := wide_plan hv
      have hel := enc_len hv
      obtain ⟨a1, a2, -, -, a5, a6⟩ := plan_says hv p1 p2 (by rw [← p3]; omega)
      obtain ⟨b1, b2, -, -, b5, b6⟩ := plan_says hv q1 q2 (by rw [← q3]; omega)
      rw [← p3] at a1 a2 a5 a6
      rw [← q3] at b1 b2 b5 b6
      have H5 := Lib.hid (fun W => Decode_any (encT l) W (by omega))
      have H6 := Lib.hid (fun W => Decode_any (wideT l) W (by omega))
      have H7 := Lib.hid (fun W (hW : Below w.heap.size w W) => IsText_any A c l (encT l) W (hr.on hW) (by omega) (by omega))
      have H8 := Lib.hid (fun W (hW : Below w.heap.size w W) => IsText_any A c l (wideT l) W (hr.on hW) (by omega) (by omega))
      rw [a1, a2, accL_difs] at H5
      rw [b1, b2, accL_difs] at H6
      rw [a5, a6] at H7
      rw [b5, b6] at H8
      have hdE : difE l = difs l := by unfold difE; rw [if_pos hv]
      rw [p4] at H1 H3 H4
      rw [hdE] at H1
      rw [(smpE_ok (difs_ok hv)).1, (smpE_ok (difs_ok hv)).2, accL_difs] at H2
      have hdl := difs_len l
      rw [hdl] at H2
      have HS := Lib.hid (fun A3 c3 W h1 (hW : Below w.heap.size w W) => SameInts_any A3 c3 A c l W h1 (hr.on hW) (by omega))
      unfold LisE at H1 H2 H5 H6
      rw [hdl] at H1
      clear hr hM hv p1 p2 p3 p4 q1 q2 q3 q4 hel a1 a2 a5 a6 b1 b2 b5 b6 hdE hdl
      generalize difs l = D at *
      generalize encT l = X at *
      generalize wideT l = Y at *
      generalize hn : l.length = n at *
      clear hn
      go_enter Tryd.func11, Tryd.ntmps11
      go_wp2_with (first
        | (go_at_call 13; refine (HMa.out _).mono ?_; rintro e w1 ⟨rfl, hw1⟩; rw [hw1]; clear hw1)
        | (go_at_call 21; refine HV.out.mono ?_; rintro e w2 ⟨rfl, h2⟩)
        | (go_at_call 16; refine (H1.out _ h2).mono ?_; rintro e w3 ⟨h3, A3, c3, rfl, hr3⟩; replace hr3 := Lib.hid hr3; replace h3 := h2.trs h3)
        | (go_at_call 18; refine (H2.out _ _ _ hr3.out).mono ?_; rintro e w4 ⟨h4, A4, c4, rfl, hr4⟩; replace hr4 := Lib.hid hr4; replace h4 := h3.trs h4)
        | (go_at_call 46; refine (H3.out _ h4).mono ?_; rintro e w5 ⟨rfl, h5⟩)
        | (go_at_call 47; refine (H4.out _ (h4.trs h5)).mono ?_; rintro e w6 ⟨rfl, h6⟩)
        | (go_at_call 36; have := h8; refine (H6.out _).mono ?_; rintro e w9 ⟨h9, A9, c9, rfl, hr9⟩; replace hr9 := Lib.hid hr9)
        | (go_at_call 36; refine (H5.out _).mono ?_; rintro e w8 ⟨h8, A8, c8, rfl, hr8⟩; replace hr8 := Lib.hid hr8)
        | (go_at_call 42; have := h10; refine (H8.out _ ((((((h4.trs h5).trs h6).trs h7).trs h8).trs h9).trs h10)).mono ?_; rintro e w11 ⟨rfl, h11⟩)
        | (go_at_call 42; refine (H7.out _ (((((h4.trs h5).trs h6).trs h7).trs h8).trs h9)).mono ?_; rintro e w10 ⟨rfl, h10⟩)
        | (go_at_call 24; have := h12; refine (HS.out _ _ _ (hr9.out.on ((h10.trs h11).trs h12)) ((((((((h4.trs h5).trs h6).trs h7).trs h8).trs h9).trs h10).trs h11).trs h12)).mono ?_; rintro e w13 ⟨rfl, h13⟩)
        | (go_at_call 24; have := h11; refine (HS.out _ _ _ (hr8.out.on ((h9.trs h10).trs h11)) (((((((h4.trs h5).trs h6).trs h7).trs h8).trs h9).trs h10).trs h11)).mono ?_; rintro e w12 ⟨rfl, h12⟩)
        | (go_at_call 24; refine (HS.out _ _ _ (hr4.out.on (h5.trs h6)) ((h4.trs h5).trs h6)).mono ?_; rintro e w7 ⟨rfl, h7⟩)
        | (go_at_call 15; refine (HAw.out _).mono ?_; rintro e w14 ⟨rfl, h14⟩))
      go_ret
      exact ⟨rfl, (((((((((h4.trs h5).trs h6).trs h7).trs h8).trs h9).trs h10).trs h11).trs h12).trs h13).trs h14⟩
end Go.Proofs.YteodljaphkpimaaDoor
