/- The walk of WavePlanned. -/
import Derived.Test.YteodljaphkpimaaDoorWvPc
namespace Go.Proofs.YteodljaphkpimaaDoor
open Go.RowKit Go.Shelf
set_option linter.unusedSimpArgs false
set_option linter.unusedVariables false
attribute [local go_sem] Oper.semAt_some

set_option maxRecDepth 100000 in
set_option maxHeartbeats 8000000 in
theorem WavePlanned_walk (w : World) (A : Option Addr) (c : Nat) (l : List Int) (hr : RdI w w.heap.size A l ∧ ∀ x ∈ l, (Lit.int .i64 x).wf = true) (hl : l.length ≤ maxLen) (A2 : Option Addr) (c2 : Nat) (l2 : List Int) (hr2 : RdI w w.heap.size A2 l2 ∧ ∀ x ∈ l2, (Lit.int .i64 x).wf = true) (hl2 : l2.length ≤ maxLen) :
    Calls Tryd.prog 9 #[.slice A l.length c, .slice A2 l2.length c2] w fun e w' => e = .returned (.bool true) ∧ Below w.heap.size w w' := by
  replace hr := hr.1
  replace hr2 := hr2.1
  have HMa := Lib.hid (fun W => Many_any A c l.length W)
  have HMb := Lib.hid (fun W => Many_any A2 c2 l2.length W)
  have HAw := Lib.hid Awake_any
  by_cases hM : 200 < (l.length : Int)
  · rw [show decide (200 < (l.length : Int)) = true from decide_eq_true hM] at HMa
    clear hr hr2 hM
    go_enter Tryd.func9, Tryd.ntmps9
    go_wp2_with (first
      | (go_at_call 13; refine (HMa.out _).mono ?_; rintro e w1 ⟨rfl, rfl⟩)
      | (go_at_call 15; refine (HAw.out _).mono ?_; rintro e w2 ⟨rfl, h2⟩))
    go_ret
    exact ⟨rfl, h2⟩
  · rw [show decide (200 < (l.length : Int)) = false from decide_eq_false hM] at HMa
    by_cases hM2 : 200 < (l2.length : Int)
    · rw [show decide (200 < (l2.length : Int)) = true from decide_eq_true hM2] at HMb
      clear hr hr2 hM hM2
      go_enter Tryd.func9, Tryd.ntmps9
      go_wp2_with (first
        | (go_at_call 13; have := w1; refine (HMb.out _).mono ?_; rintro e w2 ⟨rfl, rfl⟩)
        | (go_at_call 13; refine (HMa.out _).mono ?_; rintro e w1 ⟨rfl, hw1⟩; rw [hw1]; clear hw1)
        | (go_at_call 15; refine (HAw.out _).mono ?_; rintro e w2 ⟨rfl, h2⟩))
      go_ret
      exact ⟨rfl, h2⟩
    · rw [show decide (200 < (l2.length : Int)) = false from decide_eq_false hM2] at HMb
      have HV := Lib.hid (refValid_any A c l w hr (by omega))
      cases hv : vldW l
      · rw [hv] at HV
        clear hr hr2 hM hM2
        generalize l.length = n at *
        generalize l2.length = n2 at *
        go_enter Tryd.func9, Tryd.ntmps9
        go_wp2_with (first
          | (go_at_call 13; have := w1; refine (HMb.out _).mono ?_; rintro e w2 ⟨rfl, hw2⟩; rw [hw2]; clear hw2)
          | (go_at_call 13; refine (HMa.out _).mono ?_; rintro e w1 ⟨rfl, hw1⟩; rw [hw1]; clear hw1)
          | (go_at_call 21; refine HV.out.mono ?_; rintro e w3 ⟨rfl, h3⟩)
          | (go_at_call 15; refine (HAw.out _).mono ?_; rintro e w4 ⟨rfl, h4⟩))
        go_ret
        exact ⟨rfl, h3.trs h4⟩
      · rw [hv] at HV
        have HP := Lib.hid (fun W (hW : Below w.heap.size w W) => Plan_any A c A2 c2 l l2 W (hr.on hW) (hr2.on hW) (by omega) (by omega))
        unfold PlanQ at HP
        rcases planE_cases (ws := l2) hv with h0 | ⟨h0, hx⟩
        · obtain ⟨p, hp, hd, hws, hpx, hpl⟩ := plan_made hv h0
          obtain ⟨e1, e2, e3, -, e5, e6⟩ := plan_says hv hp hd hpl
          rw [h0, hpx] at HP
          have H1 := Lib.hid (fun W => Decode_any (plL 2 p) W (by omega))
          have H2 := Lib.hid (fun W => Widths_any (plL 2 p) W (by omega))
          have H3 := Lib.hid (fun W (hW : Below w.heap.size w W) => IsText_any A c l (plL 2 p) W (hr.on hW) (by omega) (by omega))
          rw [e1, e2, accL_difs] at H1
          rw [e1, e3, hws] at H2
          rw [e5, e6] at H3
          have HS1 := Lib.hid (fun A3 c3 W h1 (hW : Below w.heap.size w W) => SameInts_any A3 c3 A c l W h1 (hr.on hW) (by omega))
          have HS2 := Lib.hid (fun A3 c3 W h1 (hW : Below w.heap.size w W) => SameInts_any A3 c3 A2 c2 l2 W h1 (hr2.on hW) (by omega))
          unfold LisE at H1 H2
          have hszp := size_bt (plL 2 p)
          clear hr hr2 hM hM2 hv h0 hp hd hws hpx e1 e2 e3 e5 e6
          generalize plL 2 p = X at *
          generalize hn : l.length = n at *
          generalize hn2 : l2.length = n2 at *
          clear hn hn2
          go_enter Tryd.func9, Tryd.ntmps9
          go_wp2_with (first
            | (go_at_call 13; have := w1; refine (HMb.out _).mono ?_; rintro e w2 ⟨rfl, hw2⟩; rw [hw2]; clear hw2)
            | (go_at_call 13; refine (HMa.out _).mono ?_; rintro e w1 ⟨rfl, hw1⟩; rw [hw1]; clear hw1)
            | (go_at_call 21; refine HV.out.mono ?_; rintro e w3 ⟨rfl, h3⟩)
            | (go_at_call 44; refine (HP.out _ h3).mono ?_; rintro e w4 ⟨rfl, h4⟩; replace h4 := h3.trs h4)
            | (go_at_call 36; refine (H1.out _).mono ?_; rintro e w5 ⟨h5, A5, c5, rfl, hr5⟩; replace hr5 := Lib.hid hr5)
            | (go_at_call 38; refine (H2.out _).mono ?_; rintro e w6 ⟨h6, A6, c6, rfl, hr6⟩; replace hr6 := Lib.hid hr6)
            | (go_at_call 42; refine (H3.out _ ((h4.trs h5).trs h6)).mono ?_; rintro e w7 ⟨rfl, h7⟩)
            | (go_at_call 24; have := h8; refine (HS2.out _ _ _ (hr6.out.on (h7.trs h8)) ((((h4.trs h5).trs h6).trs h7).trs h8)).mono ?_; rintro e w9 ⟨rfl, h9⟩)
            | (go_at_call 24; refine (HS1.out _ _ _ (hr5.out.on (h6.trs h7)) (((h4.trs h5).trs h6).trs h7)).mono ?_; rintro e w8 ⟨rfl, h8⟩)
            | (go_at_call 15; refine (HAw.out _).mono ?_; rintro e w10 ⟨rfl, h10⟩))
          go_ret
          exact ⟨rfl, (((((h4.trs h5).trs h6).trs h7).trs h8).trs h9).trs h10⟩
        · rw [hx] at HP
          clear hr hr2 hM hM2 hv hx
          rcases h0 with h0 | h0 | h0
          all_goals
            rw [h0] at HP
            clear h0
            generalize l.length = n at *
            generalize l2.length = n2 at *
            go_enter Tryd.func9, Tryd.ntmps9
            go_wp2_with (first
              | (go_at_call 13; have := w1; refine (HMb.out _).mono ?_; rintro e w2 ⟨rfl, hw2⟩; rw [hw2]; clear hw2)
              | (go_at_call 13; refine (HMa.out _).mono ?_; rintro e w1 ⟨rfl, hw1⟩; rw [hw1]; clear hw1)
              | (go_at_call 21; refine HV.out.mono ?_; rintro e w3 ⟨rfl, h3⟩)
              | (go_at_call 44; refine (HP.out _ h3).mono ?_; rintro e w4 ⟨rfl, h4⟩; replace h4 := h3.trs h4)
              | (go_at_call 15; refine (HAw.out _).mono ?_; rintro e w10 ⟨rfl, h10⟩))
            go_ret
            exact ⟨rfl, h4.trs h10⟩
end Go.Proofs.YteodljaphkpimaaDoor
