/- The walk of the law AlertPlans. -/
import Derived.Test.YtdafiblnanpiiaaAlDn
import Derived.Test.YtdafiblnanpiiaaAlertStretchesW
namespace Go.Proofs.Ytdafiblnanpiiaa
open Go.RowKit
set_option linter.unusedSimpArgs false
set_option linter.unusedVariables false

theorem RightV_form (L : List (Int × Int × Int)) (p : List Int) : ∃ (d : Bool) (e : Int), RightV L p = .tuple #[.bool d, .int .i64 e] := ⟨_, _, rfl⟩
theorem DoesV_form (L : List (Int × Int × Int)) (p : List Int) : ∃ (d : Bool) (e : Int), DoesV L p = .tuple #[.bool d, .int .i64 e] := ⟨_, _, rfl⟩
theorem FreeV_form (L : List (Int × Int × Int)) (p : List Int) : ∃ d e : Int, FreeV L p = .tuple #[.int .i64 d, .int .i64 e] := ⟨_, _, rfl⟩

set_option maxRecDepth 100000 in
set_option maxHeartbeats 8000000 in
theorem AlertPlans_walk (w : World) (A : Option Addr) (c : Nat) (L : List (Int × Int × Int)) (hr : RdT w w.heap.size A L) (_hm : L.length ≤ maxLen) (A2 : Option Addr) (c2 : Nat) (p : List Int) (hr2 : RdI w w.heap.size A2 p ∧ ∀ x ∈ p, (Lit.int .i64 x).wf = true) (_hm2 : p.length ≤ maxLen) :
    Calls Try.prog 12 #[.slice A L.length c, .slice A2 p.length c2] w fun e w' => e = .returned (.bool true) ∧ Below w.heap.size w w' := by
  have HR := Lib.hid hr
  have HR2 := Lib.hid hr2.1
  clear hr hr2
  by_cases hl : L.length ≤ 40
  · have hd : decide ((40 : Int) < L.length) = false := by simp; omega
    by_cases hp : p.length ≤ 300
    · have hd2 : decide ((300 : Int) < p.length) = false := by simp; omega
      have H1 := Lib.hid (fun W (hW : Below w.heap.size w W) => Right_any A c L A2 c2 p W (HR.out.on hW) (by omega) (HR2.out.on hW) (by omega))
      have H2 := Lib.hid (fun W (hW : Below w.heap.size w W) => refRight_any A c L A2 c2 p W (HR.out.on hW) (by omega) (HR2.out.on hW) (by omega))
      have H3 := Lib.hid (fun W (hW : Below w.heap.size w W) => Valid_any A c L W (HR.out.on hW) (by omega))
      have H4 := Lib.hid (fun W (hW : Below w.heap.size w W) => refValid_any A c L W (HR.out.on hW) (by omega))
      have H5 := Lib.hid (fun W (hW : Below w.heap.size w W) => DoesAll_any A c L A2 c2 p W (HR.out.on hW) (by omega) (HR2.out.on hW) (by omega))
      have H6 := Lib.hid (fun W (hW : Below w.heap.size w W) => refDoesAll_any A c L A2 c2 p W (HR.out.on hW) (by omega) (HR2.out.on hW) (by omega))
      have H7 := Lib.hid (fun W (hW : Below w.heap.size w W) => Done_any A c L A2 c2 p W (HR.out.on hW) (by omega) (HR2.out.on hW) (by omega))
      have H8 := Lib.hid (fun W (hW : Below w.heap.size w W) => refDone_any A c L A2 c2 p W (HR.out.on hW) (by omega) (HR2.out.on hW) (by omega))
      have H9 := Lib.hid (fun W (hW : Below w.heap.size w W) => Free_any A c L A2 c2 p W (HR.out.on hW) (by omega) (HR2.out.on hW) (by omega))
      have H10 := Lib.hid (fun W (hW : Below w.heap.size w W) => refFree_any A c L A2 c2 p W (HR.out.on hW) (by omega) (HR2.out.on hW) (by omega))
      unfold OutI at H7 H8
      have hdl : (DonK L p).length ≤ 1000000 := by unfold DonK; split <;> simp [donesT]; omega
      have HS := Lib.hid (fun A c A2 c2 W h1 h2 => SameInts_any A c A2 c2 (DonK L p) W h1 h2 hdl)
      obtain ⟨r1, e1, hv1⟩ := RightV_form L p
      obtain ⟨r2, e2, hv2⟩ := DoesV_form L p
      obtain ⟨f3, e3, hv3⟩ := FreeV_form L p
      rw [hv1] at H1 H2
      rw [hv2] at H5 H6
      rw [hv3] at H9 H10
      clear hv1 hv2 hv3 hdl HR HR2
      generalize DonK L p = dk at *
      generalize DonE L p = de at *
      generalize vldT L = vb at *
      generalize p.length = m at *
      generalize L.length = n at *
      generalize hu : dk.length = u at *
      clear hu
      cases vb <;> cases r1 <;> cases r2
      all_goals
        go_enter Try.func12, Try.ntmps12
        go_wp2_with (first
          | (go_at_call 14; refine (Long_any _ _ _ _).mono ?_; rintro e w' ⟨rfl, rfl⟩)
          | (go_at_call 32; refine (H1.out _ (Below.refl _ _)).mono ?_; rintro e w1 ⟨rfl, h1⟩)
          | (go_at_call 48; refine (H2.out _ h1).mono ?_; rintro e w2 ⟨rfl, h2⟩; have h2 := h1.trs h2)
          | (go_at_call 49; refine (H3.out _ h2).mono ?_; rintro e w3 ⟨rfl, h3⟩; have h3 := h2.trs h3)
          | (go_at_call 22; refine (H4.out _ h3).mono ?_; rintro e w4 ⟨rfl, h4⟩; have h4 := h3.trs h4)
          | (go_at_call 47; refine (H5.out _ h4).mono ?_; rintro e w5 ⟨rfl, h5⟩; have h5 := h4.trs h5)
          | (go_at_call 50; refine (H6.out _ h5).mono ?_; rintro e w6 ⟨rfl, h6⟩; have h6 := h5.trs h6)
          | (go_at_call 51; refine (H7.out _ h6).mono ?_; rintro e w7 ⟨h7, A7, c7, rfl, r7⟩; have h7 := h6.trs h7)
          | (go_at_call 52; refine (H8.out _ h7).mono ?_; rintro e w8 ⟨h8, A8, c8, rfl, r8⟩; have r7 := r7.on h8; have h8 := h7.trs h8)
          | (go_at_call 33; refine (H9.out _ h8).mono ?_; rintro e w9 ⟨rfl, h9⟩; have r7 := r7.on h9; have r8 := r8.on h9; have h9 := h8.trs h9)
          | (go_at_call 53; refine (H10.out _ h9).mono ?_; rintro e w10 ⟨rfl, h10⟩; have r7 := r7.on h10; have r8 := r8.on h10; have h10 := h9.trs h10)
          | (go_at_call 36; refine (HS.out _ _ _ _ _ r7 r8).mono ?_; rintro e w11 ⟨rfl, h11⟩; have h11 := h10.trs h11)
          | (go_at_call 15; refine (Sane_any _).mono ?_; rintro e w12 ⟨rfl, h12⟩))
        go_ret
        exact ⟨ret_bool (by first | rfl | simp), h11.trs h12⟩
    · have hd2 : decide ((300 : Int) < p.length) = true := by simp; omega
      go_enter Try.func12, Try.ntmps12
      go_wp2_with (first
        | (go_at_call 14; refine (Long_any _ _ _ _).mono ?_; rintro e w' ⟨rfl, rfl⟩)
        | (go_at_call 15; refine (Sane_any _).mono ?_; rintro e w12 ⟨rfl, h12⟩))
      go_ret
      exact ⟨rfl, h12⟩
  · have hd : decide ((40 : Int) < L.length) = true := by simp; omega
    go_enter Try.func12, Try.ntmps12
    go_wp2_with (first
      | (go_at_call 14; refine (Long_any _ _ _ _).mono ?_; rintro e w' ⟨rfl, rfl⟩)
      | (go_at_call 15; refine (Sane_any _).mono ?_; rintro e w12 ⟨rfl, h12⟩))
    go_ret
    exact ⟨rfl, h12⟩
end Go.Proofs.Ytdafiblnanpiiaa
