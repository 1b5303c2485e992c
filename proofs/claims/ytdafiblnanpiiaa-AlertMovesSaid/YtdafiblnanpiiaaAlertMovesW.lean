/- The walk of the law AlertMoves. -/
import Derived.Test.YtdafiblnanpiiaaAlRK
import Derived.Test.YtdafiblnanpiiaaAlTu
import Derived.Test.YtdafiblnanpiiaaAlertStretchesW
namespace Go.Proofs.Ytdafiblnanpiiaa
open Go.RowKit
set_option linter.unusedSimpArgs false
set_option linter.unusedVariables false

set_option maxRecDepth 100000 in
set_option maxHeartbeats 8000000 in
theorem AlertMoves_walk (w : World) (A : Option Addr) (c : Nat) (L : List (Int × Int × Int)) (hr : RdT w w.heap.size A L) (_hm : L.length ≤ maxLen) (by_ : Int) :
    Calls Try.prog 8 #[.slice A L.length c, .int .i64 by_] w fun e w' => e = .returned (.bool true) ∧ Below w.heap.size w w' := by
  have HR := Lib.hid hr; clear hr
  by_cases hl : L.length ≤ 40
  · have hd : decide ((40 : Int) < L.length) = false := by simp; omega
    have hl2 : L.length ≤ 1125899906842624 := by omega
    have H1 := Lib.hid (fun W (hW : Below w.heap.size w W) => Moved_any A c L by_ W (HR.out.on hW) hl2)
    have H2 := Lib.hid (fun W (hW : Below w.heap.size w W) => refMoved_any A c L by_ W (HR.out.on hW) hl2)
    have H3 := Lib.hid (fun W (hW : Below w.heap.size w W) => Turned_any A c L W (HR.out.on hW) hl2)
    have H4 := Lib.hid (fun W (hW : Below w.heap.size w W) => refTurned_any A c L W (HR.out.on hW) hl2)
    have H5 := Lib.hid (fun W (hW : Below w.heap.size w W) => Kept_any A c L W (HR.out.on hW) hl2)
    have H6 := Lib.hid (fun W (hW : Below w.heap.size w W) => refKept_any A c L W (HR.out.on hW) hl2)
    unfold OutI at H5 H6
    unfold OutT at H1 H2 H3 H4
    have hml : (MovK L by_).length ≤ 1000000 := by unfold MovK; split <;> simp [movT]; omega
    have htl : (TrnK L).length ≤ 1000000 := by unfold TrnK; split <;> simp [trnT]; omega
    have hkl : (if vldT L then kepI L L.length else []).length ≤ 1000000 := by
      split
      · have := kepI_len L L.length; omega
      · simp
    have HS1 := Lib.hid (fun A c A2 c2 W h1 h2 => SameTasks_any A c A2 c2 (MovK L by_) W h1 h2 hml)
    have HS2 := Lib.hid (fun A c A2 c2 W h1 h2 => SameTasks_any A c A2 c2 (TrnK L) W h1 h2 htl)
    have HS3 := Lib.hid (fun A c A2 c2 W h1 h2 => SameInts_any A c A2 c2 (if vldT L then kepI L L.length else []) W h1 h2 hkl)
    clear HR hml htl hkl
    generalize (if vldT L then kepI L L.length else []) = kl at *
    generalize MovK L by_ = ml at *
    generalize TrnK L = tl at *
    generalize MovE L by_ = me at *
    generalize SlackE L = se at *
    generalize L.length = n at *
    generalize hu1 : ml.length = u1 at *
    generalize hu2 : tl.length = u2 at *
    generalize hu3 : kl.length = u3 at *
    clear hu1 hu2 hu3
    go_enter Try.func8, Try.ntmps8
    go_wp2_with (first
      | (go_at_call 14; refine (Long_any _ _ _ _).mono ?_; rintro e w' ⟨rfl, rfl⟩)
      | (go_at_call 41; refine (H1.out _ (Below.refl _ _)).mono ?_; rintro e w1 ⟨h1, A1, c1, rfl, r1⟩)
      | (go_at_call 42; refine (H2.out _ h1).mono ?_; rintro e w2 ⟨h2, A2, c2, rfl, r2⟩; have r1 := r1.on h2; have h2 := h1.trs h2)
      | (have := w4; go_at_call 43; refine (HS2.out _ _ _ _ _ r4 r5).mono ?_; rintro e w8 ⟨rfl, h8⟩; have r6 := r6.on h8; have r7 := r7.on h8; have h8 := h7.trs h8)
      | (go_at_call 43; refine (HS1.out _ _ _ _ _ r1 r2).mono ?_; rintro e w3 ⟨rfl, h3⟩; have h3 := h2.trs h3)
      | (go_at_call 44; refine (H3.out _ h3).mono ?_; rintro e w4 ⟨h4, A4, c4, rfl, r4⟩; have h4 := h3.trs h4)
      | (go_at_call 45; refine (H4.out _ h4).mono ?_; rintro e w5 ⟨h5, A5, c5, rfl, r5⟩; have r4 := r4.on h5; have h5 := h4.trs h5)
      | (go_at_call 23; refine (H5.out _ h5).mono ?_; rintro e w6 ⟨h6, A6, c6, rfl, r6⟩; have r4 := r4.on h6; have r5 := r5.on h6; have h6 := h5.trs h6)
      | (go_at_call 46; refine (H6.out _ h6).mono ?_; rintro e w7 ⟨h7, A7, c7, rfl, r7⟩; have r4 := r4.on h7; have r5 := r5.on h7; have r6 := r6.on h7; have h7 := h6.trs h7)
      | (go_at_call 36; refine (HS3.out _ _ _ _ _ r6 r7).mono ?_; rintro e w9 ⟨rfl, h9⟩; have h9 := h8.trs h9)
      | (go_at_call 15; refine (Sane_any _).mono ?_; rintro e w11 ⟨rfl, h11⟩))
    go_ret
    exact ⟨ret_bool (by first | rfl | simp), h9.trs h11⟩
  · have hd : decide ((40 : Int) < L.length) = true := by simp; omega
    go_enter Try.func8, Try.ntmps8
    go_wp2_with (first
      | (go_at_call 14; refine (Long_any _ _ _ _).mono ?_; rintro e w' ⟨rfl, rfl⟩)
      | (go_at_call 15; refine (Sane_any _).mono ?_; rintro e w10 ⟨rfl, h10⟩))
    go_ret
    exact ⟨rfl, h10⟩
end Go.Proofs.Ytdafiblnanpiiaa
