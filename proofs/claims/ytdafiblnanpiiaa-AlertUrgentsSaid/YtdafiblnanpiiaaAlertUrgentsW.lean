/- The walk of the law AlertUrgents. -/
import Derived.Test.YtdafiblnanpiiaaAlUrR
import Derived.Test.YtdafiblnanpiiaaAlertStretchesW
namespace Go.Proofs.Ytdafiblnanpiiaa
open Go.RowKit
set_option linter.unusedSimpArgs false
set_option linter.unusedVariables false

theorem CanV_form (L : List (Int × Int × Int)) : ∃ (d : Bool) (e : Int), CanV L = .tuple #[.bool d, .int .i64 e] := ⟨_, _, rfl⟩
theorem LonV_form (L : List (Int × Int × Int)) : ∃ x y e : Int, LonV L = .tuple #[.int .i64 x, .int .i64 y, .int .i64 e] := by
  unfold LonV; split <;> exact ⟨_, _, _, rfl⟩

set_option maxRecDepth 100000 in
set_option maxHeartbeats 8000000 in
theorem AlertUrgents_walk (w : World) (A : Option Addr) (c : Nat) (L : List (Int × Int × Int)) (hr : RdT w w.heap.size A L) (_hm : L.length ≤ maxLen) :
    Calls Try.prog 7 #[.slice A L.length c] w fun e w' => e = .returned (.bool true) ∧ Below w.heap.size w w' := by
  have HR := Lib.hid hr; clear hr
  by_cases hl : L.length ≤ 40
  · have hd : decide ((40 : Int) < L.length) = false := by simp; omega
    have hl2 : L.length ≤ 1125899906842624 := by omega
    have H1 := Lib.hid (fun W (hW : Below w.heap.size w W) => Urgent_any A c L W (HR.out.on hW) hl2)
    have H2 := Lib.hid (fun W (hW : Below w.heap.size w W) => refUrgent_any A c L W (HR.out.on hW) hl2)
    have H3 := Lib.hid (fun W (hW : Below w.heap.size w W) => Can_any A c L W (HR.out.on hW) hl2)
    have H4 := Lib.hid (fun W (hW : Below w.heap.size w W) => refCan_any A c L W (HR.out.on hW) hl2)
    have H5 := Lib.hid (fun W (hW : Below w.heap.size w W) => Undone_any A c L W (HR.out.on hW) hl2)
    have H6 := Lib.hid (fun W (hW : Below w.heap.size w W) => refUndone_any A c L W (HR.out.on hW) hl2)
    have H7 := Lib.hid (fun W (hW : Below w.heap.size w W) => Longest_any A c L W (HR.out.on hW) hl2)
    have H8 := Lib.hid (fun W (hW : Below w.heap.size w W) => refLongest_any A c L W (HR.out.on hW) hl2)
    unfold OutI at H1 H2 H5 H6
    have hul : (if vldT L then urg L else []).length ≤ 1000000 := by split <;> simp [urg_len]
    have hdl : (if vldT L then und L else []).length ≤ 1000000 := by
      split
      · have := undI_len L (urg L) L.length; unfold und; omega
      · simp
    obtain ⟨d, e, hc⟩ := CanV_form L
    obtain ⟨x, y, e3, hlo⟩ := LonV_form L
    rw [hc] at H3 H4
    rw [hlo] at H7 H8
    have HS1 := Lib.hid (fun A c A2 c2 W h1 h2 => SameInts_any A c A2 c2 (if vldT L then urg L else []) W h1 h2 hul)
    have HS2 := Lib.hid (fun A c A2 c2 W h1 h2 => SameInts_any A c A2 c2 (if vldT L then und L else []) W h1 h2 hdl)
    clear hc hlo HR hul hdl
    generalize (if vldT L then urg L else []) = ul at *
    generalize (if vldT L then und L else []) = dl at *
    generalize SlackE L = se at *
    generalize L.length = n at *
    generalize hu1 : ul.length = u1 at *
    generalize hu2 : dl.length = u2 at *
    clear hu1 hu2
    go_enter Try.func7, Try.ntmps7
    go_wp2_with (first
      | (go_at_call 14; refine (Long_any _ _ _ _).mono ?_; rintro e w' ⟨rfl, rfl⟩)
      | (go_at_call 31; refine (H1.out _ (Below.refl _ _)).mono ?_; rintro e w1 ⟨h1, A1, c1, rfl, r1⟩)
      | (go_at_call 34; refine (H2.out _ h1).mono ?_; rintro e w2 ⟨h2, A2, c2, rfl, r2⟩; have r1 := r1.on h2; have h2 := h1.trs h2)
      | (go_at_call 24; refine (H3.out _ h2).mono ?_; rintro e w3 ⟨rfl, h3⟩; have r1 := r1.on h3; have r2 := r2.on h3; have h3 := h2.trs h3)
      | (go_at_call 35; refine (H4.out _ h3).mono ?_; rintro e w4 ⟨rfl, h4⟩; have r1 := r1.on h4; have r2 := r2.on h4; have h4 := h3.trs h4)
      | (have := w8; go_at_call 36; refine (HS2.out _ _ _ _ _ r6 r7).mono ?_; rintro e w10 ⟨rfl, h10⟩; have h10 := h9.trs h10)
      | (go_at_call 36; refine (HS1.out _ _ _ _ _ r1 r2).mono ?_; rintro e w5 ⟨rfl, h5⟩; have h5 := h4.trs h5)
      | (go_at_call 37; refine (H5.out _ h5).mono ?_; rintro e w6 ⟨h6, A6, c6, rfl, r6⟩; have h6 := h5.trs h6)
      | (go_at_call 38; refine (H6.out _ h6).mono ?_; rintro e w7 ⟨h7, A7, c7, rfl, r7⟩; have r6 := r6.on h7; have h7 := h6.trs h7)
      | (go_at_call 39; refine (H7.out _ h7).mono ?_; rintro e w8 ⟨rfl, h8⟩; have r6 := r6.on h8; have r7 := r7.on h8; have h8 := h7.trs h8)
      | (go_at_call 40; refine (H8.out _ h8).mono ?_; rintro e w9 ⟨rfl, h9⟩; have r6 := r6.on h9; have r7 := r7.on h9; have h9 := h8.trs h9)
      | (go_at_call 15; refine (Sane_any _).mono ?_; rintro e w11 ⟨rfl, h11⟩))
    go_ret
    exact ⟨ret_bool (by first | rfl | simp), h10.trs h11⟩
  · have hd : decide ((40 : Int) < L.length) = true := by simp; omega
    go_enter Try.func7, Try.ntmps7
    go_wp2_with (first
      | (go_at_call 14; refine (Long_any _ _ _ _).mono ?_; rintro e w' ⟨rfl, rfl⟩)
      | (go_at_call 15; refine (Sane_any _).mono ?_; rintro e w10 ⟨rfl, h10⟩))
    go_ret
    exact ⟨rfl, h10⟩
end Go.Proofs.Ytdafiblnanpiiaa
