/- The walk of WaveEncodes. -/
import Derived.Test.YteodljaphkpimaaWvZ
namespace Go.Proofs.Yteodljaphkpimaa
open Go.RowKit Go.Shelf
set_option linter.unusedSimpArgs false
set_option linter.unusedVariables false
attribute [local go_sem] Oper.semAt_some

set_option maxRecDepth 100000 in
set_option maxHeartbeats 4000000 in
theorem WaveEncodes_walk (w : World) (A : Option Addr) (c : Nat) (l : List Int) (hr : RdI w w.heap.size A l ∧ ∀ x ∈ l, (Lit.int .i64 x).wf = true) (hl : l.length ≤ maxLen) :
    Calls Try.prog 5 #[.slice A l.length c] w fun e w' => e = .returned (.bool true) ∧ Below w.heap.size w w' := by
  replace hr := hr.1
  have HMa := Lib.hid (fun W => Many_any A c l.length W)
  have HAw := Lib.hid Awake_any
  by_cases hM : 200 < (l.length : Int)
  · rw [show decide (200 < (l.length : Int)) = true from decide_eq_true hM] at HMa
    clear hr hM
    go_enter Try.func5, Try.ntmps5
    go_wp2_with (first
      | (go_at_call 6; refine (HMa.out _).mono ?_; rintro e w1 ⟨rfl, rfl⟩)
      | (go_at_call 7; refine (HAw.out _).mono ?_; rintro e w2 ⟨rfl, h2⟩))
    go_ret
    exact ⟨rfl, h2⟩
  · rw [show decide (200 < (l.length : Int)) = false from decide_eq_false hM] at HMa
    have H1 := Lib.hid (fun W (hW : Below w.heap.size w W) => Encode_any A c l W (hr.on hW) (by omega))
    have H2 := Lib.hid (fun W (hW : Below w.heap.size w W) => refEncodeE_any A c l W (hr.on hW) (by omega))
    have H3 := Lib.hid (fun W (hW : Below w.heap.size w W) => Length_any A c l W (hr.on hW) (by omega))
    have H4 := Lib.hid (fun W (hW : Below w.heap.size w W) => refLength_any A c l W (hr.on hW) (by omega))
    have H5 := Lib.hid (fun W (hW : Below w.heap.size w W) => Wide_any A c l W (hr.on hW) (by omega))
    have H6 := Lib.hid (fun W (hW : Below w.heap.size w W) => refWide_any A c l W (hr.on hW) (by omega))
    have H7 := Lib.hid (fun W (hW : Below w.heap.size w W) => Bound_any A c l W (hr.on hW) (by omega))
    have H8 := Lib.hid (fun W (hW : Below w.heap.size w W) => refBound_any A c l W (hr.on hW) (by omega))
    clear hr hM
    generalize encT l = X at *
    generalize encE l = E at *
    generalize wideT l = Y at *
    generalize boundV l = V at *
    generalize l.length = n at *
    go_enter Try.func5, Try.ntmps5
    go_wp2_with (first
      | (go_at_call 6; refine (HMa.out _).mono ?_; rintro e w1 ⟨rfl, rfl⟩)
      | (go_at_call 13; refine (H1.out _ (Below.refl _ _)).mono ?_; rintro e w3 ⟨rfl, h1⟩)
      | (go_at_call 14; refine (H2.out _ h1).mono ?_; rintro e w4 ⟨rfl, h2⟩; replace h2 := h1.trs h2)
      | (go_at_call 15; refine (H3.out _ h2).mono ?_; rintro e w5 ⟨rfl, h3⟩; replace h3 := h2.trs h3)
      | (go_at_call 16; refine (H4.out _ h3).mono ?_; rintro e w6 ⟨rfl, h4⟩; replace h4 := h3.trs h4)
      | (go_at_call 17; refine (H5.out _ h4).mono ?_; rintro e w7 ⟨rfl, h5⟩; replace h5 := h4.trs h5)
      | (go_at_call 18; refine (H6.out _ h5).mono ?_; rintro e w8 ⟨rfl, h6⟩; replace h6 := h5.trs h6)
      | (go_at_call 19; refine (H7.out _ h6).mono ?_; rintro e w9 ⟨rfl, h7⟩; replace h7 := h6.trs h7)
      | (go_at_call 20; refine (H8.out _ h7).mono ?_; rintro e w10 ⟨rfl, h8⟩; replace h8 := h7.trs h8)
      | (go_at_call 7; refine (HAw.out _).mono ?_; rintro e w11 ⟨rfl, h9⟩))
    go_ret
    exact ⟨by simp, h8.trs h9⟩
end Go.Proofs.Yteodljaphkpimaa
