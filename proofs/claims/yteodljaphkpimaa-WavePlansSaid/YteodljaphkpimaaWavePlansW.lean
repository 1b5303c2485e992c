/- The walk of WavePlans. -/
import Derived.Test.YteodljaphkpimaaWvY
namespace Go.Proofs.Yteodljaphkpimaa
open Go.RowKit Go.Shelf
set_option linter.unusedSimpArgs false
set_option linter.unusedVariables false
attribute [local go_sem] Oper.semAt_some

set_option maxRecDepth 100000 in
set_option maxHeartbeats 4000000 in
theorem WavePlans_walk (w : World) (A : Option Addr) (c : Nat) (l : List Int) (hr : RdI w w.heap.size A l ∧ ∀ x ∈ l, (Lit.int .i64 x).wf = true) (hl : l.length ≤ maxLen) (A2 : Option Addr) (c2 : Nat) (l2 : List Int) (hr2 : RdI w w.heap.size A2 l2 ∧ ∀ x ∈ l2, (Lit.int .i64 x).wf = true) (hl2 : l2.length ≤ maxLen) :
    Calls Try.prog 4 #[.slice A l.length c, .slice A2 l2.length c2] w fun e w' => e = .returned (.bool true) ∧ Below w.heap.size w w' := by
  replace hr := hr.1
  replace hr2 := hr2.1
  have HMa := Lib.hid (fun W => Many_any A c l.length W)
  have HMb := Lib.hid (fun W => Many_any A2 c2 l2.length W)
  have HAw := Lib.hid Awake_any
  by_cases hM : 200 < (l.length : Int)
  · rw [show decide (200 < (l.length : Int)) = true from decide_eq_true hM] at HMa
    clear hr hr2 hM
    go_enter Try.func4, Try.ntmps4
    go_wp2_with (first
      | (go_at_call 6; refine (HMa.out _).mono ?_; rintro e w1 ⟨rfl, rfl⟩)
      | (go_at_call 7; refine (HAw.out _).mono ?_; rintro e w2 ⟨rfl, h2⟩))
    go_ret
    exact ⟨rfl, h2⟩
  · rw [show decide (200 < (l.length : Int)) = false from decide_eq_false hM] at HMa
    by_cases hM2 : 200 < (l2.length : Int)
    · rw [show decide (200 < (l2.length : Int)) = true from decide_eq_true hM2] at HMb
      clear hr hr2 hM hM2
      go_enter Try.func4, Try.ntmps4
      go_wp2_with (first
        | (go_at_call 6; have := w1; refine (HMb.out _).mono ?_; rintro e w2 ⟨rfl, rfl⟩)
        | (go_at_call 6; refine (HMa.out _).mono ?_; rintro e w1 ⟨rfl, hw1⟩; rw [hw1]; clear hw1)
        | (go_at_call 7; refine (HAw.out _).mono ?_; rintro e w2 ⟨rfl, h2⟩))
      go_ret
      exact ⟨rfl, h2⟩
    · rw [show decide (200 < (l2.length : Int)) = false from decide_eq_false hM2] at HMb
      have HP := Lib.hid (fun W (hW : Below w.heap.size w W) => Plan_any A c A2 c2 l l2 W (hr.on hW) (hr2.on hW) (by omega) (by omega))
      have HQ := Lib.hid (fun W (hW : Below w.heap.size w W) => refPlan_any A c A2 c2 l l2 W (hr.on hW) (hr2.on hW) (by omega) (by omega))
      unfold PlanQ at HP HQ
      clear hr hr2 hM hM2
      generalize planX l l2 = X at *
      generalize planE l l2 = E at *
      generalize l.length = n at *
      generalize l2.length = n2 at *
      go_enter Try.func4, Try.ntmps4
      go_wp2_with (first
        | (go_at_call 6; have := w1; refine (HMb.out _).mono ?_; rintro e w2 ⟨rfl, rfl⟩)
        | (go_at_call 6; refine (HMa.out _).mono ?_; rintro e w1 ⟨rfl, hw1⟩; rw [hw1]; clear hw1)
        | (go_at_call 11; refine (HP.out _ (Below.refl _ _)).mono ?_; rintro e w3 ⟨rfl, h3⟩)
        | (go_at_call 12; refine (HQ.out _ h3).mono ?_; rintro e w4 ⟨rfl, h4⟩)
        | (go_at_call 7; refine (HAw.out _).mono ?_; rintro e w5 ⟨rfl, h5⟩))
      go_ret
      exact ⟨by simp, (h3.trs h4).trs h5⟩
end Go.Proofs.Yteodljaphkpimaa
