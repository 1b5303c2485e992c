/- The walk of the law SkyCoarse. -/
import Derived.Test.YtolgpigdioanoaaSkyEc
import Derived.Test.YtolgpigdioanoaaSkyE
namespace Go.Proofs.Ytolgpigdioanoaa
open Go.RowKit
set_option linter.unusedSimpArgs false
set_option linter.unusedVariables false

theorem coarL_len (l : List (Int × Int)) (k : Int) : (coarL l k).length ≤ 400 := by
  unfold coarL
  split
  · exact toldL_len _
  · simp
set_option maxRecDepth 100000 in
set_option maxHeartbeats 4000000 in
theorem SkyCoarse_walk (w : World) (A : Option Addr) (c : Nat) (l : List (Int × Int)) (hr : RdP w w.heap.size A l) (hm : l.length ≤ maxLen) (k : Int) :
    Calls Try.prog 10 #[.slice A l.length c, .int .i64 k] w fun e w' => e = .returned (.bool true) ∧ Below w.heap.size w w' := by
  by_cases h1 : l.length ≤ 1000
  · have d1 : decide ((1000 : Int) < (l.length : Int)) = false := by rw [decide_eq_false_iff_not]; omega
    have C1 := Lib.hid (fun W (hW : Below w.heap.size w W) => Coarse_any A c l k W (hr.on hW) (by omega))
    have C2 := Lib.hid (fun W (hW : Below w.heap.size w W) => refCoarse_any A c l k W (hr.on hW) (by omega))
    have hl1 := coarL_len l k
    unfold LstQ at *
    generalize coarL l k = L1 at *
    generalize coarE l k = E1 at *
    have S1 := Lib.hid (fun A A' c c' W h h' => Same_self A A' c c' L1 W h h' (by omega))
    clear hr hm h1 hl1
    generalize l.length = n at *
    generalize L1.length = k1 at *
    go_enter Try.func10, Try.ntmps10
    go_wp2_with (first
      | (go_at_call 42; refine (Long_any _ _ _ _ _).mono ?_; rintro e w' ⟨rfl, rfl⟩; rw [d1])
      | (go_at_call 43; refine (C1.out _ (Below.refl _ _)).mono ?_; rintro e w1 ⟨g1, A1, c1, rfl, r1⟩)
      | (go_at_call 44; refine (C2.out _ g1).mono ?_; rintro e w2 ⟨g2', A2, c2, rfl, r2⟩; have g2 := g1.trs g2'; have r1' := r1.on g2')
      | (go_at_call 41; refine (S1.out _ _ _ _ _ r1' r2).mono ?_; rintro e w3 ⟨rfl, h3⟩; have s1 := g2.trs h3)
      | (go_at_call 22; refine (Sane_any _).mono ?_; rintro e w13 ⟨rfl, h13⟩))
    go_ret
    exact ⟨by first | rfl | simp, s1.trs h13⟩
  · have d1 : decide ((1000 : Int) < (l.length : Int)) = true := by rw [decide_eq_true_eq]; omega
    clear hr hm h1
    generalize l.length = n at *
    go_enter Try.func10, Try.ntmps10
    go_wp2_with (first
      | (go_at_call 42; refine (Long_any _ _ _ _ _).mono ?_; rintro e w' ⟨rfl, rfl⟩; rw [d1])
      | (go_at_call 22; refine (Sane_any _).mono ?_; rintro e w13 ⟨rfl, h13⟩))
    go_ret
    exact ⟨by first | rfl | simp, h13⟩
end Go.Proofs.Ytolgpigdioanoaa
