/- The walk of the law SkyPairs. -/
import Derived.Test.YtolgpigdioanoaaSkyDb
import Derived.Test.YtolgpigdioanoaaSkyE
namespace Go.Proofs.Ytolgpigdioanoaa
open Go.RowKit
set_option linter.unusedSimpArgs false
set_option linter.unusedVariables false

set_option maxRecDepth 100000 in
set_option maxHeartbeats 4000000 in
theorem SkyPairs_walk (w : World) (A : Option Addr) (c : Nat) (l : List (Int × Int)) (hr : RdP w w.heap.size A l) (hm : l.length ≤ maxLen) (A2 : Option Addr) (c2 : Nat) (m : List (Int × Int)) (hr2 : RdP w w.heap.size A2 m) (hm2 : m.length ≤ maxLen) :
    Calls Try.prog 12 #[.slice A l.length c, .slice A2 m.length c2] w fun e w' => e = .returned (.bool true) ∧ Below w.heap.size w w' := by
  by_cases h1 : l.length ≤ 1000
  · have d1 : decide ((1000 : Int) < (l.length : Int)) = false := by rw [decide_eq_false_iff_not]; omega
    by_cases h2 : m.length ≤ 1000
    · have d2 : decide ((1000 : Int) < (m.length : Int)) = false := by rw [decide_eq_false_iff_not]; omega
      have J1 := Lib.hid (fun W (hW : Below w.heap.size w W) => Join_any A c l A2 c2 m W (hr.on hW) (by omega) (hr2.on hW) (by omega))
      have J2 := Lib.hid (fun W (hW : Below w.heap.size w W) => refJoin_any A c l A2 c2 m W (hr.on hW) (by omega) (hr2.on hW) (by omega))
      have B1 := Lib.hid (fun W (hW : Below w.heap.size w W) => Both_any A c l A2 c2 m W (hr.on hW) (by omega) (hr2.on hW) (by omega))
      have B2 := Lib.hid (fun W (hW : Below w.heap.size w W) => refBoth_any A c l A2 c2 m W (hr.on hW) (by omega) (hr2.on hW) (by omega))
      have W1 := Lib.hid (fun W (hW : Below w.heap.size w W) => Without_any A c l A2 c2 m W (hr.on hW) (by omega) (hr2.on hW) (by omega))
      have W2 := Lib.hid (fun W (hW : Below w.heap.size w W) => refWithout_any A c l A2 c2 m W (hr.on hW) (by omega) (hr2.on hW) (by omega))
      have R1 := Lib.hid (fun W (hW : Below w.heap.size w W) => Rest_any A c l W (hr.on hW) (by omega))
      have R2 := Lib.hid (fun W (hW : Below w.heap.size w W) => refRest_any A c l W (hr.on hW) (by omega))
      have hl1 := mixL_len l m (joinR l m)
      have hl2 := mixL_len l m (bothR l m)
      have hl3 := mixL_len l m (lessR l m)
      have hl4 := mixL_len skyL l (lessR skyL l)
      unfold LstQ at *
      generalize mixL l m (joinR l m) = L1 at *
      generalize mixE l m (joinR l m) = E1 at *
      generalize mixL l m (bothR l m) = L2 at *
      generalize mixE l m (bothR l m) = E2 at *
      generalize mixL l m (lessR l m) = L3 at *
      generalize mixE l m (lessR l m) = E3 at *
      generalize mixL skyL l (lessR skyL l) = L4 at *
      generalize mixE skyL l (lessR skyL l) = E4 at *
      have S1 := Lib.hid (fun A A' c c' W h h' => Same_self A A' c c' L1 W h h' (by omega))
      have S2 := Lib.hid (fun A A' c c' W h h' => Same_self A A' c c' L2 W h h' (by omega))
      have S3 := Lib.hid (fun A A' c c' W h h' => Same_self A A' c c' L3 W h h' (by omega))
      have S4 := Lib.hid (fun A A' c c' W h h' => Same_self A A' c c' L4 W h h' (by omega))
      clear hr hr2 hm hm2 h1 h2 hl1 hl2 hl3 hl4
      generalize l.length = n at *
      generalize m.length = n2 at *
      generalize L1.length = k1 at *
      generalize L2.length = k2 at *
      generalize L3.length = k3 at *
      generalize L4.length = k4 at *
      go_enter Try.func12, Try.ntmps12
      go_wp2_with (first
        | (go_at_call 42; refine (Long_any _ _ _ _ _).mono ?_; rintro e w' ⟨rfl, rfl⟩; first | rw [d1] | rw [d2])
        | (go_at_call 47; refine (J1.out _ (Below.refl _ _)).mono ?_; rintro e w1 ⟨g1, A1, c1, rfl, r1⟩)
        | (go_at_call 48; refine (J2.out _ g1).mono ?_; rintro e w2 ⟨g2', A2, c2, rfl, r2⟩; have g2 := g1.trs g2'; have r1' := r1.on g2')
        | (go_at_call 49; refine (B1.out _ s1).mono ?_; rintro e w4 ⟨g4', A4, c4, rfl, r4⟩; have g4 := s1.trs g4')
        | (go_at_call 50; refine (B2.out _ g4).mono ?_; rintro e w5 ⟨g5', A5, c5, rfl, r5⟩; have g5 := g4.trs g5'; have r4' := r4.on g5')
        | (go_at_call 51; refine (W1.out _ s2).mono ?_; rintro e w7 ⟨g7', A7, c7, rfl, r7⟩; have g7 := s2.trs g7')
        | (go_at_call 52; refine (W2.out _ g7).mono ?_; rintro e w8 ⟨g8', A8, c8, rfl, r8⟩; have g8 := g7.trs g8'; have r7' := r7.on g8')
        | (go_at_call 53; refine (R1.out _ s3).mono ?_; rintro e w10 ⟨g10', A10, c10, rfl, r10⟩; have g10 := s3.trs g10')
        | (go_at_call 54; refine (R2.out _ g10).mono ?_; rintro e w11 ⟨g11', A11, c11, rfl, r11⟩; have g11 := g10.trs g11'; have r10' := r10.on g11')
        | (go_at_call 41; have hy := g11; refine (S4.out _ _ _ _ _ r10' r11).mono ?_; rintro e w12 ⟨rfl, h12⟩; have s4 := g11.trs h12)
        | (go_at_call 41; have hy := g8; refine (S3.out _ _ _ _ _ r7' r8).mono ?_; rintro e w9 ⟨rfl, h9⟩; have s3 := g8.trs h9)
        | (go_at_call 41; have hy := g5; refine (S2.out _ _ _ _ _ r4' r5).mono ?_; rintro e w6 ⟨rfl, h6⟩; have s2 := g5.trs h6)
        | (go_at_call 41; have hy := g2; refine (S1.out _ _ _ _ _ r1' r2).mono ?_; rintro e w3 ⟨rfl, h3⟩; have s1 := g2.trs h3)
        | (go_at_call 22; refine (Sane_any _).mono ?_; rintro e w13 ⟨rfl, h13⟩))
      go_ret
      exact ⟨by first | rfl | simp, s4.trs h13⟩
    · have d2 : decide ((1000 : Int) < (m.length : Int)) = true := by rw [decide_eq_true_eq]; omega
      clear hr hr2 hm hm2 h1 h2
      generalize l.length = n at *
      generalize m.length = n2 at *
      go_enter Try.func12, Try.ntmps12
      go_wp2_with (first
        | (go_at_call 42; refine (Long_any _ _ _ _ _).mono ?_; rintro e w' ⟨rfl, rfl⟩; first | rw [d1] | rw [d2])
        | (go_at_call 22; refine (Sane_any _).mono ?_; rintro e w13 ⟨rfl, h13⟩))
      go_ret
      exact ⟨by first | rfl | simp, h13⟩
  · have d1 : decide ((1000 : Int) < (l.length : Int)) = true := by rw [decide_eq_true_eq]; omega
    clear hr hr2 hm hm2 h1
    generalize l.length = n at *
    generalize m.length = n2 at *
    go_enter Try.func12, Try.ntmps12
    go_wp2_with (first
      | (go_at_call 42; refine (Long_any _ _ _ _ _).mono ?_; rintro e w' ⟨rfl, rfl⟩; rw [d1])
      | (go_at_call 22; refine (Sane_any _).mono ?_; rintro e w13 ⟨rfl, h13⟩))
    go_ret
    exact ⟨by first | rfl | simp, h13⟩
end Go.Proofs.Ytolgpigdioanoaa
