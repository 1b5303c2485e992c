/- The walk of TopIce. -/
import Derived.Test.YtbocedbonaeohaaIceY
import Derived.Test.YtbocedbonaeohaaIceLaw6
import Derived.Test.YtbocedbonaeohaaIceOthersW
import Derived.Test.YtbocedbonaeohaaIceU
import Derived.Test.YtbocedbonaeohaaIceV
namespace Go.Proofs.Ytbocedbonaeohaa
set_option linter.unusedVariables false
open Go.RowKit

set_option maxRecDepth 100000 in
set_option maxHeartbeats 16000000 in
theorem TopIce_p1 (w : World) (A : Option Addr) (q c : Nat) (s er g h m1 : Int) (lt ar : Bool) (A0 A1 : Option Addr) (n0 c0 n1 c1 m : Nat) (lam dk : List Int) (T : List (Int × Int))
    (hq : ¬ (60 : Int) < (q : Int)) (hs0 : 0 ≤ s) (hs1 : s ≤ 100000) (hn0 : n0 ≤ 700) (hn1 : n1 ≤ 700) (hm : m ≤ 600) (hm1 : (m : Int) - 1 = m1)
    (hg : g = 0 ∨ g = 2) (hh : (ar = true ∧ h = 0) ∨ (ar = false ∧ h = 0) ∨ (ar = false ∧ h = 2))
    (k1 : er = 0 → lt = true → m ≤ n0) (k2 : er = 0 → ar = true → n1 ≤ m) (k3 : lt = true → ar = true → n1 ≤ n0)
    (hc : er = 5 ∧ m = 0 ∧ lt = false)
    (HV : ∀ W : World, Below (w.alloc (.cells #[.slice A0 n0 c0, .slice A1 n1 c1] 24)).heap.size (w.alloc (.cells #[.slice A0 n0 c0, .slice A1 n1 c1] 24)) W → Calls Try.prog 5 #[.slice A q c] W fun e w' => e = .returned (.bool true) ∧ W = w')
    (HT : ∀ W : World, Below (w.alloc (.cells #[.slice A0 n0 c0, .slice A1 n1 c1] 24)).heap.size (w.alloc (.cells #[.slice A0 n0 c0, .slice A1 n1 c1] 24)) W → Calls Try.prog 7 #[.slice A q c] W fun e w' => ∃ A' c', e = .returned (.tuple #[.slice A' q c', .int .i64 0]) ∧ Below W.heap.size W w' ∧ Hid (RdP w' w'.heap.size A' T))
    (H1 : ∀ W : World, Below (w.alloc (.cells #[.slice A0 n0 c0, .slice A1 n1 c1] 24)).heap.size (w.alloc (.cells #[.slice A0 n0 c0, .slice A1 n1 c1] 24)) W → Calls Try.prog 8 #[.slice A q c, .int .i64 s] W fun e w' => ∃ A' c', e = .returned (.tuple #[.slice A' m c', .int .i64 er]) ∧ Below W.heap.size W w' ∧ Hid (RdI w' w'.heap.size A' lam))
    (HB : ∀ (W : World) A' c', Below (w.alloc (.cells #[.slice A0 n0 c0, .slice A1 n1 c1] 24)).heap.size (w.alloc (.cells #[.slice A0 n0 c0, .slice A1 n1 c1] 24)) W → RdP W W.heap.size A' T → Calls Try.prog 8 #[.slice A' q c', .int .i64 s] W fun e w' => ∃ A' c', e = .returned (.tuple #[.slice A' m c', .int .i64 er]) ∧ Below W.heap.size W w')
    (H2 : ∀ W : World, Below (w.alloc (.cells #[.slice A0 n0 c0, .slice A1 n1 c1] 24)).heap.size (w.alloc (.cells #[.slice A0 n0 c0, .slice A1 n1 c1] 24)) W → Calls Try.prog 9 #[.slice A q c, .int .i64 s] W fun e w' => ∃ A' c', e = .returned (.tuple #[.slice A' m c', .int .i64 er]) ∧ Below W.heap.size W w' ∧ Hid (RdI w' w'.heap.size A' dk))
    (H3 : ∀ W : World, Below (w.alloc (.cells #[.slice A0 n0 c0, .slice A1 n1 c1] 24)).heap.size (w.alloc (.cells #[.slice A0 n0 c0, .slice A1 n1 c1] 24)) W → Calls Try.prog 10 #[.slice A q c, .int .i64 s, .slice A0 n0 c0] W fun e w' => e = .returned (.tuple #[.bool lt, .int .i64 g]) ∧ Below W.heap.size W w')
    (H4 : ∀ W : World, Below (w.alloc (.cells #[.slice A0 n0 c0, .slice A1 n1 c1] 24)).heap.size (w.alloc (.cells #[.slice A0 n0 c0, .slice A1 n1 c1] 24)) W → Calls Try.prog 11 #[.slice A q c, .int .i64 s, .slice A1 n1 c1] W fun e w' => e = .returned (.tuple #[.bool ar, .int .i64 h]) ∧ Below W.heap.size W w')
    (H5 : er = 0 → ∀ (W : World) A' c', Below (w.alloc (.cells #[.slice A0 n0 c0, .slice A1 n1 c1] 24)).heap.size (w.alloc (.cells #[.slice A0 n0 c0, .slice A1 n1 c1] 24)) W → RdI W W.heap.size A' lam → Calls Try.prog 12 #[.slice A q c, .int .i64 s, .slice A' m c'] W fun e w' => e = .returned (.tuple #[.bool true, .int .i64 0]) ∧ Below W.heap.size W w')
    (H6 : er = 0 → ∀ (W : World) A' c', Below (w.alloc (.cells #[.slice A0 n0 c0, .slice A1 n1 c1] 24)).heap.size (w.alloc (.cells #[.slice A0 n0 c0, .slice A1 n1 c1] 24)) W → RdI W W.heap.size A' dk → Calls Try.prog 13 #[.slice A q c, .int .i64 s, .slice A' m c'] W fun e w' => e = .returned (.tuple #[.bool true, .int .i64 0]) ∧ Below W.heap.size W w')
    (H7 : er = 0 → ∀ W : World, Below (w.alloc (.cells #[.slice A0 n0 c0, .slice A1 n1 c1] 24)).heap.size (w.alloc (.cells #[.slice A0 n0 c0, .slice A1 n1 c1] 24)) W → Calls Try.prog 14 #[.slice A q c, .int .i64 m] W fun e w' => ∃ le : Int, e = .returned (.tuple #[.int .i64 le, .int .i64 0]) ∧ decide (s < le) = false ∧ Below W.heap.size W w')
    (H8 : er = 0 → ∀ W : World, Below (w.alloc (.cells #[.slice A0 n0 c0, .slice A1 n1 c1] 24)).heap.size (w.alloc (.cells #[.slice A0 n0 c0, .slice A1 n1 c1] 24)) W → 1 < m → Calls Try.prog 14 #[.slice A q c, .int .i64 m1] W fun e w' => ∃ mo : Int, e = .returned (.tuple #[.int .i64 mo, .int .i64 0]) ∧ decide (s < mo) = true ∧ Below W.heap.size W w') :
    Calls Try.prog 3 #[.slice A q c, .int .i64 s, .agg #[.slice A0 n0 c0, .slice A1 n1 c1]] w fun e w' => e = .returned (.bool true) ∧ Below w.heap.size w w' := by
  have V := Lib.hid HV; have LT := Lib.hid HT; have L1 := Lib.hid H1; have LB := Lib.hid HB; have L2 := Lib.hid H2; have L3 := Lib.hid H3; have L4 := Lib.hid H4
  clear HV HT H1 HB H2 H3 H4
  have hB0 := below_alloc w (.cells #[.slice A0 n0 c0, .slice A1 n1 c1] 24)
  have hbx := Box.new w 24 #[.slice A0 n0 c0, .slice A1 n1 c1]
  have B0 : (w.alloc (.cells #[.slice A0 n0 c0, .slice A1 n1 c1] 24)).cell? ⟨w.heap.size, 0, none⟩ = some (.slice A0 n0 c0) := hbx.cell 0
  have B1 : (w.alloc (.cells #[.slice A0 n0 c0, .slice A1 n1 c1] 24)).cell? ⟨w.heap.size, 1, none⟩ = some (.slice A1 n1 c1) := hbx.cell 1
  clear hbx
  have hb := Below.refl (w.alloc (.cells #[.slice A0 n0 c0, .slice A1 n1 c1] 24)).heap.size (w.alloc (.cells #[.slice A0 n0 c0, .slice A1 n1 c1] 24))
  have y0 := B0
  have y1 := B1
  have hd : decide ((60 : Int) < (q : Int)) = false := by simpa using hq
  have ds0 : decide (s < 0) = false := by rw [decide_eq_false_iff_not]; omega
  have ds1 : decide ((100000 : Int) < s) = false := by rw [decide_eq_false_iff_not]; omega
  have d0 : decide ((700 : Int) < (n0 : Int)) = false := by rw [decide_eq_false_iff_not]; omega
  have d1 : decide ((700 : Int) < (n1 : Int)) = false := by rw [decide_eq_false_iff_not]; omega
  have e0 : (n0 : Int) ≤ 700 := by omega
  have e1 : (n1 : Int) ≤ 700 := by omega
  have e2 : (m : Int) ≤ 600 := by omega
  have d6 : decide ((600 : Int) < (m : Int)) = false := by rw [decide_eq_false_iff_not]; omega
  have K1 : er = 0 → lt = true → decide ((n0 : Int) < (m : Int)) = false := fun hz hx => by have := k1 hz hx; rw [decide_eq_false_iff_not]; omega
  have K2 : er = 0 → ar = true → decide ((m : Int) < (n1 : Int)) = false := fun hz hx => by have := k2 hz hx; rw [decide_eq_false_iff_not]; omega
  have K3 : lt = true → ar = true → decide ((n0 : Int) < (n1 : Int)) = false := fun hx hy => by have := k3 hx hy; rw [decide_eq_false_iff_not]; omega
  have rm : -9223372036854775808 ≤ m1 ∧ m1 ≤ 9223372036854775807 := by omega
  clear k1 k2 k3 hq hs0 hs1 hn0 hn1
  obtain ⟨rfl, rfl, rfl⟩ := hc
  clear H5 H6 H7 H8 hm1 K1 K3
  have hmz : ((0 : Nat) : Int) = 0 := rfl
  rcases hg with rfl | rfl
  all_goals
    rcases hh with ⟨rfl, rfl⟩ | ⟨rfl, rfl⟩ | ⟨rfl, rfl⟩
    all_goals
      clear K2
      go_enter Try.func3, Try.ntmps3
      go_wp2_with (first
            | (go_at_call 4; refine (Long_any _ _ _ _).mono ?_; rintro e w' ⟨rfl, rfl⟩)
            | (go_at_call 5; refine (V.out _ hb).mono ?_; rintro e w' ⟨rfl, rfl⟩)
            | (go_at_call 7; refine (LT.out _ hb).mono ?_; rintro e wT ⟨AT, cT, rfl, hT, RT⟩; clear y0 y1; have hb := hb.trs hT; have y0 := (hb.cell (p := ⟨w.heap.size, 0, none⟩) (by simp)).trans B0; have y1 := (hb.cell (p := ⟨w.heap.size, 1, none⟩) (by simp)).trans B1)
            | (go_at_call 8; first
                | (have := tkL; refine (LB.out _ _ _ hb (RT.out.on h1)).mono ?_; rintro e wk ⟨Ak, ck, rfl, hk⟩; clear y0 y1; have hb := hb.trs hk; have y0 := (hb.cell (p := ⟨w.heap.size, 0, none⟩) (by simp)).trans B0; have y1 := (hb.cell (p := ⟨w.heap.size, 1, none⟩) (by simp)).trans B1)
                | (refine (L1.out _ hb).mono ?_; rintro e w1 ⟨A1', c1', rfl, h1, R1⟩; clear y0 y1; have hb := hb.trs h1; have tkL := trivial; have y0 := (hb.cell (p := ⟨w.heap.size, 0, none⟩) (by simp)).trans B0; have y1 := (hb.cell (p := ⟨w.heap.size, 1, none⟩) (by simp)).trans B1))
            | (go_at_call 9; refine (L2.out _ hb).mono ?_; rintro e w2 ⟨A2', c2', rfl, h2, R2⟩; clear y0 y1; have hb := hb.trs h2; have y0 := (hb.cell (p := ⟨w.heap.size, 0, none⟩) (by simp)).trans B0; have y1 := (hb.cell (p := ⟨w.heap.size, 1, none⟩) (by simp)).trans B1)
            | (go_at_call 10; refine (L3.out _ hb).mono ?_; rintro e w3 ⟨rfl, h3⟩; clear y0 y1; have hb := hb.trs h3; have y0 := (hb.cell (p := ⟨w.heap.size, 0, none⟩) (by simp)).trans B0; have y1 := (hb.cell (p := ⟨w.heap.size, 1, none⟩) (by simp)).trans B1)
            | (go_at_call 11; refine (L4.out _ hb).mono ?_; rintro e w4 ⟨rfl, h4⟩; clear y0 y1; have hb := hb.trs h4; have y0 := (hb.cell (p := ⟨w.heap.size, 0, none⟩) (by simp)).trans B0; have y1 := (hb.cell (p := ⟨w.heap.size, 1, none⟩) (by simp)).trans B1)
            | (go_at_call 12; refine (L5.out _ _ _ hb ((((R1.out.on hk).on h2).on h3).on h4)).mono ?_; rintro e w5 ⟨rfl, h5⟩; clear y0 y1; have hb := hb.trs h5; have y0 := (hb.cell (p := ⟨w.heap.size, 0, none⟩) (by simp)).trans B0; have y1 := (hb.cell (p := ⟨w.heap.size, 1, none⟩) (by simp)).trans B1)
            | (go_at_call 13; refine (L6.out _ _ _ hb (((R2.out.on h3).on h4).on h5)).mono ?_; rintro e w6 ⟨rfl, h6⟩; clear y0 y1; have hb := hb.trs h6; have y0 := (hb.cell (p := ⟨w.heap.size, 0, none⟩) (by simp)).trans B0; have y1 := (hb.cell (p := ⟨w.heap.size, 1, none⟩) (by simp)).trans B1)
            | (go_at_call 6; refine (Sane_any _).mono ?_; rintro e w8 ⟨rfl, h8⟩; have hb := hb.trs h8))
      all_goals (go_ret; exact ⟨rfl, hB0.trs hb⟩)
end Go.Proofs.Ytbocedbonaeohaa
