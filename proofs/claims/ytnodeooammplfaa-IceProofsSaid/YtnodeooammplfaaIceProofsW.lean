/- The walk of IceProofs. -/
import Derived.Test.YtnodeooammplfaaIceY
import Derived.Test.YtnodeooammplfaaIceAddsW
namespace Go.Proofs.Ytnodeooammplfaa
set_option linter.unusedVariables false
open Go.RowKit

theorem RdI.at_end {w : World} {A : Option Addr} {l : List Int} (h : RdI w w.heap.size A l) : RdI w w.heap.size A l := h
set_option maxRecDepth 100000 in
set_option maxHeartbeats 8000000 in
theorem IceProofs_gen (w : World) (A : Option Addr) (q c : Nat) (s er g h : Int) (lt ar : Bool) (A0 A1 : Option Addr) (n0 c0 n1 c1 m : Nat) (lam dk : List Int)
    (hq : ¬ (60 : Int) < (q : Int)) (hn0 : n0 ≤ 700) (hn1 : n1 ≤ 700) (hm : m ≤ 600)
    (hc : (¬ er = 0 ∧ m = 0 ∧ lt = false) ∨ (er = 0 ∧ ((lt = false ∧ ar = false) ∨ (lt = true ∧ g = 0 ∧ m ≤ n0 ∧ ar = false) ∨ (lt = false ∧ ar = true ∧ h = 0 ∧ n1 ≤ m) ∨ (lt = true ∧ g = 0 ∧ m ≤ n0 ∧ ar = true ∧ h = 0 ∧ n1 ≤ m ∧ n1 ≤ n0))))
    (HV : ∀ W : World, Below (w.alloc (.cells #[.slice A0 n0 c0, .slice A1 n1 c1] 65)).heap.size (w.alloc (.cells #[.slice A0 n0 c0, .slice A1 n1 c1] 65)) W → Calls Try.prog 21 #[.slice A q c] W fun e w' => e = .returned (.bool true) ∧ W = w')
    (H1 : ∀ W : World, Below (w.alloc (.cells #[.slice A0 n0 c0, .slice A1 n1 c1] 65)).heap.size (w.alloc (.cells #[.slice A0 n0 c0, .slice A1 n1 c1] 65)) W → Calls Try.prog 49 #[.slice A q c, .int .i64 s] W fun e w' => ∃ A' c', e = .returned (.tuple #[.slice A' m c', .int .i64 er]) ∧ Below W.heap.size W w' ∧ Hid (RdI w' w'.heap.size A' lam))
    (H2 : ∀ W : World, Below (w.alloc (.cells #[.slice A0 n0 c0, .slice A1 n1 c1] 65)).heap.size (w.alloc (.cells #[.slice A0 n0 c0, .slice A1 n1 c1] 65)) W → Calls Try.prog 50 #[.slice A q c, .int .i64 s] W fun e w' => ∃ A' c', e = .returned (.tuple #[.slice A' m c', .int .i64 er]) ∧ Below W.heap.size W w' ∧ Hid (RdI w' w'.heap.size A' dk))
    (H3 : ∀ W : World, Below (w.alloc (.cells #[.slice A0 n0 c0, .slice A1 n1 c1] 65)).heap.size (w.alloc (.cells #[.slice A0 n0 c0, .slice A1 n1 c1] 65)) W → Calls Try.prog 56 #[.slice A q c, .int .i64 s, .slice A0 n0 c0] W fun e w' => e = .returned (.tuple #[.bool lt, .int .i64 g]) ∧ Below W.heap.size W w')
    (H4 : ∀ W : World, Below (w.alloc (.cells #[.slice A0 n0 c0, .slice A1 n1 c1] 65)).heap.size (w.alloc (.cells #[.slice A0 n0 c0, .slice A1 n1 c1] 65)) W → Calls Try.prog 52 #[.slice A q c, .int .i64 s, .slice A1 n1 c1] W fun e w' => e = .returned (.tuple #[.bool ar, .int .i64 h]) ∧ Below W.heap.size W w')
    (H5 : er = 0 → ∀ (W : World) A' c', Below (w.alloc (.cells #[.slice A0 n0 c0, .slice A1 n1 c1] 65)).heap.size (w.alloc (.cells #[.slice A0 n0 c0, .slice A1 n1 c1] 65)) W → RdI W W.heap.size A' lam → Calls Try.prog 56 #[.slice A q c, .int .i64 s, .slice A' m c'] W fun e w' => e = .returned (.tuple #[.bool true, .int .i64 0]) ∧ Below W.heap.size W w')
    (H6 : er = 0 → ∀ (W : World) A' c', Below (w.alloc (.cells #[.slice A0 n0 c0, .slice A1 n1 c1] 65)).heap.size (w.alloc (.cells #[.slice A0 n0 c0, .slice A1 n1 c1] 65)) W → RdI W W.heap.size A' dk → Calls Try.prog 52 #[.slice A q c, .int .i64 s, .slice A' m c'] W fun e w' => e = .returned (.tuple #[.bool true, .int .i64 0]) ∧ Below W.heap.size W w') :
    Calls Try.prog 15 #[.slice A q c, .int .i64 s, .agg #[.slice A0 n0 c0, .slice A1 n1 c1]] w fun e w' => e = .returned (.bool true) ∧ Below w.heap.size w w' := by
  have V := Lib.hid HV; have L1 := Lib.hid H1; have L2 := Lib.hid H2; have L3 := Lib.hid H3; have L4 := Lib.hid H4
  clear HV H1 H2 H3 H4
  have hB0 := below_alloc w (.cells #[.slice A0 n0 c0, .slice A1 n1 c1] 65)
  have hbx := Box.new w 65 #[.slice A0 n0 c0, .slice A1 n1 c1]
  have B0 : (w.alloc (.cells #[.slice A0 n0 c0, .slice A1 n1 c1] 65)).cell? ⟨w.heap.size, 0, none⟩ = some (.slice A0 n0 c0) := hbx.cell 0
  have B1 : (w.alloc (.cells #[.slice A0 n0 c0, .slice A1 n1 c1] 65)).cell? ⟨w.heap.size, 1, none⟩ = some (.slice A1 n1 c1) := hbx.cell 1
  clear hbx
  have hb := Below.refl (w.alloc (.cells #[.slice A0 n0 c0, .slice A1 n1 c1] 65)).heap.size (w.alloc (.cells #[.slice A0 n0 c0, .slice A1 n1 c1] 65))
  have y0 := B0
  have y1 := B1
  have hd : decide ((60 : Int) < (q : Int)) = false := by simpa using hq
  have d0 : decide ((700 : Int) < (n0 : Int)) = false := by rw [decide_eq_false_iff_not]; omega
  have d1 : decide ((700 : Int) < (n1 : Int)) = false := by rw [decide_eq_false_iff_not]; omega
  have e0 : (n0 : Int) ≤ 700 := by omega
  have e1 : (n1 : Int) ≤ 700 := by omega
  have e2 : (m : Int) ≤ 600 := by omega
  rcases hc with ⟨hne, rfl, rfl⟩ | ⟨rfl, hc⟩
  · clear H5 H6 hq
    go_enter Try.func15, Try.ntmps15
    go_wp2_with (first
      | (go_at_call 16; refine (Long_any _ _ _ _).mono ?_; rintro e w' ⟨rfl, rfl⟩)
      | (go_at_call 21; refine (V.out _ hb).mono ?_; rintro e w' ⟨rfl, rfl⟩)
      | (go_at_call 49; refine (L1.out _ hb).mono ?_; rintro e w1 ⟨A1', c1', rfl, h1, R1⟩; clear y0 y1; have hb := hb.trs h1; have y0 := (hb.cell (p := ⟨w.heap.size, 0, none⟩) (by simp)).trans B0; have y1 := (hb.cell (p := ⟨w.heap.size, 1, none⟩) (by simp)).trans B1)
      | (go_at_call 50; refine (L2.out _ hb).mono ?_; rintro e w2 ⟨A2', c2', rfl, h2, R2⟩; clear y0 y1; have hb := hb.trs h2; have y0 := (hb.cell (p := ⟨w.heap.size, 0, none⟩) (by simp)).trans B0; have y1 := (hb.cell (p := ⟨w.heap.size, 1, none⟩) (by simp)).trans B1)
      | (go_at_call 56; first
          | (have := tk1; refine (L5.out _ _ _ hb (((R1.out.on h2).on h3).on h4)).mono ?_; rintro e w5 ⟨rfl, h5⟩; clear y0 y1; have hb := hb.trs h5; have y0 := (hb.cell (p := ⟨w.heap.size, 0, none⟩) (by simp)).trans B0; have y1 := (hb.cell (p := ⟨w.heap.size, 1, none⟩) (by simp)).trans B1)
          | (refine (L3.out _ hb).mono ?_; rintro e w3 ⟨rfl, h3⟩; clear y0 y1; have hb := hb.trs h3; have tk1 := trivial; have y0 := (hb.cell (p := ⟨w.heap.size, 0, none⟩) (by simp)).trans B0; have y1 := (hb.cell (p := ⟨w.heap.size, 1, none⟩) (by simp)).trans B1))
      | (go_at_call 52; first
          | (have := tk2; refine (L6.out _ _ _ hb (((R2.out.on h3).on h4).on h5)).mono ?_; rintro e w6 ⟨rfl, h6⟩; clear y0 y1; have hb := hb.trs h6; have y0 := (hb.cell (p := ⟨w.heap.size, 0, none⟩) (by simp)).trans B0; have y1 := (hb.cell (p := ⟨w.heap.size, 1, none⟩) (by simp)).trans B1)
          | (refine (L4.out _ hb).mono ?_; rintro e w4 ⟨rfl, h4⟩; clear y0 y1; have hb := hb.trs h4; have tk2 := trivial; have y0 := (hb.cell (p := ⟨w.heap.size, 0, none⟩) (by simp)).trans B0; have y1 := (hb.cell (p := ⟨w.heap.size, 1, none⟩) (by simp)).trans B1))
      | (go_at_call 17; refine (Sane_any _).mono ?_; rintro e w8 ⟨rfl, h8⟩; have hb := hb.trs h8))
    all_goals (go_ret; exact ⟨rfl, hB0.trs hb⟩)
  · have L5 := Lib.hid (H5 rfl); have L6 := Lib.hid (H6 rfl)
    clear H5 H6 hq
    rcases hc with ⟨rfl, rfl⟩ | ⟨rfl, rfl, z1, rfl⟩ | ⟨rfl, rfl, rfl, z1⟩ | ⟨rfl, rfl, z1, rfl, rfl, z2, z3⟩
    · skip
      go_enter Try.func15, Try.ntmps15
      go_wp2_with (first
        | (go_at_call 16; refine (Long_any _ _ _ _).mono ?_; rintro e w' ⟨rfl, rfl⟩)
        | (go_at_call 21; refine (V.out _ hb).mono ?_; rintro e w' ⟨rfl, rfl⟩)
        | (go_at_call 49; refine (L1.out _ hb).mono ?_; rintro e w1 ⟨A1', c1', rfl, h1, R1⟩; clear y0 y1; have hb := hb.trs h1; have y0 := (hb.cell (p := ⟨w.heap.size, 0, none⟩) (by simp)).trans B0; have y1 := (hb.cell (p := ⟨w.heap.size, 1, none⟩) (by simp)).trans B1)
        | (go_at_call 50; refine (L2.out _ hb).mono ?_; rintro e w2 ⟨A2', c2', rfl, h2, R2⟩; clear y0 y1; have hb := hb.trs h2; have y0 := (hb.cell (p := ⟨w.heap.size, 0, none⟩) (by simp)).trans B0; have y1 := (hb.cell (p := ⟨w.heap.size, 1, none⟩) (by simp)).trans B1)
        | (go_at_call 56; first
            | (have := tk1; refine (L5.out _ _ _ hb (((R1.out.on h2).on h3).on h4)).mono ?_; rintro e w5 ⟨rfl, h5⟩; clear y0 y1; have hb := hb.trs h5; have y0 := (hb.cell (p := ⟨w.heap.size, 0, none⟩) (by simp)).trans B0; have y1 := (hb.cell (p := ⟨w.heap.size, 1, none⟩) (by simp)).trans B1)
            | (refine (L3.out _ hb).mono ?_; rintro e w3 ⟨rfl, h3⟩; clear y0 y1; have hb := hb.trs h3; have tk1 := trivial; have y0 := (hb.cell (p := ⟨w.heap.size, 0, none⟩) (by simp)).trans B0; have y1 := (hb.cell (p := ⟨w.heap.size, 1, none⟩) (by simp)).trans B1))
        | (go_at_call 52; first
            | (have := tk2; refine (L6.out _ _ _ hb (((R2.out.on h3).on h4).on h5)).mono ?_; rintro e w6 ⟨rfl, h6⟩; clear y0 y1; have hb := hb.trs h6; have y0 := (hb.cell (p := ⟨w.heap.size, 0, none⟩) (by simp)).trans B0; have y1 := (hb.cell (p := ⟨w.heap.size, 1, none⟩) (by simp)).trans B1)
            | (refine (L4.out _ hb).mono ?_; rintro e w4 ⟨rfl, h4⟩; clear y0 y1; have hb := hb.trs h4; have tk2 := trivial; have y0 := (hb.cell (p := ⟨w.heap.size, 0, none⟩) (by simp)).trans B0; have y1 := (hb.cell (p := ⟨w.heap.size, 1, none⟩) (by simp)).trans B1))
        | (go_at_call 17; refine (Sane_any _).mono ?_; rintro e w8 ⟨rfl, h8⟩; have hb := hb.trs h8))
      all_goals (go_ret; exact ⟨rfl, hB0.trs hb⟩)
    · have k1 : decide ((m : Int) ≤ (n0 : Int)) = true := by rw [decide_eq_true_eq]; omega
      go_enter Try.func15, Try.ntmps15
      go_wp2_with (first
        | (go_at_call 16; refine (Long_any _ _ _ _).mono ?_; rintro e w' ⟨rfl, rfl⟩)
        | (go_at_call 21; refine (V.out _ hb).mono ?_; rintro e w' ⟨rfl, rfl⟩)
        | (go_at_call 49; refine (L1.out _ hb).mono ?_; rintro e w1 ⟨A1', c1', rfl, h1, R1⟩; clear y0 y1; have hb := hb.trs h1; have y0 := (hb.cell (p := ⟨w.heap.size, 0, none⟩) (by simp)).trans B0; have y1 := (hb.cell (p := ⟨w.heap.size, 1, none⟩) (by simp)).trans B1)
        | (go_at_call 50; refine (L2.out _ hb).mono ?_; rintro e w2 ⟨A2', c2', rfl, h2, R2⟩; clear y0 y1; have hb := hb.trs h2; have y0 := (hb.cell (p := ⟨w.heap.size, 0, none⟩) (by simp)).trans B0; have y1 := (hb.cell (p := ⟨w.heap.size, 1, none⟩) (by simp)).trans B1)
        | (go_at_call 56; first
            | (have := tk1; refine (L5.out _ _ _ hb (((R1.out.on h2).on h3).on h4)).mono ?_; rintro e w5 ⟨rfl, h5⟩; clear y0 y1; have hb := hb.trs h5; have y0 := (hb.cell (p := ⟨w.heap.size, 0, none⟩) (by simp)).trans B0; have y1 := (hb.cell (p := ⟨w.heap.size, 1, none⟩) (by simp)).trans B1)
            | (refine (L3.out _ hb).mono ?_; rintro e w3 ⟨rfl, h3⟩; clear y0 y1; have hb := hb.trs h3; have tk1 := trivial; have y0 := (hb.cell (p := ⟨w.heap.size, 0, none⟩) (by simp)).trans B0; have y1 := (hb.cell (p := ⟨w.heap.size, 1, none⟩) (by simp)).trans B1))
        | (go_at_call 52; first
            | (have := tk2; refine (L6.out _ _ _ hb (((R2.out.on h3).on h4).on h5)).mono ?_; rintro e w6 ⟨rfl, h6⟩; clear y0 y1; have hb := hb.trs h6; have y0 := (hb.cell (p := ⟨w.heap.size, 0, none⟩) (by simp)).trans B0; have y1 := (hb.cell (p := ⟨w.heap.size, 1, none⟩) (by simp)).trans B1)
            | (refine (L4.out _ hb).mono ?_; rintro e w4 ⟨rfl, h4⟩; clear y0 y1; have hb := hb.trs h4; have tk2 := trivial; have y0 := (hb.cell (p := ⟨w.heap.size, 0, none⟩) (by simp)).trans B0; have y1 := (hb.cell (p := ⟨w.heap.size, 1, none⟩) (by simp)).trans B1))
        | (go_at_call 17; refine (Sane_any _).mono ?_; rintro e w8 ⟨rfl, h8⟩; have hb := hb.trs h8))
      all_goals (go_ret; exact ⟨rfl, hB0.trs hb⟩)
    · have k1 : decide ((n1 : Int) ≤ (m : Int)) = true := by rw [decide_eq_true_eq]; omega
      go_enter Try.func15, Try.ntmps15
      go_wp2_with (first
        | (go_at_call 16; refine (Long_any _ _ _ _).mono ?_; rintro e w' ⟨rfl, rfl⟩)
        | (go_at_call 21; refine (V.out _ hb).mono ?_; rintro e w' ⟨rfl, rfl⟩)
        | (go_at_call 49; refine (L1.out _ hb).mono ?_; rintro e w1 ⟨A1', c1', rfl, h1, R1⟩; clear y0 y1; have hb := hb.trs h1; have y0 := (hb.cell (p := ⟨w.heap.size, 0, none⟩) (by simp)).trans B0; have y1 := (hb.cell (p := ⟨w.heap.size, 1, none⟩) (by simp)).trans B1)
        | (go_at_call 50; refine (L2.out _ hb).mono ?_; rintro e w2 ⟨A2', c2', rfl, h2, R2⟩; clear y0 y1; have hb := hb.trs h2; have y0 := (hb.cell (p := ⟨w.heap.size, 0, none⟩) (by simp)).trans B0; have y1 := (hb.cell (p := ⟨w.heap.size, 1, none⟩) (by simp)).trans B1)
        | (go_at_call 56; first
            | (have := tk1; refine (L5.out _ _ _ hb (((R1.out.on h2).on h3).on h4)).mono ?_; rintro e w5 ⟨rfl, h5⟩; clear y0 y1; have hb := hb.trs h5; have y0 := (hb.cell (p := ⟨w.heap.size, 0, none⟩) (by simp)).trans B0; have y1 := (hb.cell (p := ⟨w.heap.size, 1, none⟩) (by simp)).trans B1)
            | (refine (L3.out _ hb).mono ?_; rintro e w3 ⟨rfl, h3⟩; clear y0 y1; have hb := hb.trs h3; have tk1 := trivial; have y0 := (hb.cell (p := ⟨w.heap.size, 0, none⟩) (by simp)).trans B0; have y1 := (hb.cell (p := ⟨w.heap.size, 1, none⟩) (by simp)).trans B1))
        | (go_at_call 52; first
            | (have := tk2; refine (L6.out _ _ _ hb (((R2.out.on h3).on h4).on h5)).mono ?_; rintro e w6 ⟨rfl, h6⟩; clear y0 y1; have hb := hb.trs h6; have y0 := (hb.cell (p := ⟨w.heap.size, 0, none⟩) (by simp)).trans B0; have y1 := (hb.cell (p := ⟨w.heap.size, 1, none⟩) (by simp)).trans B1)
            | (refine (L4.out _ hb).mono ?_; rintro e w4 ⟨rfl, h4⟩; clear y0 y1; have hb := hb.trs h4; have tk2 := trivial; have y0 := (hb.cell (p := ⟨w.heap.size, 0, none⟩) (by simp)).trans B0; have y1 := (hb.cell (p := ⟨w.heap.size, 1, none⟩) (by simp)).trans B1))
        | (go_at_call 17; refine (Sane_any _).mono ?_; rintro e w8 ⟨rfl, h8⟩; have hb := hb.trs h8))
      all_goals (go_ret; exact ⟨rfl, hB0.trs hb⟩)
    · have k1 : decide ((m : Int) ≤ (n0 : Int)) = true := by rw [decide_eq_true_eq]; omega
      have k2 : decide ((n1 : Int) ≤ (m : Int)) = true := by rw [decide_eq_true_eq]; omega
      have k3 : decide ((n1 : Int) ≤ (n0 : Int)) = true := by rw [decide_eq_true_eq]; omega
      go_enter Try.func15, Try.ntmps15
      go_wp2_with (first
        | (go_at_call 16; refine (Long_any _ _ _ _).mono ?_; rintro e w' ⟨rfl, rfl⟩)
        | (go_at_call 21; refine (V.out _ hb).mono ?_; rintro e w' ⟨rfl, rfl⟩)
        | (go_at_call 49; refine (L1.out _ hb).mono ?_; rintro e w1 ⟨A1', c1', rfl, h1, R1⟩; clear y0 y1; have hb := hb.trs h1; have y0 := (hb.cell (p := ⟨w.heap.size, 0, none⟩) (by simp)).trans B0; have y1 := (hb.cell (p := ⟨w.heap.size, 1, none⟩) (by simp)).trans B1)
        | (go_at_call 50; refine (L2.out _ hb).mono ?_; rintro e w2 ⟨A2', c2', rfl, h2, R2⟩; clear y0 y1; have hb := hb.trs h2; have y0 := (hb.cell (p := ⟨w.heap.size, 0, none⟩) (by simp)).trans B0; have y1 := (hb.cell (p := ⟨w.heap.size, 1, none⟩) (by simp)).trans B1)
        | (go_at_call 56; first
            | (have := tk1; refine (L5.out _ _ _ hb (((R1.out.on h2).on h3).on h4)).mono ?_; rintro e w5 ⟨rfl, h5⟩; clear y0 y1; have hb := hb.trs h5; have y0 := (hb.cell (p := ⟨w.heap.size, 0, none⟩) (by simp)).trans B0; have y1 := (hb.cell (p := ⟨w.heap.size, 1, none⟩) (by simp)).trans B1)
            | (refine (L3.out _ hb).mono ?_; rintro e w3 ⟨rfl, h3⟩; clear y0 y1; have hb := hb.trs h3; have tk1 := trivial; have y0 := (hb.cell (p := ⟨w.heap.size, 0, none⟩) (by simp)).trans B0; have y1 := (hb.cell (p := ⟨w.heap.size, 1, none⟩) (by simp)).trans B1))
        | (go_at_call 52; first
            | (have := tk2; refine (L6.out _ _ _ hb (((R2.out.on h3).on h4).on h5)).mono ?_; rintro e w6 ⟨rfl, h6⟩; clear y0 y1; have hb := hb.trs h6; have y0 := (hb.cell (p := ⟨w.heap.size, 0, none⟩) (by simp)).trans B0; have y1 := (hb.cell (p := ⟨w.heap.size, 1, none⟩) (by simp)).trans B1)
            | (refine (L4.out _ hb).mono ?_; rintro e w4 ⟨rfl, h4⟩; clear y0 y1; have hb := hb.trs h4; have tk2 := trivial; have y0 := (hb.cell (p := ⟨w.heap.size, 0, none⟩) (by simp)).trans B0; have y1 := (hb.cell (p := ⟨w.heap.size, 1, none⟩) (by simp)).trans B1))
        | (go_at_call 17; refine (Sane_any _).mono ?_; rintro e w8 ⟨rfl, h8⟩; have hb := hb.trs h8))
      all_goals (go_ret; exact ⟨rfl, hB0.trs hb⟩)

set_option maxRecDepth 100000 in
set_option maxHeartbeats 2000000 in
theorem IceProofs_walk (w : World) (A : Option Addr) (c : Nat) (L : List (Int × Int)) (hr : RdP w w.heap.size A L) (_hm : L.length ≤ maxLen) (s : Int) (A0 : Option Addr) (c0 : Nat) (l0 : List Int) (A1 : Option Addr) (c1 : Nat) (l1 : List Int)
    (hr0 : l0.length ≤ maxLen ∧ RdI w w.heap.size A0 l0 ∧ ∀ x ∈ l0, (Lit.int .i64 x).wf = true) (hr1 : l1.length ≤ maxLen ∧ RdI w w.heap.size A1 l1 ∧ ∀ x ∈ l1, (Lit.int .i64 x).wf = true) :
    Calls Try.prog 15 #[.slice A L.length c, .int .i64 s, .agg #[.slice A0 l0.length c0, .slice A1 l1.length c1]] w fun e w' => e = .returned (.bool true) ∧ Below w.heap.size w w' := by
  have hB0 := below_alloc w (.cells #[.slice A0 l0.length c0, .slice A1 l1.length c1] 65)
  have mx0 : (l0.length : Int) ≤ 9223372036854775807 := by have := hr0.1; unfold maxLen at this; omega
  have mx1 : (l1.length : Int) ≤ 9223372036854775807 := by have := hr1.1; unfold maxLen at this; omega
  by_cases hl : L.length ≤ 60
  · have hl2 : L.length ≤ 1125899906842624 := by omega
    have hd : decide ((60 : Int) < L.length) = false := by simp; omega
    have HV := Lib.hid (refValid_any A c L _ (hr.on hB0) hl2)
    cases hv : vld L
    · rw [hv] at HV
      clear hr hv hr0 hr1
      go_enter Try.func15, Try.ntmps15
      go_wp2_with (first
        | (go_at_call 16; refine (Long_any _ _ _ _).mono ?_; rintro e w' ⟨rfl, rfl⟩)
        | (go_at_call 21; refine HV.out.mono ?_; rintro e w' ⟨rfl, rfl⟩)
        | (go_at_call 17; refine (Sane_any _).mono ?_; rintro e w10 ⟨rfl, h10⟩))
      go_ret
      exact ⟨rfl, hB0.trs h10⟩
    · by_cases h70 : l0.length ≤ 700
      · by_cases h71 : l1.length ≤ 700
        · have hnL : (LitsL (fun x _ => x) L s).length = (LitsL (fun _ y => y) L s).length := by unfold LitsL; split <;> simp [litL]
          have hm6 : (LitsL (fun x _ => x) L s).length ≤ 600 := by
            unfold LitsL
            split
            · unfold litL
              rw [List.length_map, lmp_len]
              have h600 := mets_len600 (okL_of_vld hv)
              cases hk : lampsO (mets L) s with
              | none => simp
              | some K' => have := lampsO_len hk; simp only [Option.getD_some]; omega
            · simp
          have hcase : (LitsE L s ≠ 0 ∧ (LitsL (fun x _ => x) L s).length = 0 ∧ LightB L s l0 = false) ∨ (LitsE L s = 0 ∧ btw 0 s 100000 = true ∧ ∃ K, lampsO (mets L) s = some K ∧ LitsL (fun x _ => x) L s = fstI K ∧ LitsL (fun _ y => y) L s = sndI K) := by
            cases hs : btw 0 s 100000
            · exact .inl ⟨by unfold LitsE; rw [hv, hs]; simp, by unfold LitsL; rw [hv, hs]; rfl, light_bad hs⟩
            · cases hK : lampsO (mets L) s with
              | none => exact .inl ⟨by unfold LitsE; rw [hv, hs, hK]; decide, by unfold LitsL; rw [hv, hs, hK]; simp [litL, lmp], light_none hv hK⟩
              | some K => exact .inr ⟨by unfold LitsE; rw [hv, hs, hK]; rfl, rfl, K, rfl, by unfold LitsL; rw [hv, hs, hK]; exact litL_fst K, by unfold LitsL; rw [hv, hs, hK]; exact litL_snd K⟩
          refine IceProofs_gen w A L.length c s (LitsE L s) (gate (vld L) (LightR L s l0)) (gate (vld L) (DarkR L s l1)) (LightB L s l0) (DarkB L s l1) A0 A1 l0.length c0 l1.length c1 (LitsL (fun x _ => x) L s).length (LitsL (fun x _ => x) L s) (LitsL (fun _ y => y) L s) (by omega) h70 h71 hm6 ?_ (fun W hW => ?_) (fun W hW => ?_) (fun W hW => ?_) (fun W hW => ?_) (fun W hW => ?_) (fun h0 W A' c' hW hR => ?_) (fun h0 W A' c' hW hR => ?_)
          · rcases hcase with ⟨h1, h2, h3⟩ | ⟨h1, hs, K, hK, h2, _⟩
            · exact .inl ⟨h1, h2, h3⟩
            · refine .inr ⟨h1, ?_⟩
              rw [h2, fstI_len]
              cases hlt : LightB L s l0
              · cases har : DarkB L s l1
                · exact .inl ⟨rfl, rfl⟩
                · exact .inr (.inr (.inl ⟨rfl, rfl, (dark_facts hv har).1, dark_less hv hK har⟩))
              · cases har : DarkB L s l1
                · exact .inr (.inl ⟨rfl, (light_facts hv hlt).1, light_more hv hK hlt, rfl⟩)
                · exact .inr (.inr (.inr ⟨rfl, (light_facts hv hlt).1, light_more hv hK hlt, rfl, (dark_facts hv har).1, dark_less hv hK har, dark_light hv hlt har⟩))
          · have := refValid_any A c L W ((hr.on hB0).on hW) hl2; rw [hv] at this; exact this
          · exact (Lamps_any A c L s W ((hr.on hB0).on hW) hl2).mono (fun e w' ⟨h1, A', c', h2, h3⟩ => ⟨A', c', h2, h1, Lib.hid h3⟩)
          · refine (Dark_any A c L s W ((hr.on hB0).on hW) hl2).mono (fun e w' ⟨h1, A', c', h2, h3⟩ => ⟨A', c', ?_, h1, Lib.hid h3⟩)
            rw [hnL]; exact h2
          · exact Light_any A A0 c c0 L s l0 W ((hr.on hB0).on hW) hl2 ((hr0.2.1.on hB0).on hW) (by omega)
          · exact AreDark_any A A1 c c1 L s l1 W ((hr.on hB0).on hW) hl2 ((hr1.2.1.on hB0).on hW) (by omega)
          · rcases hcase with ⟨h1, _⟩ | ⟨_, hs, K, hK, h2, _⟩
            · exact absurd h0 h1
            · rw [h2] at hR ⊢
              have := Light_any A A' c c' L s (fstI K) W ((hr.on hB0).on hW) hl2 hR (by rw [← h2]; omega)
              rw [(lamps_light hv hs hK).1, (lamps_light hv hs hK).2] at this
              exact this
          · rcases hcase with ⟨h1, _⟩ | ⟨_, hs, K, hK, h2, h3⟩
            · exact absurd h0 h1
            · rw [hnL]
              rw [h3] at hR ⊢
              have := AreDark_any A A' c c' L s (sndI K) W ((hr.on hB0).on hW) hl2 hR (by rw [← h3, ← hnL]; omega)
              rw [(darks_dark hv hs hK).1, (darks_dark hv hs hK).2] at this
              exact this
        · have d0 : decide ((700 : Int) < (l0.length : Int)) = false := by rw [decide_eq_false_iff_not]; omega
          have d1 : decide ((700 : Int) < (l1.length : Int)) = true := by rw [decide_eq_true_eq]; omega
          rw [hv] at HV
          clear hr hv hr0 hr1
          go_enter Try.func15, Try.ntmps15
          go_wp2_with (first
            | (go_at_call 16; refine (Long_any _ _ _ _).mono ?_; rintro e w' ⟨rfl, rfl⟩)
            | (go_at_call 21; refine HV.out.mono ?_; rintro e w' ⟨rfl, rfl⟩)
            | (go_at_call 17; refine (Sane_any _).mono ?_; rintro e w10 ⟨rfl, h10⟩))
          go_ret
          exact ⟨rfl, hB0.trs h10⟩
      · have d0 : decide ((700 : Int) < (l0.length : Int)) = true := by rw [decide_eq_true_eq]; omega
        rw [hv] at HV
        clear hr hv hr0 hr1
        go_enter Try.func15, Try.ntmps15
        go_wp2_with (first
          | (go_at_call 16; refine (Long_any _ _ _ _).mono ?_; rintro e w' ⟨rfl, rfl⟩)
          | (go_at_call 21; refine HV.out.mono ?_; rintro e w' ⟨rfl, rfl⟩)
          | (go_at_call 17; refine (Sane_any _).mono ?_; rintro e w10 ⟨rfl, h10⟩))
        go_ret
        exact ⟨rfl, hB0.trs h10⟩
  · have hd : decide ((60 : Int) < L.length) = true := by simp; omega
    clear hr hr0 hr1
    go_enter Try.func15, Try.ntmps15
    go_wp2_with (first
      | (go_at_call 16; refine (Long_any _ _ _ _).mono ?_; rintro e w' ⟨rfl, rfl⟩)
      | (go_at_call 17; refine (Sane_any _).mono ?_; rintro e w10 ⟨rfl, h10⟩))
    go_ret
    exact ⟨rfl, hB0.trs h10⟩
end Go.Proofs.Ytnodeooammplfaa
