/- The walk of IceReaches. -/
import Derived.Test.YtnodeooammplfaaIceX
import Derived.Test.YtnodeooammplfaaIceAddsW
namespace Go.Proofs.Ytnodeooammplfaa
set_option linter.unusedVariables false
open Go.RowKit

/-- a law over ice is left at once if there are too many layers, or the ice is not valid -/
def Tup2 (f : Nat) (args : Array Value) (a b : Int) (w : World) : Prop := ∀ W : World, Below w.heap.size w W → Calls Try.prog f args W fun e w' => e = .returned (.tuple #[.int .i64 a, .int .i64 b]) ∧ Below W.heap.size W w'
def Tup3 (f : Nat) (args : Array Value) (a b d : Int) (w : World) : Prop := ∀ W : World, Below w.heap.size w W → Calls Try.prog f args W fun e w' => e = .returned (.tuple #[.int .i64 a, .int .i64 b, .int .i64 d]) ∧ Below W.heap.size W w'

set_option maxRecDepth 100000 in
set_option maxHeartbeats 8000000 in
theorem IceReaches_gen (w : World) (A : Option Addr) (q c : Nat) (x0 x1 s n1 fr to_ loss up_ dn_ hi lo mid over under : Int) (n : Nat)
    (b0 : 0 ≤ x0 ∧ x0 < 65536) (b1 : 0 ≤ x1 ∧ x1 < 65536) (bs : 0 ≤ s ∧ s < 65536) (hn : n ≤ 600) (hn1 : (n : Int) + 1 = n1) (ef : x0 % n1 = fr) (et : x1 % n1 = to_)
    (hq : ¬ (60 : Int) < (q : Int))
    (HV : ∀ W : World, Below w.heap.size w W → Calls Try.prog 21 #[.slice A q c] W fun e w' => e = .returned (.bool true) ∧ W = w')
    (HM : ∀ W : World, Below w.heap.size w W → Calls Try.prog 28 #[.slice A q c] W fun e w' => ∃ A' c', e = .returned (.slice A' n c') ∧ Below W.heap.size W w')
    (H1 : Tup2 24 #[.slice A q c, .int .i64 fr, .int .i64 to_] loss 0 w)
    (H2 : Tup3 34 #[.slice A q c, .int .i64 fr, .int .i64 s] up_ dn_ 0 w)
    (H3 : Tup3 34 #[.slice A q c, .int .i64 fr, .int .i64 loss] hi lo 0 w)
    (H4 : Tup2 35 #[.slice A q c] mid 0 w)
    (H5 : Tup2 24 #[.slice A q c, .int .i64 0, .int .i64 mid] over 0 w)
    (H6 : Tup2 24 #[.slice A q c, .int .i64 mid, .int .i64 n] under 0 w)
    (u0 : ¬ up_ < 0) (u1 : ¬ fr < up_) (u2 : ¬ dn_ < fr) (u3 : ¬ (n : Int) < dn_) (hu : under ≤ over)
    (hc : (fr < to_ ∧ to_ ≤ dn_ ∧ loss ≤ s ∧ to_ ≤ lo) ∨ (fr < to_ ∧ ¬ to_ ≤ dn_ ∧ ¬ loss ≤ s ∧ to_ ≤ lo) ∨ (fr = to_ ∧ loss ≤ s ∧ to_ ≤ lo ∧ hi ≤ to_) ∨ (to_ < fr ∧ up_ ≤ to_ ∧ loss ≤ s ∧ hi ≤ to_) ∨ (to_ < fr ∧ ¬ up_ ≤ to_ ∧ ¬ loss ≤ s ∧ hi ≤ to_)) :
    Calls Try.prog 6 #[.slice A q c, .agg #[.int .u16 x0, .int .u16 x1], .int .u16 s] w fun e w' => e = .returned (.bool true) ∧ Below w.heap.size w w' := by
  have HC := Lib.hid hc; clear hc
  have V := Lib.hid HV; have M := Lib.hid HM; have L1 := Lib.hid H1; have L2 := Lib.hid H2; have L3 := Lib.hid H3; have L4 := Lib.hid H4; have L5 := Lib.hid H5; have L6 := Lib.hid H6
  clear HV HM H1 H2 H3 H4 H5 H6
  unfold Tup2 at L1 L4 L5 L6
  unfold Tup3 at L2 L3
  have hd : decide ((60 : Int) < (q : Int)) = false := by simpa using hq
  have hnn : ¬ n1 = 0 := by omega
  have f0 := Int.emod_nonneg x0 hnn
  have f1 := Int.emod_lt_of_pos x0 (show 0 < n1 by omega)
  have g0 := Int.emod_nonneg x1 hnn
  have g1 := Int.emod_lt_of_pos x1 (show 0 < n1 by omega)
  rw [ef] at f0 f1
  rw [et] at g0 g1
  have r1 : -9223372036854775808 ≤ n1 ∧ n1 ≤ 9223372036854775807 := by omega
  have r2 : -9223372036854775808 ≤ x0 ∧ x0 ≤ 9223372036854775807 := by omega
  have r3 : -9223372036854775808 ≤ x1 ∧ x1 ≤ 9223372036854775807 := by omega
  have r4 : -9223372036854775808 ≤ s ∧ s ≤ 9223372036854775807 := by omega
  have r5 : -9223372036854775808 ≤ fr ∧ fr ≤ 9223372036854775807 := by omega
  have r6 : -9223372036854775808 ≤ to_ ∧ to_ ≤ 9223372036854775807 := by omega
  have HW := Lib.hid (And.intro hn1 (And.intro r1 (And.intro r2 (And.intro r3 (And.intro r4 (And.intro r5 (And.intro r6 (And.intro ef et))))))))
  clear r1 r2 r3 r4 r5 r6 ef et hn1
  have hbx := Box.new w 43 #[.int .u16 x0, .int .u16 x1]
  have HBX := Lib.hid hbx; clear hbx
  have hB := below_alloc w (.cells #[.int .u16 x0, .int .u16 x1] 43)
  rcases HC.out with ⟨c1, c2, c3, c4⟩ | ⟨c1, c2, c3, c4⟩ | ⟨c1, c2, c3, c4⟩ | ⟨c1, c2, c3, c4⟩ | ⟨c1, c2, c3, c4⟩
  · skip
    have z0 : decide (up_ < 0) = false := by rw [decide_eq_false_iff_not]; omega
    have z1 : decide (fr < up_) = false := by rw [decide_eq_false_iff_not]; omega
    have z2 : decide (dn_ < fr) = false := by rw [decide_eq_false_iff_not]; omega
    have z3 : decide ((n : Int) < dn_) = false := by rw [decide_eq_false_iff_not]; omega
    have z4 : decide (under ≤ over) = true := by rw [decide_eq_true_eq]; omega
    have z5 : decide (fr ≤ to_) = true := by rw [decide_eq_true_eq]; omega
    have z6 : decide (to_ ≤ fr) = false := by rw [decide_eq_false_iff_not]; omega
    have z7 : decide (to_ < fr) = false := by rw [decide_eq_false_iff_not]; omega
    have z8 : decide (fr < to_) = true := by rw [decide_eq_true_eq]; omega
    have z9 : decide (to_ ≤ dn_) = true := by rw [decide_eq_true_eq]; omega
    have z10 : decide (loss ≤ s) = true := by rw [decide_eq_true_eq]; omega
    have z11 : decide (to_ ≤ lo) = true := by rw [decide_eq_true_eq]; omega
    clear HC c1 c2 c3 c4 u0 u1 u2 u3 hu
    have hw1 : IntKind.i64.wrap n1 = n1 := IntWalk.i64_in _ HW.out.2.1
    have hw2 : IntKind.i64.wrap ((n : Int) + 1) = n1 := by rw [HW.out.1]; exact hw1
    have hw2' : wrap64 ((n : Int) + 1) = n1 := by rw [HW.out.1]; exact IntWalk.wrap64_in _ HW.out.2.1
    have s1 : IntKind.i64.wrap x0 = x0 := IntWalk.i64_in _ HW.out.2.2.1
    have s2 : IntKind.i64.wrap x1 = x1 := IntWalk.i64_in _ HW.out.2.2.2.1
    have s3 : IntKind.i64.wrap s = s := IntWalk.i64_in _ HW.out.2.2.2.2.1
    have s1' : wrap64 x0 = x0 := IntWalk.wrap64_in _ HW.out.2.2.1
    have s2' : wrap64 x1 = x1 := IntWalk.wrap64_in _ HW.out.2.2.2.1
    have s3' : wrap64 s = s := IntWalk.wrap64_in _ HW.out.2.2.2.2.1
    have v1 : IntKind.i64.wrap fr = fr := IntWalk.i64_in _ HW.out.2.2.2.2.2.1
    have v2 : IntKind.i64.wrap to_ = to_ := IntWalk.i64_in _ HW.out.2.2.2.2.2.2.1
    have v1' : wrap64 fr = fr := IntWalk.wrap64_in _ HW.out.2.2.2.2.2.1
    have v2' : wrap64 to_ = to_ := IntWalk.wrap64_in _ HW.out.2.2.2.2.2.2.1
    have t0 := b0.1
    have t0' := b1.1
    have t1 : x0.tmod n1 = fr := by rw [Int.tmod_eq_emod_of_nonneg b0.1]; exact HW.out.2.2.2.2.2.2.2.1
    have t2 : x1.tmod n1 = to_ := by rw [Int.tmod_eq_emod_of_nonneg b1.1]; exact HW.out.2.2.2.2.2.2.2.2
    have t1' : x0 % n1 = fr := HW.out.2.2.2.2.2.2.2.1
    have t2' : x1 % n1 = to_ := HW.out.2.2.2.2.2.2.2.2
    go_enter Try.func6, Try.ntmps6
    go_wp2_with (first
      | (go_at_call 16; refine (Long_any _ _ _ _).mono ?_; rintro e w' ⟨rfl, rfl⟩)
      | (go_at_call 21; refine (V.out _ hB).mono ?_; rintro e w' ⟨rfl, rfl⟩)
      | (go_at_call 28; refine (M.out _ hB).mono ?_; rintro e w1 ⟨A', c', rfl, h1⟩; have hb1 := HBX.out.on h1; have y0 : w1.cell? ⟨w.heap.size, 0, none⟩ = some (.int .u16 x0) := hb1.cell 0; have y1 : w1.cell? ⟨w.heap.size, 1, none⟩ = some (.int .u16 x1) := hb1.cell 1; have hB := hB.trs h1; clear hb1))
    go_quiet (fail)
    have hB := hB.drewsN nq
    go_wp2_with (first
      | (go_at_call 24; first
          | (have := tk2; refine (L6.out _ hB).mono ?_; rintro e w7 ⟨rfl, h7⟩; have hB := hB.trs h7)
          | (have := tk1; refine (L5.out _ hB).mono ?_; rintro e w6 ⟨rfl, h6⟩; have hB := hB.trs h6; have tk2 := trivial)
          | (refine (L1.out _ hB).mono ?_; rintro e w2 ⟨rfl, h2⟩; have hB := hB.trs h2; have tk1 := trivial))
      | (go_at_call 34; first
          | (have := tk3; refine (L3.out _ hB).mono ?_; rintro e w4 ⟨rfl, h4⟩; have hB := hB.trs h4)
          | (refine (L2.out _ hB).mono ?_; rintro e w3 ⟨rfl, h3⟩; have hB := hB.trs h3; have tk3 := trivial))
      | (go_at_call 35; refine (L4.out _ hB).mono ?_; rintro e w5 ⟨rfl, h5⟩; have hB := hB.trs h5)
      | (go_at_call 17; refine (Sane_any _).mono ?_; rintro e w8 ⟨rfl, h8⟩; have hB := hB.trs h8))
    go_ret
    exact ⟨rfl, hB⟩
  · skip
    have z0 : decide (up_ < 0) = false := by rw [decide_eq_false_iff_not]; omega
    have z1 : decide (fr < up_) = false := by rw [decide_eq_false_iff_not]; omega
    have z2 : decide (dn_ < fr) = false := by rw [decide_eq_false_iff_not]; omega
    have z3 : decide ((n : Int) < dn_) = false := by rw [decide_eq_false_iff_not]; omega
    have z4 : decide (under ≤ over) = true := by rw [decide_eq_true_eq]; omega
    have z5 : decide (fr ≤ to_) = true := by rw [decide_eq_true_eq]; omega
    have z6 : decide (to_ ≤ fr) = false := by rw [decide_eq_false_iff_not]; omega
    have z7 : decide (to_ < fr) = false := by rw [decide_eq_false_iff_not]; omega
    have z8 : decide (fr < to_) = true := by rw [decide_eq_true_eq]; omega
    have z9 : decide (to_ ≤ dn_) = false := by rw [decide_eq_false_iff_not]; omega
    have z10 : decide (loss ≤ s) = false := by rw [decide_eq_false_iff_not]; omega
    have z11 : decide (to_ ≤ lo) = true := by rw [decide_eq_true_eq]; omega
    clear HC c1 c2 c3 c4 u0 u1 u2 u3 hu
    have hw1 : IntKind.i64.wrap n1 = n1 := IntWalk.i64_in _ HW.out.2.1
    have hw2 : IntKind.i64.wrap ((n : Int) + 1) = n1 := by rw [HW.out.1]; exact hw1
    have hw2' : wrap64 ((n : Int) + 1) = n1 := by rw [HW.out.1]; exact IntWalk.wrap64_in _ HW.out.2.1
    have s1 : IntKind.i64.wrap x0 = x0 := IntWalk.i64_in _ HW.out.2.2.1
    have s2 : IntKind.i64.wrap x1 = x1 := IntWalk.i64_in _ HW.out.2.2.2.1
    have s3 : IntKind.i64.wrap s = s := IntWalk.i64_in _ HW.out.2.2.2.2.1
    have s1' : wrap64 x0 = x0 := IntWalk.wrap64_in _ HW.out.2.2.1
    have s2' : wrap64 x1 = x1 := IntWalk.wrap64_in _ HW.out.2.2.2.1
    have s3' : wrap64 s = s := IntWalk.wrap64_in _ HW.out.2.2.2.2.1
    have v1 : IntKind.i64.wrap fr = fr := IntWalk.i64_in _ HW.out.2.2.2.2.2.1
    have v2 : IntKind.i64.wrap to_ = to_ := IntWalk.i64_in _ HW.out.2.2.2.2.2.2.1
    have v1' : wrap64 fr = fr := IntWalk.wrap64_in _ HW.out.2.2.2.2.2.1
    have v2' : wrap64 to_ = to_ := IntWalk.wrap64_in _ HW.out.2.2.2.2.2.2.1
    have t0 := b0.1
    have t0' := b1.1
    have t1 : x0.tmod n1 = fr := by rw [Int.tmod_eq_emod_of_nonneg b0.1]; exact HW.out.2.2.2.2.2.2.2.1
    have t2 : x1.tmod n1 = to_ := by rw [Int.tmod_eq_emod_of_nonneg b1.1]; exact HW.out.2.2.2.2.2.2.2.2
    have t1' : x0 % n1 = fr := HW.out.2.2.2.2.2.2.2.1
    have t2' : x1 % n1 = to_ := HW.out.2.2.2.2.2.2.2.2
    go_enter Try.func6, Try.ntmps6
    go_wp2_with (first
      | (go_at_call 16; refine (Long_any _ _ _ _).mono ?_; rintro e w' ⟨rfl, rfl⟩)
      | (go_at_call 21; refine (V.out _ hB).mono ?_; rintro e w' ⟨rfl, rfl⟩)
      | (go_at_call 28; refine (M.out _ hB).mono ?_; rintro e w1 ⟨A', c', rfl, h1⟩; have hb1 := HBX.out.on h1; have y0 : w1.cell? ⟨w.heap.size, 0, none⟩ = some (.int .u16 x0) := hb1.cell 0; have y1 : w1.cell? ⟨w.heap.size, 1, none⟩ = some (.int .u16 x1) := hb1.cell 1; have hB := hB.trs h1; clear hb1))
    go_quiet (fail)
    have hB := hB.drewsN nq
    go_wp2_with (first
      | (go_at_call 24; first
          | (have := tk2; refine (L6.out _ hB).mono ?_; rintro e w7 ⟨rfl, h7⟩; have hB := hB.trs h7)
          | (have := tk1; refine (L5.out _ hB).mono ?_; rintro e w6 ⟨rfl, h6⟩; have hB := hB.trs h6; have tk2 := trivial)
          | (refine (L1.out _ hB).mono ?_; rintro e w2 ⟨rfl, h2⟩; have hB := hB.trs h2; have tk1 := trivial))
      | (go_at_call 34; first
          | (have := tk3; refine (L3.out _ hB).mono ?_; rintro e w4 ⟨rfl, h4⟩; have hB := hB.trs h4)
          | (refine (L2.out _ hB).mono ?_; rintro e w3 ⟨rfl, h3⟩; have hB := hB.trs h3; have tk3 := trivial))
      | (go_at_call 35; refine (L4.out _ hB).mono ?_; rintro e w5 ⟨rfl, h5⟩; have hB := hB.trs h5)
      | (go_at_call 17; refine (Sane_any _).mono ?_; rintro e w8 ⟨rfl, h8⟩; have hB := hB.trs h8))
    go_ret
    exact ⟨rfl, hB⟩
  · clear HC
    subst c1
    have z0 : decide (up_ < 0) = false := by rw [decide_eq_false_iff_not]; omega
    have z1 : decide (fr < up_) = false := by rw [decide_eq_false_iff_not]; omega
    have z2 : decide (dn_ < fr) = false := by rw [decide_eq_false_iff_not]; omega
    have z3 : decide ((n : Int) < dn_) = false := by rw [decide_eq_false_iff_not]; omega
    have z4 : decide (under ≤ over) = true := by rw [decide_eq_true_eq]; omega
    have z5 : decide (fr ≤ fr) = true := by rw [decide_eq_true_eq]; omega
    have z6 : decide (fr < fr) = false := by rw [decide_eq_false_iff_not]; omega
    have z7 : decide (fr ≤ dn_) = true := by rw [decide_eq_true_eq]; omega
    have z8 : decide (up_ ≤ fr) = true := by rw [decide_eq_true_eq]; omega
    have z9 : decide (loss ≤ s) = true := by rw [decide_eq_true_eq]; omega
    have z10 : decide (fr ≤ lo) = true := by rw [decide_eq_true_eq]; omega
    have z11 : decide (hi ≤ fr) = true := by rw [decide_eq_true_eq]; omega
    clear c2 c3 c4 u0 u1 u2 u3 hu
    have hw1 : IntKind.i64.wrap n1 = n1 := IntWalk.i64_in _ HW.out.2.1
    have hw2 : IntKind.i64.wrap ((n : Int) + 1) = n1 := by rw [HW.out.1]; exact hw1
    have hw2' : wrap64 ((n : Int) + 1) = n1 := by rw [HW.out.1]; exact IntWalk.wrap64_in _ HW.out.2.1
    have s1 : IntKind.i64.wrap x0 = x0 := IntWalk.i64_in _ HW.out.2.2.1
    have s2 : IntKind.i64.wrap x1 = x1 := IntWalk.i64_in _ HW.out.2.2.2.1
    have s3 : IntKind.i64.wrap s = s := IntWalk.i64_in _ HW.out.2.2.2.2.1
    have s1' : wrap64 x0 = x0 := IntWalk.wrap64_in _ HW.out.2.2.1
    have s2' : wrap64 x1 = x1 := IntWalk.wrap64_in _ HW.out.2.2.2.1
    have s3' : wrap64 s = s := IntWalk.wrap64_in _ HW.out.2.2.2.2.1
    have v1 : IntKind.i64.wrap fr = fr := IntWalk.i64_in _ HW.out.2.2.2.2.2.1
    have v2 : IntKind.i64.wrap fr = fr := IntWalk.i64_in _ HW.out.2.2.2.2.2.2.1
    have v1' : wrap64 fr = fr := IntWalk.wrap64_in _ HW.out.2.2.2.2.2.1
    have v2' : wrap64 fr = fr := IntWalk.wrap64_in _ HW.out.2.2.2.2.2.2.1
    have t0 := b0.1
    have t0' := b1.1
    have t1 : x0.tmod n1 = fr := by rw [Int.tmod_eq_emod_of_nonneg b0.1]; exact HW.out.2.2.2.2.2.2.2.1
    have t2 : x1.tmod n1 = fr := by rw [Int.tmod_eq_emod_of_nonneg b1.1]; exact HW.out.2.2.2.2.2.2.2.2
    have t1' : x0 % n1 = fr := HW.out.2.2.2.2.2.2.2.1
    have t2' : x1 % n1 = fr := HW.out.2.2.2.2.2.2.2.2
    go_enter Try.func6, Try.ntmps6
    go_wp2_with (first
      | (go_at_call 16; refine (Long_any _ _ _ _).mono ?_; rintro e w' ⟨rfl, rfl⟩)
      | (go_at_call 21; refine (V.out _ hB).mono ?_; rintro e w' ⟨rfl, rfl⟩)
      | (go_at_call 28; refine (M.out _ hB).mono ?_; rintro e w1 ⟨A', c', rfl, h1⟩; have hb1 := HBX.out.on h1; have y0 : w1.cell? ⟨w.heap.size, 0, none⟩ = some (.int .u16 x0) := hb1.cell 0; have y1 : w1.cell? ⟨w.heap.size, 1, none⟩ = some (.int .u16 x1) := hb1.cell 1; have hB := hB.trs h1; clear hb1))
    go_quiet (fail)
    have hB := hB.drewsN nq
    go_wp2_with (first
      | (go_at_call 24; first
          | (have := tk2; refine (L6.out _ hB).mono ?_; rintro e w7 ⟨rfl, h7⟩; have hB := hB.trs h7)
          | (have := tk1; refine (L5.out _ hB).mono ?_; rintro e w6 ⟨rfl, h6⟩; have hB := hB.trs h6; have tk2 := trivial)
          | (refine (L1.out _ hB).mono ?_; rintro e w2 ⟨rfl, h2⟩; have hB := hB.trs h2; have tk1 := trivial))
      | (go_at_call 34; first
          | (have := tk3; refine (L3.out _ hB).mono ?_; rintro e w4 ⟨rfl, h4⟩; have hB := hB.trs h4)
          | (refine (L2.out _ hB).mono ?_; rintro e w3 ⟨rfl, h3⟩; have hB := hB.trs h3; have tk3 := trivial))
      | (go_at_call 35; refine (L4.out _ hB).mono ?_; rintro e w5 ⟨rfl, h5⟩; have hB := hB.trs h5)
      | (go_at_call 17; refine (Sane_any _).mono ?_; rintro e w8 ⟨rfl, h8⟩; have hB := hB.trs h8))
    go_ret
    exact ⟨rfl, hB⟩
  · skip
    have z0 : decide (up_ < 0) = false := by rw [decide_eq_false_iff_not]; omega
    have z1 : decide (fr < up_) = false := by rw [decide_eq_false_iff_not]; omega
    have z2 : decide (dn_ < fr) = false := by rw [decide_eq_false_iff_not]; omega
    have z3 : decide ((n : Int) < dn_) = false := by rw [decide_eq_false_iff_not]; omega
    have z4 : decide (under ≤ over) = true := by rw [decide_eq_true_eq]; omega
    have z5 : decide (fr ≤ to_) = false := by rw [decide_eq_false_iff_not]; omega
    have z6 : decide (to_ ≤ fr) = true := by rw [decide_eq_true_eq]; omega
    have z7 : decide (to_ < fr) = true := by rw [decide_eq_true_eq]; omega
    have z8 : decide (fr < to_) = false := by rw [decide_eq_false_iff_not]; omega
    have z9 : decide (up_ ≤ to_) = true := by rw [decide_eq_true_eq]; omega
    have z10 : decide (loss ≤ s) = true := by rw [decide_eq_true_eq]; omega
    have z11 : decide (hi ≤ to_) = true := by rw [decide_eq_true_eq]; omega
    clear HC c1 c2 c3 c4 u0 u1 u2 u3 hu
    have hw1 : IntKind.i64.wrap n1 = n1 := IntWalk.i64_in _ HW.out.2.1
    have hw2 : IntKind.i64.wrap ((n : Int) + 1) = n1 := by rw [HW.out.1]; exact hw1
    have hw2' : wrap64 ((n : Int) + 1) = n1 := by rw [HW.out.1]; exact IntWalk.wrap64_in _ HW.out.2.1
    have s1 : IntKind.i64.wrap x0 = x0 := IntWalk.i64_in _ HW.out.2.2.1
    have s2 : IntKind.i64.wrap x1 = x1 := IntWalk.i64_in _ HW.out.2.2.2.1
    have s3 : IntKind.i64.wrap s = s := IntWalk.i64_in _ HW.out.2.2.2.2.1
    have s1' : wrap64 x0 = x0 := IntWalk.wrap64_in _ HW.out.2.2.1
    have s2' : wrap64 x1 = x1 := IntWalk.wrap64_in _ HW.out.2.2.2.1
    have s3' : wrap64 s = s := IntWalk.wrap64_in _ HW.out.2.2.2.2.1
    have v1 : IntKind.i64.wrap fr = fr := IntWalk.i64_in _ HW.out.2.2.2.2.2.1
    have v2 : IntKind.i64.wrap to_ = to_ := IntWalk.i64_in _ HW.out.2.2.2.2.2.2.1
    have v1' : wrap64 fr = fr := IntWalk.wrap64_in _ HW.out.2.2.2.2.2.1
    have v2' : wrap64 to_ = to_ := IntWalk.wrap64_in _ HW.out.2.2.2.2.2.2.1
    have t0 := b0.1
    have t0' := b1.1
    have t1 : x0.tmod n1 = fr := by rw [Int.tmod_eq_emod_of_nonneg b0.1]; exact HW.out.2.2.2.2.2.2.2.1
    have t2 : x1.tmod n1 = to_ := by rw [Int.tmod_eq_emod_of_nonneg b1.1]; exact HW.out.2.2.2.2.2.2.2.2
    have t1' : x0 % n1 = fr := HW.out.2.2.2.2.2.2.2.1
    have t2' : x1 % n1 = to_ := HW.out.2.2.2.2.2.2.2.2
    go_enter Try.func6, Try.ntmps6
    go_wp2_with (first
      | (go_at_call 16; refine (Long_any _ _ _ _).mono ?_; rintro e w' ⟨rfl, rfl⟩)
      | (go_at_call 21; refine (V.out _ hB).mono ?_; rintro e w' ⟨rfl, rfl⟩)
      | (go_at_call 28; refine (M.out _ hB).mono ?_; rintro e w1 ⟨A', c', rfl, h1⟩; have hb1 := HBX.out.on h1; have y0 : w1.cell? ⟨w.heap.size, 0, none⟩ = some (.int .u16 x0) := hb1.cell 0; have y1 : w1.cell? ⟨w.heap.size, 1, none⟩ = some (.int .u16 x1) := hb1.cell 1; have hB := hB.trs h1; clear hb1))
    go_quiet (fail)
    have hB := hB.drewsN nq
    go_wp2_with (first
      | (go_at_call 24; first
          | (have := tk2; refine (L6.out _ hB).mono ?_; rintro e w7 ⟨rfl, h7⟩; have hB := hB.trs h7)
          | (have := tk1; refine (L5.out _ hB).mono ?_; rintro e w6 ⟨rfl, h6⟩; have hB := hB.trs h6; have tk2 := trivial)
          | (refine (L1.out _ hB).mono ?_; rintro e w2 ⟨rfl, h2⟩; have hB := hB.trs h2; have tk1 := trivial))
      | (go_at_call 34; first
          | (have := tk3; refine (L3.out _ hB).mono ?_; rintro e w4 ⟨rfl, h4⟩; have hB := hB.trs h4)
          | (refine (L2.out _ hB).mono ?_; rintro e w3 ⟨rfl, h3⟩; have hB := hB.trs h3; have tk3 := trivial))
      | (go_at_call 35; refine (L4.out _ hB).mono ?_; rintro e w5 ⟨rfl, h5⟩; have hB := hB.trs h5)
      | (go_at_call 17; refine (Sane_any _).mono ?_; rintro e w8 ⟨rfl, h8⟩; have hB := hB.trs h8))
    go_ret
    exact ⟨rfl, hB⟩
  · skip
    have z0 : decide (up_ < 0) = false := by rw [decide_eq_false_iff_not]; omega
    have z1 : decide (fr < up_) = false := by rw [decide_eq_false_iff_not]; omega
    have z2 : decide (dn_ < fr) = false := by rw [decide_eq_false_iff_not]; omega
    have z3 : decide ((n : Int) < dn_) = false := by rw [decide_eq_false_iff_not]; omega
    have z4 : decide (under ≤ over) = true := by rw [decide_eq_true_eq]; omega
    have z5 : decide (fr ≤ to_) = false := by rw [decide_eq_false_iff_not]; omega
    have z6 : decide (to_ ≤ fr) = true := by rw [decide_eq_true_eq]; omega
    have z7 : decide (to_ < fr) = true := by rw [decide_eq_true_eq]; omega
    have z8 : decide (fr < to_) = false := by rw [decide_eq_false_iff_not]; omega
    have z9 : decide (up_ ≤ to_) = false := by rw [decide_eq_false_iff_not]; omega
    have z10 : decide (loss ≤ s) = false := by rw [decide_eq_false_iff_not]; omega
    have z11 : decide (hi ≤ to_) = true := by rw [decide_eq_true_eq]; omega
    clear HC c1 c2 c3 c4 u0 u1 u2 u3 hu
    have hw1 : IntKind.i64.wrap n1 = n1 := IntWalk.i64_in _ HW.out.2.1
    have hw2 : IntKind.i64.wrap ((n : Int) + 1) = n1 := by rw [HW.out.1]; exact hw1
    have hw2' : wrap64 ((n : Int) + 1) = n1 := by rw [HW.out.1]; exact IntWalk.wrap64_in _ HW.out.2.1
    have s1 : IntKind.i64.wrap x0 = x0 := IntWalk.i64_in _ HW.out.2.2.1
    have s2 : IntKind.i64.wrap x1 = x1 := IntWalk.i64_in _ HW.out.2.2.2.1
    have s3 : IntKind.i64.wrap s = s := IntWalk.i64_in _ HW.out.2.2.2.2.1
    have s1' : wrap64 x0 = x0 := IntWalk.wrap64_in _ HW.out.2.2.1
    have s2' : wrap64 x1 = x1 := IntWalk.wrap64_in _ HW.out.2.2.2.1
    have s3' : wrap64 s = s := IntWalk.wrap64_in _ HW.out.2.2.2.2.1
    have v1 : IntKind.i64.wrap fr = fr := IntWalk.i64_in _ HW.out.2.2.2.2.2.1
    have v2 : IntKind.i64.wrap to_ = to_ := IntWalk.i64_in _ HW.out.2.2.2.2.2.2.1
    have v1' : wrap64 fr = fr := IntWalk.wrap64_in _ HW.out.2.2.2.2.2.1
    have v2' : wrap64 to_ = to_ := IntWalk.wrap64_in _ HW.out.2.2.2.2.2.2.1
    have t0 := b0.1
    have t0' := b1.1
    have t1 : x0.tmod n1 = fr := by rw [Int.tmod_eq_emod_of_nonneg b0.1]; exact HW.out.2.2.2.2.2.2.2.1
    have t2 : x1.tmod n1 = to_ := by rw [Int.tmod_eq_emod_of_nonneg b1.1]; exact HW.out.2.2.2.2.2.2.2.2
    have t1' : x0 % n1 = fr := HW.out.2.2.2.2.2.2.2.1
    have t2' : x1 % n1 = to_ := HW.out.2.2.2.2.2.2.2.2
    go_enter Try.func6, Try.ntmps6
    go_wp2_with (first
      | (go_at_call 16; refine (Long_any _ _ _ _).mono ?_; rintro e w' ⟨rfl, rfl⟩)
      | (go_at_call 21; refine (V.out _ hB).mono ?_; rintro e w' ⟨rfl, rfl⟩)
      | (go_at_call 28; refine (M.out _ hB).mono ?_; rintro e w1 ⟨A', c', rfl, h1⟩; have hb1 := HBX.out.on h1; have y0 : w1.cell? ⟨w.heap.size, 0, none⟩ = some (.int .u16 x0) := hb1.cell 0; have y1 : w1.cell? ⟨w.heap.size, 1, none⟩ = some (.int .u16 x1) := hb1.cell 1; have hB := hB.trs h1; clear hb1))
    go_quiet (fail)
    have hB := hB.drewsN nq
    go_wp2_with (first
      | (go_at_call 24; first
          | (have := tk2; refine (L6.out _ hB).mono ?_; rintro e w7 ⟨rfl, h7⟩; have hB := hB.trs h7)
          | (have := tk1; refine (L5.out _ hB).mono ?_; rintro e w6 ⟨rfl, h6⟩; have hB := hB.trs h6; have tk2 := trivial)
          | (refine (L1.out _ hB).mono ?_; rintro e w2 ⟨rfl, h2⟩; have hB := hB.trs h2; have tk1 := trivial))
      | (go_at_call 34; first
          | (have := tk3; refine (L3.out _ hB).mono ?_; rintro e w4 ⟨rfl, h4⟩; have hB := hB.trs h4)
          | (refine (L2.out _ hB).mono ?_; rintro e w3 ⟨rfl, h3⟩; have hB := hB.trs h3; have tk3 := trivial))
      | (go_at_call 35; refine (L4.out _ hB).mono ?_; rintro e w5 ⟨rfl, h5⟩; have hB := hB.trs h5)
      | (go_at_call 17; refine (Sane_any _).mono ?_; rintro e w8 ⟨rfl, h8⟩; have hB := hB.trs h8))
    go_ret
    exact ⟨rfl, hB⟩

theorem lossI_cm {m : List Int} (h : ∀ d ∈ m, 0 ≤ d) {a b : Nat} (hab : a ≤ b) (hb : b ≤ m.length) : lossI (cum m) a b = cm m b - cm m a ∧ lossI (cum m) b a = cm m b - cm m a ∧ 0 ≤ cm m b - cm m a := by
  have := cm_mono h hab hb
  unfold lossI
  rw [cm_ix (by omega), cm_ix hb]
  omega

set_option maxRecDepth 100000 in
set_option maxHeartbeats 1000000 in
theorem IceReaches_walk (w : World) (A : Option Addr) (c : Nat) (L : List (Int × Int)) (hr : RdP w w.heap.size A L) (_hm : L.length ≤ maxLen) (x0 x1 : Int) (wx : (Lit.int .u16 x0).wf = true ∧ (Lit.int .u16 x1).wf = true) (s : Int) (ws : (Lit.int .u16 s).wf = true) :
    Calls Try.prog 6 #[.slice A L.length c, .agg #[.int .u16 x0, .int .u16 x1], .int .u16 s] w fun e w' => e = .returned (.bool true) ∧ Below w.heap.size w w' := by
  by_cases hl : L.length ≤ 60
  · have hl2 : L.length ≤ 1125899906842624 := by omega
    cases hv : vld L
    · have hd : decide ((60 : Int) < L.length) = false := by simp; omega
      have hB0 := below_alloc w (.cells #[.int .u16 x0, .int .u16 x1] 43)
      have HV := Lib.hid (refValid_any A c L _ (hr.on hB0) hl2)
      rw [hv] at HV
      clear hr hv
      go_enter Try.func6, Try.ntmps6
      go_wp2_with (first
        | (go_at_call 16; refine (Long_any _ _ _ _).mono ?_; rintro e w' ⟨rfl, rfl⟩)
        | (go_at_call 21; refine HV.out.mono ?_; rintro e w' ⟨rfl, rfl⟩)
        | (go_at_call 17; refine (Sane_any _).mono ?_; rintro e w10 ⟨rfl, h10⟩))
      go_ret
      exact ⟨rfl, hB0.trs h10⟩
    · have bx0 := bounds_u16 wx.1
      have bx1 := bounds_u16 wx.2
      have bs := bounds_u16 ws
      have hok := okL_of_vld hv
      have h600 := mets_len600 hok
      have hnn : ∀ d ∈ mets L, 0 ≤ d := fun d hd => (mets_mem hok d hd).1
      obtain ⟨r, r1, r2, r3, r4⟩ := mid_is hnn
      have f0 := Int.emod_nonneg x0 (show ((mets L).length : Int) + 1 ≠ 0 by omega)
      have f1 := Int.emod_lt_of_pos x0 (show 0 < ((mets L).length : Int) + 1 by omega)
      have g0 := Int.emod_nonneg x1 (show ((mets L).length : Int) + 1 ≠ 0 by omega)
      have g1 := Int.emod_lt_of_pos x1 (show 0 < ((mets L).length : Int) + 1 by omega)
      obtain ⟨a, ha⟩ := Int.eq_ofNat_of_zero_le f0
      obtain ⟨b, hb⟩ := Int.eq_ofNat_of_zero_le g0
      rw [ha] at f1
      rw [hb] at g1
      have han : a ≤ (mets L).length := by omega
      have hbn : b ≤ (mets L).length := by omega
      have hls : 0 ≤ lossI (cum (mets L)) a b ∧ lossI (cum (mets L)) a b ≤ 60000 := by
        have h1 := cum_bounds (mets_mem hok) h600 a
        have h2 := cum_bounds (mets_mem hok) h600 b
        unfold lossI; omega
      have hlit : ∀ (t : Int), 0 ≤ t → t ≤ 100000 → ∀ W, Below w.heap.size w W → Calls Try.prog 34 #[.slice A L.length c, .int .i64 a, .int .i64 t] W fun e w' => e = .returned (.tuple #[.int .i64 (up (mets L) a t), .int .i64 (dn (mets L) a t), .int .i64 0]) ∧ Below W.heap.size W w' := fun t h0 h1 W hW => by
        have := Lit_any A c L a t W (hr.on hW) hl2
        have hE : LitE L a t = 0 := gate_ok hv (by unfold LitR; rw [btw_iff.2 ⟨by omega, by omega⟩, btw_iff.2 ⟨h0, h1⟩]; rfl)
        rw [LitV_ok hE, Int.toNat_natCast] at this
        exact this
      refine IceReaches_gen w A L.length c x0 x1 s (((mets L).length : Int) + 1) a b (lossI (cum (mets L)) a b) (up (mets L) a s) (dn (mets L) a s) (up (mets L) a (lossI (cum (mets L)) a b)) (dn (mets L) a (lossI (cum (mets L)) a b)) r (lossI (cum (mets L)) 0 r) (lossI (cum (mets L)) r (mets L).length) (mets L).length
        ⟨bx0.1, by omega⟩ ⟨bx1.1, by omega⟩ ⟨bs.1, by omega⟩ h600 rfl ha hb (by omega) (fun W hW => ?_) (fun W hW => ?_) (fun W hW => ?_) (hlit s bs.1 (by omega)) (hlit _ hls.1 (by omega)) (fun W hW => ?_) (fun W hW => ?_) (fun W hW => ?_) (by omega) ?_ ?_ ?_ ?_ ?_
      · have := refValid_any A c L W (hr.on hW) hl2; rw [hv] at this; exact this
      · exact (Metres_any A c L W (hr.on hW) hok).mono (fun e w' ⟨h1, A', c', h2, _⟩ => ⟨A', c', h2, h1⟩)
      · have := Loss_in A c L a b W (hr.on hW) hv (by omega) (by omega)
        simp only [Int.toNat_natCast] at this
        exact this
      · have := Middle_any A c L W (hr.on hW) hl2
        rw [gate_ok hv rfl, val_ok rfl, r2] at this
        exact this
      · have := Loss_in A c L 0 r W (hr.on hW) hv (by omega) (by omega)
        simp only [Int.toNat_natCast, Int.toNat_zero] at this
        exact this
      · have := Loss_in A c L r (mets L).length W (hr.on hW) hv (by omega) (by omega)
        simp only [Int.toNat_natCast] at this
        exact this
      · have := up_hi (mets L) a s; omega
      · have := dn_lo (mets L) a s; omega
      · have := dn_hi (l := mets L) (a := a) (s := s) han; omega
      · obtain ⟨q1, q2⟩ := lossI_lo hnn r1
        rw [q1, q2]; exact r3
      · rcases Nat.lt_trichotomy a b with h | h | h
        · obtain ⟨e1, _, e3⟩ := lossI_cm hnn (a := a) (b := b) (by omega) hbn
          rw [e1]
          have d1 := dn_iff hnn bs.1 (a := a) (b := b) (by omega) hbn
          have d2 := (dn_iff hnn e3 (a := a) (b := b) (by omega) hbn).2 (Int.le_refl _)
          by_cases hs : cm (mets L) b - cm (mets L) a ≤ s
          · exact .inl ⟨by omega, by have := d1.2 hs; omega, hs, by omega⟩
          · exact .inr (.inl ⟨by omega, fun hh => hs (d1.1 (by omega)), hs, by omega⟩)
        · subst h
          obtain ⟨e1, _, e3⟩ := lossI_cm hnn (a := a) (b := a) (by omega) hbn
          have e0 : lossI (cum (mets L)) a a = 0 := by rw [e1]; omega
          rw [e0]
          exact .inr (.inr (.inl ⟨rfl, bs.1, by have := dn_lo (mets L) a 0; omega, by have := up_hi (mets L) a 0; omega⟩))
        · obtain ⟨_, e1, e3⟩ := lossI_cm hnn (a := b) (b := a) (by omega) han
          rw [e1]
          have d1 := up_iff hnn bs.1 (a := a) (b := b) (by omega) han
          have d2 := (up_iff hnn e3 (a := a) (b := b) (by omega) han).2 (Int.le_refl _)
          by_cases hs : cm (mets L) a - cm (mets L) b ≤ s
          · exact .inr (.inr (.inr (.inl ⟨by omega, by have := d1.2 hs; omega, hs, by omega⟩)))
          · exact .inr (.inr (.inr (.inr ⟨by omega, fun hh => hs (d1.1 (by omega)), hs, by omega⟩)))
  · have hd : decide ((60 : Int) < L.length) = true := by simp; omega
    have hB0 := below_alloc w (.cells #[.int .u16 x0, .int .u16 x1] 43)
    clear hr
    go_enter Try.func6, Try.ntmps6
    go_wp2_with (first
      | (go_at_call 16; refine (Long_any _ _ _ _).mono ?_; rintro e w' ⟨rfl, rfl⟩)
      | (go_at_call 17; refine (Sane_any _).mono ?_; rintro e w10 ⟨rfl, h10⟩))
    go_ret
    exact ⟨rfl, hB0.trs h10⟩
end Go.Proofs.Ytnodeooammplfaa
