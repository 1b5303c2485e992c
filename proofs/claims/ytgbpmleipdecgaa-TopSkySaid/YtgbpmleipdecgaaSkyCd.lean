/- Walks over package sky: a cell is put into a region; the region of cells. -/
import Derived.Test.YtgbpmleipdecgaaSkyCc
import Derived.StillTailTactics
import Derived.Deep.RegionHeld3
namespace Go.Proofs.Ytgbpmleipdecgaa
open Go.RowKit
set_option linter.unusedSimpArgs false
set_option linter.unusedVariables false

/-- with the first j pixels behind a -/
def putP (S : Px) (a j : Nat) : Px := fun x => S x || (decide (a ≤ x) && decide (x < a + j))
theorem putP_zero (S : Px) (a : Nat) : putP S a 0 = S := by
  funext x
  unfold putP
  have : (decide (a ≤ x) && decide (x < a + 0)) = false := by rw [Bool.and_eq_false_iff, decide_eq_false_iff_not, decide_eq_false_iff_not]; omega
  rw [this, Bool.or_false]
theorem putP_succ (S : Px) (a j : Nat) : (fun x => putP S a j x || x == a + j) = putP S a (j + 1) := by
  funext x
  unfold putP
  have : ((decide (a ≤ x) && decide (x < a + j)) || x == a + j) = (decide (a ≤ x) && decide (x < a + (j + 1))) := by
    rw [Bool.eq_iff_iff, Bool.or_eq_true, Bool.and_eq_true, Bool.and_eq_true, decide_eq_true_eq, decide_eq_true_eq, decide_eq_true_eq, beq_iff_eq]; omega
  rw [Bool.or_assoc, this]
theorem putP_cell (S : Px) (h p : Nat) : putP S (p * 4 ^ h) (4 ^ h) = fun x => S x || inC (4 - (h : Int), (p : Int)) x := by
  funext x
  unfold putP
  congr 1
  rw [inC_mk, Bool.eq_iff_iff, Bool.and_eq_true, decide_eq_true_eq, decide_eq_true_eq, decide_eq_true_eq]
  have hp := four_pos h
  rw [Nat.div_eq_iff hp]
  omega
theorem word_set (S : Px) (p : Nat) : bits .or .u64 (wd S (p / 64) : Int) ((2 ^ (p % 64) : Nat) : Int) = (wd (fun x => S x || x == p) (p / 64) : Int) := by
  have h1 := wd_lt S (p / 64)
  have h2 : 2 ^ (p % 64) < 18446744073709551616 := Nat.pow_lt_pow_right (by omega : 1 < 2) (show p % 64 < 64 by omega)
  rw [nat_or _ _ h1 h2, wd_set]

set_option maxRecDepth 100000 in
set_option maxHeartbeats 4000000 in
theorem put_any (S : Px) (g h p : Nat) (w : World) (hh : h ≤ 4) (hp : (p + 1) * 4 ^ h ≤ 3072) (hb : BoxR w g S) :
    Calls Try.prog 42 #[.pointer (some ⟨g, 0, none⟩), .agg #[.int .i64 (4 - (h : Int)), .int .i64 p]] w fun e w' => e = .returned (.tuple #[]) ∧ Below g w w' ∧ BoxR w' g (fun x => S x || inC (4 - (h : Int), (p : Int)) x) := by
  rw [← putP_cell]
  have HSP := Lib.hid (fun W => span_any h p W hh hp)
  have hfit := cell_fits hp
  have h2 := Box.new w 37 #[.int .i64 (4 - (h : Int)), .int .i64 p]
  have hbl := below_alloc w (.cells #[.int .i64 (4 - (h : Int)), .int .i64 p] 37)
  have hgw := hb.lt
  have HB := Lib.hid (And.intro (hbl.mono (Nat.le_of_lt hgw)) (hb.on hbl))
  have HX := Lib.hid h2
  have HPZ := Lib.hid (putP_zero S (p * 4 ^ h))
  have HPS := Lib.hid (putP_succ S (p * 4 ^ h))
  clear h2 hb hbl hp hh
  generalize (4 : Int) - (h : Int) = o at *
  generalize p * 4 ^ h = a at *
  generalize 4 ^ h = n at *
  go_enter Try.func42, Try.ntmps42
  go_upto_region 1 with (fail)
  generalize hW0 : w.alloc (.cells #[.int .i64 o, .int .i64 p] 37) = W0 at *
  have hsz : W0.heap.size = w.heap.size + 1 := by rw [← hW0]; simp
  clear hW0
  have k0 := HX.out.cell 0
  have k1 := HX.out.cell 1
  simp at k0 k1
  go_wp2_with (go_at_call 65; refine (HSP.out _).mono ?_; rintro e w1 ⟨rfl, h1⟩)
  have hg1 : g < W0.heap.size := by omega
  have HB1 := Lib.hid (And.intro (HB.out.1.trans (h1.mono (Nat.le_of_lt hg1))) (HB.out.2.on h1))
  clear h1
  go_loopg [6] n (fun gk t wr => ∃ j : Nat, t = .int .i64 (a + j : Nat) ∧ j ≤ n ∧ n - j ≤ gk ∧ Below g w wr ∧ BoxR wr g (putP S a j))
  case atStart => exact ⟨0, rfl, by omega, by omega, HB1.out.1, by rw [HPZ.out]; exact HB1.out.2⟩
  case round =>
    obtain ⟨j, rfl, hj, hk, hB, hX⟩ := hrel
    by_cases hlt : j < n
    · have hltI : (a : Int) + (j : Int) < (a : Int) + (n : Int) := by omega
      have e1 : IntKind.i64.wrap ((a : Int) + (n : Int)) = (a : Int) + (n : Int) := IntWalk.i64_in _ (by omega)
      have e2 : wrap64 ((a : Int) + (n : Int)) = (a : Int) + (n : Int) := IntWalk.wrap64_in _ (by omega)
      have HL := Lib.hid (And.intro hlt hk)
      have hpx : a + j < 3072 := by omega
      have hX1 : BoxR (wr.drewN 1) g (putP S a j) := hX
      have HST := Lib.hid (hX1.set_ (a + j) hpx)
      have HB9 := Lib.hid (hB.drewsN 1)
      clear hX1
      have HPJ := Lib.hid (HPS.out j)
      have cc := hX.cell (i := (a + j) / 64) (by omega)
      have cf := hX.frozen ((a + j) / 64)
      have hws := word_set (putP S a j) (a + j)
      have q1 : ((a : Int) + (j : Int)) / 64 = (((a + j) / 64 : Nat) : Int) := by omega
      have q2 : ((a : Int) + (j : Int)) % 64 = (((a + j) % 64 : Nat) : Int) := by omega
      have t1 : ((a : Int) + (j : Int)).tdiv 64 = (((a + j) / 64 : Nat) : Int) := by rw [Int.tdiv_eq_ediv_of_nonneg (by omega)]; omega
      have t2 : ((a : Int) + (j : Int)).tmod 64 = (((a + j) % 64 : Nat) : Int) := by rw [Int.tmod_eq_emod_of_nonneg (by omega)]; omega
      have t3 : IntKind.i64.wrap (((a + j) / 64 : Nat) : Int) = (((a + j) / 64 : Nat) : Int) := IntWalk.i64_in _ (by omega)
      have t4 : IntKind.i64.wrap (((a + j) % 64 : Nat) : Int) = (((a + j) % 64 : Nat) : Int) := IntWalk.i64_in _ (by omega)
      have hq : (a + j) / 64 < 48 := by omega
      have hr : (a + j) % 64 < 64 := by omega
      have HBB := Lib.hid (And.intro hB hX)
      clear hB hX
      generalize (a + j) / 64 = q at *
      generalize (a + j) % 64 = r at *
      generalize wd (putP S a j) q = WO at *
      generalize wd (fun x => putP S a j x || x == a + j) q = WN at *
      have hp2 : (2 : Int) ^ r = ((2 ^ r : Nat) : Int) := by simp
      have hlt2 : 2 ^ r < 18446744073709551616 := Nat.pow_lt_pow_right (by omega : 1 < 2) (show r < 64 by omega)
      generalize 2 ^ r = P2 at *
      have e3 : IntKind.u64.wrap (P2 : Int) = (P2 : Int) := wraps_u64 _ (by omega) (by omega)
      go_wp2
      have cc' : (wr.drewN 1).cell? ⟨g, q, none⟩ = some (.int .u64 (WO : Int)) := cc
      have cf' : (wr.drewN 1).frozen? ⟨g, q, none⟩ = false := cf
      clear cc cf
      refine wp_region_still_tail 12 (by kernel_rfl) (by kernel_rfl) ?_
      simp only [List.take_succ_cons, List.take_zero, List.drop_succ_cons, List.drop_zero]
      change wpStill _ _ (wr.drewN 1) (fun a' => wpList _ _ _ _ a' (wr.drewN 1)) _ _
      generalize hW2 : wr.drewN 1 = W2 at *
      repeat (refine wpStill_step (fun K hK => ?_); go_simp; (first | refine hK _ ?_ | (go_values; refine hK _ ?_) | (go_values; go_simp; refine hK _ ?_) | (go_ite <;> go_prune <;> (try go_simp); refine hK _ ?_)); clear hK K)
      refine wpStill_nil ?_
      go_wp2
      go_roundg (n - (j + 1))
      case measure => have := HL.out; omega
      case rel => exact ⟨j + 1, by go_num, by have := HL.out; omega, by have := HL.out; omega, HB9.out.setCell (p := ⟨g, q, none⟩) (by simp) _, by rw [← HPJ.out]; exact HST.out⟩
    · obtain rfl : j = n := by omega
      have hltI : ¬ (a : Int) + (j : Int) < (a : Int) + (j : Int) := by omega
      have e1 : IntKind.i64.wrap ((a : Int) + (j : Int)) = (a : Int) + (j : Int) := IntWalk.i64_in _ (by omega)
      have e2 : wrap64 ((a : Int) + (j : Int)) = (a : Int) + (j : Int) := IntWalk.wrap64_in _ (by omega)
      go_wp2
      go_end0
      exact ⟨rfl, hB, hX⟩
end Go.Proofs.Ytgbpmleipdecgaa
