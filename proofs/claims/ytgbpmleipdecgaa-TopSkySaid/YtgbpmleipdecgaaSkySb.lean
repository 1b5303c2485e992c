/- Walks: how many bits a word has, and the sizes of sets. -/
import Derived.Test.YtgbpmleipdecgaaSkyEa
import Derived.Test.YtgbpmleipdecgaaSkySa
namespace Go.Proofs.Ytgbpmleipdecgaa
open Go.RowKit
set_option linter.unusedSimpArgs false
set_option linter.unusedVariables false

theorem u64_small {x : Int} (h0 : 0 ≤ x) (h1 : x < 18446744073709551616) : IntKind.u64.wrap x = x := wraps_u64 x h0 (by omega)
/-- the steps of the count, as numbers -/
theorem pop_ints (S : Px) (i : Nat) : ∃ X1 X2 X3 X4 X5 X6 : Int,
    IntKind.u64.wrap (bits .and .u64 ((wd S i : Int) / 2) 6148914691236517205 + bits .and .u64 (wd S i : Int) 6148914691236517205) = X1 ∧
    IntKind.u64.wrap (bits .and .u64 (X1 / 4) 3689348814741910323 + bits .and .u64 X1 3689348814741910323) = X2 ∧
    bits .and .u64 (IntKind.u64.wrap (X2 / 16 + X2)) 1085102592571150095 = X3 ∧
    IntKind.u64.wrap (X3 + X3 / 256) = X4 ∧ IntKind.u64.wrap (X4 + X4 / 65536) = X5 ∧ IntKind.u64.wrap (X5 + X5 / 4294967296) = X6 ∧
    IntKind.i64.wrap X6 = X6 ∧ bits .and .i64 X6 127 = (cntP S (64 * i) 64 : Nat) := by
  obtain ⟨k1, k2, k3, k4, k5, k6, k7, k8⟩ := pop_word S i
  have h0 := wd_lt S i
  have m1 := msk_55
  have m2 := msk_33
  have m3 := msk_0f
  generalize wd S i = x0 at *
  simp only [s1, s2, s3, s4, s5, s6, m1, m2, m3] at k1 k2 k3 k4 k5 k6 k7 k8
  have a1 := nat_and (x0 / 2) 6148914691236517205 (by omega) (by decide)
  have a2 := nat_and x0 6148914691236517205 (by omega) (by decide)
  generalize hx1 : (x0 / 2 &&& 6148914691236517205) + (x0 &&& 6148914691236517205) = x1 at *
  have a3 := nat_and (x1 / 4) 3689348814741910323 (by omega) (by decide)
  have a4 := nat_and x1 3689348814741910323 (by omega) (by decide)
  generalize hx2 : (x1 / 4 &&& 3689348814741910323) + (x1 &&& 3689348814741910323) = x2 at *
  have a5 := nat_and (x2 / 16 + x2) 1085102592571150095 (by omega) (by decide)
  generalize hx3 : (x2 / 16 + x2) &&& 1085102592571150095 = x3 at *
  generalize hx4 : x3 + x3 / 256 = x4 at *
  generalize hx5 : x4 + x4 / 65536 = x5 at *
  generalize hx6 : x5 + x5 / 4294967296 = x6 at *
  refine ⟨(x1 : Int), (x2 : Int), (x3 : Int), (x4 : Int), (x5 : Int), (x6 : Int), ?_, ?_, ?_, ?_, ?_, ?_, ?_, ?_⟩
  · rw [show ((x0 : Int) / 2) = ((x0 / 2 : Nat) : Int) by omega]
    rw [show ((6148914691236517205 : Int)) = ((6148914691236517205 : Nat) : Int) from rfl, a1, a2, u64_small (by omega) (by omega)]
    omega
  · rw [show ((x1 : Int) / 4) = ((x1 / 4 : Nat) : Int) by omega]
    rw [show ((3689348814741910323 : Int)) = ((3689348814741910323 : Nat) : Int) from rfl, a3, a4, u64_small (by omega) (by omega)]
    omega
  · rw [show ((x2 : Int) / 16 + (x2 : Int)) = ((x2 / 16 + x2 : Nat) : Int) by omega, u64_small (by omega) (by omega)]
    rw [show ((1085102592571150095 : Int)) = ((1085102592571150095 : Nat) : Int) from rfl, a5]
  · rw [u64_small (by omega) (by omega)]; omega
  · rw [u64_small (by omega) (by omega)]; omega
  · rw [u64_small (by omega) (by omega)]; omega
  · exact IntWalk.i64_in _ (by omega)
  · rw [show ((127 : Int)) = ((127 : Nat) : Int) from rfl, (bits_nat .i64 63 (by decide) (fun n h0 h1 => IntWalk.i64_in _ (by omega)) x6 127 (by omega) (by decide)).1, and_127, k8]
theorem index_reg (V : Array Value) (m : Nat) (x : Int) (hm : m < 48) (hv : V[m]? = some (.int .u64 x)) (w : World) :
    (Instr.index 81 (.agg V) (.int .i64 (m : Int))).run Try.prog w = .ok (.int .u64 x) w := by
  have hm2 : (m : Int) < 48 := by omega
  have hm0 : (0 : Int) ≤ (m : Int) := by omega
  simp [Instr.index, go_sem, Try.underlying81, hm2, hm0, hv]
  intro h; omega
def sizE (l : List (Int × Int)) : Int := if vldC l then 0 else 60
def sizN (l : List (Int × Int)) : Nat := if vldC l then cntP (uniP l) 0 3072 else 0
theorem cnt_fits (S : Px) (n : Nat) (h : n < 48) : cntP S 0 (64 * n) + cntP S (64 * n) 64 ≤ 3072 := by
  rw [cnt_words]
  have := cntP_le S 0 (64 * (n + 1))
  omega
end Go.Proofs.Ytgbpmleipdecgaa
