/- Walks: how many bits a word has, and the sizes of sets. -/
import Derived.Test.YtolgpigdioanoaaSkyEa
import Derived.Test.YtolgpigdioanoaaSkySa
namespace Go.Proofs.Ytolgpigdioanoaa
open Go.RowKit
set_option linter.unusedSimpArgs false
set_option linter.unusedVariables false

theorem u64_small {x : Int} (h0 : 0 ≤ x) (h1 : x < 18446744073709551616) : IntKind.u64.wrap x = x := wraps_u64 x h0 (by omega)
/-- the steps of the count, as numbers -/
theorem pop_ints (S : Px) (i : Nat) : ∃ X1 X2 X3 X4 X5 X6 : Int,
    IntKind.u64.wrap (bits .and .u64 ((wd S i : Int) / 2) 6148914691236517205 + bits .and .u64 (wd S i : Int) 6148914691236517205) = X1 ∧
    IntKind.u64.wrap (bits .and .u64 (X1 / 4) 3689348814741910323 + bits .and .u64 X1 3689348814741910323) = X2 ∧
    bits .and .u64 (IntKind.u64.wrap (X2 / 16 + X2)) 1085102592571150095 = X3 ∧
    IntKind.u64.wrap (X3 + X3 / 256) = X4 ∧ IntKind.u64.wrap (X4 + X4 / 65536) = X5 ∧ IntKind.u64.wrap (X5 + X5 / 4294967296) = X6 ∧
    IntKind.i64.wrap X6 = X6 ∧ bits .and .i64 X6 127 = (cntP S (64 * i) 64 : Nat) := by
  obtain ⟨k1, k2, k3, k4, k5, k6, k7, k8⟩ := pop_word S i
  have h0 := wd_lt S i
  have m1 := msk_55
  have m2 := msk_33
  have m3 := msk_0f
  generalize wd S i = x0 at *
  simp only [s1, s2, s3, s4, s5, s6, m1, m2, m3] at k1 k2 k3 k4 k5 k6 k7 k8
  have a1 := nat_and (x0 / 2) 6148914691236517205 (by omega) (by decide)
  have a2 := nat_and x0 6148914691236517205 (by omega) (by decide)
  generalize hx1 : (x0 / 2 &&& 6148914691236517205) + (x0 &&& 6148914691236517205) = x1 at *
  have a3 := nat_and (x1 / 4) 3689348814741910323 (by omega) (by decide)
  have a4 := nat_and x1 3689348814741910323 (by omega) (by decide)
  generalize hx2 : (x1 / 4 &&& 3689348814741910323) + (x1 &&& 3689348814741910323) = x2 at *
  have a5 := nat_and (x2 / 16 + x2) 1085102592571150095 (by omega) (by decide)
  generalize hx3 : (x2 / 16 + x2) &&& 1085102592571150095 = x3 at *
  generalize hx4 : x3 + x3 / 256 = x4 at *
  generalize hx5 : x4 + x4 / 65536 = x5 at *
  generalize hx6 : x5 + x5 / 4294967296 = x6 at *
  refine ⟨(x1 : Int), (x2 : Int), (x3 : Int), (x4 : Int), (x5 : Int), (x6 : Int), ?_, ?_, ?_, ?_, ?_, ?_, ?_, ?_⟩
  · rw [show ((x0 : Int) / 2) = ((x0 / 2 : Nat) : Int) by omega]
    rw [show ((6148914691236517205 : Int)) = ((6148914691236517205 : Nat) : Int) from rfl, a1, a2, u64_small (by omega) (by omega)]
    omega
  · rw [show ((x1 : Int) / 4) = ((x1 / 4 : Nat) : Int) by omega]
    rw [show ((3689348814741910323 : Int)) = ((3689348814741910323 : Nat) : Int) from rfl, a3, a4, u64_small (by omega) (by omega)]
    omega
  · rw [show ((x2 : Int) / 16 + (x2 : Int)) = ((x2 / 16 + x2 : Nat) : Int) by omega, u64_small (by omega) (by omega)]
    rw [show ((1085102592571150095 : Int)) = ((1085102592571150095 : Nat) : Int) from rfl, a5]
  · rw [u64_small (by omega) (by omega)]; omega
  · rw [u64_small (by omega) (by omega)]; omega
  · rw [u64_small (by omega) (by omega)]; omega
  · exact IntWalk.i64_in _ (by omega)
  · rw [show ((127 : Int)) = ((127 : Nat) : Int) from rfl, (bits_nat .i64 63 (by decide) (fun n h0 h1 => IntWalk.i64_in _ (by omega)) x6 127 (by omega) (by decide)).1, and_127, k8]
set_option maxRecDepth 100000 in
set_option maxHeartbeats 4000000 in
theorem ones_any (S : Px) (i : Nat) (w : World) :
    Calls Try.prog 122 #[.int .u64 (wd S i : Int)] w fun e w' => e = .returned (.int .i64 (cntP S (64 * i) 64 : Nat)) ∧ w = w' := by
  obtain ⟨X1, X2, X3, X4, X5, X6, E1, E2, E3, E4, E5, E6, E7, E8⟩ := pop_ints S i
  generalize (wd S i : Int) = X0 at *
  generalize cntP S (64 * i) 64 = C at *
  go_enter Try.func122, Try.ntmps122
  go_wp2
  go_ret
  exact ⟨rfl, rfl⟩

theorem index_reg (V : Array Value) (m : Nat) (x : Int) (hm : m < 48) (hv : V[m]? = some (.int .u64 x)) (w : World) :
    (Instr.index 98 (.agg V) (.int .i64 (m : Int))).run Try.prog w = .ok (.int .u64 x) w := by
  have hm2 : (m : Int) < 48 := by omega
  have hm0 : (0 : Int) ≤ (m : Int) := by omega
  simp [Instr.index, go_sem, Try.underlying98, hm2, hm0, hv]
  intro h; omega
def sizE (l : List (Int × Int)) : Int := if vldC l then 0 else 60
def sizN (l : List (Int × Int)) : Nat := if vldC l then cntP (uniP l) 0 3072 else 0
theorem cnt_fits (S : Px) (n : Nat) (h : n < 48) : cntP S 0 (64 * n) + cntP S (64 * n) 64 ≤ 3072 := by
  rw [cnt_words]
  have := cntP_le S 0 (64 * (n + 1))
  omega
set_option maxRecDepth 100000 in
set_option maxHeartbeats 4000000 in
theorem Size_any (A : Option Addr) (c : Nat) (l : List (Int × Int)) (w : World) (hr : RdP w w.heap.size A l) (hl : l.length ≤ 1000000) :
    Calls Try.prog 59 #[.slice A l.length c] w fun e w' => e = .returned (.tuple #[.int .i64 (sizN l : Nat), .int .i64 (sizE l)]) ∧ Below w.heap.size w w' := by
  have HG := Lib.hid (regions_one A c l _ hr hl)
  have HSZ := Lib.hid rgA_size
  have HE : Hid (∀ v, vldC l = v → sizE l = if v then 0 else 60) := Lib.hid (fun v h => by rw [← h]; rfl)
  have HN : Hid (∀ v, vldC l = v → sizN l = if v then cntP (uniP l) 0 3072 else 0) := Lib.hid (fun v h => by rw [← h]; rfl)
  have HON := Lib.hid (fun i W => ones_any (uniP l) i W)
  have HCW := Lib.hid (cnt_words (uniP l))
  have HCF := Lib.hid (cnt_fits (uniP l))
  have HGT := Lib.hid (fun (i : Nat) (h : i < 48) => rgA_get (uniP l) h)
  have HC0 : Hid (cntP (uniP l) 0 0 = 0) := Lib.hid rfl
  clear hr hl
  generalize sizE l = se at *
  generalize sizN l = sn at *
  generalize vldC l = vl at *
  generalize uniP l = U at *
  generalize l.length = n at *
  go_enter Try.func59, Try.ntmps59
  go_upto_region 5 with (go_at_call 101; refine HG.out.mono ?_; rintro e w1 ⟨h1, ⟨hvl, rfl⟩ | ⟨hvl, b, c1, rfl, hb, hrg⟩⟩)
  · go_ret2
    exact ⟨by rw [HE.out _ hvl, HN.out _ hvl]; rfl, h1⟩
  · have e1 := HE.out _ hvl
    have e2 := HN.out _ hvl
    simp only [if_true] at e1 e2
    have HE2 := Lib.hid (And.intro e1 e2)
    clear HE HN e1 e2 hvl
    have HRG := Lib.hid hrg
    have hl48 : (rgA U).toList.length = 48 := by rw [Array.length_toList, HSZ.out]
    have HL48 := Lib.hid hl48
    clear hrg hl48
    have HAG := Lib.hid (show (rgA U).toList.toArray = rgA U by simp)
    go_wp2_with (refine wpList_load_mid rfl 98 (.tmp 19) rfl b 0 rfl (rgA U).toList _ HRG.out Try.underlying98 rfl (by rw [infoReg, HL48.out]) ?_; rw [HAG.out])
    go_loopg [6, 21] 48 (fun gk s t wr => ∃ i : Nat, s = .int .i64 (cntP U 0 (64 * i) : Nat) ∧ t = .int .i64 i ∧ i ≤ 48 ∧ 48 - i ≤ gk ∧ wr = w1)
    case atStart => exact ⟨0, by rw [Nat.mul_zero, HC0.out]; rfl, rfl, by omega, by omega, rfl⟩
    case round =>
      obtain ⟨i, rfl, rfl, hi, hgk, rfl⟩ := hrel
      by_cases hlt : i < 48
      · have hltI : decide ((i : Int) < 48) = true := by rw [decide_eq_true_eq]; omega
        have hltJ : (i : Int) < 48 := by omega
        have HVX := Lib.hid (index_reg (rgA U) i _ hlt (HGT.out i hlt))
        have HL := Lib.hid (And.intro hlt hgk)
        have hcf := HCF.out i hlt
        have HCI := Lib.hid (HCW.out i)
        have HONi := Lib.hid (HON.out i)
        generalize cntP U (64 * i) 64 = ci at *
        generalize cntP U 0 (64 * i) = cj at *
        have hww : IntKind.i64.wrap ((cj : Int) + (ci : Int)) = ((cj + ci : Nat) : Int) := by rw [IntWalk.i64_in _ (by omega)]; omega
        have hww2 : wrap64 ((cj : Int) + (ci : Int)) = ((cj + ci : Nat) : Int) := by rw [IntWalk.wrap64_in _ (by omega)]; omega
        generalize (wd U i : Int) = wi at *
        generalize hcs : cj + ci = cs at *
        clear hcs
        go_wp2_with (first
          | (rw [HVX.out])
          | (go_at_call 122; refine (HONi.out _).mono ?_; rintro e w' ⟨rfl, rfl⟩))
        go_roundg (48 - (i + 1))
        case measure => have := HL.out; omega
        case rel => exact ⟨i + 1, by rw [← HCI.out], by go_num, by have := HL.out; omega, by have := HL.out; omega, rfl⟩
      · obtain rfl : i = 48 := by omega
        go_wp2
        go_ret2
        exact ⟨by rw [HE2.out.1, HE2.out.2]; rfl, h1⟩
end Go.Proofs.Ytolgpigdioanoaa
