/- The walk of IceTurns. -/
import Derived.Test.YtnodeooammplfaaIceReachesW
import Derived.Test.YtnodeooammplfaaIceOthersW
import Derived.Test.YtnodeooammplfaaIceLaw7
namespace Go.Proofs.Ytnodeooammplfaa
set_option linter.unusedVariables false
open Go.RowKit

/-- two kinds of ice want as many lamps: the law's own comparison -/
theorem lampsLaw_any (A1 A2 : Option Addr) (c1 c2 : Nat) (L1 L2 : List (Int × Int)) (s : Int) (w : World) (hr1 : RdP w w.heap.size A1 L1) (hr2 : RdP w w.heap.size A2 L2) (hv1 : vld L1 = true) (hv2 : vld L2 = true) (hs : btw 0 s 100000 = true) (hC : lampC (mets L1) s = lampC (mets L2) s) :
    Calls Try.prog 58 #[.slice A1 L1.length c1, .slice A2 L2.length c2, .int .i64 s] w fun e w' => e = .returned (.bool true) ∧ Below w.heap.size w w' := by
  have hl1 : L1.length ≤ 1125899906842624 := by have := (vld_spec hv1).2.1; omega
  have hl2 : L2.length ≤ 1125899906842624 := by have := (vld_spec hv2).2.1; omega
  have h1 := fun W (h : Below w.heap.size w W) => Lamps_any A1 c1 L1 s W (hr1.on h) hl1
  have h2 := fun W (h : Below w.heap.size w W) => Lamps_any A2 c2 L2 s W (hr2.on h) hl2
  have key : ∃ (er : Int) (m : Nat), (er = 0 ∨ er = 5) ∧ m ≤ 600 ∧ LitsE L1 s = er ∧ LitsE L2 s = er ∧ (LitsL (fun x _ => x) L1 s).length = m ∧ (LitsL (fun x _ => x) L2 s).length = m := by
    unfold lampC at hC
    cases hK : lampsO (mets L1) s with
    | none =>
      cases hK2 : lampsO (mets L2) s with
      | none => exact ⟨5, 0, .inr rfl, by omega, by unfold LitsE; rw [hv1, hs, hK]; rfl, by unfold LitsE; rw [hv2, hs, hK2]; rfl, by unfold LitsL; rw [hv1, hs, hK]; simp [litL, lmp], by unfold LitsL; rw [hv2, hs, hK2]; simp [litL, lmp]⟩
      | some K' => rw [hK, hK2] at hC; simp at hC
    | some K =>
      cases hK2 : lampsO (mets L2) s with
      | none => rw [hK, hK2] at hC; simp at hC
      | some K' =>
        rw [hK, hK2] at hC
        simp only [Option.map_some, Option.some.injEq] at hC
        have := lampsO_len hK
        have := mets_len600 (okL_of_vld hv1)
        exact ⟨0, K.length, .inl rfl, by omega, by unfold LitsE; rw [hv1, hs, hK]; rfl, by unfold LitsE; rw [hv2, hs, hK2]; rfl, by unfold LitsL; rw [hv1, hs, hK]; simp [litL, lmp], by unfold LitsL; rw [hv2, hs, hK2]; simp [litL, lmp, hC]⟩
  obtain ⟨er, m, he, hm, k1, k2, k3, k4⟩ := key
  unfold IntsRet at h1 h2
  rw [k1, k3] at h1
  rw [k2, k4] at h2
  have H1 := Lib.hid h1; have H2 := Lib.hid h2
  clear h1 h2 k1 k2 k3 k4 hC hr1 hr2
  have hB := Below.refl w.heap.size w
  have hmi : (m : Int) ≤ 600 := by omega
  rcases he with rfl | rfl
  all_goals
    go_enter Try.func58, Try.ntmps58
    go_wp2_with (go_at_call 49; first | (have := tk1; refine (H2.out _ hB).mono ?_; rintro e w2 ⟨h2, A4, c4, rfl, _⟩; have hB := hB.trs h2) | (refine (H1.out _ hB).mono ?_; rintro e w1 ⟨h1, A3, c3, rfl, _⟩; have hB := hB.trs h1; have tk1 := trivial))
    go_ret
    exact ⟨rfl, hB⟩

set_option maxRecDepth 100000 in
set_option maxHeartbeats 8000000 in
theorem IceTurns_gen (w : World) (A : Option Addr) (q c : Nat) (x0 x1 s n1 fr to_ a : Int) (n m : Nat) (T P Lst : List (Int × Int))
    (b0 : 0 ≤ x0 ∧ x0 < 65536) (b1 : 0 ≤ x1 ∧ x1 < 65536) (bs : 0 ≤ s ∧ s < 65536) (hn : n ≤ 600) (hn1 : (n : Int) + 1 = n1) (ef : x0 % n1 = fr) (et : x1 % n1 = to_)
    (hq : q ≤ 60) (hm : m ≤ q) (hPl : P.length = m) (hne : ∀ k, k + 1 < m → pb P k ≠ pb P (k + 1))
    (HV : ∀ W : World, Below (w.alloc (.cells #[.int .u16 x0, .int .u16 x1] 43)).heap.size (w.alloc (.cells #[.int .u16 x0, .int .u16 x1] 43)) W → Calls Try.prog 21 #[.slice A q c] W fun e w' => e = .returned (.bool true) ∧ W = w')
    (HM : ∀ W : World, Below (w.alloc (.cells #[.int .u16 x0, .int .u16 x1] 43)).heap.size (w.alloc (.cells #[.int .u16 x0, .int .u16 x1] 43)) W → Calls Try.prog 28 #[.slice A q c] W fun e w' => ∃ A' c', e = .returned (.slice A' n c') ∧ Below W.heap.size W w')
    (H1 : ∀ W : World, Below (w.alloc (.cells #[.int .u16 x0, .int .u16 x1] 43)).heap.size (w.alloc (.cells #[.int .u16 x0, .int .u16 x1] 43)) W → Calls Try.prog 31 #[.slice A q c] W fun e w' => ∃ A' c', e = .returned (.tuple #[.slice A' q c', .int .i64 0]) ∧ Below W.heap.size W w' ∧ Hid (RdP w' w'.heap.size A' T))
    (H2 : ∀ (W : World) A' c', Below (w.alloc (.cells #[.int .u16 x0, .int .u16 x1] 43)).heap.size (w.alloc (.cells #[.int .u16 x0, .int .u16 x1] 43)) W → RdP W W.heap.size A' T → Calls Try.prog 31 #[.slice A' q c'] W fun e w' => ∃ A' c', e = .returned (.tuple #[.slice A' q c', .int .i64 0]) ∧ Below W.heap.size W w' ∧ Hid (RdP w' w'.heap.size A' Lst))
    (H3 : ∀ W : World, Below (w.alloc (.cells #[.int .u16 x0, .int .u16 x1] 43)).heap.size (w.alloc (.cells #[.int .u16 x0, .int .u16 x1] 43)) W → Calls Try.prog 24 #[.slice A q c, .int .i64 fr, .int .i64 to_] W fun e w' => e = .returned (.tuple #[.int .i64 a, .int .i64 0]) ∧ Below W.heap.size W w')
    (H4 : ∀ (W : World) A' c', Below (w.alloc (.cells #[.int .u16 x0, .int .u16 x1] 43)).heap.size (w.alloc (.cells #[.int .u16 x0, .int .u16 x1] 43)) W → RdP W W.heap.size A' T → Calls Try.prog 24 #[.slice A' q c', .int .i64 ((n : Int) - fr), .int .i64 ((n : Int) - to_)] W fun e w' => e = .returned (.tuple #[.int .i64 a, .int .i64 0]) ∧ Below W.heap.size W w')
    (H5 : ∀ (W : World) A' c', Below (w.alloc (.cells #[.int .u16 x0, .int .u16 x1] 43)).heap.size (w.alloc (.cells #[.int .u16 x0, .int .u16 x1] 43)) W → RdP W W.heap.size A' Lst → Calls Try.prog 33 #[.slice A' q c', .slice A q c] W fun e w' => e = .returned (.bool true) ∧ Below W.heap.size W w')
    (H6 : ∀ (W : World) A' c', Below (w.alloc (.cells #[.int .u16 x0, .int .u16 x1] 43)).heap.size (w.alloc (.cells #[.int .u16 x0, .int .u16 x1] 43)) W → RdP W W.heap.size A' T → Calls Try.prog 58 #[.slice A q c, .slice A' q c', .int .i64 s] W fun e w' => e = .returned (.bool true) ∧ Below W.heap.size W w')
    (H7 : ∀ W : World, Below (w.alloc (.cells #[.int .u16 x0, .int .u16 x1] 43)).heap.size (w.alloc (.cells #[.int .u16 x0, .int .u16 x1] 43)) W → Calls Try.prog 29 #[.slice A q c] W fun e w' => ∃ A' c', e = .returned (.tuple #[.slice A' m c', .int .i64 0]) ∧ Below W.heap.size W w' ∧ Hid (RdP w' w'.heap.size A' P))
    (H8 : (∀ k, k < m → pa P k ≤ 30) → ∀ (W : World) A' c', Below (w.alloc (.cells #[.int .u16 x0, .int .u16 x1] 43)).heap.size (w.alloc (.cells #[.int .u16 x0, .int .u16 x1] 43)) W → RdP W W.heap.size A' P → Calls Try.prog 24 #[.slice A' m c', .int .i64 fr, .int .i64 to_] W fun e w' => e = .returned (.tuple #[.int .i64 a, .int .i64 0]) ∧ Below W.heap.size W w')
    (H9 : (∀ k, k < m → pa P k ≤ 30) → ∀ (W : World) A' c', Below (w.alloc (.cells #[.int .u16 x0, .int .u16 x1] 43)).heap.size (w.alloc (.cells #[.int .u16 x0, .int .u16 x1] 43)) W → RdP W W.heap.size A' P → Calls Try.prog 29 #[.slice A' m c'] W fun e w' => ∃ A' c', e = .returned (.tuple #[.slice A' m c', .int .i64 0]) ∧ Below W.heap.size W w' ∧ Hid (RdP w' w'.heap.size A' P))
    (H10 : ∀ (W : World) A' c' A2 c2, Below (w.alloc (.cells #[.int .u16 x0, .int .u16 x1] 43)).heap.size (w.alloc (.cells #[.int .u16 x0, .int .u16 x1] 43)) W → RdP W W.heap.size A' P → RdP W W.heap.size A2 P → Calls Try.prog 33 #[.slice A' m c', .slice A2 m c2] W fun e w' => e = .returned (.bool true) ∧ Below W.heap.size W w')
    (H11 : (∀ k, k < m → pa P k ≤ 30) → ∀ (W : World) A' c', Below (w.alloc (.cells #[.int .u16 x0, .int .u16 x1] 43)).heap.size (w.alloc (.cells #[.int .u16 x0, .int .u16 x1] 43)) W → RdP W W.heap.size A' P → Calls Try.prog 58 #[.slice A q c, .slice A' m c', .int .i64 s] W fun e w' => e = .returned (.bool true) ∧ Below W.heap.size W w') :
    Calls Try.prog 14 #[.slice A q c, .agg #[.int .u16 x0, .int .u16 x1], .int .u16 s] w fun e w' => e = .returned (.bool true) ∧ Below w.heap.size w w' := by
  have V := Lib.hid HV; have M := Lib.hid HM; have L1 := Lib.hid H1; have L2 := Lib.hid H2; have L3 := Lib.hid H3; have L4 := Lib.hid H4; have L5 := Lib.hid H5; have L6 := Lib.hid H6; have L7 := Lib.hid H7; have L8 := Lib.hid H8; have L9 := Lib.hid H9; have L10 := Lib.hid H10; have L11 := Lib.hid H11
  clear HV HM H1 H2 H3 H4 H5 H6 H7 H8 H9 H10 H11
  have HNE := Lib.hid hne; clear hne
  have HPL := Lib.hid hPl; clear hPl
  have hd : decide ((60 : Int) < (q : Int)) = false := by rw [decide_eq_false_iff_not]; omega
  have hd2 : decide ((q : Int) < (m : Int)) = false := by rw [decide_eq_false_iff_not]; omega
  have hd3 : decide (q < m) = false := by rw [decide_eq_false_iff_not]; omega
  have hqi : (q : Int) ≤ 60 := by omega
  have hmi : (m : Int) ≤ 60 := by omega
  have hnn : ¬ n1 = 0 := by omega
  have f0 := Int.emod_nonneg x0 hnn
  have f1 := Int.emod_lt_of_pos x0 (show 0 < n1 by omega)
  have g0 := Int.emod_nonneg x1 hnn
  have g1 := Int.emod_lt_of_pos x1 (show 0 < n1 by omega)
  rw [ef] at f0 f1
  rw [et] at g0 g1
  have r1 : -9223372036854775808 ≤ n1 ∧ n1 ≤ 9223372036854775807 := by omega
  have r2 : -9223372036854775808 ≤ x0 ∧ x0 ≤ 9223372036854775807 := by omega
  have r3 : -9223372036854775808 ≤ x1 ∧ x1 ≤ 9223372036854775807 := by omega
  have r4 : -9223372036854775808 ≤ s ∧ s ≤ 9223372036854775807 := by omega
  have r5 : -9223372036854775808 ≤ fr ∧ fr ≤ 9223372036854775807 := by omega
  have r6 : -9223372036854775808 ≤ to_ ∧ to_ ≤ 9223372036854775807 := by omega
  have r7 : -9223372036854775808 ≤ (n : Int) - fr ∧ (n : Int) - fr ≤ 9223372036854775807 := by omega
  have r8 : -9223372036854775808 ≤ (n : Int) - to_ ∧ (n : Int) - to_ ≤ 9223372036854775807 := by omega
  have hB0 := below_alloc w (.cells #[.int .u16 x0, .int .u16 x1] 43)
  have hbx := Box.new w 43 #[.int .u16 x0, .int .u16 x1]
  have HBX := Lib.hid hbx; clear hbx
  have hb := Below.refl (w.alloc (.cells #[.int .u16 x0, .int .u16 x1] 43)).heap.size (w.alloc (.cells #[.int .u16 x0, .int .u16 x1] 43))
  have HLOOP : Hid (∀ (k : Nat), k < m → ∀ (W : World) (A' : Option Addr), RdP W W.heap.size A' P → ∃ b o, A' = some ⟨b, o, none⟩ ∧ b < W.heap.size ∧ W.cell? ⟨b, o + k * 2, none⟩ = some (.int .i64 (pa P k)) ∧ W.cell? ⟨b, o + k * 2 + 1, none⟩ = some (.int .i64 (pb P k))) := Lib.hid (fun k hk W A' h => h.at_ (by rw [HPL.out]; exact hk))
  have hw1 : IntKind.i64.wrap n1 = n1 := IntWalk.i64_in _ r1
  have hw2 : IntKind.i64.wrap ((n : Int) + 1) = n1 := by rw [hn1]; exact hw1
  have hw2' : wrap64 ((n : Int) + 1) = n1 := by rw [hn1]; exact IntWalk.wrap64_in _ r1
  have s1 : IntKind.i64.wrap x0 = x0 := IntWalk.i64_in _ r2
  have s2 : IntKind.i64.wrap x1 = x1 := IntWalk.i64_in _ r3
  have s3 : IntKind.i64.wrap s = s := IntWalk.i64_in _ r4
  have s1' : wrap64 x0 = x0 := IntWalk.wrap64_in _ r2
  have s2' : wrap64 x1 = x1 := IntWalk.wrap64_in _ r3
  have s3' : wrap64 s = s := IntWalk.wrap64_in _ r4
  have v1 : IntKind.i64.wrap fr = fr := IntWalk.i64_in _ r5
  have v2 : IntKind.i64.wrap to_ = to_ := IntWalk.i64_in _ r6
  have v1' : wrap64 fr = fr := IntWalk.wrap64_in _ r5
  have v2' : wrap64 to_ = to_ := IntWalk.wrap64_in _ r6
  have v3 : IntKind.i64.wrap ((n : Int) - fr) = (n : Int) - fr := IntWalk.i64_in _ r7
  have v4 : IntKind.i64.wrap ((n : Int) - to_) = (n : Int) - to_ := IntWalk.i64_in _ r8
  have v3' : wrap64 ((n : Int) - fr) = (n : Int) - fr := IntWalk.wrap64_in _ r7
  have v4' : wrap64 ((n : Int) - to_) = (n : Int) - to_ := IntWalk.wrap64_in _ r8
  have t1 : x0.tmod n1 = fr := by rw [Int.tmod_eq_emod_of_nonneg b0.1]; exact ef
  have t2 : x1.tmod n1 = to_ := by rw [Int.tmod_eq_emod_of_nonneg b1.1]; exact et
  have t0 := b0.1
  have t0' := b1.1
  clear hn1 r1 r2 r3 r4 r5 r6 r7 r8
  go_enter Try.func14, Try.ntmps14
  go_wp2_with (first
    | (go_at_call 16; refine (Long_any _ _ _ _).mono ?_; rintro e w' ⟨rfl, rfl⟩)
    | (go_at_call 21; refine (V.out _ hb).mono ?_; rintro e w' ⟨rfl, rfl⟩)
    | (go_at_call 28; refine (M.out _ hb).mono ?_; rintro e w1 ⟨A', c', rfl, h1⟩; have hb1 := HBX.out.on h1; have y0 : w1.cell? ⟨w.heap.size, 0, none⟩ = some (.int .u16 x0) := hb1.cell 0; have y1 : w1.cell? ⟨w.heap.size, 1, none⟩ = some (.int .u16 x1) := hb1.cell 1; have hb := hb.trs h1; clear hb1))
  go_quiet (fail)
  have hb := hb.drewsN nq
  clear y0 y1
  go_wp2_with (first
    | (go_at_call 31; first
        | (have := tk1; refine (L2.out _ _ _ hb R1.out).mono ?_; rintro e w3 ⟨A2, c2, rfl, h3, R2⟩; have hb := hb.trs h3)
        | (refine (L1.out _ hb).mono ?_; rintro e w2 ⟨A1, c1, rfl, h2, R1⟩; have hb := hb.trs h2; have tk1 := trivial))
    | (go_at_call 24; first
        | (have := tk2; refine (L4.out _ _ _ hb ((R1.out.on h3).on h4)).mono ?_; rintro e w5 ⟨rfl, h5⟩; have hb := hb.trs h5)
        | (refine (L3.out _ hb).mono ?_; rintro e w4 ⟨rfl, h4⟩; have hb := hb.trs h4; have tk2 := trivial))
    | (go_at_call 33; refine (L5.out _ _ _ hb ((R2.out.on h4).on h5)).mono ?_; rintro e w6 ⟨rfl, h6⟩; have hb := hb.trs h6)
    | (go_at_call 58; refine (L6.out _ _ _ hb ((((R1.out.on h3).on h4).on h5).on h6)).mono ?_; rintro e w7 ⟨rfl, h7⟩; have hb := hb.trs h7)
    | (go_at_call 29; refine (L7.out _ hb).mono ?_; rintro e w8 ⟨A3, c3, rfl, h8, R3⟩; have hb := hb.trs h8))
  have HB8 := Lib.hid hb
  clear hb h8 h7 h6 h5 h4 h3 h2 R1 R2 tk1 tk2
  go_loopg [19] m (fun kk u wr => ∃ k : Nat, u = .int .i64 k ∧ k ≤ m ∧ m - k ≤ kk ∧ Hid (∀ t, t < k → pa P t ≤ 30) ∧ Below w8.heap.size w8 wr)
  case atStart => exact ⟨0, rfl, by omega, by omega, Lib.hid (fun t ht => by omega), Below.refl _ _⟩
  case round =>
    obtain ⟨k, rfl, hk, hkk, hQ, hB⟩ := hrel
    have hBr := Lib.hid hB
    have hb := HB8.out.trs hB
    by_cases hlt : k < m
    · obtain ⟨b, o, rfl, hbb, q1, q2⟩ := HLOOP.out k hlt w8 _ R3.out
      rw [← hB.cell hbb] at q1 q2
      clear hB
      by_cases h30 : pa P k ≤ 30
      · have HQN : Hid (∀ t, t < k + 1 → pa P t ≤ 30) := Lib.hid (fun t ht => by
          rcases Nat.lt_succ_iff_lt_or_eq.1 ht with h | rfl
          · exact hQ.out t h
          · exact h30)
        have h30d : decide ((30 : Int) < pa P k) = false := by rw [decide_eq_false_iff_not]; omega
        clear hQ h30
        cases k with
        | zero =>
          have e0 : ((0 : Nat) : Int) = 0 := rfl
          rw [e0]
          simp only [Nat.zero_mul, Nat.add_zero] at q1 q2
          generalize pa P 0 = x at *
          generalize pb P 0 = y at *
          go_wp2
          go_quiet (fail)
          go_wp2
          go_roundg (m - 1)
          case measure => omega
          case rel => exact ⟨1, by first | rfl | go_num, by omega, by omega, HQN, hBr.out.drewsN _⟩
        | succ j =>
          obtain ⟨b', o', he, _, _, q4⟩ := HLOOP.out j (by omega) w8 _ R3.out
          injection he with he
          injection he with e1 e2 _
          subst e1; subst e2
          rw [← hBr.out.cell hbb] at q4
          have hne := HNE.out j hlt
          have e3 : ((j + 1 : Nat) : Int) = (j : Int) + 1 := by omega
          rw [e3]
          have i0 : 0 ≤ (j : Int) := by omega
          have i1 : (j : Int) < (m : Int) := by omega
          have i2 : (j : Int) + 1 < (m : Int) := by omega
          have i3 : 0 ≤ (j : Int) + 1 := by omega
          have i4 : ((j : Int) + 1).toNat = j + 1 := by omega
          have i7 : 0 < (j : Int) + 1 := by omega
          have i5 : IntKind.i64.wrap ((j : Int) + 1 - 1) = (j : Int) := by rw [show (j : Int) + 1 - 1 = j by omega]; exact IntWalk.i64_in _ (by omega)
          have i6 : IntKind.i64.wrap (j : Int) = (j : Int) := IntWalk.i64_in _ (by omega)
          generalize pa P (j + 1) = x at *
          generalize pb P (j + 1) = y at *
          generalize pb P j = z at *
          have hyz : (y == z) = false := by simpa using fun h : y = z => hne h.symm
          have hyz2 : ¬ y = z := fun h => hne h.symm
          clear hne hlt
          go_wp2
          go_quiet (fail)
          go_wp2
          go_roundg (m - (j + 1 + 1))
          case measure => omega
          case rel => exact ⟨j + 1 + 1, by first | rfl | go_num, by omega, by omega, HQN, hBr.out.drewsN _⟩
      · have h30d : decide ((30 : Int) < pa P k) = true := by rw [decide_eq_true_eq]; omega
        clear hQ h30
        generalize pa P k = x at *
        generalize pb P k = y at *
        go_wp2_with (go_at_call 17; refine (Sane_any _).mono ?_; rintro e w9 ⟨rfl, h9⟩)
        go_ret
        exact ⟨rfl, (hB0.trs hb).trs h9⟩
    · obtain rfl : k = m := by omega
      have M8 := Lib.hid (L8.out hQ.out); have M9 := Lib.hid (L9.out hQ.out); have M11 := Lib.hid (L11.out hQ.out)
      have R3r := Lib.hid (R3.out.on hB)
      clear hQ hB L8 L9 L11
      go_wp2_with (first
        | (go_at_call 24; refine (M8.out _ _ _ hb R3r.out).mono ?_; rintro e wa ⟨rfl, ha⟩; have hb := hb.trs ha)
        | (go_at_call 29; refine (M9.out _ _ _ hb (R3r.out.on ha)).mono ?_; rintro e wb ⟨A4, c4, rfl, hbb, R4⟩; have hb := hb.trs hbb)
        | (go_at_call 33; refine (L10.out _ _ _ _ _ hb R4.out ((R3r.out.on ha).on hbb)).mono ?_; rintro e wc ⟨rfl, hc⟩; have hb := hb.trs hc)
        | (go_at_call 58; refine (M11.out _ _ _ hb (((R3r.out.on ha).on hbb).on hc)).mono ?_; rintro e wd ⟨rfl, hd⟩; have hb := hb.trs hd)
        | (go_at_call 17; refine (Sane_any _).mono ?_; rintro e we ⟨rfl, he⟩; have hb := hb.trs he))
      go_ret
      exact ⟨rfl, hB0.trs hb⟩
set_option maxRecDepth 100000 in
set_option maxHeartbeats 4000000 in
theorem IceTurns_walk (w : World) (A : Option Addr) (c : Nat) (L : List (Int × Int)) (hr : RdP w w.heap.size A L) (_hm : L.length ≤ maxLen) (x0 x1 : Int) (wx : (Lit.int .u16 x0).wf = true ∧ (Lit.int .u16 x1).wf = true) (s : Int) (ws : (Lit.int .u16 s).wf = true) :
    Calls Try.prog 14 #[.slice A L.length c, .agg #[.int .u16 x0, .int .u16 x1], .int .u16 s] w fun e w' => e = .returned (.bool true) ∧ Below w.heap.size w w' := by
  have hB0 := below_alloc w (.cells #[.int .u16 x0, .int .u16 x1] 43)
  by_cases hl : L.length ≤ 60
  · have hl2 : L.length ≤ 1125899906842624 := by omega
    cases hv : vld L
    · have hd : decide ((60 : Int) < L.length) = false := by simp; omega
      have HV := Lib.hid (refValid_any A c L _ (hr.on hB0) hl2)
      rw [hv] at HV
      clear hr hv
      go_enter Try.func14, Try.ntmps14
      go_wp2_with (first
        | (go_at_call 16; refine (Long_any _ _ _ _).mono ?_; rintro e w' ⟨rfl, rfl⟩)
        | (go_at_call 21; refine HV.out.mono ?_; rintro e w' ⟨rfl, rfl⟩)
        | (go_at_call 17; refine (Sane_any _).mono ?_; rintro e w10 ⟨rfl, h10⟩))
      go_ret
      exact ⟨rfl, hB0.trs h10⟩
    · have bx0 := bounds_u16 wx.1
      have bx1 := bounds_u16 wx.2
      have bs := bounds_u16 ws
      have hok := okL_of_vld hv
      have h600 := mets_len600 hok
      have hnn : ∀ d ∈ mets L, 0 ≤ d := fun d hd => (mets_mem hok d hd).1
      have f0 := Int.emod_nonneg x0 (show ((mets L).length : Int) + 1 ≠ 0 by omega)
      have f1 := Int.emod_lt_of_pos x0 (show 0 < ((mets L).length : Int) + 1 by omega)
      have g0 := Int.emod_nonneg x1 (show ((mets L).length : Int) + 1 ≠ 0 by omega)
      have g1 := Int.emod_lt_of_pos x1 (show 0 < ((mets L).length : Int) + 1 by omega)
      obtain ⟨a, ha⟩ := Int.eq_ofNat_of_zero_le f0
      obtain ⟨b, hb⟩ := Int.eq_ofNat_of_zero_le g0
      rw [ha] at f1
      rw [hb] at g1
      have han : a ≤ (mets L).length := by omega
      have hbn : b ≤ (mets L).length := by omega
      have hvr := vld_reverse hv
      have hgt : gate (vld L) true = 0 := gate_ok hv rfl
      have hgr : gate (vld L.reverse) true = 0 := gate_ok hvr rfl
      have hTL : TL L = L.reverse := by unfold TL; rw [hv]; rfl
      have hTR : TL L.reverse = L := by unfold TL; rw [hvr]; simp
      have hPL : PL L = plain L := by unfold PL; rw [hv]; rfl
      have hlr : L.reverse.length = L.length := List.length_reverse
      have hmr : mets L.reverse = (mets L).reverse := mets_reverse L
      have hlen : (mets L.reverse).length = (mets L).length := by rw [hmr, List.length_reverse]
      have hple := plain_len_le L
      have hpm : mets (plain L) = mets L := (plain_inv hv).2.2
      have hs : btw 0 s 100000 = true := btw_iff.2 ⟨bs.1, by omega⟩
      refine IceTurns_gen w A L.length c x0 x1 s (((mets L).length : Int) + 1) a b (lossI (cum (mets L)) a b) (mets L).length (plain L).length L.reverse (plain L) L
        ⟨bx0.1, by omega⟩ ⟨bx1.1, by omega⟩ ⟨bs.1, by omega⟩ h600 rfl ha hb hl hple rfl (plain_inv hv).2.1 (fun W hW => ?_) (fun W hW => ?_) (fun W hW => ?_) (fun W A' c' hW hR => ?_) (fun W hW => ?_) (fun W A' c' hW hR => ?_) (fun W A' c' hW hR => ?_) (fun W A' c' hW hR => ?_) (fun W hW => ?_) (fun h30 W A' c' hW hR => ?_) (fun h30 W A' c' hW hR => ?_) (fun W A' c' A2 c2 hW hR hR2 => ?_) (fun h30 W A' c' hW hR => ?_)
      · have := refValid_any A c L W ((hr.on hB0).on hW) hl2; rw [hv] at this; exact this
      · exact (Metres_any A c L W ((hr.on hB0).on hW) hok).mono (fun e w' ⟨h1, A', c', h2, _⟩ => ⟨A', c', h2, h1⟩)
      · have := Turned_any A c L W ((hr.on hB0).on hW) hl2
        rw [hgt, hTL] at this
        exact this.mono (fun e w' ⟨h1, A', c', h2, h3⟩ => ⟨A', c', by rw [← hlr]; exact h2, h1, Lib.hid h3⟩)
      · have := Turned_any A' c' L.reverse W hR (by rw [hlr]; exact hl2)
        rw [hgr, hTR, hlr] at this
        exact this.mono (fun e w' ⟨h1, A', c', h2, h3⟩ => ⟨A', c', h2, h1, Lib.hid h3⟩)
      · have := Loss_in A c L a b W ((hr.on hB0).on hW) hv (by omega) (by omega)
        simp only [Int.toNat_natCast] at this
        exact this
      · have := Loss_in A' c' L.reverse (((mets L).length : Int) - a) (((mets L).length : Int) - b) W hR hvr (by rw [hlen]; omega) (by rw [hlen]; omega)
        rw [hmr, Int.toNat_sub, Int.toNat_sub, loss_reverse han hbn, hlr] at this
        exact this
      · exact sameIce_any A' A c' c L W hR ((hr.on hB0).on hW) hl2
      · have := lampsLaw_any A A' c c' L L.reverse s W ((hr.on hB0).on hW) hR hv hvr hs (by rw [hmr]; exact (lampC_reverse hnn bs.1).symm)
        rw [hlr] at this
        exact this
      · have := Plain_any A c L W ((hr.on hB0).on hW) hl2
        rw [hgt, hPL] at this
        exact this.mono (fun e w' ⟨h1, A', c', h2, h3⟩ => ⟨A', c', h2, h1, Lib.hid h3⟩)
      · have hvp := plain_vld hv h30
        have := Loss_in A' c' (plain L) a b W hR hvp (by rw [hpm]; omega) (by rw [hpm]; omega)
        rw [hpm] at this
        simp only [Int.toNat_natCast] at this
        exact this
      · have hvp := plain_vld hv h30
        have := Plain_any A' c' (plain L) W hR (by omega)
        rw [gate_ok hvp rfl, show PL (plain L) = plain L by unfold PL; rw [if_pos hvp]; exact plain_plain hv] at this
        exact this.mono (fun e w' ⟨h1, A', c', h2, h3⟩ => ⟨A', c', h2, h1, Lib.hid h3⟩)
      · exact sameIce_any A' A2 c' c2 (plain L) W hR hR2 (by omega)
      · have hvp := plain_vld hv h30
        exact lampsLaw_any A A' c c' L (plain L) s W ((hr.on hB0).on hW) hR hv hvp hs (by rw [hpm])
  · have hd : decide ((60 : Int) < L.length) = true := by simp; omega
    clear hr
    go_enter Try.func14, Try.ntmps14
    go_wp2_with (first
      | (go_at_call 16; refine (Long_any _ _ _ _).mono ?_; rintro e w' ⟨rfl, rfl⟩)
      | (go_at_call 17; refine (Sane_any _).mono ?_; rintro e w10 ⟨rfl, h10⟩))
    go_ret
    exact ⟨rfl, hB0.trs h10⟩
end Go.Proofs.Ytnodeooammplfaa
