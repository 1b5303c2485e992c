/- The walk of the law IceAdds. -/
import Derived.Test.YtnodeooammplfaaIceLossesW
import Derived.OpenShut
import Derived.Deep.DeepCutAuto
namespace Go.Proofs.Ytnodeooammplfaa
set_option linter.unusedVariables false
open Go.RowKit Go.OpenShut

/-- a loss at depths of valid ice, no error -/
theorem Loss_in (A : Option Addr) (c : Nat) (L : List (Int × Int)) (i j : Int) (w : World) (hr : RdP w w.heap.size A L) (hv : vld L = true) (hi : 0 ≤ i ∧ i ≤ (mets L).length) (hj : 0 ≤ j ∧ j ≤ (mets L).length) :
    Calls Try.prog 24 #[.slice A L.length c, .int .i64 i, .int .i64 j] w fun e w' => e = .returned (.tuple #[.int .i64 (lossI (cum (mets L)) i.toNat j.toNat), .int .i64 0]) ∧ Below w.heap.size w w' := by
  have h1 := (vld_spec hv).2.1
  have h := Loss_any A c L i j w hr (by omega)
  have hR : LossR L i j = true := isB_two.2 (by rw [cum_length]; omega)
  have he : LossE L i j = 0 := gate_ok hv hR
  rw [he, val_ok rfl] at h
  exact h
theorem Dim_in (A : Option Addr) (c : Nat) (L : List (Int × Int)) (i : Nat) (w : World) (hr : RdP w w.heap.size A L) (hv : vld L = true) (hi : i < (mets L).length) :
    Calls Try.prog 22 #[.slice A L.length c, .int .i64 i] w fun e w' => e = .returned (.tuple #[.int .i64 (ix (mets L) i), .int .i64 0]) ∧ Below w.heap.size w w' := by
  have h1 := (vld_spec hv).2.1
  have h := Dim_any A c L i w hr (by omega)
  have he : gate (vld L) (btw 0 i ((mets L).length - 1)) = 0 := gate_ok hv (btw_iff.2 (by omega))
  rw [he, val_ok rfl] at h
  exact h
theorem Depth_in (A : Option Addr) (c : Nat) (L : List (Int × Int)) (w : World) (hr : RdP w w.heap.size A L) (hv : vld L = true) :
    Calls Try.prog 18 #[.slice A L.length c] w fun e w' => e = .returned (.tuple #[.int .i64 (mets L).length, .int .i64 0]) ∧ Below w.heap.size w w' := by
  have h1 := (vld_spec hv).2.1
  have h := Depth_any A c L w hr (by omega)
  rw [gate_ok hv rfl, val_ok rfl] at h
  exact h

theorem rat_facts {S d : Int} (hS : 0 ≤ S) (hS6 : S ≤ 60000) (hd : 1 ≤ d) (hd6 : d ≤ 600) :
    0 ≤ ratN S d ∧ ratN S d ≤ 60000 ∧ 1 ≤ ratD S d ∧ ratD S d ≤ 600 ∧ ratN S d * d = S * ratD S d ∧ (∀ l, l * d ≤ S → l * ratD S d ≤ ratN S d) ∧ (∀ h, S ≤ h * d → ratN S d ≤ h * ratD S d) := by
  unfold ratN ratD
  have hgp : 0 < (Int.gcd S d : Int) := by
    have : 0 < Int.gcd S d := Int.gcd_pos_of_ne_zero_right S (by omega)
    omega
  have h1 : (Int.gcd S d : Int) * (S / (Int.gcd S d : Int)) = S := Int.mul_ediv_cancel' (Int.gcd_dvd_left S d)
  have h2 : (Int.gcd S d : Int) * (d / (Int.gcd S d : Int)) = d := Int.mul_ediv_cancel' (Int.gcd_dvd_right S d)
  generalize (Int.gcd S d : Int) = g at *
  generalize hN : S / g = N at *
  generalize hD : d / g = D at *
  have hN0 : 0 ≤ N := by rw [← hN]; exact Int.ediv_nonneg hS (by omega)
  have hD0 : 0 ≤ D := by rw [← hD]; exact Int.ediv_nonneg (by omega) (by omega)
  have hNle : N ≤ S := by rw [← hN]; exact Int.ediv_le_self _ hS
  have hDle : D ≤ d := by rw [← hD]; exact Int.ediv_le_self _ (by omega)
  have hD1 : 1 ≤ D := by
    rcases Int.lt_or_le D 1 with h | h
    · have : D = 0 := by omega
      rw [this, Int.mul_zero] at h2
      omega
    · exact h
  refine ⟨hN0, by omega, hD1, by omega, ?_, fun l hl => ?_, fun h hh => ?_⟩
  · rw [← h1, ← h2]
    rw [Int.mul_left_comm, Int.mul_assoc]
  · rw [← h1, ← h2, Int.mul_left_comm] at hl
    exact Int.le_of_mul_le_mul_left hl hgp
  · rw [← h1, ← h2, Int.mul_left_comm] at hh
    exact Int.le_of_mul_le_mul_left hh hgp
/-- one metre more -/
theorem mean_step {low high x k T : Int} (h1 : low * k ≤ T) (h2 : T ≤ high * k) (hk : 0 ≤ k) : min low x * (k + 1) ≤ T + x ∧ T + x ≤ max high x * (k + 1) := by
  have a := Int.mul_le_mul_of_nonneg_right (show min low x ≤ low by omega) hk
  have b := Int.mul_le_mul_of_nonneg_right (show high ≤ max high x by omega) hk
  rw [Int.mul_add, Int.mul_add, Int.mul_one, Int.mul_one]
  omega

/-- three depths in order -/
theorem three (a b c : Nat) : ∃ lo mid hi : Nat, lo ≤ mid ∧ mid ≤ hi ∧ (lo = a ∨ lo = b ∨ lo = c) ∧ (hi = a ∨ hi = b ∨ hi = c) ∧ lo + mid + hi = a + b + c ∧ (lo ≤ a ∧ lo ≤ b ∧ lo ≤ c) ∧ (a ≤ hi ∧ b ≤ hi ∧ c ≤ hi) := by
  refine ⟨min (min a b) c, a + b + c - min (min a b) c - max (max a b) c, max (max a b) c, ?_⟩
  omega

set_option maxRecDepth 100000 in
set_option maxHeartbeats 4000000 in
theorem IceAdds_walk (w : World) (A : Option Addr) (c : Nat) (L : List (Int × Int)) (hr : RdP w w.heap.size A L) (hm : L.length ≤ maxLen) (x0 x1 x2 : Int)
    (hx : (Lit.int .u16 x0).wf = true ∧ (Lit.int .u16 x1).wf = true ∧ (Lit.int .u16 x2).wf = true) :
    Calls Try.prog 4 #[.slice A L.length c, .agg #[.int .u16 x0, .int .u16 x1, .int .u16 x2]] w fun e w' => e = .returned (.bool true) ∧ Below w.heap.size w w' := by
  have HR := Lib.hid hr; clear hr
  have b0 := bounds_u16 hx.1
  have b1 := bounds_u16 hx.2.1
  have b2 := bounds_u16 hx.2.2
  clear hx
  have hB0 : ∀ o, Below w.heap.size w (w.alloc o) := fun o => below_alloc w o
  by_cases hl : L.length ≤ 60
  · have hd : decide ((60 : Int) < L.length) = false := by simp; omega
    have hl2 : L.length ≤ 1125899906842624 := by omega
    cases hv : vld L
    · go_enter Try.func4, Try.ntmps4
      go_wp2_with (first
        | (go_at_call 16; refine (Long_any _ _ _ _).mono ?_; rintro e w' ⟨rfl, rfl⟩)
        | (go_at_call 21; refine (refValid_any _ _ _ _ (HR.out.on (below_alloc _ _)) (by omega)).mono ?_; rintro e w' ⟨rfl, rfl⟩)
        | (go_at_call 17; refine (Sane_any _).mono ?_; rintro e w10 ⟨rfl, h10⟩))
      go_ret
      exact ⟨rfl, (below_alloc _ _).trs h10⟩
    · have h600 := mets_len600 (okL_of_vld hv)
      have hL0 := fun W hW (i j : Int) hi hj => Loss_in A c L i j W (HR.out.on hW) hv hi hj
      have HL := Lib.hid hL0; clear hL0
      obtain ⟨D, hD⟩ : ∃ D, D = (mets L).length := ⟨_, rfl⟩
      have HDep := Lib.hid (fun W hW => Depth_in A c L W (HR.out.on hW) hv)
      have HMet := Lib.hid (fun W hW => Metres_any A c L W (HR.out.on hW) (okL_of_vld hv))
      rw [← hD] at HL HDep HMet h600
      have HDD := Lib.hid hD; clear hD
      have hp : (0 : Int) < (D : Int) + 1 := by omega
      obtain ⟨a, ha, ha0, haD⟩ : ∃ a : Int, x0 % ((D : Int) + 1) = a ∧ 0 ≤ a ∧ a ≤ D := ⟨_, rfl, Int.emod_nonneg _ (by omega), by have := Int.emod_lt_of_pos x0 hp; omega⟩
      obtain ⟨b, hb, hb0, hbD⟩ : ∃ a : Int, x1 % ((D : Int) + 1) = a ∧ 0 ≤ a ∧ a ≤ D := ⟨_, rfl, Int.emod_nonneg _ (by omega), by have := Int.emod_lt_of_pos x1 hp; omega⟩
      obtain ⟨d, hd3, hd0, hdD⟩ : ∃ a : Int, x2 % ((D : Int) + 1) = a ∧ 0 ≤ a ∧ a ≤ D := ⟨_, rfl, Int.emod_nonneg _ (by omega), by have := Int.emod_lt_of_pos x2 hp; omega⟩
      have HX := Lib.hid (And.intro ha (And.intro hb hd3)); clear ha hb hd3
      go_enter Try.func4, Try.ntmps4
      go_wp2_with (first
        | (go_at_call 16; refine (Long_any _ _ _ _).mono ?_; rintro e w' ⟨rfl, rfl⟩)
        | (go_at_call 21; refine (refValid_any _ _ _ _ (HR.out.on (below_alloc _ _)) (by omega)).mono ?_; rintro e w' ⟨rfl, rfl⟩)
        | (go_at_call 18; refine (HDep.out _ (below_alloc _ _)).mono ?_; rintro e w1 ⟨rfl, h1⟩)
        | (go_at_call 28; refine (HMet.out _ ((below_alloc _ _).trs h1)).mono ?_; rintro e w2 ⟨h2, A2, c2, rfl, hR2⟩; have hbx := ((Box.new w _ _).on h1).on h2; have q0 := hbx.cell 0; have q1 := hbx.cell 1; have q2 := hbx.cell 2; simp at q0 q1 q2))
      clear hbx hR2
      go_quiet (fail)
      rw [HX.out.1, HX.out.2.1, HX.out.2.2]
      obtain ⟨lo, hlo⟩ : ∃ lo : Int, (if d < (if b < a then b else a) then d else (if b < a then b else a)) = lo := ⟨_, rfl⟩
      obtain ⟨hi, hhi⟩ : ∃ hi : Int, (if (if a < b then b else a) < d then d else (if a < b then b else a)) = hi := ⟨_, rfl⟩
      obtain ⟨mid, hmid⟩ : ∃ mid : Int, a + b + d - lo - hi = mid := ⟨_, rfl⟩
      have hlh : 0 ≤ lo ∧ lo ≤ mid ∧ mid ≤ hi ∧ hi ≤ D := by omega
      obtain ⟨S, hS, hS0, hS6⟩ : ∃ S : Int, lossI (cum (mets L)) lo.toNat hi.toNat = S ∧ 0 ≤ S ∧ S ≤ 60000 := by
        have h1 := ice_bounds (okL_of_vld hv) lo.toNat
        have h2 := ice_bounds (okL_of_vld hv) hi.toNat
        exact ⟨_, rfl, by unfold lossI; omega, by unfold lossI; omega⟩
      obtain ⟨S1, hS1, h10, h16⟩ : ∃ S : Int, lossI (cum (mets L)) mid.toNat lo.toNat = S ∧ 0 ≤ S ∧ S ≤ 60000 := by
        have h1 := ice_bounds (okL_of_vld hv) lo.toNat
        have h2 := ice_bounds (okL_of_vld hv) mid.toNat
        exact ⟨_, rfl, by unfold lossI; omega, by unfold lossI; omega⟩
      obtain ⟨S2, hS2, h20, h26⟩ : ∃ S : Int, lossI (cum (mets L)) mid.toNat hi.toNat = S ∧ 0 ≤ S ∧ S ≤ 60000 := by
        have h1 := ice_bounds (okL_of_vld hv) mid.toNat
        have h2 := ice_bounds (okL_of_vld hv) hi.toNat
        exact ⟨_, rfl, by unfold lossI; omega, by unfold lossI; omega⟩
      have hsum : S1 + S2 = S := by
        have hm := mets_mem (okL_of_vld hv)
        have hDD := HDD.out
        have m1 := cum_mono (mets L) (fun x hx => (hm x hx).1) lo.toNat mid.toNat (by omega) (by omega)
        have m2 := cum_mono (mets L) (fun x hx => (hm x hx).1) mid.toNat hi.toNat (by omega) (by omega)
        rw [← hS1, ← hS2, ← hS]
        unfold lossI
        omega
      have hL1 := HL.out
      have HL1 : Hid (∀ W, Below w.heap.size w W → Calls Try.prog 24 #[.slice A L.length c, .int .i64 lo, .int .i64 hi] W fun e w' => e = .returned (.tuple #[.int .i64 S, .int .i64 0]) ∧ Below W.heap.size W w') := fun W hW => by rw [← hS]; exact hL1 W hW lo hi (by omega) (by omega)
      have HL2 : Hid (∀ W, Below w.heap.size w W → Calls Try.prog 24 #[.slice A L.length c, .int .i64 mid, .int .i64 lo] W fun e w' => e = .returned (.tuple #[.int .i64 S1, .int .i64 0]) ∧ Below W.heap.size W w') := fun W hW => by rw [← hS1]; exact hL1 W hW mid lo (by omega) (by omega)
      have HL3 : Hid (∀ W, Below w.heap.size w W → Calls Try.prog 24 #[.slice A L.length c, .int .i64 mid, .int .i64 hi] W fun e w' => e = .returned (.tuple #[.int .i64 S2, .int .i64 0]) ∧ Below W.heap.size W w') := fun W hW => by rw [← hS2]; exact hL1 W hW mid hi (by omega) (by omega)
      have HL4 : Hid (∀ W, Below w.heap.size w W → Calls Try.prog 24 #[.slice A L.length c, .int .i64 hi, .int .i64 lo] W fun e w' => e = .returned (.tuple #[.int .i64 S, .int .i64 0]) ∧ Below W.heap.size W w') := fun W hW => by rw [← hS, lossI_comm]; exact hL1 W hW hi lo (by omega) (by omega)
      have HSS := Lib.hid hS
      clear hL1 hS hS1 hS2
      go_wp2_with fail
      refine (HL1.out _ (((below_alloc _ _).trs (h1.trs h2)).drewsN _)).mono ?_
      rintro e w3 ⟨rfl, h3⟩
      have h3 := (((below_alloc w _).trs (h1.trs h2)).drewsN nq).trs h3
      go_wp2_with fail
      refine (HL2.out _ h3).mono ?_
      rintro e w4 ⟨rfl, h4⟩
      have h4 := h3.trs h4
      go_wp2_with fail
      refine (HL3.out _ h4).mono ?_
      rintro e w5 ⟨rfl, h5⟩
      have h5 := h4.trs h5
      go_wp2_with fail
      refine (HL4.out _ h5).mono ?_
      rintro e w6 ⟨rfl, h6⟩
      have h6 := h5.trs h6
      go_wp2_with fail
      have hB6 := h6
      by_cases hlh0 : lo = hi
      · have h0 : S = 0 := by rw [← HSS.out, hlh0]; unfold lossI; omega
        have hMR : MeanR L lo hi = false := by unfold MeanR; rw [hlh0]; simp
        have hmv := MeanV_no (L := L) (x := lo) (y := hi) (by unfold MeanE; rw [gate_arg hv hMR]; decide)
        rw [show MeanE L lo hi = 2 from gate_arg hv hMR] at hmv
        have hME := Mean_any A c L lo hi w6 (HR.out.on h6) hl2
        rw [hmv] at hME
        have heq : (lo == hi) = true := by simp [hlh0]
        have hs0 : (S == 0) = true := by simp [h0]
        clear hmv hMR hlh0 h0
        refine hME.mono ?_
        rintro e w7 ⟨rfl, h7⟩
        have h7 := h6.trs h7
        go_wp2_with (go_at_call 17; refine (Sane_any _).mono ?_; rintro e w10 ⟨rfl, h10⟩)
        go_ret
        exact ⟨rfl, (h7.trs (below_alloc _ _)).trs h10⟩
      · have hlt : lo < hi := by omega
        have hDD := HDD.out
        have hMR : MeanR L lo hi = true := by
          unfold MeanR
          rw [show LossR L lo hi = true from isB_two.2 (by rw [cum_length]; omega)]
          simpa using hlh0
        have hmv := MeanV_ok (gate_ok hv hMR)
        have hdist : dist lo hi = hi - lo := by unfold dist; omega
        rw [show LossV L lo hi = S from HSS.out, hdist] at hmv
        obtain ⟨f1, f2, f3, f4, f5, f6, f7⟩ := rat_facts hS0 hS6 (show 1 ≤ hi - lo by omega) (by omega)
        have hME := Mean_any A c L lo hi w6 (HR.out.on h6) hl2
        rw [hmv] at hME
        generalize ratN S (hi - lo) = N at *
        generalize ratD S (hi - lo) = M at *
        have hne : (lo == hi) = false := by simp; omega
        have HF := Lib.hid (And.intro f5 (And.intro f6 f7))
        have HDM := Lib.hid (fun W hW (i : Nat) hi => Dim_in A c L i W (HR.out.on hW) hv hi)
        clear f5 f6 f7 hmv hMR hdist
        refine hME.mono ?_
        rintro e w7 ⟨rfl, h7⟩
        have h7 := h6.trs h7
        have hlo : ∃ k0 : Nat, lo = k0 := Int.eq_ofNat_of_zero_le (by omega)
        obtain ⟨k0, rfl⟩ := hlo
        obtain ⟨k1, rfl⟩ : ∃ k1 : Nat, hi = k1 := Int.eq_ofNat_of_zero_le (by omega)
        have hk01 : k0 < k1 := by omega
        have hk1D : k1 ≤ D := by omega
        have HDD2 := Lib.hid hDD; clear hDD
        have HIB := Lib.hid (ix_bounds (okL_of_vld hv))
        have HCS := Lib.hid (cum_succ (mets L))
        have hSS := HSS.out
        simp only [Int.toNat_natCast] at hSS
        have hcm := cum_mono (mets L) (fun x hx => (mets_mem (okL_of_vld hv) x hx).1) k0 k1 (by omega) (by rw [← HDD2.out]; exact hk1D)
        rw [lossI_le hcm] at hSS
        have HS2 := Lib.hid hSS; clear hSS hcm
        clear hhi hlt hlh0 hsum hmid hv
        have hbx := Box.new w7 31 #[.int .i64 N, .int .i64 M]
        have HBX := Lib.hid hbx; clear hbx
        go_wp2_with fail
        clear hne
        go_loopg [22, 23, 24] (k1 - k0) (fun gk s t u wr => ∃ (low high : Int) (m : Nat), s = .int .i64 low ∧ t = .int .i64 high ∧ u = .int .i64 m ∧ k0 ≤ m ∧ m ≤ k1 ∧ k1 - m ≤ gk ∧ 0 ≤ low ∧ low ≤ 100 ∧ 0 ≤ high ∧ high ≤ 100 ∧ Below (w7.alloc (.cells #[.int .i64 N, .int .i64 M] 31)).heap.size (w7.alloc (.cells #[.int .i64 N, .int .i64 M] 31)) wr ∧
          Aside (low * ((m : Int) - k0) ≤ ix (cum (mets L)) m - ix (cum (mets L)) k0 ∧ ix (cum (mets L)) m - ix (cum (mets L)) k0 ≤ high * ((m : Int) - k0)))
        case atStart => exact ⟨100, 0, k0, rfl, rfl, rfl, Nat.le_refl _, by omega, by omega, by omega, by omega, by omega, by omega, Below.refl _ _, (by simp : (100 : Int) * ((k0 : Int) - k0) ≤ ix (cum (mets L)) k0 - ix (cum (mets L)) k0 ∧ ix (cum (mets L)) k0 - ix (cum (mets L)) k0 ≤ (0 : Int) * ((k0 : Int) - k0))⟩
        case round =>
          obtain ⟨low, high, m, rfl, rfl, rfl, hm0, hm1, hmk, hlow0, hlow1, hhigh0, hhigh1, hBr, HA⟩ := hrel
          have hBw := (h7.trs (below_alloc w7 _)).trs hBr
          by_cases hmlt : m < k1
          · have hc := HDM.out wr hBw m (by rw [← HDD2.out]; omega)
            have hxb := HIB.out m
            have hcs := HCS.out m (by rw [← HDD2.out]; omega)
            have hst := mean_step (x := ix (mets L) m) HA.out.1 HA.out.2 (by omega)
            rw [show (m : Int) - k0 + 1 = ((m + 1 : Nat) : Int) - k0 by omega, show ix (cum (mets L)) m - ix (cum (mets L)) k0 + ix (mets L) m = ix (cum (mets L)) (m + 1) - ix (cum (mets L)) k0 by omega] at hst
            have HST := Lib.hid hst; clear hst hcs
            generalize ix (mets L) m = x at *
            have hmin : (if x < low then x else low) = min low x := by omega
            have hmax : (if high < x then x else high) = max high x := by omega
            go_wp2_with (go_at_call 22; refine hc.mono ?_; rintro e w9 ⟨rfl, h9⟩)
            all_goals
              go_roundg (k1 - (m + 1))
              case measure => omega
              case rel => exact ⟨min low x, max high x, m + 1, by go_num, by go_num, by go_num, by omega, by omega, by omega, by omega, by omega, by omega, by omega, hBr.trs h9, HST.out⟩
          · obtain rfl : m = k1 := by omega
            have hbx := HBX.out.on hBr
            have q0 := hbx.cell 0
            have q1 := hbx.cell 1
            simp at q0 q1
            have g1 := HF.out.1
            have g2 := HF.out.2.1 low (by rw [← HS2.out]; exact HA.out.1)
            have g3 := HF.out.2.2 high (by rw [← HS2.out]; exact HA.out.2)
            have e1 : 0 ≤ N * ((m : Int) - k0) ∧ N * ((m : Int) - k0) ≤ 60000 * 600 := ⟨Int.mul_nonneg f1 (by omega), Int.mul_le_mul f2 (by omega) (by omega) (by omega)⟩
            have e2 : 0 ≤ low * M ∧ low * M ≤ 100 * 600 := ⟨Int.mul_nonneg hlow0 (by omega), Int.mul_le_mul hlow1 f4 (by omega) (by omega)⟩
            have e3 : 0 ≤ high * M ∧ high * M ≤ 100 * 600 := ⟨Int.mul_nonneg hhigh0 (by omega), Int.mul_le_mul hhigh1 f4 (by omega) (by omega)⟩
            have r1 : IntKind.i64.wrap (N * ((m : Int) - k0)) = S * M := by rw [IntWalk.i64_in _ (by omega)]; exact g1
            have r2 : IntKind.i64.wrap (S * M) = S * M := IntWalk.i64_in _ (by omega)
            have r3 : IntKind.i64.wrap (low * M) = low * M := IntWalk.i64_in _ (by omega)
            have r4 : IntKind.i64.wrap (high * M) = high * M := IntWalk.i64_in _ (by omega)
            have t1 : wrap64 (N * ((m : Int) - k0)) = S * M := by rw [IntWalk.wrap64_in _ (by omega)]; exact g1
            have t2 : wrap64 (S * M) = S * M := IntWalk.wrap64_in _ (by omega)
            have t3 : wrap64 (low * M) = low * M := IntWalk.wrap64_in _ (by omega)
            have t4 : wrap64 (high * M) = high * M := IntWalk.wrap64_in _ (by omega)
            clear g1 e1
            go_wp2_with (go_at_call 17; refine (Sane_any _).mono ?_; rintro e w10 ⟨rfl, h10⟩)
            go_ret
            exact ⟨rfl, hBw.trs h10⟩
  · have hd : decide ((60 : Int) < L.length) = true := by simp; omega
    go_enter Try.func4, Try.ntmps4
    go_wp2_with (first
      | (go_at_call 16; refine (Long_any _ _ _ _).mono ?_; rintro e w' ⟨rfl, rfl⟩)
      | (go_at_call 17; refine (Sane_any _).mono ?_; rintro e w10 ⟨rfl, h10⟩))
    go_ret
    exact ⟨rfl, (below_alloc _ _).trs h10⟩
end Go.Proofs.Ytnodeooammplfaa
