/- Walks over the reference of ice: Lit, Down, Up, Middle; the walk of IceLights. -/
import Derived.Test.YtnodeooammplfaaIceL
namespace Go.Proofs.Ytnodeooammplfaa
open Go.RowKit

theorem refLit_any (A : Option Addr) (c : Nat) (L : List (Int × Int)) (x s : Int) (w : World) (hr : RdP w w.heap.size A L) (hl : L.length ≤ 1125899906842624) :
    Calls Try.prog 38 #[.slice A L.length c, .int .i64 x, .int .i64 s] w fun e w' => e = .returned (LitV L x s) ∧ Below w.heap.size w w' := by
  have HV := Lib.hid (refValid_any A c L w hr hl)
  cases hv : vld L
  · have hE : LitE L x s = 40 := gate_bad hv
    have HVV : Hid (LitV L x s = .tuple #[.int .i64 0, .int .i64 0, .int .i64 40]) := Lib.hid (by rw [LitV_no (by rw [hE]; decide), hE])
    rw [hv] at HV
    clear hv hr hE
    go_enter Try.func38, Try.ntmps38
    go_wp2_with (go_at_call 21; refine HV.out.mono ?_; rintro e w' ⟨rfl, rfl⟩)
    refine bodyPost_ret (v := .tuple #[.int .i64 0, .int .i64 0, .int .i64 40]) (by simp [results, Try.results38, go_sem]) rfl ⟨by rw [HVV.out], Below.refl _ _⟩
  · have hok := okL_of_vld hv
    have h600 := mets_len600 hok
    have HM := Lib.hid (Metres_any A c L w hr hok)
    have hix := ix_bounds hok
    rw [hv] at HV
    have HA := Lib.hid (fun W => within_any 0 x (mets L).length W)
    have HB := Lib.hid (fun W => within_any 0 s 100000 W)
    cases ha : btw 0 x (mets L).length
    · have hE : LitE L x s = 2 := gate_arg hv (by rw [LitR, ha]; rfl)
      have HVV : Hid (LitV L x s = .tuple #[.int .i64 0, .int .i64 0, .int .i64 2]) := Lib.hid (by rw [LitV_no (by rw [hE]; decide), hE])
      rw [ha] at HA
      clear hv hr hE ha hix hok h600
      go_enter Try.func38, Try.ntmps38
      go_wp2_with (first
        | (go_at_call 21; refine HV.out.mono ?_; rintro e w' ⟨rfl, rfl⟩)
        | (go_at_call 28; refine HM.out.mono ?_; rintro e w1 ⟨hB, A', c', rfl, hR⟩)
        | (go_at_call 64; refine (HA.out _).mono ?_; rintro e w' ⟨rfl, rfl⟩))
      refine bodyPost_ret (v := .tuple #[.int .i64 0, .int .i64 0, .int .i64 2]) (by simp [results, Try.results38, go_sem]) rfl ⟨by rw [HVV.out], hB⟩
    · rw [ha] at HA
      cases hs : btw 0 s 100000
      · have hE : LitE L x s = 2 := gate_arg hv (by rw [LitR, ha, hs]; rfl)
        have HVV : Hid (LitV L x s = .tuple #[.int .i64 0, .int .i64 0, .int .i64 2]) := Lib.hid (by rw [LitV_no (by rw [hE]; decide), hE])
        rw [hs] at HB
        clear hv hr hE ha hs hix hok h600
        go_enter Try.func38, Try.ntmps38
        go_wp2_with (first
          | (go_at_call 21; refine HV.out.mono ?_; rintro e w' ⟨rfl, rfl⟩)
          | (go_at_call 28; refine HM.out.mono ?_; rintro e w1 ⟨hB, A', c', rfl, hR⟩)
          | (go_at_call 64; first | (have := tok; refine (HB.out _).mono ?_; rintro e w' ⟨rfl, rfl⟩) | (refine (HA.out _).mono ?_; rintro e w' ⟨rfl, rfl⟩; have tok := trivial)))
        refine bodyPost_ret (v := .tuple #[.int .i64 0, .int .i64 0, .int .i64 2]) (by simp [results, Try.results38, go_sem]) rfl ⟨by rw [HVV.out], hB⟩
      · rw [hs] at HB
        have hE : LitE L x s = 0 := gate_ok hv (by rw [LitR, ha, hs]; rfl)
        rw [LitV_ok hE]
        rw [btw_iff] at ha hs
        obtain ⟨a, rfl⟩ := Int.eq_ofNat_of_zero_le ha.1
        simp only [Int.toNat_natCast]
        have HU := Lib.hid (fun W A' c' h => refup_any A' c' (mets L) a s W h hix h600 (by omega) (by omega) (by omega))
        have HD := Lib.hid (fun W A' c' h => refdown_any A' c' (mets L) a s W h hix h600 (by omega) (by omega) (by omega))
        clear hv hr hE ha hs hix hok h600
        generalize up (mets L) a s = u at *
        generalize dn (mets L) a s = v at *
        go_enter Try.func38, Try.ntmps38
        go_wp2_with (first
          | (go_at_call 21; refine HV.out.mono ?_; rintro e w' ⟨rfl, rfl⟩)
          | (go_at_call 28; refine HM.out.mono ?_; rintro e w1 ⟨hB, A', c', rfl, hR⟩; have HR := Lib.hid hR; clear hR)
          | (go_at_call 85; refine (HU.out _ _ _ HR.out).mono ?_; rintro e w' ⟨rfl, rfl⟩)
          | (go_at_call 86; refine (HD.out _ _ _ HR.out).mono ?_; rintro e w' ⟨rfl, rfl⟩)
          | (go_at_call 64; first | (have := tok; refine (HB.out _).mono ?_; rintro e w' ⟨rfl, rfl⟩) | (refine (HA.out _).mono ?_; rintro e w' ⟨rfl, rfl⟩; have tok := trivial)))
        refine bodyPost_ret (v := .tuple #[.int .i64 u, .int .i64 v, .int .i64 0]) (by simp [results, Try.results38, go_sem]) rfl ⟨rfl, hB⟩

theorem refDown_any (A : Option Addr) (c : Nat) (L : List (Int × Int)) (x s : Int) (w : World) (hr : RdP w w.heap.size A L) (hl : L.length ≤ 1125899906842624) :
    Calls Try.prog 40 #[.slice A L.length c, .int .i64 x, .int .i64 s] w fun e w' => e = .returned (DownV L x s) ∧ Below w.heap.size w w' := by
  have H := Lib.hid (refLit_any A c L x s w hr hl)
  unfold LitV at H
  unfold DownV
  clear hr
  go_enter Try.func40, Try.ntmps40
  go_wp2_with (go_at_call 38; refine H.out.mono ?_; rintro e w1 ⟨rfl, h1⟩)
  go_ret2
  exact ⟨rfl, h1⟩
theorem refUp_any (A : Option Addr) (c : Nat) (L : List (Int × Int)) (x s : Int) (w : World) (hr : RdP w w.heap.size A L) (hl : L.length ≤ 1125899906842624) :
    Calls Try.prog 42 #[.slice A L.length c, .int .i64 x, .int .i64 s] w fun e w' => e = .returned (UpV L x s) ∧ Below w.heap.size w w' := by
  have H := Lib.hid (refLit_any A c L x s w hr hl)
  unfold LitV at H
  unfold UpV
  clear hr
  go_enter Try.func42, Try.ntmps42
  go_wp2_with (go_at_call 38; refine H.out.mono ?_; rintro e w1 ⟨rfl, h1⟩)
  go_ret2
  exact ⟨rfl, h1⟩

theorem lossI_lo {l : List Int} (h : ∀ d ∈ l, 0 ≤ d) {k : Nat} (hk : k ≤ l.length) : lossI (cum l) 0 k = cm l k ∧ lossI (cum l) k l.length = cm l l.length - cm l k := by
  have h1 := cm_mono h (i := 0) (j := k) (by omega) hk
  have h2 := cm_mono h hk (Nat.le_refl _)
  have h0 : cm l 0 = 0 := by simp [cm]
  unfold lossI
  rw [cm_ix (by omega), cm_ix hk, cm_ix (Nat.le_refl _)]
  omega
theorem refMiddle_any (A : Option Addr) (c : Nat) (L : List (Int × Int)) (w : World) (hr : RdP w w.heap.size A L) (hl : L.length ≤ 1125899906842624) :
    Calls Try.prog 43 #[.slice A L.length c] w fun e w' => e = .returned (.tuple #[.int .i64 (val (gate (vld L) true) (midI (mets L))), .int .i64 (gate (vld L) true)]) ∧ Below w.heap.size w w' := by
  have HV := Lib.hid (refValid_any A c L w hr hl)
  cases hv : vld L
  · have H1 : Hid (Ending.returned (.tuple #[.int .i64 0, .int .i64 40]) = .returned (.tuple #[.int .i64 (val (gate false true) (midI (mets L))), .int .i64 (gate false true)])) := rfl
    rw [hv] at HV
    generalize val (gate false true) (midI (mets L)) = rv at *
    generalize gate false true = rg at *
    clear hv hr
    go_enter Try.func43, Try.ntmps43
    go_wp2_with (go_at_call 21; refine HV.out.mono ?_; rintro e w' ⟨rfl, rfl⟩)
    go_ret2
    exact ⟨H1.out, Below.refl _ _⟩
  · have hok := okL_of_vld hv
    have h600 := mets_len600 hok
    have hnn : ∀ d ∈ mets L, 0 ≤ d := fun d hd => (mets_mem hok d hd).1
    obtain ⟨r, r1, r2, r3, r4⟩ := mid_is hnn
    rw [r2]
    have H1 : Hid (Ending.returned (.tuple #[.int .i64 r, .int .i64 0]) = .returned (.tuple #[.int .i64 (val (gate true true) r), .int .i64 (gate true true)])) := rfl
    have HM := Lib.hid (Metres_any A c L w hr hok)
    have H0 := Lib.hid (fun W A' c' (k : Nat) h (hk : k ≤ (mets L).length) => refloss_any A' c' (mets L) 0 k W h h600 (mets_mem hok) (by omega) (by omega) (by omega) (by omega))
    have HN := Lib.hid (fun W A' c' (k : Nat) h (hk : k ≤ (mets L).length) => refloss_any A' c' (mets L) k (mets L).length W h h600 (mets_mem hok) (by omega) (by omega) (by omega) (by omega))
    have HL := Lib.hid (fun k (hk : k ≤ (mets L).length) => lossI_lo hnn hk)
    have R4 := Lib.hid r4; clear r4
    have R3 := Lib.hid r3; clear r3
    rw [hv] at HV
    generalize val (gate true true) r = rv at *
    generalize gate true true = rg at *
    clear hv hr hok hnn r2
    go_enter Try.func43, Try.ntmps43
    go_wp2_with (first
      | (go_at_call 21; refine HV.out.mono ?_; rintro e w' ⟨rfl, rfl⟩)
      | (go_at_call 28; refine HM.out.mono ?_; rintro e w1 ⟨hB, A', c', rfl, hR⟩; have HR := Lib.hid hR; have HBB := Lib.hid hB; clear hR hB))
    go_loopg [5] 601 (fun kk u wr => ∃ i : Nat, u = .int .i64 i ∧ i ≤ r ∧ 601 - i ≤ kk ∧ w1 = wr)
    case atStart => exact ⟨0, rfl, by omega, by omega, rfl⟩
    case round =>
      obtain ⟨i, rfl, hi, hk, rfl⟩ := hrel
      have hl1 := HL.out i (by omega)
      have HA0 := Lib.hid (H0.out w1 A' c' i HR.out (by omega))
      have HAN := Lib.hid (HN.out w1 A' c' i HR.out (by omega))
      simp only [Int.toNat_natCast, Int.toNat_zero] at HA0 HAN
      rw [hl1.1] at HA0
      rw [hl1.2] at HAN
      clear hl1
      by_cases e : i = r
      · subst e
        have r3 := R3.out
        have hn3 : ¬ cm (mets L) i < cm (mets L) (mets L).length - cm (mets L) i := by omega
        clear r3
        generalize cm (mets L) (mets L).length - cm (mets L) i = y at *
        generalize cm (mets L) i = z at *
        generalize hn : (mets L).length = n at *
        clear hn
        go_wp2_with (go_at_call 70; first | (have := tok; refine HA0.out.mono ?_; rintro e w' ⟨rfl, rfl⟩) | (refine HAN.out.mono ?_; rintro e w' ⟨rfl, rfl⟩; have tok := trivial))
        go_ret2
        exact ⟨H1.out, HBB.out⟩
      · have r4 := R4.out i (by omega)
        generalize cm (mets L) (mets L).length - cm (mets L) i = y at *
        generalize cm (mets L) i = z at *
        generalize hn : (mets L).length = n at *
        clear hn
        go_wp2_with (go_at_call 70; first | (have := tok; refine HA0.out.mono ?_; rintro e w' ⟨rfl, rfl⟩) | (refine HAN.out.mono ?_; rintro e w' ⟨rfl, rfl⟩; have tok := trivial))
        go_roundg (601 - (i + 1))
        case measure => omega
        case rel => exact ⟨i + 1, by go_num, by omega, by omega, rfl⟩
end Go.Proofs.Ytnodeooammplfaa
