/- The walk of SkyRings. -/
import Derived.Test.YtolgpigdioanoaaSkyZ
namespace Go.Proofs.Ytolgpigdioanoaa
open Go.RowKit

set_option maxHeartbeats 2000000 in
theorem refOn_any (k r : Int) (w : World) :
    Calls Try.prog 29 #[.int .i64 k, .int .i64 r] w (IntsRet (OnLs k r) (OnE k r) w) := by
  have HI := Lib.hid (fun W => isRing_any k r W)
  cases hok : okR k r
  · have HV : Hid (∀ w', Below w.heap.size w w' → IntsRet (OnLs k r) (OnE k r) w (.returned (.tuple #[.slice none 0 0, .int .i64 2])) w') := Lib.hid (fun w' h => by rw [OnLs, OnE, hok]; exact ⟨h, none, 0, rfl, .inl rfl⟩)
    rw [hok] at HI
    clear hok
    go_enter Try.func29, Try.ntmps29
    go_wp2_with (go_at_call 81; refine (HI.out _).mono ?_; rintro e w' ⟨rfl, rfl⟩)
    go_ret2
    exact HV.out _ (Below.refl _ _)
  · have hk := okR_k hok
    have hr := okR_r hok
    have hlb := lenS_bound (sd_b hk) hr
    have hp0 := px_le hk
    have hll := onL_len k r
    have HV : Hid (∀ w' g, Below w.heap.size w w' → BoxI w' g (onL k r) → IntsRet (OnLs k r) (OnE k r) w (.returned (.tuple #[.slice (some ⟨g, 0, none⟩) (lenS (sd k) r).toNat (lenS (sd k) r).toNat, .int .i64 0])) w') := Lib.hid (fun w' g h ho => by
      rw [OnLs, OnE, hok]
      exact ⟨h, _, (lenS (sd k) r).toNat, by rw [← hll]; rfl, ho.rd⟩)
    have HL := Lib.hid (fun W => reflength_any k r W hk hr)
    have HP := Lib.hid (fun W => refpixels_any k W hk)
    have HR : Hid (∀ (n : Nat) W, okP k n = true → Calls Try.prog 38 #[.int .i64 k, .int .i64 n] W fun e w' => e = .returned (.tuple #[.int .i64 (pR k n), .int .i64 (pP k n), .int .i64 0]) ∧ Below W.heap.size W w') := Lib.hid (fun n W h => by
      have := refRingOf_any k n W
      rw [RingOfV, h] at this
      exact this)
    have HF := Lib.hid (fun n (hn : ((n : Nat) : Int) < px k) => on_step hk hr hn)
    have HZ := Lib.hid (onF_zero k r)
    have HE := Lib.hid (onF_all hk hr)
    have HN := Lib.hid (fun n => onF_len k r n)
    obtain ⟨cs, hmk, hbm⟩ := run_make_int (P := Try.prog) (T := 25) Try.underlying25 infoInt (lenS (sd k) r) (by omega) (by omega)
    have HM := Lib.hid hbm; clear hbm
    rw [hok] at HI
    clear hk hr hok hll
    generalize lenS (sd k) r = L at *
    generalize px k = N at *
    generalize sd k = s at *
    go_enter Try.func29, Try.ntmps29
    go_wp2_with (first
      | (go_at_call 81; refine (HI.out _).mono ?_; rintro e w' ⟨rfl, rfl⟩)
      | (go_at_call 82; refine (HL.out _).mono ?_; rintro e w' ⟨rfl, rfl⟩))
    go_loopg [7] 3073 (fun kk u wr => ∃ n : Nat, u = .int .i64 n ∧ (n : Int) ≤ N ∧ 3073 - n ≤ kk ∧ BoxI wr w.heap.size (onF k r n) ∧ Below w.heap.size w wr)
    case atStart => exact ⟨0, rfl, by omega, by omega, by rw [HZ.out]; exact HM.out w, below_alloc _ _⟩
    case round =>
      obtain ⟨n, rfl, hn, hkk, hO, hB⟩ := hrel
      have hB' := Lib.hid hB; clear hB
      have HO := Lib.hid hO; clear hO
      by_cases hlt : (n : Int) < N
      · obtain ⟨hok, hcase⟩ := HF.out n hlt
        have HRn := Lib.hid (fun W => HR.out n W hok)
        clear hok
        have HLn := Lib.hid (HN.out n)
        rcases hcase with ⟨hR, i, hP, hi, hset⟩ | ⟨hR, hset⟩
        · rw [hR, hP] at HRn
          have HSET := Lib.hid hset; clear hset hR hP
          have hi2 : (i : Int) < L := by omega
          have hi3 : (i : Int) + 1 ≤ 1000 := by omega
          have hi4 : (L.toNat : Int) = L := by omega
          have HW := Lib.hid (fun W => within_any 1 ((i : Int) + 1) L W)
          rw [btw_iff.2 ⟨by omega, by omega⟩] at HW
          go_wp2_with (first
            | (go_at_call 86; refine (HP.out _).mono ?_; rintro e w' ⟨rfl, rfl⟩)
            | (go_at_call 67; refine (HW.out _).mono ?_; rintro e w' ⟨rfl, rfl⟩)
            | (go_at_call 38; refine (HRn.out _).mono ?_; rintro e w3 ⟨rfl, h3⟩; have hbo := HO.out.on h3; have HBO3 := Lib.hid hbo; have hcf := hbo.frozen i; have hcc := hbo.cell (k := i) (by rw [HLn.out]; exact hi); clear hbo))
          go_roundg (3073 - (n + 1))
          case measure => omega
          case rel => exact ⟨n + 1, by go_num, by omega, by omega, by rw [HSET.out]; exact HBO3.out.set_ i n, (hB'.out.trs h3).setCell (p := ⟨_, _, none⟩) (Nat.le_refl _) _⟩
        · have HSET := Lib.hid hset; clear hset
          generalize pR k n = R at *
          generalize pP k n = P at *
          have hRd : decide (R = r) = false := by simpa using hR
          go_wp2_with (first
            | (go_at_call 86; refine (HP.out _).mono ?_; rintro e w' ⟨rfl, rfl⟩)
            | (go_at_call 38; refine (HRn.out _).mono ?_; rintro e w3 ⟨rfl, h3⟩))
          go_roundg (3073 - (n + 1))
          case measure => omega
          case rel => exact ⟨n + 1, by go_num, by omega, by omega, by rw [HSET.out]; exact HO.out.on h3, hB'.out.trs h3⟩
      · obtain rfl : N = (n : Int) := by omega
        go_wp2_with (go_at_call 86; refine (HP.out _).mono ?_; rintro e w' ⟨rfl, rfl⟩)
        go_ret2
        exact HV.out _ _ hB'.out (by rw [← HE.out]; simpa using HO.out)

set_option maxHeartbeats 1000000 in
theorem SkyRings_walk (w : World) (k r : Int) :
    Calls Try.prog 6 #[.int .i64 k, .int .i64 r] w fun e w' => e = .returned (.bool true) ∧ Below w.heap.size w w' := by
  obtain ⟨u, er, hu⟩ : ∃ u er : Int, LenV k r = Value.tuple #[.int .i64 u, .int .i64 er] := by
    unfold LenV
    split
    · exact ⟨_, _, rfl⟩
    · exact ⟨_, _, rfl⟩
  have hl : (OnLs k r).length ≤ 1125899906842624 := by
    unfold OnLs; split
    · next h => rw [onL_len]; have := lenS_bound (sd_b (okR_k h)) (okR_r h); omega
    · simp
  have U1 := Lib.hid (fun W => Length_any k r W)
  have U2 := Lib.hid (fun W => refLength_any k r W)
  have C1 := Lib.hid (fun W => On_any k r W)
  have C2 := Lib.hid (fun W => refOn_any k r W)
  rw [hu] at U1 U2
  clear hu
  generalize OnLs k r = l at *
  generalize OnE k r = ke at *
  go_enter Try.func6, Try.ntmps6
  go_wp2_with (first
    | (go_at_call 26; refine (U1.out _).mono ?_; rintro e w1 ⟨rfl, h1⟩)
    | (go_at_call 27; refine (U2.out _).mono ?_; rintro e w' ⟨rfl, rfl⟩)
    | (go_at_call 28; refine (C1.out _).mono ?_; rintro e w2 ⟨h2, A1, c1, rfl, r1⟩; have H1 := Lib.hid r1; clear r1)
    | (go_at_call 29; refine (C2.out _).mono ?_; rintro e w3 ⟨h3, A2, c2, rfl, r2⟩; have H2 := Lib.hid r2; clear r2)
    | (go_at_call 21; refine (sameInts_any _ _ _ _ l _ (H1.out.on h3) H2.out hl).mono ?_; rintro e w4 ⟨rfl, h4⟩)
    | (go_at_call 22; refine (Sane_any _).mono ?_; rintro e w5 ⟨rfl, h5⟩))
  go_ret
  exact ⟨rfl, (((h1.trs h2).trs h3).trs h4).trs h5⟩
end Go.Proofs.Ytolgpigdioanoaa
