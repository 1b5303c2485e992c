/- Walks over the reference of sky: Place, RingOf, Ring. -/
import Derived.Test.YtolgpigdioanoaaSkyV
import Derived.Test.YtolgpigdioanoaaSkyG
namespace Go.Proofs.Ytolgpigdioanoaa
set_option linter.unusedSimpArgs false
set_option linter.unusedVariables false
open Go.RowKit

/-- the number of a place on a face: hit at one place alone -/
theorem bt_hit {k p : Int} (h : okP k p = true) (i j : Nat) (hi : (i : Int) < sd k) (hj : (j : Int) < sd k) : btF k.toNat i j = p % (sd k * sd k) ↔ ((i : Int) = fX k p ∧ (j : Int) = fY k p) := by
  have hk := okP_k h
  have hkk := btw_iff.1 hk
  obtain ⟨q1, q2, q3, q4⟩ := sd_sq hk
  have hp : 0 ≤ p ∧ p ≤ px k - 1 := by unfold okP at h; exact btw_iff.1 (Bool.and_eq_true_iff.1 h).2
  have hs := sd_b hk
  have hsk : sd k = 2 ^ k.toNat := rfl
  have m1 := Int.emod_nonneg p (show sd k * sd k ≠ 0 by omega)
  have m2 := Int.emod_lt_of_pos p (show 0 < sd k * sd k by omega)
  have g1 := gat_btF ⟨k.toNat, by omega⟩ ⟨i, by omega⟩ ⟨j, by omega⟩ (by simp only; omega) (by simp only; omega)
  have g2 := btF_gat ⟨k.toNat, by omega⟩ ⟨(p % (sd k * sd k)).toNat, by omega⟩ (by simp only; omega)
  simp only [show (((p % (sd k * sd k)).toNat : Nat) : Int) = p % (sd k * sd k) by omega] at g1 g2
  unfold fX fY fN
  constructor
  · intro e; rw [← e]; exact ⟨g1.1.symm, g1.2.symm⟩
  · rintro ⟨e1, e2⟩; rw [e1, e2]; exact g2

set_option maxRecDepth 100000 in
set_option maxHeartbeats 2000000 in
theorem refPlace_any (k p : Int) (w : World) :
    Calls Try.prog 32 #[.int .i64 k, .int .i64 p] w fun e w' => e = .returned (PlaceV k p) ∧ Below w.heap.size w w' := by
  have HP := Lib.hid (fun W => isPixel_any k p W)
  cases hok : okP k p
  · have HV : Hid (PlaceV k p = .tuple #[.int .i64 0, .int .i64 0, .int .i64 0, .int .i64 2]) := Lib.hid (by simp [PlaceV, hok])
    rw [hok] at HP
    clear hok
    go_enter Try.func32, Try.ntmps32
    go_wp2_with (go_at_call 66; refine (HP.out _).mono ?_; rintro e w' ⟨rfl, rfl⟩)
    refine bodyPost_ret (v := .tuple #[.int .i64 0, .int .i64 0, .int .i64 0, .int .i64 2]) (by simp [results, Try.results32, go_sem]) rfl ⟨by rw [HV.out], Below.refl _ _⟩
  · have HV : Hid (PlaceV k p = .tuple #[.int .i64 (fF k p), .int .i64 (fX k p), .int .i64 (fY k p), .int .i64 0]) := Lib.hid (by simp [PlaceV, hok])
    have hk := okP_k hok
    have hsb := sd_b hk
    obtain ⟨hx, hy, hf⟩ := spot_bounds hok
    obtain ⟨q1, q2, q3, q4⟩ := sd_sq hk
    have hp := okP_p hok
    have HS := Lib.hid (fun W => side_any k W hk)
    have HB := Lib.hid (fun (i j : Nat) W (hi : (i : Int) < sd k) (hj : (j : Int) < sd k) => refbits_any k i j W hk (btw_iff.2 ⟨by omega, by omega⟩) (btw_iff.2 ⟨by omega, by omega⟩))
    have HH := Lib.hid (fun (i j : Nat) hi hj => bt_hit hok i j hi hj)
    have hFd : fF k p = p / (sd k * sd k) := rfl
    rw [hok] at HP
    generalize fX k p = X at *
    generalize fY k p = Y at *
    generalize fF k p = F at *
    obtain ⟨x, rfl⟩ := Int.eq_ofNat_of_zero_le hx.1
    obtain ⟨y, rfl⟩ := Int.eq_ofNat_of_zero_le hy.1
    clear hok hk q1 q4
    generalize sd k = s at *
    have t1 : IntKind.i64.wrap (s * s) = s * s := IntWalk.i64_in _ (by omega)
    have t2 : wrap64 (s * s) = s * s := IntWalk.wrap64_in _ (by omega)
    generalize hq : s * s = q at *
    have t3 : IntKind.i64.wrap (s * s) = q := by rw [hq]; exact t1
    have t4 : wrap64 (s * s) = q := by rw [hq]; exact t2
    clear t1 t2
    have HQ := Lib.hid hq; clear hq
    have hqn : ¬ q = 0 := by omega
    have hqn2 : (q == 0) = false := by simpa using hqn
    have u1 : p.tdiv q = p / q := Int.tdiv_eq_ediv_of_nonneg hp.1
    have u2 : p.tmod q = p % q := Int.tmod_eq_emod_of_nonneg hp.1
    have HF := Lib.hid hFd; clear hFd
    have n1 := Int.emod_nonneg p (show q ≠ 0 by omega)
    have n2 := Int.emod_lt_of_pos p (show 0 < q by omega)
    generalize hn : p % q = N at *
    generalize hn2 : p / q = D at *
    clear hn hn2
    have v1 : IntKind.i64.wrap N = N := IntWalk.i64_in _ (by omega)
    have v1' : wrap64 N = N := IntWalk.wrap64_in _ (by omega)
    have v2 : IntKind.i64.wrap D = D := IntWalk.i64_in _ (by have := HF.out; omega)
    have v2' : wrap64 D = D := IntWalk.wrap64_in _ (by have := HF.out; omega)
    go_enter Try.func32, Try.ntmps32
    go_wp2_with (first | (go_at_call 66; refine (HP.out _).mono ?_; rintro e w' ⟨rfl, rfl⟩) | (go_at_call 74; refine (HS.out _).mono ?_; rintro e w' ⟨rfl, rfl⟩))
    go_loopg [9] 17 (fun kk u wr => ∃ i : Nat, u = .int .i64 i ∧ i ≤ x ∧ 17 - i ≤ kk ∧ Below w.heap.size w wr)
    case atStart => exact ⟨0, rfl, by omega, by omega, Below.refl _ _⟩
    case round =>
      obtain ⟨i, rfl, hi, hkk, hB⟩ := hrel
      obtain ⟨wo, rfl⟩ : ∃ wo : World, wo = wr := ⟨_, rfl⟩
      have his : (i : Int) < s := by omega
      have HBo := Lib.hid hB; clear hB
      go_wp2
      go_loopg [10] 17 (fun kk u wr => ∃ j : Nat, u = .int .i64 j ∧ (i = x → j ≤ y) ∧ (j : Int) ≤ s ∧ 17 - j ≤ kk ∧ Below w.heap.size w wr)
      case atStart => exact ⟨0, rfl, by omega, by omega, by omega, HBo.out⟩
      case round =>
        obtain ⟨j, rfl, hj, hjs, hjk, hB⟩ := hrel
        have HBi := Lib.hid hB; clear hB
        by_cases hlt : (j : Int) < s
        · have HBj := Lib.hid (fun W => HB.out i j W his hlt)
          have hh := HH.out i j his hlt
          by_cases hit : i = x ∧ j = y
          · obtain ⟨rfl, rfl⟩ := hit
            have hb := hh.2 ⟨rfl, rfl⟩
            rw [hb] at HBj
            clear hh hb
            go_wp2_with fail
            go_region_held3 (fun w' => True) (trivial) ((go_at_call 75; refine (HBj.out _).mono ?_; rintro e w1 ⟨rfl, h1⟩))
            all_goals
              go_wp2_with fail
              refine bodyPost_ret (v := .tuple #[.int .i64 F, .int .i64 i, .int .i64 j, .int .i64 0]) (by simp [results, Try.results32, go_sem, HF.out]) rfl ⟨by rw [HV.out], (HBi.out.drewsN 1).trs h1⟩
          · have hb : ¬ btF k.toNat i j = N := fun e => hit (by have := hh.1 e; omega)
            clear hh
            have hjy : i = x → j + 1 ≤ y := by
              intro e
              have := hj e
              have : ¬ j = y := fun e2 => hit ⟨e, e2⟩
              omega
            have HJ := Lib.hid hjy; clear hjy hit hj
            generalize btF k.toNat i j = b at *
            go_wp2_with fail
            go_region_held3 (fun w' => True) (trivial) ((go_at_call 75; refine (HBj.out _).mono ?_; rintro e w1 ⟨rfl, h1⟩))
            all_goals
              go_wp2_with fail
              go_roundg (17 - (j + 1))
              case measure => omega
              case rel => exact ⟨j + 1, by go_num, HJ.out, by omega, by omega, (HBi.out.drewsN 1).trs h1⟩
        · have hix : i < x := by
            have : ¬ i = x := fun e => by have := hj e; omega
            omega
          go_wp2
          go_roundg (17 - (i + 1))
          case measure => omega
          case rel => exact ⟨i + 1, by go_num, by omega, by omega, HBi.out⟩
end Go.Proofs.Ytolgpigdioanoaa
