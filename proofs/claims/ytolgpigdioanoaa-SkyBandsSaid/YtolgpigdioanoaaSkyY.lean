/- Walks over the reference of sky: RingOf, Ring, FromRing, On. -/
import Derived.Test.YtolgpigdioanoaaSkyX
namespace Go.Proofs.Ytolgpigdioanoaa
set_option linter.unusedSimpArgs false
set_option linter.unusedVariables false
open Go.RowKit

theorem refRingOf_ok (k p : Int) (w : World) (h : okP k p = true) :
    Calls Try.prog 38 #[.int .i64 k, .int .i64 p] w fun e w' => e = .returned (.tuple #[.int .i64 (rgR (sd k) (fF k p) (fX k p) (fY k p)), .int .i64 (rgP (sd k) (fF k p) (fX k p) (fY k p)), .int .i64 0]) ∧ Below w.heap.size w w' := by
  have hk := okP_k h
  obtain ⟨hx, hy, hf⟩ := spot_bounds h
  have hP : ∀ W, Calls Try.prog 32 #[.int .i64 k, .int .i64 p] W fun e w' => e = .returned (.tuple #[.int .i64 (fF k p), .int .i64 (fX k p), .int .i64 (fY k p), .int .i64 0]) ∧ Below W.heap.size W w' := fun W => by
    have := refPlace_any k p W
    rw [PlaceV, h] at this
    exact this
  have hS := fun W => side_any k W hk
  have hL := fun r W hr => reflength_any k r W hk hr
  have hsc := sd_cases hk
  generalize fF k p = f at *
  generalize fX k p = x at *
  generalize fY k p = y at *
  generalize sd k = s at *
  have hs : 1 ≤ s ∧ s ≤ 16 := by rcases hsc with h | h | h | h | h <;> omega
  have hR : 1 ≤ rgR s f x y ∧ rgR s f x y ≤ 4 * s - 1 := by
    unfold rgR; rcases hsc with rfl | rfl | rfl | rfl | rfl <;> omega
  have hm : 0 ≤ (f / 4 + 2) * s ∧ (f / 4 + 2) * s ≤ 64 := by rcases hsc with rfl | rfl | rfl | rfl | rfl <;> omega
  have hLb := lenS_bound hs hR
  have hbQ : 0 ≤ rgB f * (lenS s (rgR s f x y) / 4) ∧ rgB f * (lenS s (rgR s f x y) / 4) ≤ 112 := by
    have hb : 0 ≤ rgB f ∧ rgB f ≤ 7 := by unfold rgB; split <;> omega
    exact ⟨Int.mul_nonneg hb.1 (by omega), Int.le_trans (Int.mul_le_mul hb.2 (show lenS s (rgR s f x y) / 4 ≤ 16 by omega) (by omega) (by omega)) (by decide)⟩
  have hc : rgC s (rgR s f x y) = 0 ∨ rgC s (rgR s f x y) = 1 := by unfold rgC; split <;> simp
  have hH : rgH s f x y = rgB f * (lenS s (rgR s f x y) / 4) + x - y + 1 + rgC s (rgR s f x y) := rfl
  have ht : -100 ≤ (rgH s f x y).tdiv 2 ∧ (rgH s f x y).tdiv 2 ≤ 100 := by
    have : -100 ≤ rgH s f x y ∧ rgH s f x y ≤ 140 := by omega
    rcases Int.le_total 0 (rgH s f x y) with h0 | h0
    · rw [Int.tdiv_eq_ediv_of_nonneg h0]; omega
    · obtain ⟨z, hz⟩ : ∃ z, rgH s f x y = -z := ⟨-rgH s f x y, by omega⟩
      rw [hz, Int.neg_tdiv, Int.tdiv_eq_ediv_of_nonneg (by omega)]; omega
  refine refring_gen k s p f x y (f / 4) (f / 4 + 2) ((f / 4 + 2) * s) ((f / 4 + 2) * s - x) ((f / 4 + 2) * s - x - y) (rgR s f x y) (lenS s (rgR s f x y)) (lenS s (rgR s f x y) / 4) (f % 4) (2 * (f % 4)) (rgB f) (rgB f * (lenS s (rgR s f x y) / 4)) (rgB f * (lenS s (rgR s f x y) / 4) + x) (rgB f * (lenS s (rgR s f x y) / 4) + x - y) (rgB f * (lenS s (rgR s f x y) / 4) + x - y + 1) (3 * s) (rgR s f x y - s) ((rgR s f x y - s).tmod 2) (rgH s f x y) ((rgH s f x y).tdiv 2) (4 * s) (rgP s f x y) w hP hS (fun W => hL _ W hR)
    (Int.tdiv_eq_ediv_of_nonneg (by omega)) rfl (IntWalk.i64_in _ (by omega)) (IntWalk.wrap64_in _ (by omega)) (by rw [Int.add_comm]; exact IntWalk.i64_in _ (by omega)) (IntWalk.i64_in _ (by omega)) (IntWalk.wrap64_in _ (by omega)) (IntWalk.i64_in _ (by omega)) (IntWalk.i64_in _ (by omega)) (IntWalk.i64_in _ (by omega))
    (Int.tdiv_eq_ediv_of_nonneg (by omega)) rfl (IntWalk.i64_in _ (by omega)) (IntWalk.wrap64_in _ (by omega)) (Int.tmod_eq_emod_of_nonneg (by omega)) rfl (IntWalk.i64_in _ (by omega)) (IntWalk.wrap64_in _ (by omega)) (IntWalk.i64_in _ (by omega)) (IntWalk.wrap64_in _ (by omega))
    ?_ (IntWalk.i64_in _ (by omega)) (IntWalk.wrap64_in _ (by omega)) (IntWalk.i64_in _ (by omega)) (IntWalk.i64_in _ (by omega)) (IntWalk.i64_in _ (by omega)) (IntWalk.i64_in _ (by omega))
    (IntWalk.i64_in _ (by omega)) (IntWalk.wrap64_in _ (by omega)) (IntWalk.i64_in _ (by omega)) rfl (IntWalk.i64_in _ ?_) (IntWalk.wrap64_in _ ?_) ?_ rfl (IntWalk.i64_in _ (by omega)) (IntWalk.wrap64_in _ (by omega)) (IntWalk.i64_in _ (by omega)) (IntWalk.wrap64_in _ (by omega)) ?_
  · by_cases h1 : f / 4 = 1
    · exact .inl ⟨h1, by rw [h1]; omega, by simp [rgB, h1]⟩
    · exact .inr ⟨h1, by rw [Int.add_comm, IntWalk.i64_in _ (by omega)]; simp [rgB, h1]⟩
  · have q1 := Int.tmod_lt_of_pos (rgR s f x y - s) (show (0 : Int) < 2 by decide)
    have q2 := Int.lt_tmod_of_pos (rgR s f x y - s) (show (0 : Int) < 2 by decide)
    omega
  · have q1 := Int.tmod_lt_of_pos (rgR s f x y - s) (show (0 : Int) < 2 by decide)
    have q2 := Int.lt_tmod_of_pos (rgR s f x y - s) (show (0 : Int) < 2 by decide)
    omega
  · cases hb : btw s (rgR s f x y) (3 * s)
    · have hc0 : rgC s (rgR s f x y) = 0 := by simp [rgC, hb]
      exact .inl ⟨rfl, by rw [hH, hc0]; omega⟩
    · have hb2 := btw_iff.1 hb
      have ht0 : (rgR s f x y - s).tmod 2 = (rgR s f x y - s) % 2 := Int.tmod_eq_emod_of_nonneg (by omega)
      by_cases ho : (rgR s f x y - s) % 2 = 1
      · have hc0 : rgC s (rgR s f x y) = 1 := by simp [rgC, hb, ho]
        exact .inr (.inr ⟨rfl, by omega, ht0.symm, by rw [ht0]; exact ho, by rw [IntWalk.i64_in _ (by omega), hH, hc0]⟩)
      · have hc0 : rgC s (rgR s f x y) = 0 := by simp [rgC, hb, ho]
        exact .inr (.inl ⟨rfl, by omega, ht0.symm, by rw [ht0]; exact ho, by rw [hH, hc0]; omega⟩)
  · by_cases h2 : 4 * s < (rgH s f x y).tdiv 2
    · exact .inl ⟨h2, by rw [IntWalk.i64_in _ (by omega)]; rw [rgP, if_neg (by omega), if_pos h2]⟩
    · by_cases h1 : (rgH s f x y).tdiv 2 < 1
      · exact .inr (.inl ⟨h2, h1, by rw [IntWalk.i64_in _ (by omega)]; rw [rgP, if_pos h1]⟩)
      · exact .inr (.inr ⟨h2, h1, by rw [rgP, if_neg h1, if_neg h2]⟩)

theorem refRingOf_any (k p : Int) (w : World) :
    Calls Try.prog 38 #[.int .i64 k, .int .i64 p] w fun e w' => e = .returned (RingOfV k p) ∧ Below w.heap.size w w' := by
  cases h : okP k p
  · have HP := Lib.hid (fun W => refPlace_any k p W)
    have e1 : PlaceV k p = .tuple #[.int .i64 0, .int .i64 0, .int .i64 0, .int .i64 2] := by simp [PlaceV, h]
    have HV : Hid (RingOfV k p = .tuple #[.int .i64 0, .int .i64 0, .int .i64 2]) := Lib.hid (by simp [RingOfV, h])
    rw [e1] at HP
    clear h e1
    go_enter Try.func38, Try.ntmps38
    go_wp2_with (go_at_call 32; refine (HP.out _).mono ?_; rintro e w1 ⟨rfl, h1⟩)
    refine bodyPost_ret (v := .tuple #[.int .i64 0, .int .i64 0, .int .i64 2]) (by simp [results, Try.results38, go_sem]) rfl ⟨by rw [HV.out], h1⟩
  · have := refRingOf_ok k p w h
    rw [RingOfV, h]
    exact this

theorem refRing_any (k p : Int) (w : World) :
    Calls Try.prog 34 #[.int .i64 k, .int .i64 p] w fun e w' => e = .returned (RingV k p) ∧ Below w.heap.size w w' := by
  have HP := Lib.hid (fun W => refRingOf_any k p W)
  cases h : okP k p
  · have e1 : RingOfV k p = .tuple #[.int .i64 0, .int .i64 0, .int .i64 2] := by simp [RingOfV, h]
    have HV : Hid (RingV k p = .tuple #[.int .i64 0, .int .i64 2]) := Lib.hid (by simp [RingV, h])
    rw [e1] at HP
    clear h e1
    go_enter Try.func34, Try.ntmps34
    go_wp2_with (go_at_call 38; refine (HP.out _).mono ?_; rintro e w1 ⟨rfl, h1⟩)
    go_ret2
    exact ⟨(by rw [HV.out]; first | done | rfl), h1⟩
  · have e1 : RingOfV k p = .tuple #[.int .i64 (pR k p), .int .i64 (pP k p), .int .i64 0] := by simp [RingOfV, h]
    have HV : Hid (RingV k p = .tuple #[.int .i64 (befF (sd k) (pR k p - 1).toNat + pP k p - 1), .int .i64 0]) := Lib.hid (by rw [RingV, h, rgN_eq]; rfl)
    have hk := okP_k h
    have hs := sd_b hk
    have hrb := ring_bounds h
    have hpf := place_facts h
    have hlb := lenS_bound hs hrb
    have HL := Lib.hid (fun r W hr => reflength_any k r W hk hr)
    have HBB := Lib.hid (fun i (hi : ((i : Nat) : Int) ≤ 4 * sd k - 1) => befF_bound hs i hi)
    have HLB := Lib.hid (fun r (hr : 1 ≤ r ∧ r ≤ 4 * sd k - 1) => lenS_bound hs hr)
    rw [e1] at HP
    have hp1 := hpf.1.1
    have hp2 : pP k p ≤ 64 := by omega
    clear h e1 hpf hk hlb
    generalize pR k p = R at *
    generalize pP k p = P at *
    generalize sd k = s at *
    go_enter Try.func34, Try.ntmps34
    go_wp2_with (go_at_call 38; refine (HP.out _).mono ?_; rintro e w1 ⟨rfl, h1⟩)
    go_loopg [9, 10] 64 (fun kk u t wr => ∃ i : Nat, u = .int .i64 (P - 1 + befF s i) ∧ t = .int .i64 ((i : Int) + 1) ∧ (i : Int) + 1 ≤ R ∧ 64 - i ≤ kk ∧ Below w.heap.size w wr)
    case atStart => exact ⟨0, by simp [befF], rfl, by omega, by omega, h1⟩
    case round =>
      obtain ⟨i, rfl, rfl, hi, hkk, hB⟩ := hrel
      have HBr := Lib.hid hB; clear hB
      have b1 := HBB.out i (by omega)
      by_cases hlt : (i : Int) + 1 < R
      · have b2 := HLB.out ((i : Int) + 1) (by omega)
        have hbs : befF s (i + 1) = befF s i + lenS s ((i : Int) + 1) := rfl
        have HBS := Lib.hid hbs; clear hbs
        have HLi := Lib.hid (fun W => HL.out ((i : Int) + 1) W (by omega))
        have hw2 : IntKind.i64.wrap ((i : Int) + 1 + 1) = (i : Int) + 1 + 1 := IntWalk.i64_in _ (by omega)
        have hw3 : IntKind.i64.wrap ((i : Int) + 2) = (i : Int) + 2 := IntWalk.i64_in _ (by omega)
        generalize lenS s ((i : Int) + 1) = L at *
        generalize befF s i = b at *
        have hw1 : IntKind.i64.wrap (P - 1 + b + L) = P - 1 + b + L := IntWalk.i64_in _ (by omega)
        go_wp2_with (go_at_call 82; refine (HLi.out _).mono ?_; rintro e w' ⟨rfl, rfl⟩)
        go_roundg (64 - (i + 1))
        case measure => omega
        case rel => exact ⟨i + 1, by rw [HBS.out, Int.add_assoc], by go_num, by omega, by omega, HBr.out⟩
      · have hRi : (R - 1).toNat = i := by omega
        have HE : Hid (P - 1 + befF s i = befF s (R - 1).toNat + P - 1) := Lib.hid (by rw [hRi]; omega)
        clear hRi
        generalize befF s i = b at *
        go_wp2
        go_ret2
        exact ⟨(by rw [HV.out, ← HE.out]; first | done | rfl), HBr.out⟩
end Go.Proofs.Ytolgpigdioanoaa
