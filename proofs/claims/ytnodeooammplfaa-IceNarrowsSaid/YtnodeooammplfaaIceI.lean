/- Walks over the reference of ice: the mean of a loss. -/
import Derived.Test.YtnodeooammplfaaIceH
namespace Go.Proofs.Ytnodeooammplfaa
set_option linter.unusedVariables false
open Go.RowKit

theorem gcd_round {N D g k n d : Nat} (hg : g = Nat.gcd N D) (hD : 1 ≤ D) (hk : 2 ≤ k) (h : (g ≤ k ∧ n = N ∧ d = D) ∨ (k < g ∧ n = N / g ∧ d = D / g)) :
    ((n % k = 0 ∧ d % k = 0) → k = g ∧ n / k = N / g ∧ d / k = D / g) ∧ (¬ (n % k = 0 ∧ d % k = 0) → (g ≤ k - 1 ∧ n = N ∧ d = D) ∨ (k - 1 < g ∧ n = N / g ∧ d = D / g)) := by
  have hgp : 1 ≤ g := by rw [hg]; exact Nat.gcd_pos_of_pos_right N hD
  rcases h with ⟨h1, rfl, rfl⟩ | ⟨h1, rfl, rfl⟩
  · refine ⟨fun ⟨a, b⟩ => ?_, fun hn => ?_⟩
    · have hkd : k ∣ g := by rw [hg]; exact Nat.dvd_gcd (Nat.dvd_of_mod_eq_zero a) (Nat.dvd_of_mod_eq_zero b)
      have : k = g := Nat.le_antisymm (Nat.le_of_dvd hgp hkd) h1
      subst this
      exact ⟨rfl, rfl, rfl⟩
    · left
      refine ⟨?_, rfl, rfl⟩
      rcases Nat.lt_or_ge g k with hlt | hge
      · omega
      · have : k = g := by omega
        subst this
        exact absurd ⟨Nat.mod_eq_zero_of_dvd (by rw [hg]; exact Nat.gcd_dvd_left _ _), Nat.mod_eq_zero_of_dvd (by rw [hg]; exact Nat.gcd_dvd_right _ _)⟩ hn
  · refine ⟨fun ⟨a, b⟩ => ?_, fun _ => .inr ⟨by omega, rfl, rfl⟩⟩
    exfalso
    have hc : Nat.gcd (N / g) (D / g) = 1 := by
      rw [hg]; exact Nat.gcd_div_gcd_div_gcd_of_pos_right hD
    have : k ∣ 1 := by rw [← hc]; exact Nat.dvd_gcd (Nat.dvd_of_mod_eq_zero a) (Nat.dvd_of_mod_eq_zero b)
    have := Nat.le_of_dvd (by decide) this
    omega

theorem MeanE_no {L : List (Int × Int)} {x y : Int} (h : LossE L x y ≠ 0) : MeanE L x y = LossE L x y := by
  unfold MeanE MeanR
  unfold LossE at *
  cases hv : vld L
  · rfl
  · cases hr : LossR L x y
    · rfl
    · rw [hv, hr] at h; exact absurd rfl h
theorem LossE_ok {L : List (Int × Int)} {x y : Int} (h : LossE L x y = 0) : vld L = true ∧ LossR L x y = true := by
  unfold LossE at h
  cases hv : vld L
  · rw [hv] at h; cases h
  · cases hr : LossR L x y
    · rw [hv, hr] at h; cases h
    · exact ⟨rfl, rfl⟩

set_option maxRecDepth 100000 in
set_option maxHeartbeats 1000000 in
theorem refMean_any (A : Option Addr) (c : Nat) (L : List (Int × Int)) (x y : Int) (w : World) (hr : RdP w w.heap.size A L) (hl : L.length ≤ 1125899906842624) :
    Calls Try.prog 27 #[.slice A L.length c, .int .i64 x, .int .i64 y] w fun e w' => e = .returned (MeanV L x y) ∧ Below w.heap.size w w' := by
  have hB0 : Below w.heap.size w (w.alloc (.cells #[.int .i64 0, .int .i64 0] 31)) := below_alloc _ _
  have HL := Lib.hid (refLoss_any A c L x y _ (hr.on hB0) hl)
  clear hr
  have fin : ∀ (w1 W : World) (v1 v2 : Int), Below w.heap.size w w1 → Box w1 w.heap.size 31 #[.int .i64 0, .int .i64 0] → W = (w1.setCell ⟨w.heap.size, 0, none⟩ (.int .i64 v1)).setCell ⟨w.heap.size, 1, none⟩ (.int .i64 v2) →
      W.cell? ⟨w.heap.size, 0, none⟩ = some (.int .i64 v1) ∧ W.cell? ⟨w.heap.size, 1, none⟩ = some (.int .i64 v2) ∧ Below w.heap.size w W := by
    rintro w1 W v1 v2 hB hbx rfl
    have hb2 := (hbx.set_ 0 (.int .i64 v1)).set_ 1 (.int .i64 v2)
    have e0 := hb2.cell 0
    have e1 := hb2.cell 1
    simp at e0 e1
    exact ⟨e0, e1, (hB.setCell (p := ⟨_, _, none⟩) (Nat.le_refl _) _).setCell (p := ⟨_, _, none⟩) (Nat.le_refl _) _⟩
  have FIN := Lib.hid fin; clear fin
  have hbn : Box (w.alloc (.cells #[.int .i64 0, .int .i64 0] 31)) w.heap.size 31 #[.int .i64 0, .int .i64 0] := Box.new _ _ _
  have HBN := Lib.hid hbn; clear hbn
  have HN := Lib.hid (@MeanV_no L x y)
  have HK := Lib.hid (@MeanV_ok L x y)
  by_cases he : LossE L x y = 0
  · obtain ⟨hv, hrt⟩ := LossE_ok he
    have hxy := isB_two.1 (show isB (cum (mets L)).length [x, y] = true from hrt)
    have h600 := mets_len600 (okL_of_vld hv)
    have hcl := cum_length (mets L)
    have hval : val (LossE L x y) (LossV L x y) = LossV L x y := val_ok he
    rw [he] at HL
    rw [he] at hval
    rw [hval] at HL
    by_cases hne : x = y
    · have hme : MeanE L x y = 2 := by unfold MeanE MeanR; rw [hv, hrt, hne]; simp [gate]
      have HMV := HN.out (by rw [hme]; decide)
      rw [hme] at HMV
      have HM := Lib.hid HMV
      clear hval hme HMV HN HK hcl h600 he hrt hv hxy
      have hb : (x == y) = true := by simp [hne]
      clear hne
      generalize MeanV L x y = mv at *
      go_enter Try.func27, Try.ntmps27
      go_wp2_with (go_at_call 25; refine HL.out.mono ?_; rintro e w1 ⟨rfl, hB⟩; have hB1 := bcell hB; have hz := hB.size; simp at hz)
      obtain ⟨e0, e1, hB2⟩ := FIN.out w1 _ 0 0 (hB0.trs hB) (HBN.out.on hB) rfl
      refine bodyPost_ret (v := .tuple #[.agg #[.int .i64 0, .int .i64 0], .int .i64 2]) (by simp [results, Try.results27, go_sem, e0, e1]) rfl ⟨by rw [HM.out], hB2⟩
    · have hme : MeanE L x y = 0 := gate_ok hv (by unfold MeanR; rw [hrt]; simpa using hne)
      have HMV := HK.out hme
      obtain ⟨N, hN, hN6⟩ : ∃ N : Nat, LossV L x y = (N : Int) ∧ N ≤ 60000 := by
        have h1 := ice_bounds (okL_of_vld hv) x.toNat
        have h2 := ice_bounds (okL_of_vld hv) y.toNat
        refine ⟨(LossV L x y).toNat, ?_, ?_⟩ <;> unfold LossV lossI <;> omega
      obtain ⟨D, hD, hD1, hD6⟩ : ∃ D : Nat, dist x y = (D : Int) ∧ 1 ≤ D ∧ D ≤ 600 := by
        refine ⟨(dist x y).toNat, ?_, ?_, ?_⟩ <;> unfold dist <;> omega
      rw [hN, hD] at HMV
      rw [hN] at HL
      have HM := Lib.hid HMV
      have hx0 := hxy.1.1
      have hx6 : x ≤ 600 := by omega
      have hy0 := hxy.2.1
      have hy6 : y ≤ 600 := by omega
      have hdd : (x < y ∧ y - x = (D : Int)) ∨ (y < x ∧ x - y = (D : Int)) := by unfold dist at hD; omega
      have hb : (x == y) = false := by simp [hne]
      clear hval hme HMV HN HK hcl h600 he hrt hv hxy hN hD
      generalize MeanV L x y = mv at *
      obtain ⟨g, hg⟩ : ∃ g, g = Nat.gcd N D := ⟨_, rfl⟩
      have hgp : 1 ≤ g := by rw [hg]; exact Nat.gcd_pos_of_pos_right N hD1
      have hgD : g ≤ D := by rw [hg]; exact Nat.le_of_dvd hD1 (Nat.gcd_dvd_right _ _)
      have HG := Lib.hid hg; clear hg
      rcases hdd with ⟨hlt, hd⟩ | ⟨hlt, hd⟩
      all_goals
        go_enter Try.func27, Try.ntmps27
        go_wp2_with (go_at_call 25; refine HL.out.mono ?_; rintro e w1 ⟨rfl, hB⟩; have hB1 := bcell hB; have hz := hB.size; simp at hz)
        have HD := Lib.hid (And.intro hlt hd)
        clear hlt hd hne hb
        go_loopg [8, 10, 11] D (fun gk s t u wr => ∃ n d k : Nat, s = .int .i64 n ∧ t = .int .i64 d ∧ u = .int .i64 k ∧ k ≤ gk ∧ 1 ≤ k ∧ k ≤ D ∧ n ≤ 60000 ∧ d ≤ 600 ∧ (∃ q, wr = w1.drewN q) ∧ Aside ((g ≤ k ∧ n = N ∧ d = D) ∨ (k < g ∧ n = N / g ∧ d = D / g)))
        case atStart => exact ⟨N, D, D, rfl, rfl, rfl, Nat.le_refl _, hD1, Nat.le_refl _, hN6, hD6, ⟨0, rfl⟩, (.inl ⟨hgD, rfl, rfl⟩ : (g ≤ D ∧ N = N ∧ D = D) ∨ (D < g ∧ N = N / g ∧ D = D / g))⟩
        case round =>
          obtain ⟨n, d, k, rfl, rfl, rfl, hkg, hk1, hkD, hn6, hd6, ⟨q, rfl⟩, HA⟩ := hrel
          by_cases hk2 : 2 ≤ k
          · obtain ⟨r1, r2⟩ := gcd_round HG.out hD1 hk2 HA.out
            have R1 := Lib.hid r1
            have R2 := Lib.hid r2
            clear r1 r2
            have hkI : (1 : Int) < (k : Int) := by omega
            have c1 : ((n : Int) % (k : Int)) = ((n % k : Nat) : Int) := (Int.natCast_emod n k).symm
            have c2 : ((d : Int) % (k : Int)) = ((d % k : Nat) : Int) := (Int.natCast_emod d k).symm
            by_cases h1 : n % k = 0
            · have t1 : ((n : Int) % (k : Int) == 0) = true := by rw [c1, h1]; rfl
              by_cases h2 : d % k = 0
              · have t2 : ((d : Int) % (k : Int) == 0) = true := by rw [c2, h2]; rfl
                have HH := Lib.hid (R1.out ⟨h1, h2⟩)
                clear c1 c2 h1 h2
                have dv : ∀ M : Nat, M ≤ 60000 → IntKind.i64.wrap ((M : Int) / (k : Int)) = (M : Int) / (k : Int) ∧ wrap64 ((M : Int) / (k : Int)) = (M : Int) / (k : Int) := by
                  intro M hM
                  have h1 : 0 ≤ (M : Int) / (k : Int) := Int.ediv_nonneg (by omega) (by omega)
                  have h2 : (M : Int) / (k : Int) ≤ M := Int.ediv_le_self _ (by omega)
                  exact ⟨IntWalk.i64_in _ (by omega), IntWalk.wrap64_in _ (by omega)⟩
                obtain ⟨d1, d3⟩ := dv n hn6
                obtain ⟨d2, d4⟩ := dv d (by omega)
                have q1 : n / k ≤ 60000 := Nat.le_trans (Nat.div_le_self _ _) hn6
                have q2 : d / k ≤ 600 := Nat.le_trans (Nat.div_le_self _ _) hd6
                have HQ : Aside ((g ≤ k - 1 ∧ n / k = N ∧ d / k = D) ∨ (k - 1 < g ∧ n / k = N / g ∧ d / k = D / g)) := .inr ⟨by have := HH.out.1; omega, HH.out.2⟩
                clear dv
                go_wp2
                go_quiet (fail)
                go_wp2
                go_roundg (k - 1)
                case measure => omega
                case rel => exact ⟨n / k, d / k, k - 1, by rw [Int.natCast_ediv], by rw [Int.natCast_ediv], by go_num, Nat.le_refl _, by omega, by omega, q1, q2, ⟨_, rfl⟩, HQ⟩
              · have t2 : ((d : Int) % (k : Int) == 0) = false := by rw [c2]; simp; omega
                have HH := Lib.hid (R2.out (by rintro ⟨_, b⟩; exact h2 b))
                clear c1 c2 h1 h2
                go_wp2
                go_roundg (k - 1)
                case measure => omega
                case rel => exact ⟨n, d, k - 1, rfl, rfl, by go_num, Nat.le_refl _, by omega, by omega, hn6, hd6, ⟨q, rfl⟩, HH.out⟩
            · have t1 : ((n : Int) % (k : Int) == 0) = false := by rw [c1]; simp; omega
              have HH := Lib.hid (R2.out (by rintro ⟨a, _⟩; exact h1 a))
              clear c1 c2 h1
              go_wp2
              go_roundg (k - 1)
              case measure => omega
              case rel => exact ⟨n, d, k - 1, rfl, rfl, by go_num, Nat.le_refl _, by omega, by omega, hn6, hd6, ⟨q, rfl⟩, HH.out⟩
          · obtain rfl : k = 1 := by omega
            have hgg : n = N / g ∧ d = D / g := by
              rcases HA.out with ⟨h, h2, h3⟩ | ⟨h, h2, h3⟩
              · have : g = 1 := by omega
                rw [this, Nat.div_one, Nat.div_one]; exact ⟨h2, h3⟩
              · exact ⟨h2, h3⟩
            have HGG := Lib.hid hgg; clear hgg
            go_wp2
            obtain ⟨e0, e1, hB2⟩ := FIN.out (w1.drewN q) _ n d ((hB0.trs hB).drewsN q) (HBN.out.on (hB.drewsN q)) rfl
            refine bodyPost_ret (v := .tuple #[.agg #[.int .i64 n, .int .i64 d], .int .i64 0]) (by simp [results, Try.results27, go_sem, e0, e1]) rfl ⟨?_, hB2⟩
            rw [HM.out, HGG.out.1, HGG.out.2, HG.out]
            unfold ratN ratD
            rw [Int.gcd_natCast_natCast, Int.natCast_ediv, Int.natCast_ediv]
  · have hme := MeanE_no he
    have hv0 : val (LossE L x y) (LossV L x y) = 0 := val_no he
    rw [hv0] at HL
    have HMV := HN.out (by rw [hme]; exact he)
    rw [hme] at HMV
    have HM := Lib.hid HMV
    clear hv0 hme HMV HN HK
    generalize LossE L x y = er at *
    generalize MeanV L x y = mv at *
    have hb : (er == 0) = false := by simp [he]
    go_enter Try.func27, Try.ntmps27
    go_wp2_with (go_at_call 25; refine HL.out.mono ?_; rintro e w1 ⟨rfl, hB⟩; have hB1 := bcell hB; have hz := hB.size; simp at hz)
    obtain ⟨e0, e1, hB2⟩ := FIN.out w1 _ 0 0 (hB0.trs hB) (HBN.out.on hB) rfl
    refine bodyPost_ret (v := .tuple #[.agg #[.int .i64 0, .int .i64 0], .int .i64 er]) (by simp [results, Try.results27, go_sem, e0, e1]) rfl ⟨by rw [HM.out], hB2⟩
end Go.Proofs.Ytnodeooammplfaa
