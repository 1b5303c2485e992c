/- Walks over package ice: the mean of a loss, in lowest terms. -/
import Derived.Test.YtnodeooammplfaaIceG
import Derived.BigRegion
namespace Go.Proofs.Ytnodeooammplfaa
set_option linter.unusedVariables false
open Go.RowKit

theorem infoRatio : (Try.prog.info? 31).map (fun i => (i.zero, i.size, i.bytes)) = some (some (.agg #[.int .i64 0, .int .i64 0]), 2, 16) := by kernel_rfl

theorem MeanV_no {L : List (Int × Int)} {x y : Int} (h : MeanE L x y ≠ 0) : MeanV L x y = .tuple #[.agg #[.int .i64 0, .int .i64 0], .int .i64 (MeanE L x y)] := by
  unfold MeanV; rw [val_no h, val_no h]
theorem MeanV_ok {L : List (Int × Int)} {x y : Int} (h : MeanE L x y = 0) : MeanV L x y = .tuple #[.agg #[.int .i64 (ratN (LossV L x y) (dist x y)), .int .i64 (ratD (LossV L x y) (dist x y))], .int .i64 0] := by
  unfold MeanV; rw [h, val_ok rfl, val_ok rfl]

set_option maxRecDepth 100000 in
set_option maxHeartbeats 1000000 in
theorem Mean_any (A : Option Addr) (c : Nat) (L : List (Int × Int)) (x y : Int) (w : World) (hr : RdP w w.heap.size A L) (hl : L.length ≤ 1125899906842624) :
    Calls Try.prog 26 #[.slice A L.length c, .int .i64 x, .int .i64 y] w fun e w' => e = .returned (MeanV L x y) ∧ Below w.heap.size w w' := by
  have hB00 : Below w.heap.size w ((w.alloc (.cells #[.int .i64 x] 3)).alloc (.cells #[.int .i64 y] 3)) := (below_alloc _ _).trs (below_alloc _ _)
  have hB0 : Below w.heap.size w (((w.alloc (.cells #[.int .i64 x] 3)).alloc (.cells #[.int .i64 y] 3)).alloc (.cells #[.int .i64 0, .int .i64 0] 31)) := hB00.trs (below_alloc _ _)
  have HO := Lib.hid (opened_any 71 #[.pointer (some ⟨w.heap.size, 0, none⟩), .pointer (some ⟨w.heap.size + 1, 0, none⟩)] A c L (MeanR L x y) (((w.alloc (.cells #[.int .i64 x] 3)).alloc (.cells #[.int .i64 y] 3)).alloc (.cells #[.int .i64 0, .int .i64 0] 31)) (hr.on hB0) hl (enters_of Try.func71 (by kernel_rfl) rfl) (by
    intro hv W A' c' hB hR
    have h600 := mets_len600 (okL_of_vld hv)
    have hB2 := (below_alloc ((w.alloc (.cells #[.int .i64 x] 3)).alloc (.cells #[.int .i64 y] 3)) (.cells #[.int .i64 0, .int .i64 0] 31)).trs hB
    have hs := hB2.size
    simp at hs
    exact Mean1_any A' (cum (mets L)).length c' w.heap.size (w.heap.size + 1) x y W (by rw [cum_length]; omega) (keep21 hB2) (keep22 hB2) (by omega) (by omega)))
  clear hr
  have HN := Lib.hid (@MeanV_no L x y)
  have HK := Lib.hid (@MeanV_ok L x y)
  generalize MeanV L x y = mv at *
  go_enter Try.func26, Try.ntmps26
  go_wp2_with (go_at_call 65; refine HO.out.mono ?_; rintro e w1 ⟨hB, h⟩; have hB1 := bcell hB; have hz := hB.size; simp at hz; rcases h with ⟨hg, rfl⟩ | ⟨hv, hrt, A', c', rfl, hR⟩)
  · have hbx : Box w1 (w.heap.size + 1 + 1) 31 #[.int .i64 0, .int .i64 0] := by
      have h := (Box.new ((w.alloc (.cells #[.int .i64 x] 3)).alloc (.cells #[.int .i64 y] 3)) 31 #[.int .i64 0, .int .i64 0]).on hB
      simpa using h
    have hb2 := (hbx.set_ 0 (.int .i64 0)).set_ 1 (.int .i64 0)
    have e0 := hb2.cell 0
    have e1 := hb2.cell 1
    simp at e0 e1
    refine bodyPost_ret (v := .tuple #[.agg #[.int .i64 0, .int .i64 0], .int .i64 (MeanE L x y)]) (by simp [results, Try.results26, go_sem, e0, e1]; rfl) rfl ⟨by rw [HN.out hg], ?_⟩
    exact ((hB0.trs hB).setCell (p := ⟨_, _, none⟩) (by simp; omega) _).setCell (p := ⟨_, _, none⟩) (by simp; omega) _
  · have hbx : Box w1 (w.heap.size + 1 + 1) 31 #[.int .i64 0, .int .i64 0] := by
      have h := (Box.new ((w.alloc (.cells #[.int .i64 x] 3)).alloc (.cells #[.int .i64 y] 3)) 31 #[.int .i64 0, .int .i64 0]).on hB
      simpa using h
    have hmr := hrt
    unfold MeanR at hmr
    simp only [Bool.and_eq_true, bne_iff_ne, ne_eq] at hmr
    have hxy := isB_two.1 (show isB (cum (mets L)).length [x, y] = true from hmr.1)
    have h600 := mets_len600 (okL_of_vld hv)
    have hcl := cum_length (mets L)
    obtain ⟨N, hN⟩ : ∃ N : Nat, LossV L x y = (N : Int) ∧ N ≤ 60000 := by
      have h1 := ice_bounds (okL_of_vld hv) x.toNat
      have h2 := ice_bounds (okL_of_vld hv) y.toNat
      refine ⟨(LossV L x y).toNat, ?_, ?_⟩ <;> unfold LossV lossI <;> omega
    obtain ⟨D, hD⟩ : ∃ D : Nat, dist x y = (D : Int) ∧ 1 ≤ D ∧ D ≤ 600 := by
      refine ⟨(dist x y).toNat, ?_, ?_, ?_⟩ <;> unfold dist <;> omega
    have hcx : w1.cell? ⟨w.heap.size, 0, none⟩ = some (.int .i64 x) := keep21 ((below_alloc ((w.alloc (.cells #[.int .i64 x] 3)).alloc (.cells #[.int .i64 y] 3)) (.cells #[.int .i64 0, .int .i64 0] 31)).trs hB)
    have hcy : w1.cell? ⟨w.heap.size + 1, 0, none⟩ = some (.int .i64 y) := keep22 ((below_alloc ((w.alloc (.cells #[.int .i64 x] 3)).alloc (.cells #[.int .i64 y] 3)) (.cells #[.int .i64 0, .int .i64 0] 31)).trs hB)
    have HC : Hid (∀ k, Calls Try.prog 69 #[.slice A' (cum (mets L)).length c', .int .i64 x, .int .i64 y] (w1.drewN k) fun e w' => e = .returned (.int .i64 N) ∧ ∃ n, w' = (w1.drewN k).drewN n) := by
      intro k
      have h := loss_col A' c' L x y (w1.drewN k) hR hv hmr.1
      rwa [show lossI (cum (mets L)) x.toNat y.toNat = (N : Int) from hN.1] at h
    have HMV : Hid (mv = .tuple #[.agg #[.int .i64 (ratN N D), .int .i64 (ratD N D)], .int .i64 0]) := by
      have := HK.out (gate_ok hv hrt)
      rw [hN.1, hD.1] at this
      exact this
    have hB3 := hB0.trs hB
    have hN6 := hN.2
    have hD1 := hD.2.1
    have hD6 := hD.2.2
    have hdist := hD.1
    unfold dist at hdist
    have hx0 := hxy.1.1
    have hx6 : x ≤ 600 := by omega
    have hy0 := hxy.2.1
    have hy6 : y ≤ 600 := by omega
    have hne := hmr.2
    clear hN hD hmr hxy hrt hv h600 hcl HK HN HO hR hB1
    have hgd : 1 ≤ Nat.gcd N D := Nat.gcd_pos_of_pos_right N hD1
    have hdd : (x < y ∧ y - x = (D : Int)) ∨ (y < x ∧ x - y = (D : Int)) := by omega
    clear hdist hne
    rcases hdd with ⟨hlt, hd⟩ | ⟨hlt, hd⟩
    all_goals
      go_quiet ((go_at_call 69; exact Calls.quiet_of (HC.out _)))
      have HD := Lib.hid (And.intro hlt hd)
      clear hlt
      go_wp2
      clear hd
      go_loopg [12, 13] D (fun k s t wr => ∃ a b q : Nat, s = .int .i64 a ∧ t = .int .i64 b ∧ b ≤ k ∧ wr = w1.drewN q ∧ a ≤ 60000 ∧ b ≤ 60000 ∧ Aside (Nat.gcd a b = Nat.gcd N D))
      case atStart => exact ⟨N, D, _, rfl, rfl, Nat.le_refl _, rfl, hN6, by omega, (rfl : Nat.gcd N D = Nat.gcd N D)⟩
      case round =>
        obtain ⟨a, b, q, rfl, rfl, hbk, rfl, ha6, hb6, HG⟩ := hrel
        by_cases hb : b = 0
        · subst hb
          have hag : a = Nat.gcd N D := by have := HG.out; rwa [Nat.gcd_zero_right] at this
          have ha1 : 1 ≤ a := by omega
          have HA := Lib.hid hag; clear hag hgd
          go_wp2
          have e0 := hbx.cell 0
          have e1 := hbx.cell 1
          have f0 := hbx.frozen 0
          have f1 := hbx.frozen 1
          simp at e0 e1
          have dv : ∀ M : Nat, M ≤ 60000 → IntKind.i64.wrap ((M : Int) / (a : Int)) = (M : Int) / (a : Int) ∧ wrap64 ((M : Int) / (a : Int)) = (M : Int) / (a : Int) := by
            intro M hM
            have h1 : 0 ≤ (M : Int) / (a : Int) := Int.ediv_nonneg (by omega) (by omega)
            have h2 : (M : Int) / (a : Int) ≤ M := Int.ediv_le_self _ (by omega)
            exact ⟨IntWalk.i64_in _ (by omega), IntWalk.wrap64_in _ (by omega)⟩
          obtain ⟨d1, d3⟩ := dv N hN6
          obtain ⟨d2, d4⟩ := dv D (by omega)
          clear dv
          go_region
          all_goals
            go_wp2
            refine bodyPost_ret (v := .tuple #[.agg #[.int .i64 (N / a), .int .i64 (D / a)], .int .i64 0]) ?_ rfl ⟨?_, ?_⟩
            · have hb2 := (Box.set_ (w := (w1.drewN q).drew) hbx 0 (.int .i64 (N / a))).set_ 1 (.int .i64 (D / a))
              have e0 := hb2.cell 0
              have e1 := hb2.cell 1
              simp at e0 e1
              simp [results, Try.results26, go_sem, e0, e1]
            · rw [HMV.out, HA.out]
              unfold ratN ratD
              rw [Int.gcd_natCast_natCast]
            · exact ((Below.drewsN hB3 q).drew.setCell (p := ⟨_, _, none⟩) (by simp; omega) _).setCell (p := ⟨_, _, none⟩) (by simp; omega) _
        · have hb1 : 1 ≤ b := by omega
          have hmod : a % b < b := Nat.mod_lt _ (by omega)
          have hg2 : Nat.gcd b (a % b) = Nat.gcd N D := by rw [← HG.out, Nat.gcd_comm a b, Nat.gcd_rec b a, Nat.gcd_comm]
          have HG2 : Aside (Nat.gcd b (a % b) = Nat.gcd N D) := hg2
          clear hg2 hb
          go_wp2
          go_quiet (fail)
          go_wp2
          go_roundg (a % b)
          case measure => omega
          case rel => exact ⟨b, a % b, _, rfl, by rw [Int.natCast_emod], Nat.le_refl _, World.drewN_drewN _ _ _, hb6, by omega, HG2⟩
end Go.Proofs.Ytnodeooammplfaa
