/- The walk of WaveQuiets. -/
import Derived.Test.YteodljaphkpimaaWvK
namespace Go.Proofs.Yteodljaphkpimaa
open Go.RowKit Go.Shelf
set_option linter.unusedSimpArgs false
set_option linter.unusedVariables false
attribute [local go_sem] Oper.semAt_some

set_option maxRecDepth 100000 in
set_option maxHeartbeats 8000000 in
theorem WaveQuiets_walk (w : World) (A : Option Addr) (c : Nat) (l : List Int) (hr : RdI w w.heap.size A l ∧ ∀ x ∈ l, (Lit.int .i64 x).wf = true) (hl : l.length ≤ maxLen) (m : Int) :
    Calls Try.prog 3 #[.slice A l.length c, .int .i64 m] w fun e w' => e = .returned (.bool true) ∧ Below w.heap.size w w' := by
  replace hr := hr.1
  have HMa := Lib.hid (fun W => Many_any A c l.length W)
  have HAw := Lib.hid Awake_any
  by_cases hM : 200 < (l.length : Int)
  · rw [show decide (200 < (l.length : Int)) = true from decide_eq_true hM] at HMa
    clear hr hM
    go_enter Try.func3, Try.ntmps3
    go_wp2_with (first
      | (go_at_call 6; refine (HMa.out _).mono ?_; rintro e w1 ⟨rfl, rfl⟩)
      | (go_at_call 7; refine (HAw.out _).mono ?_; rintro e w2 ⟨rfl, h2⟩))
    go_ret
    exact ⟨rfl, h2⟩
  · rw [show decide (200 < (l.length : Int)) = false from decide_eq_false hM] at HMa
    have hl2 : l.length ≤ 200 := by omega
    have HQ := Lib.hid (Quiet_any A c l m w hr (by omega))
    by_cases hE : QuE l m = 0
    · obtain ⟨hv, hm0, hm1⟩ := QuE_zero hE
      have hqL : quL l m = quI l m := by unfold quL; rw [if_pos hE]
      have hqv := quI_vld (m := m) hv
      have hE2 := QuE_of hqv hm0 hm1
      have hq2L : quL (quI l m) m = quI l m := by unfold quL; rw [if_pos hE2, quI_again hm0]
      have hE3 := QuE_of hv (m := 0) (by omega) (by omega)
      have hq3L : quL l 0 = l := by unfold quL; rw [if_pos hE3, quI_zero]
      have hqn := quI_len l m
      have HQ2 := Lib.hid (fun A2 c2 W h => Quiet_any A2 c2 (quI l m) m W h (by omega))
      have HQ3 := Lib.hid (fun W (hW : Below w.heap.size w W) => Quiet_any A c l 0 W (hr.on hW) (by omega))
      rw [hqL, hE] at HQ
      rw [hq2L, hE2] at HQ2
      rw [hq3L, hE3] at HQ3
      have HS1 := Lib.hid (fun A3 c3 A2 c2 W h1 h2 => SameInts_any A3 c3 A2 c2 (quI l m) W h1 h2 (by omega))
      have HS2 := Lib.hid (fun A3 c3 W (hW : Below w.heap.size w W) h1 => SameInts_any A3 c3 A c l W h1 (hr.on hW) (by omega))
      have HMV := Lib.hid (fun k (hk : k < l.length) (h : ix (quI l m) k ≠ ix l k) => (by
        rw [quI_ix l m hk] at h ⊢
        obtain ⟨j, h1, h2, h3, h4⟩ := qv_moved h
        exact ⟨j, h1, by rw [quI_ix l m (by omega)]; exact h2, h3, h4⟩ : ∃ j, k = j + 1 ∧ ix (quI l m) k = ix (quI l m) j ∧ -m ≤ ix l k - ix (quI l m) k ∧ ix l k - ix (quI l m) k ≤ m))
      have hx0 : ix (quI l m) 0 = ix l 0 := by rw [quI_ix l m (by have := (vldW_iff.1 hv).1; omega)]; rfl
      have hn1 := (vldW_iff.1 hv).1
      have HSM := Lib.hid (vldW_iff.1 hv).2.2
      have HSQ : Hid (∀ k, k < l.length → 0 ≤ ix (quI l m) k ∧ ix (quI l m) k ≤ 1023) := Lib.hid (fun k hk => (vldW_iff.1 hqv).2.2 k (by omega))
      have HR := Lib.hid hr
      unfold LisE at HQ HQ2 HQ3
      clear hr hqL hqv hE hE2 hq2L hE3 hq3L hv hM
      generalize quI l m = q at *
      rw [hqn] at HQ HQ2 HS1
      generalize hn : l.length = n at *
      have HN := Lib.hid (And.intro hn hqn)
      clear hn hqn
      have HX0 := Lib.hid hx0
      have HN1 := Lib.hid hn1
      clear hx0 hn1
      go_enter Try.func3, Try.ntmps3
      go_wp2_with (first
        | (go_at_call 6; refine (HMa.out _).mono ?_; rintro e w1 ⟨rfl, rfl⟩)
        | (go_at_call 8; first
            | (refine (HQ3.out _ (h2.trs h3)).mono ?_; rintro e w4 ⟨h4, A4, c4, rfl, hr4⟩; replace hr4 := Lib.hid hr4)
            | (refine (HQ2.out _ _ _ hr2.out).mono ?_; rintro e w3 ⟨h3, A3, c3, rfl, hr3⟩; replace hr3 := Lib.hid hr3)
            | (refine HQ.out.mono ?_; rintro e w2 ⟨h2, A2, c2, rfl, hr2⟩; replace hr2 := Lib.hid hr2)))
      obtain ⟨b, o, rfl, hb, d1⟩ := HR.out.at_ (k := 0) (by rw [HN.out.1]; exact HN1.out)
      obtain ⟨b2, o2, rfl, hb2, d2⟩ := hr2.out.at_ (k := 0) (by rw [HN.out.2]; exact HN1.out)
      have hb24 := h3.trs h4
      have hb4 := h2.trs hb24
      have e1 := (hb4.cell (p := ⟨b, o, none⟩) hb).trans d1
      have e2 := (hb24.cell (p := ⟨b2, o2, none⟩) hb2).trans d2
      rw [HX0.out] at e2
      have hn1 := HN1.out
      have hn0 : ((n : Int) == 0) = false := by rw [beq_eq_false_iff_ne]; omega
      have hn0b : ¬ (n : Int) = 0 := by omega
      have hn0I : (0 : Int) < (n : Int) := by omega
      have hn0N : 0 < n := by omega
      have hn0D : decide ((0 : Int) < (n : Int)) = true := by simp; omega
      have HSa := Lib.hid (fun W (hW : Below w4.heap.size w4 W) => HS1.out _ c3 _ c2 W ((hr3.out.on h4).on hW) ((hr2.out.on hb24).on hW))
      have HSb := Lib.hid (fun W (hW : Below w4.heap.size w4 W) => HS2.out _ c4 W (hb4.trs hW) (hr4.out.on hW))
      have hlb2 : b2 < w4.heap.size := Nat.lt_of_lt_of_le hb2 hb24.size
      have HKE := Lib.hid (fun W' (hW : Below w4.heap.size w4 W') => (⟨hW, (hW.cell (p := ⟨b, o, none⟩) (Nat.lt_of_lt_of_le hb hb4.size)).trans e1, (hW.cell (p := ⟨b2, o2, none⟩) hlb2).trans e2⟩ : Below w4.heap.size w4 W' ∧ W'.cell? ⟨b, o, none⟩ = some (.int .i64 (ix l 0)) ∧ W'.cell? ⟨b2, o2, none⟩ = some (.int .i64 (ix l 0))))
      have hb24' := hb24
      clear d1 d2 hb24
      go_region_held3 (fun w' => Below w4.heap.size w4 w' ∧ w'.cell? ⟨b, o, none⟩ = some (.int .i64 (ix l 0)) ∧ w'.cell? ⟨b2, o2, none⟩ = some (.int .i64 (ix l 0)))
        (first | exact HKE.out _ h6 | exact HKE.out _ h5 | exact HKE.out _ ((Below.refl _ _).drewsN 1))
        (first
          | (go_at_call 10; refine (HSb.out _ h5).mono ?_; rintro e w6 ⟨rfl, h6⟩; replace h6 := h5.trs h6)
          | (go_at_call 10; refine (HSa.out _ ((Below.refl _ _).drewsN 1)).mono ?_; rintro e w5 ⟨rfl, h5⟩; replace h5 := ((Below.refl _ _).drewsN 1).trs h5))
      all_goals
        have H6 := Lib.hid (And.intro h6 (And.intro hb4 (hr2.out.on hb24')))
        have hr26 := hr2.out.on hb24'
        clear h6 h5
        go_wp2
        go_loopg [91] n (fun gk t wr => ∃ i : Nat, t = .int .i64 i ∧ i ≤ n ∧ n - i ≤ gk ∧ Below w6.heap.size w6 wr)
        case atStart => exact ⟨0, rfl, by omega, by omega, Below.refl _ _⟩
        case round =>
          obtain ⟨i, rfl, hi, hgk, hB⟩ := hrel
          by_cases hlt : i < n
          · obtain ⟨b', o', he, hb1, d1⟩ := HR.out.at_ (k := i) (by rw [HN.out.1]; exact hlt)
            cases he
            obtain ⟨b', o', he, hb2', d2⟩ := hr26.at_ (k := i) (by rw [HN.out.2]; exact hlt)
            cases he
            have hin : (i : Int) < (n : Int) := by omega
            have hi0 : (0 : Int) ≤ (i : Int) := by omega
            have hbz : b < w6.heap.size := Nat.lt_of_lt_of_le hb1 (Nat.le_trans hb4.size H6.out.1.size)
            have hb2z : b2 < w6.heap.size := Nat.lt_of_lt_of_le hb2' H6.out.1.size
            have c2 := (hB.cell (p := ⟨b2, o2 + i, none⟩) hb2z).trans ((H6.out.1.cell (p := ⟨b2, o2 + i, none⟩) hb2').trans d2)
            have c1 := (hB.cell (p := ⟨b, o + i, none⟩) hbz).trans ((H6.out.1.cell (p := ⟨b, o + i, none⟩) (Nat.lt_of_lt_of_le hb1 hb4.size)).trans ((hb4.cell (p := ⟨b, o + i, none⟩) hb1).trans d1))
            have hx := HSM.out i hlt
            have hy := HSQ.out i hlt
            have HBr := Lib.hid hB
            by_cases hxy : ix q i = ix l i
            · rw [hxy] at c2
              clear d1 d2 hb1 hb2' hB hy hxy
              generalize ix l i = x at *
              go_wp2
              go_quiet (fail)
              go_wp2
              go_roundg (n - (i + 1))
              case measure => omega
              case rel => exact ⟨i + 1, by go_num, by omega, by omega, HBr.out.drewsN _⟩
            · obtain ⟨j, hij, hqj, h1, h2⟩ := HMV.out i hlt hxy
              obtain ⟨b', o', he, hb3', d3⟩ := hr2.out.at_ (k := j) (by rw [HN.out.2]; omega)
              cases he
              have hb3 := Nat.lt_of_lt_of_le hb3' hb24'.size
              have c3 := (hB.cell (p := ⟨b2, o2 + j, none⟩) hb2z).trans ((H6.out.1.cell (p := ⟨b2, o2 + j, none⟩) hb3).trans ((hb24'.cell (p := ⟨b2, o2 + j, none⟩) hb3').trans d3))
              rw [← hqj] at c3
              have hne : (ix q i == ix l i) = false := beq_eq_false_iff_ne.2 hxy
              clear d1 d2 d3 hb1 hb2' hb3' hb3 hB hqj
              generalize ix l i = x at *
              generalize ix q i = y at *
              have e1 : IntKind.i64.wrap ((i : Int) - 1) = (j : Int) := by rw [IntWalk.i64_in _ (by omega)]; omega
              have e2 : wrap64 ((i : Int) - 1) = (j : Int) := by rw [IntWalk.wrap64_in _ (by omega)]; omega
              have hj0 : (0 : Int) ≤ (j : Int) := by omega
              have hjn : (j : Int) < (n : Int) := by omega
              have hi00 : ((i : Int) == 0) = false := by rw [beq_eq_false_iff_ne]; omega
              have hi01 : ¬ (i : Int) = 0 := by omega
              have e3 : IntKind.i64.wrap (y - x) = y - x := IntWalk.i64_in _ (by omega)
              have e4 : wrap64 (y - x) = y - x := IntWalk.wrap64_in _ (by omega)
              have e5 : IntKind.i64.wrap (x - y) = x - y := IntWalk.i64_in _ (by omega)
              have e6 : wrap64 (x - y) = x - y := IntWalk.wrap64_in _ (by omega)
              have hmx : ¬ m < max (y - x) (x - y) := by omega
              have HIJ := Lib.hid (And.intro hij (And.intro hx (And.intro hy (And.intro h1 h2))))
              clear hij hx hy h1 h2
              go_wp2
              go_quiet (fail)
              go_wp2
              go_roundg (n - (i + 1))
              case measure => omega
              case rel => exact ⟨i + 1, by go_num, by omega, by omega, HBr.out.drewsN _⟩
          · obtain rfl : i = n := by omega
            have HBr := Lib.hid hB
            clear hB
            go_wp2_with (go_at_call 7; refine (HAw.out _).mono ?_; rintro e w7 ⟨rfl, h7⟩)
            go_ret
            exact ⟨rfl, (((hb4.trs H6.out.1).trs HBr.out)).trs h7⟩
    · have hq : quL l m = [] := by unfold quL; rw [if_neg hE]
      rw [hq] at HQ
      rcases QuE_bad hE with h2 | ⟨h30, hv⟩
      · rw [h2] at HQ
        unfold LisE at HQ
        clear hr hM h2 hE hq
        go_enter Try.func3, Try.ntmps3
        go_wp2_with (first
          | (go_at_call 6; refine (HMa.out _).mono ?_; rintro e w1 ⟨rfl, rfl⟩)
          | (go_at_call 8; refine HQ.out.mono ?_; rintro e w2 ⟨h2, A2, c2, rfl, hr2⟩)
          | (go_at_call 7; refine (HAw.out _).mono ?_; rintro e w3 ⟨rfl, h3⟩))
        go_ret
        exact ⟨by simp, h2.trs h3⟩
      · rw [h30] at HQ
        unfold LisE at HQ
        have HV := Lib.hid (fun W (hW : Below w.heap.size w W) => refValid_any A c l W (hr.on hW) (by omega))
        rw [hv] at HV
        clear hr hM h30 hE hq
        go_enter Try.func3, Try.ntmps3
        go_wp2_with (first
          | (go_at_call 6; refine (HMa.out _).mono ?_; rintro e w1 ⟨rfl, rfl⟩)
          | (go_at_call 8; refine HQ.out.mono ?_; rintro e w2 ⟨h2, A2, c2, rfl, hr2⟩)
          | (go_at_call 9; refine (HV.out _ h2).mono ?_; rintro e w4 ⟨rfl, h4⟩)
          | (go_at_call 7; refine (HAw.out _).mono ?_; rintro e w3 ⟨rfl, h3⟩))
        go_ret
        exact ⟨by simp, (h2.trs h4).trs h3⟩
end Go.Proofs.Yteodljaphkpimaa
