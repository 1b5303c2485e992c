/- Walk over ice's reference: the losses over estimates. -/
import Derived.Test.YtnodeooammplfaaIceEs
import Derived.Deep.RegionHeld3
import Derived.Deep.Cut
namespace Go.Proofs.Ytnodeooammplfaa
open Go.RowKit
set_option linter.unusedSimpArgs false
set_option linter.unusedVariables false

theorem infoLay : (Try.prog.info? 55).map (fun i => (i.zero, i.size, i.bytes)) = some (some (.agg #[.int .i64 0, .int .i64 0]), 2, 16) := by kernel_rfl

set_option maxRecDepth 100000 in
set_option maxHeartbeats 4000000 in
/-- one estimate: the layers with its numbers -/
theorem reflosses_any (A A2 : Option Addr) (c c2 : Nat) (L : List (Int × Int)) (Es : List (List Int)) (x y : Int) (w : World) (hr : RdP w w.heap.size A L) (hl : L.length ≤ 1000000) (hr2 : RdL w w.heap.size A2 Es) (hl2 : Es.length ≤ 1000000) (hls : ∀ k, k < Es.length → (lx Es k).length ≤ 1000000) :
    Calls Try.prog 90 #[.slice A L.length c, .slice A2 Es.length c2, .int .i64 x, .int .i64 y] w (LosQ (LosE L Es x y) (LosL L Es x y) w) := by
  have HV := Lib.hid (refValid_any A c L w hr (by omega))
  have HNO : Hid (∀ e W, LosE L Es x y = e → e ≠ 0 → Below w.heap.size w W → LosQ (LosE L Es x y) (LosL L Es x y) w (.returned (.tuple #[.slice none 0 0, .int .i64 e])) W) := Lib.hid (fun e W h h0 hW => ⟨hW, none, 0, by rw [LosL_len.2.2 (by rw [h]; exact h0), h]; rfl, by rw [LosL_len.2.2 (by rw [h]; exact h0)]; exact .inl rfl⟩)
  have HYE : Hid (∀ W v, LosE L Es x y = 0 → Below w.heap.size w W → OwnI W w.heap.size 3 v (losV L Es x y Es.length) → LosQ (LosE L Es x y) (LosL L Es x y) w (.returned (.tuple #[v, .int .i64 0])) W) := Lib.hid (fun W v h hW ho => by
    obtain ⟨A', c', rfl, h'⟩ := ho.rd
    refine ⟨hW, A', c', ?_, ?_⟩
    · unfold LosL; rw [if_pos h, h]
    · unfold LosL; rw [if_pos h]; exact h')
  have HE : Hid (LosE L Es x y = gate (vld L) (estB ((mets L).length + 1) L.length x y Es)) := Lib.hid (by unfold LosE; rw [cum_length])
  have HR := Lib.hid hr
  have HR2 := Lib.hid hr2
  clear hr hr2
  generalize LosQ (LosE L Es x y) (LosL L Es x y) w = Q at *
  generalize LosE L Es x y = E at *
  cases hv : vld L
  · rw [hv] at HV HE
    have hE : E = 40 := HE.out
    have H0 := Lib.hid (HNO.out 40 w hE (by decide) (Below.refl _ _))
    clear HE hE hv
    generalize L.length = n at *
    go_enter Try.func90, Try.ntmps90
    go_wp2_with (go_at_call 21; refine HV.out.mono ?_; rintro e w' ⟨rfl, rfl⟩)
    exact H0.out
  · have hok := okL_of_vld hv
    have HM := Lib.hid (Metres_any A c L w HR.out hok)
    have hml := mets_len600 hok
    have HOK := Lib.hid hok
    rw [hv] at HV HE
    have HVV := Lib.hid hv
    clear hv hok
    cases hb1 : btw 1 Es.length 10
    · have hE : E = 2 := by rw [HE.out]; exact gate_arg rfl (by unfold estB; rw [hb1]; simp)
      have H0 := Lib.hid (fun W hW => HNO.out 2 W hE (by decide) hW)
      have HB1 := Lib.hid hb1
      clear hE hb1 HE HNO HYE
      generalize (mets L).length = u at *
      go_enter Try.func90, Try.ntmps90
      go_wp2_with (first
        | (go_at_call 21; refine HV.out.mono ?_; rintro e w' ⟨rfl, rfl⟩)
        | (go_at_call 28; refine HM.out.mono ?_; rintro e w1 ⟨h1, A1, c1, rfl, hr1⟩)
        | (go_at_call 64; refine (within_any _ _ _ _).mono ?_; rintro e w' ⟨rfl, rfl⟩; rw [HB1.out]))
      exact H0.out _ h1
    · cases hb2 : btw 0 x (mets L).length
      · have hE : E = 2 := by rw [HE.out]; exact gate_arg rfl (by unfold estB; rw [isB_two_eq, hb2]; simp)
        have H0 := Lib.hid (fun W hW => HNO.out 2 W hE (by decide) hW)
        have HB1 := Lib.hid hb1
        have HB2 := Lib.hid hb2
        clear hE hb1 hb2 HE HNO HYE
        generalize (mets L).length = u at *
        go_enter Try.func90, Try.ntmps90
        go_wp2_with (first
        | (go_at_call 21; refine HV.out.mono ?_; rintro e w' ⟨rfl, rfl⟩)
        | (go_at_call 28; refine HM.out.mono ?_; rintro e w1 ⟨h1, A1, c1, rfl, hr1⟩)
        | (go_at_call 64; refine (within_any _ _ _ _).mono ?_; rintro e w' ⟨rfl, rfl⟩; first | rw [HB1.out] | rw [HB2.out]))
        exact H0.out _ h1
      · cases hb3 : btw 0 y (mets L).length
        · have hE : E = 2 := by rw [HE.out]; exact gate_arg rfl (by unfold estB; rw [isB_two_eq, hb3]; simp)
          have H0 := Lib.hid (fun W hW => HNO.out 2 W hE (by decide) hW)
          have HB1 := Lib.hid hb1
          have HB2 := Lib.hid hb2
          have HB3 := Lib.hid hb3
          clear hE hb1 hb2 hb3 HE HNO HYE
          generalize (mets L).length = u at *
          go_enter Try.func90, Try.ntmps90
          go_wp2_with (first
        | (go_at_call 21; refine HV.out.mono ?_; rintro e w' ⟨rfl, rfl⟩)
        | (go_at_call 28; refine HM.out.mono ?_; rintro e w1 ⟨h1, A1, c1, rfl, hr1⟩)
          | (go_at_call 64; refine (within_any _ _ _ _).mono ?_; rintro e w' ⟨rfl, rfl⟩; first | rw [HB1.out] | rw [HB2.out] | rw [HB3.out]))
          exact H0.out _ h1
        · have HBAD : Hid (∀ j, j < Es.length → wrongB L.length (lx Es j) = true → E = 2) := Lib.hid (fun j hj hw => by
            rw [HE.out]; refine gate_arg rfl ?_
            rw [Bool.eq_false_iff]
            intro h
            rw [(estB_iff.1 h).2.2 j hj] at hw; cases hw)
          have HALL : Hid ((∀ j, j < Es.length → wrongB L.length (lx Es j) = false) → E = 0) := Lib.hid (fun h => by
            rw [HE.out]; exact gate_ok rfl (estB_iff.2 ⟨⟨btw_iff.1 hb2, btw_iff.1 hb3⟩, by have := btw_iff.1 hb1; omega, h⟩))
          have HXY := Lib.hid (And.intro (btw_iff.1 hb2) (btw_iff.1 hb3))
          have hes := btw_iff.1 hb1
          have HB1 := Lib.hid hb1
          have HB2 := Lib.hid hb2
          have HB3 := Lib.hid hb3
          have HML := Lib.hid (fun l => mets_thk_len L l)
          have hn20 := HOK.out.1
          clear hb1 hb2 hb3 HE
          generalize hu : (mets L).length = u at *
          clear hu
          go_enter Try.func90, Try.ntmps90
          go_wp2_with (first
        | (go_at_call 21; refine HV.out.mono ?_; rintro e w' ⟨rfl, rfl⟩)
        | (go_at_call 28; refine HM.out.mono ?_; rintro e w1 ⟨h1, A1, c1, rfl, hr1⟩)
          | (go_at_call 64; refine (within_any _ _ _ _).mono ?_; rintro e w' ⟨rfl, rfl⟩; first | rw [HB1.out] | rw [HB2.out] | rw [HB3.out]))
          have HW1 := Lib.hid h1
          clear h1 hr1
          go_loopg [11, 12, 13, 14] Es.length (fun k x11 x12 x13 x14 wr => ∃ j : Nat, x12 = .int .i64 j ∧ j ≤ Es.length ∧ Es.length - j ≤ k ∧ Below w.heap.size w wr ∧ OwnI wr w.heap.size 3 x11 (losV L Es x y j) ∧ Aside (∀ t, t < j → wrongB L.length (lx Es t) = false))
          case atStart => exact ⟨0, rfl, by omega, by omega, HW1.out, OwnI.nil _ _ _, (fun t ht => absurd ht (Nat.not_lt_zero t) : ∀ t, t < 0 → wrongB L.length (lx Es t) = false)⟩
          case round =>
            obtain ⟨j, rfl, hj, hkj, hB, hO, HA⟩ := hrel
            by_cases hlt : j < Es.length
            · obtain ⟨b2, o2, A3, c3, rfl, hb2, ce, hr3⟩ := (HR2.out.on hB).at_ (k := j) hlt
              have hltI : (j : Int) < (Es.length : Int) := by omega
              have HJ := Lib.hid (And.intro hlt hkj)
              have HBO := Lib.hid (And.intro hB hO)
              by_cases hlen : (lx Es j).length = L.length
              · have hle : (((lx Es j).length : Int) != (L.length : Int)) = false := by rw [hlen]; simp
                have HR3 := Lib.hid hr3
                have HLEN := Lib.hid hlen
                clear hB hO hr3 hkj
                go_wp2
                obtain ⟨w9, rfl⟩ : ∃ w9, w9 = wr := ⟨_, rfl⟩
                go_loopg [13, 14] L.length (fun k x13 x14 wi => ∃ i : Nat, x14 = .int .i64 i ∧ i ≤ L.length ∧ L.length - i ≤ k ∧ Below w9.heap.size w9 wi ∧ OwnP wi w9.heap.size 55 x13 (thkT L (lx Es j) i))
                case atStart => exact ⟨0, rfl, by omega, by omega, Below.refl _ _, OwnP.nil _ _ _⟩
                case round =>
                  obtain ⟨i, rfl, hi, hki, hBi, hOi⟩ := hrel
                  by_cases hli : i < L.length
                  · obtain ⟨b4, o4, rfl, hb4, d1, d2⟩ := (HR.out.on HBO.out.1).at_ (k := i) hli
                    obtain ⟨b5, o5, rfl, hb5, d3⟩ := HR3.out.at_ (k := i) (by rw [HLEN.out]; exact hli)
                    have hb2' := World.block_lt_of_cell? _ _ ce
                    have HCE := Lib.hid (fun W (hW : Below w9.heap.size w9 W) => And.intro hW (And.intro ((hW.cell (p := ⟨b4, o4 + i * 2, none⟩) hb4).trans d1) (And.intro ((hW.cell (p := ⟨b2, o2 + j, none⟩) hb2').trans ce) ((hW.cell (p := ⟨b5, o5 + i, none⟩) hb5).trans d3))))
                    have hliI : (i : Int) < (L.length : Int) := by omega
                    have hli5 : (i : Int) < ((lx Es j).length : Int) := by rw [hlen]; omega
                    have hli6 : i < (lx Es j).length := by rw [hlen]; omega
                    have HBI := Lib.hid hBi
                    have HOI := Lib.hid hOi
                    have HLI := Lib.hid (And.intro hli hki)
                    have HTS := Lib.hid (thkT_succ L (lx Es j) i)
                    have HTL := Lib.hid (thkT_len L (lx Es j) i)
                    obtain ⟨k1, k2, k3, k4⟩ := HCE.out wr hBi
                    have hsz := hBi.size
                    clear hBi hOi hki hlen d1 d2 d3 ce
                    generalize pa L i = pz at *
                    generalize ix (lx Es j) i = dz at *
                    go_wp2
                    go_region_held3 (fun w' => Below w9.heap.size w9 w' ∧ w'.cell? ⟨b4, o4 + i * 2, none⟩ = some (.int .i64 pz) ∧ w'.cell? ⟨b2, o2 + j, none⟩ = some (.slice (some ⟨b5, o5, none⟩) (lx Es j).length c3) ∧ w'.cell? ⟨b5, o5 + i, none⟩ = some (.int .i64 dz))
                      (first | exact HCE.out _ hBF | exact HCE.out _ (HBI.out.drewsN 1) | exact HCE.out _ ((‹Below w9.heap.size w9 _ ∧ _›).1.trs (below_alloc _ _)) | go_keep)
                      (first
                        | (refine step_app_pair 22 55 rfl (.tmp 57) (.tmp 71) rfl Try.underlying22 infoLay _ w9.heap.size _ _ (thkT L (lx Es j) i) pz dz rfl rfl ((HOI.out.kept ((Below.refl _ _).drewsN 1)).kept (below_alloc _ _)) (Box.new _ _ _) (by rw [HTL.out]; omega) (by simp; omega) ?_; intro v3 w3 hO3 hB3 _; have hBF := ((HBI.out.drewsN 1).trs (below_alloc _ _)).trans hB3)
                        | (refine step_app_pair 22 55 rfl (.tmp 57) (.tmp 71) rfl Try.underlying22 infoLay _ w9.heap.size _ _ (thkT L (lx Es j) i) pz dz rfl rfl (HOI.out.kept (below_alloc _ _).drew) (Box.new wr _ _) (by rw [HTL.out]; omega) (by simp; omega) ?_; intro v3 w3 hO3 hB3 _; have hBF := (HBI.out.trs (below_alloc _ _).drew).trans hB3))
                    all_goals
                      go_wp2
                      go_roundg (L.length - (i + 1))
                      case measure => have := HLI.out; omega
                      case rel => exact ⟨i + 1, by go_num, by have := HLI.out; omega, by have := HLI.out; omega, hBF, by rw [HTS.out]; exact hO3⟩
                  · obtain rfl : i = L.length := by omega
                    have hliI : ¬ (L.length : Int) < (L.length : Int) := by omega
                    obtain ⟨A5, c5, rfl, hr5⟩ := hOi.rd
                    have HV5 := Lib.hid (refValid_any A5 c5 (thk L (lx Es j)) wr hr5 (by rw [thkT_len]; omega))
                    have HR5 := Lib.hid hr5
                    have HBI := Lib.hid hBi
                    clear hr5 hOi
                    cases hw : wrongB L.length (lx Es j)
                    · have hvt : vld (thk L (lx Es j)) = true := by rw [vld_thk HVV.out HLEN.out, hw]; rfl
                      have hokt := okL_thk HVV.out hw
                      have HM5 := Lib.hid (Metres_any A5 c5 (thk L (lx Es j)) wr HR5.out hokt)
                      have hm5 : (mets (thk L (lx Es j))).length = u := HML.out _
                      have HLS := Lib.hid (fun A c W (h : RdI W W.heap.size A (mets (thk L (lx Es j)))) => refloss_any A c (mets (thk L (lx Es j))) x y W h (mets_len600 hokt) (mets_mem hokt) HXY.out.1.1 (by rw [hm5]; exact HXY.out.1.2) HXY.out.2.1 (by rw [hm5]; exact HXY.out.2.2))
                      rw [hvt] at HV5
                      have HLV := Lib.hid (losV_succ L Es x y j)
                      have HLL := Lib.hid (losV_len L Es x y j)
                      have HAS : Hid (∀ t, t < j + 1 → wrongB L.length (lx Es t) = false) := Lib.hid (fun t ht => by
                        rcases Nat.lt_succ_iff_lt_or_eq.1 ht with h | rfl
                        · exact HA.out t h
                        · exact hw)
                      have hsz := (HBO.out.1.trs hBi).size
                      clear hvt hokt hm5 hw hBi
                      generalize lossI (cum (mets (thk L (lx Es j)))) x.toNat y.toNat = dl at *
                      generalize mets (thk L (lx Es j)) = ml at *
                      go_wp2_with (first
                        | (go_at_call 21; refine HV5.out.mono ?_; rintro e w' ⟨rfl, rfl⟩)
                        | (go_at_call 28; refine HM5.out.mono ?_; rintro e w5 ⟨h5, A6, c6, rfl, hr6⟩; have HO6 := Lib.hid (HBO.out.2.kept (HBI.out.trs h5)); have hsz5 := h5.size)
                        | (go_at_call 70; refine (HLS.out _ _ _ hr6).mono ?_; rintro e w' ⟨rfl, rfl⟩)
                        | (at_builtin; refine wp_app_int 37 rfl (.tmp 76) (.tmp 82) rfl Try.underlying37 infoInt _ w.heap.size _ (losV L Es x y j) dl rfl rfl HO6.out (by rw [HLL.out]; omega) (by omega) ?_; intro v6 w6 hO6 hB6 _))
                      go_roundg (Es.length - (j + 1))
                      case measure => have := HJ.out; omega
                      case rel => exact ⟨j + 1, by go_num, by have := HJ.out; omega, by have := HJ.out; omega, ((HBO.out.1.trs HBI.out).trs h5).trans hB6, by rw [HLV.out]; exact hO6, (HAS.out : ∀ t, t < j + 1 → wrongB L.length (lx Es t) = false)⟩
                    · have hvt : vld (thk L (lx Es j)) = false := by rw [vld_thk HVV.out HLEN.out, hw]; rfl
                      rw [hvt] at HV5
                      have H0 := Lib.hid (HNO.out 2 wr (HBAD.out j HJ.out.1 hw) (by decide) (HBO.out.1.trs HBI.out))
                      clear hvt hw hBi
                      go_wp2_with (go_at_call 21; refine HV5.out.mono ?_; rintro e w' ⟨rfl, rfl⟩)
                      exact H0.out
              · have hle : (((lx Es j).length : Int) != (L.length : Int)) = true := by rw [bne_iff_ne]; omega
                have hw : wrongB L.length (lx Es j) = true := by
                  cases h : wrongB L.length (lx Es j)
                  · exact absurd (wrongB_no.1 h).1 hlen
                  · rfl
                have H0 := Lib.hid (HNO.out 2 wr (HBAD.out j hlt hw) (by decide) hB)
                clear hB hO hw hr3
                go_wp2
                exact H0.out
            · obtain rfl : j = Es.length := by omega
              have hltI : ¬ (Es.length : Int) < (Es.length : Int) := by omega
              have H0 := Lib.hid (HYE.out wr _ (HALL.out HA.out) hB hO)
              clear hB hO
              go_wp2
              exact H0.out
end Go.Proofs.Ytnodeooammplfaa
