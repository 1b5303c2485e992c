/- The walk of the law TopAlert. -/
import Derived.Test.YtannnbjadbmmcaaAlertKeptW
import Derived.Test.YtannnbjadbmmcaaAlertWorksW
import Derived.Test.YtannnbjadbmmcaaAlIso
import Derived.Test.YtannnbjadbmmcaaAlTopLaw
namespace Go.Proofs.Ytannnbjadbmmcaa
open Go.RowKit
set_option linter.unusedSimpArgs false
set_option linter.unusedVariables false

set_option maxRecDepth 100000 in
set_option maxHeartbeats 16000000 in
theorem TopAlert_walk (w : World) (A : Option Addr) (c : Nat) (L : List (Int × Int × Int)) (hr : RdT w w.heap.size A L) (_hm : L.length ≤ maxLen) (A2 : Option Addr) (c2 : Nat) (p : List Int) (hr2 : RdI w w.heap.size A2 p ∧ ∀ x ∈ p, (Lit.int .i64 x).wf = true) (_hm2 : p.length ≤ maxLen) (a b : Int) (_hs : (Lit.int .i64 a).wf = true ∧ (Lit.int .i64 b).wf = true) :
    Calls Try.prog 3 #[.slice A L.length c, .slice A2 p.length c2, .agg #[.int .i64 a, .int .i64 b]] w fun e w' => e = .returned (.bool true) ∧ Below w.heap.size w w' := by
  have hB0 := below_alloc w (.cells #[.int .i64 a, .int .i64 b] 24)
  have hbx := Box.new w 24 #[.int .i64 a, .int .i64 b]
  have HR := Lib.hid (hr.on hB0)
  have HR2 := Lib.hid (hr2.1.on hB0)
  clear hr hr2 _hs
  have HB0 := Lib.hid hB0
  have HBX := Lib.hid hbx
  clear hB0 hbx
  by_cases hl : L.length ≤ 40
  · have hd : decide ((40 : Int) < L.length) = false := by simp; omega
    have hl2 : L.length ≤ 1125899906842624 := by omega
    have HV := Lib.hid (refValid_any A c L _ HR.out hl2)
    cases hv : vldT L <;> rw [hv] at HV
    · generalize L.length = n at *
      go_enter Try.func3, Try.ntmps3
      go_wp2_with (first
        | (go_at_call 4; refine (Long_any _ _ _ _).mono ?_; rintro e w' ⟨rfl, rfl⟩)
        | (go_at_call 5; refine HV.out.mono ?_; rintro e w1 ⟨rfl, h1⟩)
        | (go_at_call 6; refine (Sane_any _).mono ?_; rintro e w10 ⟨rfl, h10⟩))
      go_ret
      exact ⟨rfl, (HB0.out.trs h1).trs h10⟩
    · by_cases hp : p.length ≤ 300
      · have hd2 : decide ((300 : Int) < p.length) = false := by simp; omega
        have hok := okT_of hv
        have hn1 := hok.1.1
        have hn12 := hok.1.2
        generalize hW0 : w.alloc (.cells #[.int .i64 a, .int .i64 b] 24) = W0 at *
        have H2 := Lib.hid (fun W (hW : Below W0.heap.size W0 W) => Urg_valid A c L W (HR.out.on hW) hl2 hv)
        have H3 := Lib.hid (fun W A3 c3 (hW : Below W0.heap.size W0 W) (h : RdI W W.heap.size A3 (urg L)) => DoesAll_any A c L A3 c3 (urg L) W (HR.out.on hW) (by omega) h (by rw [urg_len]; omega))
        have H4 := Lib.hid (fun W A3 c3 (hW : Below W0.heap.size W0 W) (h : RdI W W.heap.size A3 (urg L)) => Free_any A c L A3 c3 (urg L) W (HR.out.on hW) (by omega) h (by rw [urg_len]; omega))
        rw [urg_len] at H3 H4
        have H5 := Lib.hid (fun W (hW : Below W0.heap.size W0 W) => Overfull_any A c L W (HR.out.on hW) hl2)
        have H7 := Lib.hid (fun W x y (hW : Below W0.heap.size W0 W) => refIsOverfull_any A c L x y 1 W (HR.out.on hW) hl2)
        have H8 := Lib.hid (fun W (hW : Below W0.heap.size W0 W) => DoesAll_any A c L A2 c2 p W (HR.out.on hW) (by omega) (HR2.out.on hW) (by omega))
        have H8r := Lib.hid (fun W (hW : Below W0.heap.size W0 W) => Right_any A c L A2 c2 p W (HR.out.on hW) (by omega) (HR2.out.on hW) (by omega))
        have H9f := Lib.hid (fun W (hW : Below W0.heap.size W0 W) => Free_any A c L A2 c2 p W (HR.out.on hW) (by omega) (HR2.out.on hW) (by omega))
        have H9 := Lib.hid (fun W (hW : Below W0.heap.size W0 W) => IsOverfull_any A c L a b 1 W (HR.out.on hW) hl2)
        have HKp := Lib.hid (fun W (hW : Below W0.heap.size W0 W) => Kept_any A c L W (HR.out.on hW) hl2)
        rw [hv, if_pos rfl, SlackE_yes hv] at HKp
        unfold OutI at HKp
        have HCE : Hid (∀ W, Below W0.heap.size W0 W → W.cell? ⟨w.heap.size, 0, none⟩ = some (.int .i64 a) ∧ W.cell? ⟨w.heap.size, 1, none⟩ = some (.int .i64 b)) := Lib.hid (fun W hW => by
          have hb := HBX.out.on hW
          exact ⟨hb.cell 0, hb.cell 1⟩)
        rw [DoesV_urg hok] at H3
        rw [FreeV_urg hok] at H4
        have HDV := Lib.hid (DoesV_valid p hv)
        have HOV := Lib.hid (OverV_valid hv)
        have HIF := Lib.hid (fun x y h1 h2 h3 h4 => IsoV_full (L := L) (x := x) (y := y) hv h1 h2 h3 h4)
        have HSV := Lib.hid (Stretch_valid a b hv)
        have HPV := Lib.hid (Plan_valid p hok)
        have hfb := freeT_bd (urg L) 100
        have hkl := kepI_len L L.length
        have HKI := Lib.hid (kepI_ix L L.length)
        have HKS := Lib.hid (fun j (hj : j < (kepI L L.length).length) => gK_succ (L := L) hj)
        have HKN := Lib.hid (gK_len L (kepI L L.length))
        have HTX : Hid (∀ k, tx L k = (ta L k, tb L k, tc L k)) := Lib.hid (fun _ => rfl)
        have HKL0 : Hid (gK L (kepI L L.length) 0 = []) := Lib.hid rfl
        have HKE : Hid (∀ j, j ≤ (kepI L L.length).length → (gK L (kepI L L.length) j).length = j) := Lib.hid (fun j hj => by unfold gK; rw [List.length_map, List.length_take]; omega)
        have HKA := Lib.hid (kep_all hok).symm
        have HUL : Hid (∀ A8 c8 W, RdT W W.heap.size A8 (gK L (kepI L L.length) (kepI L L.length).length) → 0 < (kepI L L.length).length →
            Calls Try.prog 7 #[.slice A8 (kepI L L.length).length c8] W (fun e w' => ∃ A2 c2, e = .returned (.tuple #[.slice A2 100 c2, .int .i64 0]) ∧ Below W.heap.size W w' ∧ RdI w' w'.heap.size A2 (urg (kepT L L.length))) ∧
            ∀ W1 A9 c9, Below W.heap.size W W1 → RdI W1 W1.heap.size A9 (urg (kepT L L.length)) → Calls Try.prog 9 #[.slice A8 (kepI L L.length).length c8, .slice A9 100 c9] W1 (fun e w' => e = .returned (.tuple #[.bool true, .int .i64 0]) ∧ Below W1.heap.size W1 w')) := Lib.hid (fun A8 c8 W h8 hpos => by
          have e : gK L (kepI L L.length) (kepI L L.length).length = kepT L L.length := by unfold gK kepT; rw [List.take_length]
          have el := kepT_len L L.length
          rw [e] at h8
          have hs := kepT_sub L L.length (Nat.le_refl _)
          rw [List.take_length] at hs
          have hok2 := okT_sub hs hok (by omega)
          have hds := DoesV_urg hok2
          rw [decide_eq_true (kepT_slk L _)] at hds
          constructor
          · have := Urg_valid A8 c8 (kepT L L.length) W h8 (by omega) (vldT_of hok2)
            rwa [el] at this
          · intro W1 A9 c9 hW1 hr9
            have := DoesAll_any A8 c8 (kepT L L.length) A9 c9 (urg (kepT L L.length)) W1 (h8.on hW1) (by omega) hr9 (by rw [urg_len]; omega)
            rwa [el, urg_len, hds] at this)
        clear hok hv HBX
        generalize urg (kepT L L.length) = ku at *
        generalize hfu : freeT (urg L) 100 = fu at *
        generalize urg L = ul at *
        generalize DoesV L p = dv at *
        generalize OverV L = ov at *
        generalize IsoV L a b 1 = iv at *
        generalize RightV L p = rv at *
        generalize FreeV L p = fv at *
        generalize DemandE L a b = de at *
        generalize dem L a b = dm at *
        generalize hKe : kepI L L.length = K at *
        generalize hsl : slk L = sl at *
        generalize p.length = mp at *
        generalize hn : L.length = n at *
        have HN := Lib.hid hn
        have HW0 := Lib.hid hW0
        clear hW0 hn hKe hsl hfu
        rcases HOV.out with ⟨hs0, rfl⟩ | ⟨hs0, x, y, rfl, q1, q2, q3, q4⟩
        · have hdsl : decide (0 ≤ sl) = true := by rw [decide_eq_true_eq]; exact hs0
          rw [hdsl] at H3
          have HS0 := Lib.hid hs0
          have hiv : iv = .tuple #[.bool false, .int .i64 2] ∨ iv = .tuple #[.bool false, .int .i64 0] := by
            rcases HSV.out with ⟨h, _⟩ | ⟨_, _, _, _, _, h | ⟨_, h⟩⟩
            · exact .inl h
            · exact .inr h
            · omega
          have hpv : (rv = .tuple #[.bool false, .int .i64 81] ∧ fv = .tuple #[.int .i64 0, .int .i64 81]) ∨ (∃ f : Int, fv = .tuple #[.int .i64 f, .int .i64 0] ∧ rv = .tuple #[.bool false, .int .i64 0]) ∨ ∃ f : Int, fv = .tuple #[.int .i64 f, .int .i64 0] ∧ rv = .tuple #[.bool true, .int .i64 0] ∧ decide (f < fu) = false := by
            rcases HPV.out with h | ⟨f, h1, h2 | ⟨h2, h3⟩⟩
            · exact .inl h
            · exact .inr (.inl ⟨f, h1, h2⟩)
            · exact .inr (.inr ⟨f, h1, h2, by rw [decide_eq_false_iff_not]; omega⟩)
          clear HDV HSV HOV HIF HPV hs0 hdsl
          rcases hiv with rfl | rfl <;> rcases hpv with ⟨rfl, rfl⟩ | ⟨f, rfl, rfl⟩ | ⟨f, rfl, rfl, hff⟩
          all_goals
            go_enter Try.func3, Try.ntmps3
            go_wp2_with (first
                  | (go_at_call 4; refine (Long_any _ _ _ _).mono ?_; rintro e w' ⟨rfl, rfl⟩; rw [HW0.out])
                  | (go_at_call 5; refine HV.out.mono ?_; rintro e w1 ⟨rfl, h1⟩)
                  | (go_at_call 7; refine (H2.out _ h1).mono ?_; rintro e w3 ⟨A3, c3, rfl, h3, r3⟩; have h3 := h1.trs h3)
                  | (go_at_call 8; refine (H5.out _ h3).mono ?_; rintro e w4 ⟨rfl, h4⟩; have r3 := r3.on h4; have h4 := h3.trs h4)
                  | (go_at_call 9; refine (H3.out _ _ _ h4 r3).mono ?_; rintro e w5 ⟨rfl, h5⟩; have r3 := r3.on h5; have h5 := h4.trs h5; obtain ⟨g0, g1⟩ := HCE.out _ h5)
                  | (go_at_call 11; refine (H9.out _ h5).mono ?_; rintro e w7 ⟨rfl, h7⟩; have r3 := r3.on h7; have h7 := h5.trs h7)
                  | (go_at_call 12; refine (H8r.out _ h7).mono ?_; rintro e w8 ⟨rfl, h8⟩; have r3 := r3.on h8; have h8 := h7.trs h8)
                  | (have := w9; go_at_call 13; refine (H9f.out _ h9).mono ?_; rintro e w10 ⟨rfl, h10⟩; have h10 := h9.trs h10)
                  | (go_at_call 13; refine (H4.out _ _ _ h8 r3).mono ?_; rintro e w9 ⟨rfl, h9⟩; have h9 := h8.trs h9)
                  | (go_at_call 14; refine (HKp.out _ h10).mono ?_; rintro e w11 ⟨h11, AK, cK, rfl, hRK⟩; have HRK := Lib.hid hRK; have HB2 := Lib.hid (h10.trs h11); clear hRK h11))
            generalize hm : K.length = m at *
            have HM := Lib.hid hm; clear hm
            go_loopg [24, 25] m (fun k v t wr => ∃ j : Nat, t = .int .i64 j ∧ j ≤ m ∧ m - j ≤ k ∧ Below w11.heap.size w11 wr ∧ OwnT wr w11.heap.size 38 v (gK L K j))
            case atStart => exact ⟨0, rfl, by omega, by omega, Below.refl _ _, by rw [HKL0.out]; exact OwnT.nil _ _ _⟩
            case round =>
              obtain ⟨j, ht, hj, hk, hB, hO8⟩ := hrel
              obtain ⟨JJ, hJJ⟩ : ∃ JJ : Int, JJ = (j : Int) := ⟨_, rfl⟩
              rw [← hJJ] at ht
              subst ht
              have hJ0 : 0 ≤ JJ := by omega
              have hJn : JJ.toNat = j := by omega
              by_cases hlt : j < m
              · obtain ⟨bk, ok, rfl, hbk, d0⟩ := HRK.out.at_ (k := j) (by rw [HM.out]; exact hlt)
                obtain ⟨q1, q2⟩ := HKI.out j hlt
                obtain ⟨kj, hkj⟩ : ∃ kj : Nat, ix K j = kj := ⟨(ix K j).toNat, by omega⟩
                have hkn : kj < n := by omega
                have HKSj := Lib.hid (HKS.out j hlt)
                rw [hkj] at d0 HKSj
                rw [Int.toNat_natCast, HTX.out] at HKSj
                obtain ⟨bb, o, rfl, hbb, cc1, cc2, cc3⟩ := HR.out.at_ (k := kj) (by rw [HN.out]; exact hkn)
                have hHB := HB2.out.trs hB
                rw [← hB.cell hbk] at d0
                rw [← hHB.cell hbb] at cc1 cc2 cc3
                have hkn8 := HKN.out j
                have HO8 := Lib.hid hO8
                have HBB := Lib.hid hB
                clear hO8 q1 q2 hkj hHB
                generalize ta L kj = X at *
                generalize tb L kj = Y at *
                generalize tc L kj = Z at *
                have hjm : JJ < (m : Int) := by omega
                obtain ⟨KJ, hKJ⟩ : ∃ KJ : Int, KJ = (kj : Int) := ⟨_, rfl⟩
                rw [← hKJ] at d0
                have hk0 : 0 ≤ KJ := by omega
                have hkn2 : KJ < (n : Int) := by omega
                have hKn : KJ.toNat = kj := by omega
                have hng : decide (KJ < 0) = false := by rw [decide_eq_false_iff_not]; omega
                have hng2 : decide ((n : Int) ≤ KJ) = false := by rw [decide_eq_false_iff_not]; omega
                have HJJ := Lib.hid hJJ
                have hz := hB.size
                clear hJJ hKJ hB
                go_wp2_with (refine wp_app_trip 22 38 rfl (.tmp 196) (.tmp 204) rfl Try.underlying22 infoTask _ w11.heap.size _ _ (gK L K j) X Y Z rfl rfl (HO8.out.kept (below_alloc _ _)) (Box.new _ _ _) (by omega) (by simp; omega) ?_; intro v8 w8' hO8 hB8 _ _; have HT8 := Lib.hid ((HBB.out.trs (below_alloc _ _)).trans hB8); have HN8 := Lib.hid hO8; clear hO8 hB8)
                go_roundg (m - (j + 1))
                case measure => omega
                case rel => exact ⟨j + 1, by rw [HJJ.out]; go_num, by omega, by omega, HT8.out, by rw [HKSj.out]; exact HN8.out⟩
              · obtain rfl : j = m := by omega
                have HBQ := Lib.hid (HB2.out.trs hB)
                obtain ⟨A8, c8, rfl, r8⟩ := hO8.rd
                rw [HKE.out j (by omega)] at ⊢
                have HU8 := Lib.hid (HUL.out A8 c8 wr r8)
                have HKJ := Lib.hid (HKA.out)
                clear hO8 r8 hB hJJ
                by_cases hj0 : j = 0
                · exact absurd (HKJ.out.1 HS0.out) (by omega)
                · have HU9 := Lib.hid (HU8.out (by omega))
                  have hjz : ((j : Int) == 0) = false := by rw [beq_eq_false_iff_ne]; omega
                  clear HU8
                  have hjn : ((j : Int) == (n : Int)) = true := by rw [beq_iff_eq]; have := HKJ.out.1 HS0.out; omega
                  go_wp2_with (first
                    | (have := w12; go_at_call 9; refine (HU9.out.2 _ _ _ h12 r12).mono ?_; rintro e w13 ⟨rfl, h13⟩; have h13 := h12.trs h13)
                    | (go_at_call 7; refine HU9.out.1.mono ?_; rintro e w12 ⟨A12, c12, rfl, h12, r12⟩)
                    | (go_at_call 6; refine (Sane_any _).mono ?_; rintro e w20 ⟨rfl, h20⟩))
                  go_ret
                  exact ⟨ret_bool (by first | rfl | simp), ((HB0.out.trs HBQ.out).trs h13).trs h20⟩
        · have hdsl : decide (0 ≤ sl) = false := by rw [decide_eq_false_iff_not]; omega
          rw [hdsl] at H3
          have HS0 := Lib.hid hs0
          have hdv : dv = .tuple #[.bool false, .int .i64 0] ∨ dv = .tuple #[.bool false, .int .i64 81] := by
            rcases HDV.out with h | ⟨_, h⟩ | h
            · exact .inl h
            · omega
            · exact .inr h
          have HI7 := Lib.hid (fun W (hW : Below W0.heap.size W0 W) => H7.out W x y hW)
          rw [HIF.out x y q1 q2 q3 q4] at HI7
          have hpv : (rv = .tuple #[.bool false, .int .i64 81] ∧ fv = .tuple #[.int .i64 0, .int .i64 81]) ∨ (∃ f : Int, fv = .tuple #[.int .i64 f, .int .i64 0] ∧ rv = .tuple #[.bool false, .int .i64 0]) ∨ ∃ f : Int, fv = .tuple #[.int .i64 f, .int .i64 0] ∧ rv = .tuple #[.bool true, .int .i64 0] ∧ decide (f < fu) = false := by
            rcases HPV.out with h | ⟨f, h1, h2 | ⟨h2, h3⟩⟩
            · exact .inl h
            · exact .inr (.inl ⟨f, h1, h2⟩)
            · exact .inr (.inr ⟨f, h1, h2, by rw [decide_eq_false_iff_not]; omega⟩)
          clear HDV HSV HOV HIF HPV hs0 hdsl H7
          rcases hdv with rfl | rfl <;> rcases hpv with ⟨rfl, rfl⟩ | ⟨f, rfl, rfl⟩ | ⟨f, rfl, rfl, hff⟩
          all_goals
            go_enter Try.func3, Try.ntmps3
            go_wp2_with (first
                  | (go_at_call 4; refine (Long_any _ _ _ _).mono ?_; rintro e w' ⟨rfl, rfl⟩; rw [HW0.out])
                  | (go_at_call 5; refine HV.out.mono ?_; rintro e w1 ⟨rfl, h1⟩)
                  | (go_at_call 7; refine (H2.out _ h1).mono ?_; rintro e w3 ⟨A3, c3, rfl, h3, r3⟩; have h3 := h1.trs h3)
                  | (go_at_call 8; refine (H5.out _ h3).mono ?_; rintro e w4 ⟨rfl, h4⟩; have r3 := r3.on h4; have h4 := h3.trs h4)
                  | (have := w6; go_at_call 9; refine (H8.out _ h6).mono ?_; rintro e w7 ⟨rfl, h7⟩; have r3 := r3.on h7; have h7 := h6.trs h7)
                  | (go_at_call 9; refine (H3.out _ _ _ h4 r3).mono ?_; rintro e w5 ⟨rfl, h5⟩; have r3 := r3.on h5; have h5 := h4.trs h5)
                  | (go_at_call 10; refine (HI7.out _ h5).mono ?_; rintro e w6 ⟨rfl, h6⟩; have r3 := r3.on h6; have h6 := h5.trs h6)
                  | (go_at_call 12; refine (H8r.out _ h7).mono ?_; rintro e w8 ⟨rfl, h8⟩; have r3 := r3.on h8; have h8 := h7.trs h8)
                  | (have := w9; go_at_call 13; refine (H9f.out _ h9).mono ?_; rintro e w10 ⟨rfl, h10⟩; have h10 := h9.trs h10)
                  | (go_at_call 13; refine (H4.out _ _ _ h8 r3).mono ?_; rintro e w9 ⟨rfl, h9⟩; have h9 := h8.trs h9)
                  | (go_at_call 14; refine (HKp.out _ h10).mono ?_; rintro e w11 ⟨h11, AK, cK, rfl, hRK⟩; have HRK := Lib.hid hRK; have HB2 := Lib.hid (h10.trs h11); clear hRK h11))
            generalize hm : K.length = m at *
            have HM := Lib.hid hm; clear hm
            go_loopg [24, 25] m (fun k v t wr => ∃ j : Nat, t = .int .i64 j ∧ j ≤ m ∧ m - j ≤ k ∧ Below w11.heap.size w11 wr ∧ OwnT wr w11.heap.size 38 v (gK L K j))
            case atStart => exact ⟨0, rfl, by omega, by omega, Below.refl _ _, by rw [HKL0.out]; exact OwnT.nil _ _ _⟩
            case round =>
              obtain ⟨j, ht, hj, hk, hB, hO8⟩ := hrel
              obtain ⟨JJ, hJJ⟩ : ∃ JJ : Int, JJ = (j : Int) := ⟨_, rfl⟩
              rw [← hJJ] at ht
              subst ht
              have hJ0 : 0 ≤ JJ := by omega
              have hJn : JJ.toNat = j := by omega
              by_cases hlt : j < m
              · obtain ⟨bk, ok, rfl, hbk, d0⟩ := HRK.out.at_ (k := j) (by rw [HM.out]; exact hlt)
                obtain ⟨q1, q2⟩ := HKI.out j hlt
                obtain ⟨kj, hkj⟩ : ∃ kj : Nat, ix K j = kj := ⟨(ix K j).toNat, by omega⟩
                have hkn : kj < n := by omega
                have HKSj := Lib.hid (HKS.out j hlt)
                rw [hkj] at d0 HKSj
                rw [Int.toNat_natCast, HTX.out] at HKSj
                obtain ⟨bb, o, rfl, hbb, cc1, cc2, cc3⟩ := HR.out.at_ (k := kj) (by rw [HN.out]; exact hkn)
                have hHB := HB2.out.trs hB
                rw [← hB.cell hbk] at d0
                rw [← hHB.cell hbb] at cc1 cc2 cc3
                have hkn8 := HKN.out j
                have HO8 := Lib.hid hO8
                have HBB := Lib.hid hB
                clear hO8 q1 q2 hkj hHB
                generalize ta L kj = X at *
                generalize tb L kj = Y at *
                generalize tc L kj = Z at *
                have hjm : JJ < (m : Int) := by omega
                obtain ⟨KJ, hKJ⟩ : ∃ KJ : Int, KJ = (kj : Int) := ⟨_, rfl⟩
                rw [← hKJ] at d0
                have hk0 : 0 ≤ KJ := by omega
                have hkn2 : KJ < (n : Int) := by omega
                have hKn : KJ.toNat = kj := by omega
                have hng : decide (KJ < 0) = false := by rw [decide_eq_false_iff_not]; omega
                have hng2 : decide ((n : Int) ≤ KJ) = false := by rw [decide_eq_false_iff_not]; omega
                have HJJ := Lib.hid hJJ
                have hz := hB.size
                clear hJJ hKJ hB
                go_wp2_with (refine wp_app_trip 22 38 rfl (.tmp 196) (.tmp 204) rfl Try.underlying22 infoTask _ w11.heap.size _ _ (gK L K j) X Y Z rfl rfl (HO8.out.kept (below_alloc _ _)) (Box.new _ _ _) (by omega) (by simp; omega) ?_; intro v8 w8' hO8 hB8 _ _; have HT8 := Lib.hid ((HBB.out.trs (below_alloc _ _)).trans hB8); have HN8 := Lib.hid hO8; clear hO8 hB8)
                go_roundg (m - (j + 1))
                case measure => omega
                case rel => exact ⟨j + 1, by rw [HJJ.out]; go_num, by omega, by omega, HT8.out, by rw [HKSj.out]; exact HN8.out⟩
              · obtain rfl : j = m := by omega
                have HBQ := Lib.hid (HB2.out.trs hB)
                obtain ⟨A8, c8, rfl, r8⟩ := hO8.rd
                rw [HKE.out j (by omega)] at ⊢
                have HU8 := Lib.hid (HUL.out A8 c8 wr r8)
                have HKJ := Lib.hid (HKA.out)
                clear hO8 r8 hB hJJ
                by_cases hj0 : j = 0
                · have hjn : ((j : Int) == (n : Int)) = false := by rw [beq_eq_false_iff_ne]; intro h; have := HKJ.out.2 (by omega); have := HS0.out; omega
                  subst hj0
                  go_wp2_with (go_at_call 6; refine (Sane_any _).mono ?_; rintro e w20 ⟨rfl, h20⟩)
                  go_ret
                  exact ⟨ret_bool (by first | rfl | simp), (HB0.out.trs HBQ.out).trs h20⟩
                · have HU9 := Lib.hid (HU8.out (by omega))
                  have hjz : ((j : Int) == 0) = false := by rw [beq_eq_false_iff_ne]; omega
                  clear HU8
                  have hjn : ((j : Int) == (n : Int)) = false := by rw [beq_eq_false_iff_ne]; intro h; have := HKJ.out.2 (by omega); have := HS0.out; omega
                  go_wp2_with (first
                    | (have := w12; go_at_call 9; refine (HU9.out.2 _ _ _ h12 r12).mono ?_; rintro e w13 ⟨rfl, h13⟩; have h13 := h12.trs h13)
                    | (go_at_call 7; refine HU9.out.1.mono ?_; rintro e w12 ⟨A12, c12, rfl, h12, r12⟩)
                    | (go_at_call 6; refine (Sane_any _).mono ?_; rintro e w20 ⟨rfl, h20⟩))
                  go_ret
                  exact ⟨ret_bool (by first | rfl | simp), ((HB0.out.trs HBQ.out).trs h13).trs h20⟩
      · have hd2 : decide ((300 : Int) < p.length) = true := by simp; omega
        generalize L.length = n at *
        generalize p.length = m at *
        go_enter Try.func3, Try.ntmps3
        go_wp2_with (first
          | (go_at_call 4; refine (Long_any _ _ _ _).mono ?_; rintro e w' ⟨rfl, rfl⟩)
          | (go_at_call 5; refine HV.out.mono ?_; rintro e w1 ⟨rfl, h1⟩)
          | (go_at_call 6; refine (Sane_any _).mono ?_; rintro e w10 ⟨rfl, h10⟩))
        go_ret
        exact ⟨rfl, (HB0.out.trs h1).trs h10⟩
  · have hd : decide ((40 : Int) < L.length) = true := by simp; omega
    go_enter Try.func3, Try.ntmps3
    go_wp2_with (first
      | (go_at_call 4; refine (Long_any _ _ _ _).mono ?_; rintro e w' ⟨rfl, rfl⟩)
      | (go_at_call 6; refine (Sane_any _).mono ?_; rintro e w10 ⟨rfl, h10⟩))
    go_ret
    exact ⟨rfl, HB0.out.trs h10⟩
end Go.Proofs.Ytannnbjadbmmcaa
