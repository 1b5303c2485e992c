/- The walk of the law AlertWorks. -/
import Derived.Test.YtdafiblnanpiiaaAlR
namespace Go.Proofs.Ytdafiblnanpiiaa
open Go.RowKit
set_option linter.unusedSimpArgs false
set_option linter.unusedVariables false

theorem Urg_valid (A : Option Addr) (c : Nat) (L : List (Int × Int × Int)) (w : World) (hr : RdT w w.heap.size A L) (hl : L.length ≤ 1125899906842624) (hv : vldT L = true) :
    Calls Try.prog 31 #[.slice A L.length c] w fun e w' => ∃ A2 c2, e = .returned (.tuple #[.slice A2 100 c2, .int .i64 0]) ∧ Below w.heap.size w w' ∧ RdI w' w'.heap.size A2 (urg L) := by
  have h := Urgent_any A c L w hr hl
  rw [hv, if_pos rfl, SlackE_yes hv] at h
  exact h.mono fun e w' ⟨h1, A2, c2, h2, h3⟩ => ⟨A2, c2, by rw [h2, urg_len], h1, h3⟩
theorem RightV_urg {L : List (Int × Int × Int)} (hok : okT L) : RightV L (urg L) = .tuple #[.bool true, .int .i64 0] := by
  have h : AskE L (urg L) = 0 := by unfold AskE; rw [vldT_of hok, urg_pln]; rfl
  unfold RightV
  rw [h, (rightB_iff urg_pln).2 (urg_right L hok)]; rfl
theorem FreeV_urg {L : List (Int × Int × Int)} (hok : okT L) : FreeV L (urg L) = .tuple #[.int .i64 (freeT (urg L) 100), .int .i64 0] := by
  have h : AskE L (urg L) = 0 := by unfold AskE; rw [vldT_of hok, urg_pln]; rfl
  unfold FreeV
  rw [h]; rfl
theorem hBon {w w' : World} {b o : Nat} (h : Below w.heap.size w w') (hb : b < w.heap.size) : w'.cell? ⟨b, o, none⟩ = w.cell? ⟨b, o, none⟩ := h.cell (p := ⟨b, o, none⟩) hb
/-- what is said of any plan -/
theorem Plan_valid {L : List (Int × Int × Int)} (p : List Int) (hok : okT L) :
    (RightV L p = .tuple #[.bool false, .int .i64 81] ∧ FreeV L p = .tuple #[.int .i64 0, .int .i64 81]) ∨
    ∃ f : Int, FreeV L p = .tuple #[.int .i64 f, .int .i64 0] ∧ (RightV L p = .tuple #[.bool false, .int .i64 0] ∨ (RightV L p = .tuple #[.bool true, .int .i64 0] ∧ freeT (urg L) 100 ≤ f)) := by
  unfold RightV FreeV
  rcases AskE_valid (p := p) (vldT_of hok) with ⟨h, hp⟩ | h
  · rw [h]
    refine .inr ⟨freeT p 100, rfl, ?_⟩
    cases hrb : rightB L p
    · exact .inl rfl
    · refine .inr ⟨rfl, ?_⟩
      have hr := (rightB_iff hp).1 hrb
      have h1 := urg_most L hok p (plnB_iff.1 hp).1 hr
      rw [freeT_sm p (fun m hm => ((plnB_iff.1 hp).2 m hm).1), freeT_sm (urg L) (fun m hm => ((plnB_iff.1 (urg_pln (L := L))).2 m hm).1)]
      omega
  · rw [h]; exact .inl ⟨rfl, rfl⟩
/-- none that could be worked on is more urgent -/
theorem best_says {L : List (Int × Int × Int)} {q : List Int} {m : Int} (n : Nat) : (bestT L q m n = -1 ∧ ∀ i, i < n → ¬ (0 < tc L i - cntI q i ∧ ta L i ≤ m ∧ m < tb L i)) ∨
    ∃ b : Nat, b < n ∧ bestT L q m n = b ∧ ∀ i, i < n → 0 < tc L i - cntI q i → ta L i ≤ m → m < tb L i → tb L b < tb L i ∨ (tb L b = tb L i ∧ b ≤ i) := by
  rcases bestT_spec L q m n with ⟨h1, h2⟩ | ⟨b, h1, h2, h3, h4⟩
  · refine .inl ⟨h1, fun i hi ⟨e1, e2, e3⟩ => ?_⟩
    have h := h2 i hi
    unfold avB at h
    rw [openB_iff.2 ⟨e2, e3⟩, decide_eq_true (by omega : cntI q i < tc L i)] at h
    cases h
  · refine .inr ⟨b, h1, h2, fun i hi e1 e2 e3 => h4 i hi ?_⟩
    unfold avB
    rw [openB_iff.2 ⟨e2, e3⟩, decide_eq_true (by omega : cntI q i < tc L i)]; rfl

set_option maxRecDepth 100000 in
set_option maxHeartbeats 16000000 in
theorem AlertWorks_walk (w : World) (A : Option Addr) (c : Nat) (L : List (Int × Int × Int)) (hr : RdT w w.heap.size A L) (_hm : L.length ≤ maxLen) (A2 : Option Addr) (c2 : Nat) (p : List Int) (hr2 : RdI w w.heap.size A2 p ∧ ∀ x ∈ p, (Lit.int .i64 x).wf = true) (_hm2 : p.length ≤ maxLen) :
    Calls Try.prog 6 #[.slice A L.length c, .slice A2 p.length c2] w fun e w' => e = .returned (.bool true) ∧ Below w.heap.size w w' := by
  have HR := Lib.hid hr
  have HR2 := Lib.hid hr2.1
  clear hr hr2
  by_cases hl : L.length ≤ 40
  · have hd : decide ((40 : Int) < L.length) = false := by simp; omega
    have hl2 : L.length ≤ 1125899906842624 := by omega
    have HV := Lib.hid (refValid_any A c L _ HR.out hl2)
    cases hv : vldT L <;> rw [hv] at HV
    · generalize L.length = n at *
      go_enter Try.func6, Try.ntmps6
      go_wp2_with (first
        | (go_at_call 14; refine (Long_any _ _ _ _).mono ?_; rintro e w' ⟨rfl, rfl⟩)
        | (go_at_call 22; refine HV.out.mono ?_; rintro e w1 ⟨rfl, h1⟩)
        | (go_at_call 15; refine (Sane_any _).mono ?_; rintro e w10 ⟨rfl, h10⟩))
      go_ret
      exact ⟨rfl, h1.trs h10⟩
    · by_cases hp : p.length ≤ 300
      · have hd2 : decide ((300 : Int) < p.length) = false := by simp; omega
        have hok := okT_of hv
        have hn1 := hok.1.1
        have hn12 := hok.1.2
        have H2 := Lib.hid (fun W (hW : Below w.heap.size w W) => Urg_valid A c L W (HR.out.on hW) hl2 hv)
        have H3 := Lib.hid (fun W A3 c3 (hW : Below w.heap.size w W) (h : RdI W W.heap.size A3 (urg L)) => Right_any A c L A3 c3 (urg L) W (HR.out.on hW) (by omega) h (by rw [urg_len]; omega))
        have H4 := Lib.hid (fun W A3 c3 (hW : Below w.heap.size w W) (h : RdI W W.heap.size A3 (urg L)) => Free_any A c L A3 c3 (urg L) W (HR.out.on hW) (by omega) h (by rw [urg_len]; omega))
        rw [urg_len] at H3 H4
        have H8 := Lib.hid (fun W (hW : Below w.heap.size w W) => Right_any A c L A2 c2 p W (HR.out.on hW) (by omega) (HR2.out.on hW) (by omega))
        have H9 := Lib.hid (fun W (hW : Below w.heap.size w W) => Free_any A c L A2 c2 p W (HR.out.on hW) (by omega) (HR2.out.on hW) (by omega))
        rw [RightV_urg hok] at H3
        rw [FreeV_urg hok] at H4
        have HPV := Lib.hid (Plan_valid p hok)
        have HBS := Lib.hid (fun m => best_says (L := L) (q := urgP L m) (m := (m : Int)) L.length)
        have HUI := Lib.hid (fun m (hm : m < 100) => urgP_ix (L := L) (m := m) (N := 100) hm)
        have HUS : Hid (∀ m, urgP L (m + 1) = urgP L m ++ [bestT L (urgP L m) m L.length]) := Lib.hid (fun _ => rfl)
        have HOK := Lib.hid hok.2
        have HLI := Lib.hid (fun q i hi => lefts_ix L q i hi)
        have HLL := Lib.hid (fun q => lefts_len L q)
        have HLR := Lib.hid (fun q => lefts_rest L q)
        have HLW := Lib.hid (fun q b hb => lefts_work L q b hb)
        have HCB := Lib.hid (fun m i => cntI_bd (urgP L m) i)
        have HUL := Lib.hid (urgP_len L)
        have HWS := Lib.hid (fun i hi => worksT_succ L i hi)
        have HWL := Lib.hid (worksT_len L)
        have HW0 := Lib.hid (worksT_zero L)
        have HWA := Lib.hid (worksT_all L)
        have HU0 : Hid (urgP L 0 = []) := Lib.hid rfl
        have hul : (urg L).length = 100 := urg_len L
        have hfb := freeT_bd (urg L) 100
        have HULE : Hid (urg L = urgP L 100) := Lib.hid rfl
        have HULN := Lib.hid hul
        clear hok hv hul
        generalize hfu : freeT (urg L) 100 = fu at *
        generalize RightV L p = rv at *
        generalize FreeV L p = fv at *
        generalize p.length = mp at *
        rw [← HULE.out] at HUI
        generalize urg L = ul at *
        generalize hn : L.length = n at *
        have HN := Lib.hid hn
        clear hn hfu HULE
        obtain ⟨cs, hmk, hbx⟩ := run_make_int (P := Try.prog) Try.underlying32 infoInt (n : Int) (by omega) (by omega)
        rw [Int.toNat_natCast] at hbx
        have HBX := Lib.hid hbx
        clear hbx
        go_enter Try.func6, Try.ntmps6
        go_wp2_with (first
          | (go_at_call 14; refine (Long_any _ _ _ _).mono ?_; rintro e w' ⟨rfl, rfl⟩)
          | (go_at_call 22; refine HV.out.mono ?_; rintro e w1 ⟨rfl, h1⟩)
          | (go_at_call 31; refine (H2.out _ h1).mono ?_; rintro e w3 ⟨A3, c3, rfl, h3, hr3⟩; have h3 := h1.trs h3)
          | (go_at_call 32; refine (H3.out _ _ _ h3 hr3).mono ?_; rintro e w4 ⟨rfl, h4⟩; have HR4 := Lib.hid (hr3.on h4); have h4 := h3.trs h4)
          | (go_at_call 33; refine (H4.out _ _ _ h4 HR4.out).mono ?_; rintro e w5 ⟨rfl, h5⟩; have HR5 := Lib.hid (HR4.out.on h5); have h5 := h4.trs h5; have HB5 := Lib.hid h5; have HBI := Lib.hid (HBX.out w5)))
        go_loopg [12] n (fun k t wr => ∃ i : Nat, t = .int .i64 i ∧ i ≤ n ∧ n - i ≤ k ∧ BoxI wr w5.heap.size (worksT L i) ∧ Below w5.heap.size w5 wr)
        case atStart => exact ⟨0, rfl, by omega, by omega, by rw [HW0.out]; exact HBI.out, below_alloc _ _⟩
        case round =>
          obtain ⟨i, rfl, hi, hk, hb, hB⟩ := hrel
          by_cases hlt : i < n
          · obtain ⟨bb, o, rfl, hbb, cc1, cc2, cc3⟩ := HR.out.at_ (k := i) (by rw [HN.out]; exact hlt)
            rw [← (HB5.out.trs hB).cell hbb] at cc3
            have hlw := HWL.out i
            have cw := hb.cell (k := i) (by rw [hlw]; exact hlt)
            have fw := hb.frozen i
            have HS := Lib.hid (HWS.out i hlt)
            have HX := Lib.hid (And.intro hb hB)
            clear hb hB cc1 cc2
            generalize tc L i = z at *
            go_wp2
            go_roundg (n - (i + 1))
            case measure => omega
            case rel => exact ⟨i + 1, by go_num, by omega, by omega, by rw [HS.out]; exact HX.out.1.set_ i _, HX.out.2.setCell (p := ⟨w5.heap.size, i, none⟩) (by simp) _⟩
          · obtain rfl : n = i := by omega
            rw [HWA.out] at hb
            have HX := Lib.hid (And.intro hb hB)
            clear hb hB
            go_wp2
            go_loopg [13] 100 (fun k t wr => ∃ m : Nat, t = .int .i64 m ∧ m ≤ 100 ∧ 100 - m ≤ k ∧ BoxI wr w5.heap.size (lefts L (urgP L m)) ∧ Below w5.heap.size w5 wr)
            case atStart => exact ⟨0, rfl, by omega, by omega, by rw [HU0.out]; exact HX.out.1, HX.out.2⟩
            case round =>
              obtain ⟨m, ht, hm, hk2, hb, hB⟩ := hrel
              obtain ⟨wq, rfl⟩ : ∃ wq : World, wq = wr := ⟨_, rfl⟩
              by_cases hlm : m < 100
              · obtain ⟨MM, hMM⟩ : ∃ MM : Int, MM = (m : Int) := ⟨_, rfl⟩
                rw [← hMM] at ht
                subst ht
                have hM0 : 0 ≤ MM := by omega
                have hMn : MM.toNat = m := by omega
                have hM1 : MM < 100 := by omega
                obtain ⟨bp, op, rfl, hbp, dp⟩ := HR5.out.at_ (k := m) (by rw [HULN.out]; exact hlm)
                have hui := HUI.out m hlm
                have hus := HUS.out m
                have hbs := HBS.out m
                rw [← hMM] at hui hus hbs
                have HMM := Lib.hid hMM
                clear hMM
                have HLIm := Lib.hid (HLI.out (urgP L m))
                have HLLm := Lib.hid (HLL.out (urgP L m))
                have HLRm := Lib.hid (HLR.out (urgP L m))
                have HLWm := Lib.hid (HLW.out (urgP L m))
                have HCBm := Lib.hid (HCB.out m)
                have hulm := HUL.out m
                generalize bestT L (urgP L m) MM n = bst at *
                rw [hui] at dp
                have HDP := Lib.hid dp
                have HUSm := Lib.hid hus
                have HBBb := Lib.hid hB
                have HBXb := Lib.hid hb
                obtain ⟨NN, hNN⟩ : ∃ NN : Int, NN = bst := ⟨_, rfl⟩
                rw [← hNN] at HDP hbs HUSm
                clear dp hui hus hb hB hNN
                have hbn : -1 ≤ NN ∧ NN < n := by rcases hbs with ⟨h1, _⟩ | ⟨b, h1, h2, _⟩ <;> omega
                have g1 : decide (NN < -1) = false := by rw [decide_eq_false_iff_not]; omega
                have g2 : decide ((n : Int) ≤ NN) = false := by rw [decide_eq_false_iff_not]; omega
                have hdp := (hBon HBBb.out hbp).trans HDP.out
                obtain ⟨bb, o, rfl, hbb, hall⟩ := HR.out.form (by rw [HN.out]; omega)
                have HALL := Lib.hid hall
                clear hall
                have HBS2 : Hid (∀ i, i < n → 0 < tc L i - cntI (urgP L m) i → ta L i ≤ MM → MM < tb L i → 0 ≤ NN ∧ NN.toNat < n ∧ (tb L NN.toNat < tb L i ∨ (tb L NN.toNat = tb L i ∧ NN ≤ i))) := Lib.hid (by
                  intro i hi e1 e2 e3
                  rcases hbs with ⟨h1, h2⟩ | ⟨b, h1, h2, h3⟩
                  · exact absurd ⟨e1, e2, e3⟩ (h2 i hi)
                  · have := h3 i hi e1 e2 e3
                    rw [h2, Int.toNat_natCast]
                    exact ⟨by omega, h1, by omega⟩)
                clear hbs
                go_wp2
                go_loopg [15] n (fun k t wi => ∃ i : Nat, t = .int .i64 i ∧ i ≤ n ∧ n - i ≤ k ∧ Below wq.heap.size wq wi)
                case atStart => exact ⟨0, rfl, by omega, by omega, Below.refl _ _⟩
                case round =>
                  obtain ⟨i, hti, hi, hki, hBi⟩ := hrel
                  obtain ⟨wi, rfl⟩ : ∃ wi : World, wi = wr := ⟨_, rfl⟩
                  by_cases hli : i < n
                  · obtain ⟨II, hII⟩ : ∃ II : Int, II = (i : Int) := ⟨_, rfl⟩
                    rw [← hII] at hti
                    subst hti
                    have hI0 : 0 ≤ II := by omega
                    have hIn : II.toNat = i := by omega
                    have hI1 : II < n := by omega
                    have cw := (BoxI.on HBXb.out hBi).cell (k := i) (by rw [HLLm.out]; exact hli)
                    rw [HLIm.out i hli] at cw
                    obtain ⟨c1, c2, c3⟩ := HALL.out i (by rw [HN.out]; exact hli)
                    have hBw := (HB5.out.trs HBBb.out).trs hBi
                    rw [← hBon hBw hbb] at c1 c2
                    have hs2 := HBS2.out i hli
                    have c4 : ∃ ln : Int, (0 ≤ NN → ln = tb L NN.toNat ∧ wi.cell? ⟨bb, o + NN.toNat * 3 + 1, none⟩ = some (.int .i64 ln)) := by
                      by_cases h : 0 ≤ NN
                      · obtain ⟨_, q2, _⟩ := HALL.out NN.toNat (by rw [HN.out]; omega)
                        rw [← hBon hBw hbb] at q2
                        exact ⟨_, fun _ => ⟨rfl, q2⟩⟩
                      · exact ⟨0, fun h' => absurd h' h⟩
                    obtain ⟨ln, hln⟩ := c4
                    have HBi := Lib.hid hBi
                    clear c3 hBi hBw
                    generalize tc L i - cntI (urgP L m) i = lv at *
                    generalize ta L i = x at *
                    generalize tb L i = y at *
                    have hcase : ¬ 0 < lv ∨ (0 < lv ∧ ¬ x ≤ MM) ∨ (0 < lv ∧ x ≤ MM ∧ ¬ MM < y) ∨ (0 < lv ∧ x ≤ MM ∧ MM < y ∧ 0 ≤ NN ∧ (ln < y ∨ (ln = y ∧ NN ≤ II))) := by
                      by_cases e1 : 0 < lv
                      · by_cases e2 : x ≤ MM
                        · by_cases e3 : MM < y
                          · have := hs2 e1 e2 e3
                            have h5 := hln this.1
                            exact .inr (.inr (.inr ⟨e1, e2, e3, this.1, by rw [h5.1]; omega⟩))
                          · exact .inr (.inr (.inl ⟨e1, e2, e3⟩))
                        · exact .inr (.inl ⟨e1, e2⟩)
                      · exact .inl e1
                    have HLN := Lib.hid hln
                    have HII := Lib.hid hII
                    clear hs2 hln hII
                    rcases hcase with e1 | ⟨e1, e2⟩ | ⟨e1, e2, e3⟩ | ⟨e1, e2, e3, e4, e5⟩
                    · have d1 : decide (0 < lv) = false := by rw [decide_eq_false_iff_not]; exact e1
                      clear e1
                      go_wp2
                      go_quiet (fail)
                      go_wp2
                      go_roundg (n - (i + 1))
                      case measure => omega
                      case rel => exact ⟨i + 1, by rw [HII.out]; go_num, by omega, by omega, HBi.out.drewsN _⟩
                    · have d1 : decide (0 < lv) = true := by rw [decide_eq_true_eq]; exact e1
                      have d2 : decide (x ≤ MM) = false := by rw [decide_eq_false_iff_not]; exact e2
                      clear e1 e2
                      go_wp2
                      go_quiet (fail)
                      go_wp2
                      go_roundg (n - (i + 1))
                      case measure => omega
                      case rel => exact ⟨i + 1, by rw [HII.out]; go_num, by omega, by omega, HBi.out.drewsN _⟩
                    · have d1 : decide (0 < lv) = true := by rw [decide_eq_true_eq]; exact e1
                      have d2 : decide (x ≤ MM) = true := by rw [decide_eq_true_eq]; exact e2
                      have d3 : decide (MM < y) = false := by rw [decide_eq_false_iff_not]; exact e3
                      clear e1 e2 e3
                      go_wp2
                      go_quiet (fail)
                      go_wp2
                      go_roundg (n - (i + 1))
                      case measure => omega
                      case rel => exact ⟨i + 1, by rw [HII.out]; go_num, by omega, by omega, HBi.out.drewsN _⟩
                    · have d1 : decide (0 < lv) = true := by rw [decide_eq_true_eq]; exact e1
                      have d2 : decide (x ≤ MM) = true := by rw [decide_eq_true_eq]; exact e2
                      have d3 : decide (MM < y) = true := by rw [decide_eq_true_eq]; exact e3
                      have d4 : decide (NN < 0) = false := by rw [decide_eq_false_iff_not]; omega
                      have d5 : decide (y < ln) = false := by rw [decide_eq_false_iff_not]; omega
                      have cN := (HLN.out e4).2
                      obtain ⟨NK, hNK⟩ : ∃ NK : Nat, NN.toNat = NK := ⟨_, rfl⟩
                      rw [hNK] at cN
                      have hNn : NN < n := hbn.2
                      have hcq : ((y == ln) = false) ∨ ((y == ln) = true ∧ decide (II < NN) = false) := by
                        rcases e5 with h | ⟨h, h'⟩
                        · exact .inl (by rw [beq_eq_false_iff_ne]; omega)
                        · exact .inr ⟨by rw [h]; simp, by rw [decide_eq_false_iff_not]; omega⟩
                      clear e1 e2 e3 e5
                      rcases hcq with d6 | ⟨d6, d7⟩
                      all_goals
                        go_wp2
                        go_quiet (fail)
                        go_wp2
                        go_roundg (n - (i + 1))
                        case measure => omega
                        case rel => exact ⟨i + 1, by rw [HII.out]; go_num, by omega, by omega, HBi.out.drewsN _⟩
                  · obtain rfl : n = i := by omega
                    subst hti
                    have hBw := HBBb.out.trs hBi
                    have hbw := BoxI.on HBXb.out hBi
                    rcases (show NN = -1 ∨ ∃ kb : Nat, NN = kb ∧ kb < n by
                      by_cases h1 : NN = -1
                      · exact .inl h1
                      · exact .inr ⟨NN.toNat, by omega, by omega⟩) with rfl | ⟨kb, hkb, hkn⟩
                    · have HK := Lib.hid (And.intro hbw hBw)
                      clear hbw hBw
                      go_wp2
                      go_roundg (100 - (m + 1))
                      case measure => omega
                      case rel => exact ⟨m + 1, by rw [HMM.out]; go_num, by omega, by omega, by rw [HUSm.out, HLRm.out]; exact HK.out.1, HK.out.2⟩
                    · have cw := hbw.cell (k := kb) (by rw [HLLm.out]; exact hkn)
                      rw [HLIm.out kb hkn] at cw
                      have fw := hbw.frozen kb
                      have HW := Lib.hid (HLWm.out kb hkn)
                      have hlv : -100 ≤ tc L kb - cntI (urgP L m) kb ∧ tc L kb - cntI (urgP L m) kb ≤ 100 := by
                        have q1 := HCBm.out kb
                        have q2 := (HOK.out kb hkn).2.2.2
                        omega
                      generalize tc L kb - cntI (urgP L m) kb = lv at *
                      have hNk : NN.toNat = kb := by omega
                      have hN0 : 0 ≤ NN := by omega
                      have hNn : NN < n := by omega
                      have hdn : decide (0 ≤ NN) = true := by rw [decide_eq_true_eq]; exact hN0
                      rw [hkb] at HUSm
                      have HK := Lib.hid (And.intro hbw hBw)
                      clear hbw hBw hkb
                      go_wp2
                      go_roundg (100 - (m + 1))
                      case measure => omega
                      case rel => exact ⟨m + 1, by rw [HMM.out]; go_num, by omega, by omega, by rw [HUSm.out, HW.out]; exact BoxI.set_ HK.out.1 kb _, HK.out.2.setCell (p := ⟨w5.heap.size, kb, none⟩) (by simp) _⟩
              · obtain rfl : m = 100 := by omega
                subst ht
                have HBF := Lib.hid (HB5.out.trs hB)
                clear hb hB
                rcases HPV.out with ⟨rfl, rfl⟩ | ⟨f, rfl, rfl | ⟨rfl, hf⟩⟩
                · clear HPV
                  go_wp2_with (first
                    | (go_at_call 32; refine (H8.out _ HBF.out).mono ?_; rintro e w8 ⟨rfl, h8⟩; have h8 := HBF.out.trs h8)
                    | (go_at_call 33; refine (H9.out _ h8).mono ?_; rintro e w9 ⟨rfl, h9⟩; have h9 := h8.trs h9)
                    | (go_at_call 15; refine (Sane_any _).mono ?_; rintro e w10 ⟨rfl, h10⟩))
                  go_ret
                  exact ⟨ret_bool (by first | rfl | simp), h9.trs h10⟩
                · clear HPV
                  go_wp2_with (first
                    | (go_at_call 32; refine (H8.out _ HBF.out).mono ?_; rintro e w8 ⟨rfl, h8⟩; have h8 := HBF.out.trs h8)
                    | (go_at_call 33; refine (H9.out _ h8).mono ?_; rintro e w9 ⟨rfl, h9⟩; have h9 := h8.trs h9)
                    | (go_at_call 15; refine (Sane_any _).mono ?_; rintro e w10 ⟨rfl, h10⟩))
                  go_ret
                  exact ⟨ret_bool (by first | rfl | simp), h9.trs h10⟩
                · clear HPV
                  have hdf : decide (fu ≤ f) = true := by rw [decide_eq_true_eq]; exact hf
                  clear hf
                  go_wp2_with (first
                    | (go_at_call 32; refine (H8.out _ HBF.out).mono ?_; rintro e w8 ⟨rfl, h8⟩; have h8 := HBF.out.trs h8)
                    | (go_at_call 33; refine (H9.out _ h8).mono ?_; rintro e w9 ⟨rfl, h9⟩; have h9 := h8.trs h9)
                    | (go_at_call 15; refine (Sane_any _).mono ?_; rintro e w10 ⟨rfl, h10⟩))
                  go_ret
                  exact ⟨ret_bool (by first | rfl | simp), h9.trs h10⟩
      · have hd2 : decide ((300 : Int) < p.length) = true := by simp; omega
        generalize L.length = n at *
        generalize p.length = m at *
        go_enter Try.func6, Try.ntmps6
        go_wp2_with (first
          | (go_at_call 14; refine (Long_any _ _ _ _).mono ?_; rintro e w' ⟨rfl, rfl⟩)
          | (go_at_call 22; refine HV.out.mono ?_; rintro e w1 ⟨rfl, h1⟩)
          | (go_at_call 15; refine (Sane_any _).mono ?_; rintro e w10 ⟨rfl, h10⟩))
        go_ret
        exact ⟨rfl, h1.trs h10⟩
  · have hd : decide ((40 : Int) < L.length) = true := by simp; omega
    go_enter Try.func6, Try.ntmps6
    go_wp2_with (first
      | (go_at_call 14; refine (Long_any _ _ _ _).mono ?_; rintro e w' ⟨rfl, rfl⟩)
      | (go_at_call 15; refine (Sane_any _).mono ?_; rintro e w10 ⟨rfl, h10⟩))
    go_ret
    exact ⟨rfl, h10⟩
end Go.Proofs.Ytdafiblnanpiiaa
