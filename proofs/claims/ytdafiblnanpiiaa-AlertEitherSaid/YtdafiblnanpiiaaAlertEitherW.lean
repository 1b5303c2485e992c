/- The walk of the law AlertEither. -/
import Derived.Test.YtdafiblnanpiiaaAlR
namespace Go.Proofs.Ytdafiblnanpiiaa
open Go.RowKit
set_option linter.unusedSimpArgs false
set_option linter.unusedVariables false

theorem Urg_valid (A : Option Addr) (c : Nat) (L : List (Int × Int × Int)) (w : World) (hr : RdT w w.heap.size A L) (hl : L.length ≤ 1125899906842624) (hv : vldT L = true) :
    Calls Try.prog 31 #[.slice A L.length c] w fun e w' => ∃ A2 c2, e = .returned (.tuple #[.slice A2 100 c2, .int .i64 0]) ∧ Below w.heap.size w w' ∧ RdI w' w'.heap.size A2 (urg L) := by
  have h := Urgent_any A c L w hr hl
  rw [hv, if_pos rfl, SlackE_yes hv] at h
  exact h.mono fun e w' ⟨h1, A2, c2, h2, h3⟩ => ⟨A2, c2, by rw [h2, urg_len], h1, h3⟩
theorem Und_valid (A : Option Addr) (c : Nat) (L : List (Int × Int × Int)) (w : World) (hr : RdT w w.heap.size A L) (hl : L.length ≤ 1125899906842624) (hv : vldT L = true) :
    Calls Try.prog 37 #[.slice A L.length c] w fun e w' => ∃ A2 c2, e = .returned (.tuple #[.slice A2 (und L).length c2, .int .i64 0]) ∧ Below w.heap.size w w' := by
  have h := Undone_any A c L w hr hl
  rw [hv, if_pos rfl, SlackE_yes hv] at h
  exact h.mono fun e w' ⟨h1, A2, c2, h2, h3⟩ => ⟨A2, c2, h2, h1⟩

set_option maxRecDepth 100000 in
set_option maxHeartbeats 8000000 in
theorem AlertEither_walk (w : World) (A : Option Addr) (c : Nat) (L : List (Int × Int × Int)) (hr : RdT w w.heap.size A L) (_hm : L.length ≤ maxLen) (A2 : Option Addr) (c2 : Nat) (p : List Int) (hr2 : RdI w w.heap.size A2 p ∧ ∀ x ∈ p, (Lit.int .i64 x).wf = true) (_hm2 : p.length ≤ maxLen) (a b : Int) (_hs : (Lit.int .i64 a).wf = true ∧ (Lit.int .i64 b).wf = true) :
    Calls Try.prog 10 #[.slice A L.length c, .slice A2 p.length c2, .agg #[.int .i64 a, .int .i64 b]] w fun e w' => e = .returned (.bool true) ∧ Below w.heap.size w w' := by
  have hB0 := below_alloc w (.cells #[.int .i64 a, .int .i64 b] 40)
  have hbx := Box.new w 40 #[.int .i64 a, .int .i64 b]
  have HR := Lib.hid (hr.on hB0)
  have HR2 := Lib.hid (hr2.1.on hB0)
  clear hr hr2 _hs
  have HB0 := Lib.hid hB0
  have HBX := Lib.hid hbx
  clear hB0 hbx
  by_cases hl : L.length ≤ 40
  · have hd : decide ((40 : Int) < L.length) = false := by simp; omega
    have hl2 : L.length ≤ 1125899906842624 := by omega
    have HV := Lib.hid (refValid_any A c L _ HR.out hl2)
    cases hv : vldT L <;> rw [hv] at HV
    · generalize L.length = n at *
      go_enter Try.func10, Try.ntmps10
      go_wp2_with (first
        | (go_at_call 14; refine (Long_any _ _ _ _).mono ?_; rintro e w' ⟨rfl, rfl⟩)
        | (go_at_call 22; refine HV.out.mono ?_; rintro e w1 ⟨rfl, h1⟩)
        | (go_at_call 15; refine (Sane_any _).mono ?_; rintro e w10 ⟨rfl, h10⟩))
      go_ret
      exact ⟨rfl, (HB0.out.trs h1).trs h10⟩
    · by_cases hp : p.length ≤ 300
      · have hd2 : decide ((300 : Int) < p.length) = false := by simp; omega
        have hok := okT_of hv
        generalize hW0 : w.alloc (.cells #[.int .i64 a, .int .i64 b] 40) = W0 at *
        have H1 := Lib.hid (fun W (hW : Below W0.heap.size W0 W) => Can_any A c L W (HR.out.on hW) hl2)
        have H2 := Lib.hid (fun W (hW : Below W0.heap.size W0 W) => Urg_valid A c L W (HR.out.on hW) hl2 hv)
        have H3 := Lib.hid (fun W A3 c3 (hW : Below W0.heap.size W0 W) (h : RdI W W.heap.size A3 (urg L)) => DoesAll_any A c L A3 c3 (urg L) W (HR.out.on hW) (by omega) h (by rw [urg_len]; omega))
        rw [urg_len] at H3
        have H4 := Lib.hid (fun W (hW : Below W0.heap.size W0 W) => Slack_any A c L W (HR.out.on hW) hl2)
        have H5 := Lib.hid (fun W (hW : Below W0.heap.size W0 W) => Overfull_any A c L W (HR.out.on hW) hl2)
        have H6 := Lib.hid (fun W (hW : Below W0.heap.size W0 W) => Und_valid A c L W (HR.out.on hW) hl2 hv)
        have H7 := Lib.hid (fun W x y (hW : Below W0.heap.size W0 W) => IsOverfull_any A c L x y 1 W (HR.out.on hW) hl2)
        have H8 := Lib.hid (fun W (hW : Below W0.heap.size W0 W) => DoesAll_any A c L A2 c2 p W (HR.out.on hW) (by omega) (HR2.out.on hW) (by omega))
        have H9 := Lib.hid (fun W (hW : Below W0.heap.size W0 W) => IsOverfull_any A c L a b 1 W (HR.out.on hW) hl2)
        have H10 := Lib.hid (fun W (hW : Below W0.heap.size W0 W) => Demand_any A c L a b W (HR.out.on hW) hl2)
        have HCE : Hid (∀ W, Below W0.heap.size W0 W → W.cell? ⟨w.heap.size, 0, none⟩ = some (.int .i64 a) ∧ W.cell? ⟨w.heap.size, 1, none⟩ = some (.int .i64 b)) := Lib.hid (fun W hW => by
          have hb := HBX.out.on hW
          exact ⟨hb.cell 0, hb.cell 1⟩)
        rw [CanV_yes hv] at H1
        rw [DoesV_urg hok] at H3
        rw [SlackV_yes hv] at H4
        have HUN := Lib.hid (und_len hok)
        have HDV := Lib.hid (DoesV_valid p hv)
        have HOV := Lib.hid (OverV_valid hv)
        have HIF := Lib.hid (fun x y h1 h2 h3 h4 => IsoV_full (L := L) (x := x) (y := y) hv h1 h2 h3 h4)
        have HSV := Lib.hid (Stretch_valid a b hv)
        have hslb : -1200 ≤ slk L ∧ slk L ≤ 100 := by
          rcases slk_cases L with h | ⟨x, y, h1, h2, h3, h⟩
          · omega
          · have := dem_bd hok x y; omega
        have hdb := dem_bd hok a b
        clear hok hv HBX
        generalize (und L).length = u at *
        generalize urg L = ul at *
        generalize DoesV L p = dv at *
        generalize OverV L = ov at *
        generalize IsoV L a b 1 = iv at *
        generalize DemandE L a b = de at *
        generalize hdm : dem L a b = dm at *
        generalize hsl : slk L = sl at *
        generalize p.length = m at *
        generalize hn : L.length = n at *
        have HW0 := Lib.hid hW0
        clear hW0 hn
        rcases HOV.out with ⟨hs0, rfl⟩ | ⟨hs0, x, y, rfl, q1, q2, q3, q4⟩
        · have hdsl : decide (0 ≤ sl) = true := by rw [decide_eq_true_eq]; exact hs0
          rw [hdsl] at H1 H3
          have hu : u = 0 := HUN.out.2 hs0
          subst hu
          rcases HSV.out with ⟨rfl, hde⟩ | ⟨hde, r1, r2, r3, r4, rfl | ⟨-, r5⟩⟩
          · rw [hde, valT_no (by decide)] at H10
            rcases HDV.out with rfl | ⟨rfl, -⟩ | rfl
            all_goals
              clear HDV HSV HOV HUN HIF hde
              go_enter Try.func10, Try.ntmps10
              go_wp2_with (first
                | (go_at_call 14; refine (Long_any _ _ _ _).mono ?_; rintro e w' ⟨rfl, rfl⟩; rw [HW0.out])
                | (go_at_call 22; refine HV.out.mono ?_; rintro e w1 ⟨rfl, h1⟩)
                | (go_at_call 24; refine (H1.out _ h1).mono ?_; rintro e w2 ⟨rfl, h2⟩; have h2 := h1.trs h2)
                | (go_at_call 31; refine (H2.out _ h2).mono ?_; rintro e w3 ⟨A3, c3, rfl, h3, hr3⟩; have h3 := h2.trs h3)
                | (have := w7; go_at_call 47; refine (H8.out _ h7).mono ?_; rintro e w8 ⟨rfl, h8⟩; have h8 := h7.trs h8; obtain ⟨g0, g1⟩ := HCE.out _ h8)
                | (go_at_call 47; refine (H3.out _ _ _ h3 hr3).mono ?_; rintro e w4 ⟨rfl, h4⟩; have h4 := h3.trs h4)
                | (go_at_call 18; refine (H4.out _ h4).mono ?_; rintro e w5 ⟨rfl, h5⟩; have h5 := h4.trs h5)
                | (go_at_call 20; refine (H5.out _ h5).mono ?_; rintro e w6 ⟨rfl, h6⟩; have h6 := h5.trs h6)
                | (go_at_call 37; refine (H6.out _ h6).mono ?_; rintro e w7 ⟨A7, c7, rfl, h7⟩; have h7 := h6.trs h7)
                | (have := w8; go_at_call 25; refine (H9.out _ h8).mono ?_; rintro e w9 ⟨rfl, h9⟩; have h9 := h8.trs h9; obtain ⟨f0, f1⟩ := HCE.out _ h9)
                | (go_at_call 16; refine (H10.out _ h9).mono ?_; rintro e w11 ⟨rfl, h11⟩; have h11 := h9.trs h11; obtain ⟨e0, e1⟩ := HCE.out _ h11)
                | (go_at_call 15; refine (Sane_any _).mono ?_; rintro e w10 ⟨rfl, h10⟩))
              go_ret
              exact ⟨ret_bool (by first | rfl | simp), (HB0.out.trs h11).trs h10⟩
          · rw [hde, valT_ok rfl] at H10
            have v1 : wrap64 (b - a) = b - a := IntWalk.wrap64_in _ (by omega)
            have v2 : wrap64 (b - a - dm) = b - a - dm := IntWalk.wrap64_in _ (by omega)
            have v3 : IntKind.i64.wrap (b - a) = b - a := IntWalk.i64_in _ (by omega)
            have v4 : IntKind.i64.wrap (b - a - dm) = b - a - dm := IntWalk.i64_in _ (by omega)
            have v5 : decide (sl ≤ b - a - dm) = true := by rw [decide_eq_true_eq]; exact r4
            rcases HDV.out with rfl | ⟨rfl, -⟩ | rfl
            all_goals
              clear HDV HSV HOV HUN HIF hde
              go_enter Try.func10, Try.ntmps10
              go_wp2_with (first
                | (go_at_call 14; refine (Long_any _ _ _ _).mono ?_; rintro e w' ⟨rfl, rfl⟩; rw [HW0.out])
                | (go_at_call 22; refine HV.out.mono ?_; rintro e w1 ⟨rfl, h1⟩)
                | (go_at_call 24; refine (H1.out _ h1).mono ?_; rintro e w2 ⟨rfl, h2⟩; have h2 := h1.trs h2)
                | (go_at_call 31; refine (H2.out _ h2).mono ?_; rintro e w3 ⟨A3, c3, rfl, h3, hr3⟩; have h3 := h2.trs h3)
                | (have := w7; go_at_call 47; refine (H8.out _ h7).mono ?_; rintro e w8 ⟨rfl, h8⟩; have h8 := h7.trs h8; obtain ⟨g0, g1⟩ := HCE.out _ h8)
                | (go_at_call 47; refine (H3.out _ _ _ h3 hr3).mono ?_; rintro e w4 ⟨rfl, h4⟩; have h4 := h3.trs h4)
                | (go_at_call 18; refine (H4.out _ h4).mono ?_; rintro e w5 ⟨rfl, h5⟩; have h5 := h4.trs h5)
                | (go_at_call 20; refine (H5.out _ h5).mono ?_; rintro e w6 ⟨rfl, h6⟩; have h6 := h5.trs h6)
                | (go_at_call 37; refine (H6.out _ h6).mono ?_; rintro e w7 ⟨A7, c7, rfl, h7⟩; have h7 := h6.trs h7)
                | (have := w8; go_at_call 25; refine (H9.out _ h8).mono ?_; rintro e w9 ⟨rfl, h9⟩; have h9 := h8.trs h9; obtain ⟨f0, f1⟩ := HCE.out _ h9)
                | (go_at_call 16; refine (H10.out _ h9).mono ?_; rintro e w11 ⟨rfl, h11⟩; have h11 := h9.trs h11; obtain ⟨e0, e1⟩ := HCE.out _ h11)
                | (go_at_call 15; refine (Sane_any _).mono ?_; rintro e w10 ⟨rfl, h10⟩))
              go_ret
              exact ⟨ret_bool (by first | rfl | simp), (HB0.out.trs h11).trs h10⟩
          · omega
        · have hdsl : decide (0 ≤ sl) = false := by rw [decide_eq_false_iff_not]; omega
          rw [hdsl] at H1 H3
          have hu0 : u ≠ 0 := fun h => by have := HUN.out.1 h; omega
          have hu : ((u : Int) == 0) = false := by rw [beq_eq_false_iff_ne]; omega
          have HI7 := Lib.hid (fun W (hW : Below W0.heap.size W0 W) => H7.out W x y hW)
          rw [HIF.out x y q1 q2 q3 q4] at HI7
          clear hu0
          rcases HDV.out with rfl | ⟨-, r9⟩ | rfl
          · rcases HSV.out with ⟨rfl, hde⟩ | ⟨hde, r1, r2, r3, r4, hiv⟩
            · rw [hde, valT_no (by decide)] at H10
              clear HDV HSV HOV HUN HIF hde
              go_enter Try.func10, Try.ntmps10
              go_wp2_with (first
                | (go_at_call 14; refine (Long_any _ _ _ _).mono ?_; rintro e w' ⟨rfl, rfl⟩; rw [HW0.out])
                | (go_at_call 22; refine HV.out.mono ?_; rintro e w1 ⟨rfl, h1⟩)
                | (go_at_call 24; refine (H1.out _ h1).mono ?_; rintro e w2 ⟨rfl, h2⟩; have h2 := h1.trs h2)
                | (go_at_call 31; refine (H2.out _ h2).mono ?_; rintro e w3 ⟨A3, c3, rfl, h3, hr3⟩; have h3 := h2.trs h3)
                | (have := w7; go_at_call 47; refine (H8.out _ h70).mono ?_; rintro e w8 ⟨rfl, h8⟩; have h8 := h70.trs h8; obtain ⟨g0, g1⟩ := HCE.out _ h8)
                | (go_at_call 47; refine (H3.out _ _ _ h3 hr3).mono ?_; rintro e w4 ⟨rfl, h4⟩; have h4 := h3.trs h4)
                | (go_at_call 18; refine (H4.out _ h4).mono ?_; rintro e w5 ⟨rfl, h5⟩; have h5 := h4.trs h5)
                | (go_at_call 20; refine (H5.out _ h5).mono ?_; rintro e w6 ⟨rfl, h6⟩; have h6 := h5.trs h6)
                | (go_at_call 37; refine (H6.out _ h6).mono ?_; rintro e w7 ⟨A7, c7, rfl, h7⟩; have h7 := h6.trs h7)
                | (have := w8; go_at_call 25; refine (H9.out _ h8).mono ?_; rintro e w9 ⟨rfl, h9⟩; have h9 := h8.trs h9; obtain ⟨f0, f1⟩ := HCE.out _ h9)
                | (go_at_call 25; refine (HI7.out _ h7).mono ?_; rintro e w70 ⟨rfl, h70⟩; have h70 := h7.trs h70)
                | (go_at_call 16; refine (H10.out _ h9).mono ?_; rintro e w11 ⟨rfl, h11⟩; have h11 := h9.trs h11; obtain ⟨e0, e1⟩ := HCE.out _ h11)
                | (go_at_call 15; refine (Sane_any _).mono ?_; rintro e w10 ⟨rfl, h10⟩))
              go_ret
              exact ⟨ret_bool (by first | rfl | simp), (HB0.out.trs h11).trs h10⟩
            · rw [hde, valT_ok rfl] at H10
              have v1 : wrap64 (b - a) = b - a := IntWalk.wrap64_in _ (by omega)
              have v2 : wrap64 (b - a - dm) = b - a - dm := IntWalk.wrap64_in _ (by omega)
              have v3 : IntKind.i64.wrap (b - a) = b - a := IntWalk.i64_in _ (by omega)
              have v4 : IntKind.i64.wrap (b - a - dm) = b - a - dm := IntWalk.i64_in _ (by omega)
              have v5 : decide (sl ≤ b - a - dm) = true := by rw [decide_eq_true_eq]; exact r4
              rcases hiv with rfl | ⟨rfl, -⟩
              all_goals
                clear HDV HSV HOV HUN HIF hde
                go_enter Try.func10, Try.ntmps10
                go_wp2_with (first
                  | (go_at_call 14; refine (Long_any _ _ _ _).mono ?_; rintro e w' ⟨rfl, rfl⟩; rw [HW0.out])
                  | (go_at_call 22; refine HV.out.mono ?_; rintro e w1 ⟨rfl, h1⟩)
                  | (go_at_call 24; refine (H1.out _ h1).mono ?_; rintro e w2 ⟨rfl, h2⟩; have h2 := h1.trs h2)
                  | (go_at_call 31; refine (H2.out _ h2).mono ?_; rintro e w3 ⟨A3, c3, rfl, h3, hr3⟩; have h3 := h2.trs h3)
                  | (have := w7; go_at_call 47; refine (H8.out _ h70).mono ?_; rintro e w8 ⟨rfl, h8⟩; have h8 := h70.trs h8; obtain ⟨g0, g1⟩ := HCE.out _ h8)
                  | (go_at_call 47; refine (H3.out _ _ _ h3 hr3).mono ?_; rintro e w4 ⟨rfl, h4⟩; have h4 := h3.trs h4)
                  | (go_at_call 18; refine (H4.out _ h4).mono ?_; rintro e w5 ⟨rfl, h5⟩; have h5 := h4.trs h5)
                  | (go_at_call 20; refine (H5.out _ h5).mono ?_; rintro e w6 ⟨rfl, h6⟩; have h6 := h5.trs h6)
                  | (go_at_call 37; refine (H6.out _ h6).mono ?_; rintro e w7 ⟨A7, c7, rfl, h7⟩; have h7 := h6.trs h7)
                  | (have := w8; go_at_call 25; refine (H9.out _ h8).mono ?_; rintro e w9 ⟨rfl, h9⟩; have h9 := h8.trs h9; obtain ⟨f0, f1⟩ := HCE.out _ h9)
                  | (go_at_call 25; refine (HI7.out _ h7).mono ?_; rintro e w70 ⟨rfl, h70⟩; have h70 := h7.trs h70)
                  | (go_at_call 16; refine (H10.out _ h9).mono ?_; rintro e w11 ⟨rfl, h11⟩; have h11 := h9.trs h11; obtain ⟨e0, e1⟩ := HCE.out _ h11)
                  | (go_at_call 15; refine (Sane_any _).mono ?_; rintro e w10 ⟨rfl, h10⟩))
                go_ret
                exact ⟨ret_bool (by first | rfl | simp), (HB0.out.trs h11).trs h10⟩
          · omega
          · rcases HSV.out with ⟨rfl, hde⟩ | ⟨hde, r1, r2, r3, r4, hiv⟩
            · rw [hde, valT_no (by decide)] at H10
              clear HDV HSV HOV HUN HIF hde
              go_enter Try.func10, Try.ntmps10
              go_wp2_with (first
                | (go_at_call 14; refine (Long_any _ _ _ _).mono ?_; rintro e w' ⟨rfl, rfl⟩; rw [HW0.out])
                | (go_at_call 22; refine HV.out.mono ?_; rintro e w1 ⟨rfl, h1⟩)
                | (go_at_call 24; refine (H1.out _ h1).mono ?_; rintro e w2 ⟨rfl, h2⟩; have h2 := h1.trs h2)
                | (go_at_call 31; refine (H2.out _ h2).mono ?_; rintro e w3 ⟨A3, c3, rfl, h3, hr3⟩; have h3 := h2.trs h3)
                | (have := w7; go_at_call 47; refine (H8.out _ h70).mono ?_; rintro e w8 ⟨rfl, h8⟩; have h8 := h70.trs h8; obtain ⟨g0, g1⟩ := HCE.out _ h8)
                | (go_at_call 47; refine (H3.out _ _ _ h3 hr3).mono ?_; rintro e w4 ⟨rfl, h4⟩; have h4 := h3.trs h4)
                | (go_at_call 18; refine (H4.out _ h4).mono ?_; rintro e w5 ⟨rfl, h5⟩; have h5 := h4.trs h5)
                | (go_at_call 20; refine (H5.out _ h5).mono ?_; rintro e w6 ⟨rfl, h6⟩; have h6 := h5.trs h6)
                | (go_at_call 37; refine (H6.out _ h6).mono ?_; rintro e w7 ⟨A7, c7, rfl, h7⟩; have h7 := h6.trs h7)
                | (have := w8; go_at_call 25; refine (H9.out _ h8).mono ?_; rintro e w9 ⟨rfl, h9⟩; have h9 := h8.trs h9; obtain ⟨f0, f1⟩ := HCE.out _ h9)
                | (go_at_call 25; refine (HI7.out _ h7).mono ?_; rintro e w70 ⟨rfl, h70⟩; have h70 := h7.trs h70)
                | (go_at_call 16; refine (H10.out _ h9).mono ?_; rintro e w11 ⟨rfl, h11⟩; have h11 := h9.trs h11; obtain ⟨e0, e1⟩ := HCE.out _ h11)
                | (go_at_call 15; refine (Sane_any _).mono ?_; rintro e w10 ⟨rfl, h10⟩))
              go_ret
              exact ⟨ret_bool (by first | rfl | simp), (HB0.out.trs h11).trs h10⟩
            · rw [hde, valT_ok rfl] at H10
              have v1 : wrap64 (b - a) = b - a := IntWalk.wrap64_in _ (by omega)
              have v2 : wrap64 (b - a - dm) = b - a - dm := IntWalk.wrap64_in _ (by omega)
              have v3 : IntKind.i64.wrap (b - a) = b - a := IntWalk.i64_in _ (by omega)
              have v4 : IntKind.i64.wrap (b - a - dm) = b - a - dm := IntWalk.i64_in _ (by omega)
              have v5 : decide (sl ≤ b - a - dm) = true := by rw [decide_eq_true_eq]; exact r4
              rcases hiv with rfl | ⟨rfl, -⟩
              all_goals
                clear HDV HSV HOV HUN HIF hde
                go_enter Try.func10, Try.ntmps10
                go_wp2_with (first
                  | (go_at_call 14; refine (Long_any _ _ _ _).mono ?_; rintro e w' ⟨rfl, rfl⟩; rw [HW0.out])
                  | (go_at_call 22; refine HV.out.mono ?_; rintro e w1 ⟨rfl, h1⟩)
                  | (go_at_call 24; refine (H1.out _ h1).mono ?_; rintro e w2 ⟨rfl, h2⟩; have h2 := h1.trs h2)
                  | (go_at_call 31; refine (H2.out _ h2).mono ?_; rintro e w3 ⟨A3, c3, rfl, h3, hr3⟩; have h3 := h2.trs h3)
                  | (have := w7; go_at_call 47; refine (H8.out _ h70).mono ?_; rintro e w8 ⟨rfl, h8⟩; have h8 := h70.trs h8; obtain ⟨g0, g1⟩ := HCE.out _ h8)
                  | (go_at_call 47; refine (H3.out _ _ _ h3 hr3).mono ?_; rintro e w4 ⟨rfl, h4⟩; have h4 := h3.trs h4)
                  | (go_at_call 18; refine (H4.out _ h4).mono ?_; rintro e w5 ⟨rfl, h5⟩; have h5 := h4.trs h5)
                  | (go_at_call 20; refine (H5.out _ h5).mono ?_; rintro e w6 ⟨rfl, h6⟩; have h6 := h5.trs h6)
                  | (go_at_call 37; refine (H6.out _ h6).mono ?_; rintro e w7 ⟨A7, c7, rfl, h7⟩; have h7 := h6.trs h7)
                  | (have := w8; go_at_call 25; refine (H9.out _ h8).mono ?_; rintro e w9 ⟨rfl, h9⟩; have h9 := h8.trs h9; obtain ⟨f0, f1⟩ := HCE.out _ h9)
                  | (go_at_call 25; refine (HI7.out _ h7).mono ?_; rintro e w70 ⟨rfl, h70⟩; have h70 := h7.trs h70)
                  | (go_at_call 16; refine (H10.out _ h9).mono ?_; rintro e w11 ⟨rfl, h11⟩; have h11 := h9.trs h11; obtain ⟨e0, e1⟩ := HCE.out _ h11)
                  | (go_at_call 15; refine (Sane_any _).mono ?_; rintro e w10 ⟨rfl, h10⟩))
                go_ret
                exact ⟨ret_bool (by first | rfl | simp), (HB0.out.trs h11).trs h10⟩
      · have hd2 : decide ((300 : Int) < p.length) = true := by simp; omega
        generalize L.length = n at *
        generalize p.length = m at *
        go_enter Try.func10, Try.ntmps10
        go_wp2_with (first
          | (go_at_call 14; refine (Long_any _ _ _ _).mono ?_; rintro e w' ⟨rfl, rfl⟩)
          | (go_at_call 22; refine HV.out.mono ?_; rintro e w1 ⟨rfl, h1⟩)
          | (go_at_call 15; refine (Sane_any _).mono ?_; rintro e w10 ⟨rfl, h10⟩))
        go_ret
        exact ⟨rfl, (HB0.out.trs h1).trs h10⟩
  · have hd : decide ((40 : Int) < L.length) = true := by simp; omega
    go_enter Try.func10, Try.ntmps10
    go_wp2_with (first
      | (go_at_call 14; refine (Long_any _ _ _ _).mono ?_; rintro e w' ⟨rfl, rfl⟩)
      | (go_at_call 15; refine (Sane_any _).mono ?_; rintro e w10 ⟨rfl, h10⟩))
    go_ret
    exact ⟨rfl, HB0.out.trs h10⟩
end Go.Proofs.Ytdafiblnanpiiaa
