/- The walk of the law TopSky. -/
import Derived.Test.YtgbpmleipdecgaaTopSky1
import Derived.Test.YtgbpmleipdecgaaSkyBa
import Derived.Test.YtgbpmleipdecgaaSkyThereW
import Derived.OpenShut
namespace Go.Proofs.Ytgbpmleipdecgaa
open Go.RowKit
set_option linter.unusedSimpArgs false
set_option linter.unusedVariables false

set_option maxRecDepth 100000 in
set_option maxHeartbeats 8000000 in
theorem TopSky_gen (w : World) (A : Option Addr) (c : Nat) (l : List (Int × Int)) (hr : RdP w w.heap.size A l) (A2 : Option Addr) (c2 : Nat) (m : List (Int × Int)) (hr2 : RdP w w.heap.size A2 m) (hl : l.length ≤ 1000) (hm : m.length ≤ 1000)
    (hv : vldC l = true) (hv2 : vldC m = true) (x0 x1 x2 : Int) (b0 : 0 ≤ x0 ∧ x0 < 65536) (b1 : 0 ≤ x1 ∧ x1 < 65536) (b2 : 0 ≤ x2 ∧ x2 < 65536) (pn : Nat) (hp : x0 % 3072 = (pn : Int)) (hpn : pn < 3072)
    (mn mx fr to lo hi : Int) (e1 : (if x2 < x1 then x2 else x1) = mn) (e2 : (if x1 < x2 then x2 else x1) = mx) (e3 : 1 + mn % 63 = fr) (e4 : 1 + mx % 63 = to) (e5 : (if to < fr then to else fr) = lo) (e6 : (if fr < to then to else fr) = hi) :
    Calls Try.prog 3 #[.slice A l.length c, .slice A2 m.length c2, .agg #[.int .u16 x0, .int .u16 x1, .int .u16 x2]] w fun e w' => e = .returned (.bool true) ∧ Below w.heap.size w w' := by
  have d1 : decide ((1000 : Int) < (l.length : Int)) = false := by rw [decide_eq_false_iff_not]; omega
  have d2 : decide ((1000 : Int) < (m.length : Int)) = false := by rw [decide_eq_false_iff_not]; omega
  have hb0 := below_alloc w (.cells #[.int .u16 x0, .int .u16 x1, .int .u16 x2] 24)
  have hx0 := Box.new w 24 #[.int .u16 x0, .int .u16 x1, .int .u16 x2]
  have HX := Lib.hid (And.intro hx0 hb0)
  have hmn : 0 ≤ mn ∧ mn < 65536 := by rw [← e1]; split <;> omega
  have hmx : 0 ≤ mx ∧ mx < 65536 := by rw [← e2]; split <;> omega
  have hfr : 1 ≤ fr ∧ fr ≤ 63 := by omega
  have hto : 1 ≤ to ∧ to ≤ 63 := by omega
  have hlo : 1 ≤ lo ∧ lo ≤ hi ∧ hi ≤ 63 := by rw [← e5, ← e6]; split <;> split <;> omega
  have s0 : IntKind.i64.wrap x0 = x0 := IntWalk.i64_in _ (by omega)
  have s0' : wrap64 x0 = x0 := IntWalk.wrap64_in _ (by omega)
  have s1 : IntKind.i64.wrap mn = mn := IntWalk.i64_in _ (by omega)
  have s1' : wrap64 mn = mn := IntWalk.wrap64_in _ (by omega)
  have s2 : IntKind.i64.wrap mx = mx := IntWalk.i64_in _ (by omega)
  have s2' : wrap64 mx = mx := IntWalk.wrap64_in _ (by omega)
  have n0 : x0.tmod 3072 = (pn : Int) := by rw [Int.tmod_eq_emod_of_nonneg b0.1]; exact hp
  obtain ⟨am, ham⟩ : ∃ am, mn % 63 = am := ⟨_, rfl⟩
  obtain ⟨bm, hbm⟩ : ∃ bm, mx % 63 = bm := ⟨_, rfl⟩
  have n1 : mn.tmod 63 = am := by rw [Int.tmod_eq_emod_of_nonneg hmn.1]; exact ham
  have n2 : mx.tmod 63 = bm := by rw [Int.tmod_eq_emod_of_nonneg hmx.1]; exact hbm
  rw [ham] at e3
  rw [hbm] at e4
  have v0 : IntKind.i64.wrap ((pn : Nat) : Int) = (pn : Int) := IntWalk.i64_in _ (by omega)
  have v1 : IntKind.i64.wrap am = am := IntWalk.i64_in _ (by omega)
  have v2 : IntKind.i64.wrap bm = bm := IntWalk.i64_in _ (by omega)
  have v3 : IntKind.i64.wrap (1 + am) = fr := by rw [IntWalk.i64_in _ (by omega)]; exact e3
  have v4 : IntKind.i64.wrap (1 + bm) = to := by rw [IntWalk.i64_in _ (by omega)]; exact e4
  have v3' : wrap64 (1 + am) = fr := by rw [IntWalk.wrap64_in _ (by omega)]; exact e3
  have v4' : wrap64 (1 + bm) = to := by rw [IntWalk.wrap64_in _ (by omega)]; exact e4
  have V1 := Lib.hid (fun W (hW : Below w.heap.size w W) => refValid_any A c l W (hr.on hW) (by omega))
  have V2 := Lib.hid (fun W (hW : Below w.heap.size w W) => refValid_any A2 c2 m W (hr2.on hW) (by omega))
  rw [hv] at V1
  rw [hv2] at V2
  have hpa := okP_four hpn
  have hn := rgN_bounds hpa
  have hpn2 : okP 4 (rgN 4 pn) = true := by unfold okP; rw [btw_iff.2 ⟨hn.1, by omega⟩]; rfl
  obtain ⟨hnk, hnst⟩ := nst_back hpa
  have hfrm := frm_eq hpa rfl
  have HRi : Hid (∀ W, Calls Try.prog 7 #[.int .i64 4, .int .i64 pn] W fun e w' => e = .returned (.tuple #[.int .i64 (rgN 4 pn), .int .i64 0]) ∧ Below W.heap.size W w') := Lib.hid (fun W => by have := Ring_any 4 pn W; rw [RingV, hpa] at this; exact this)
  have HFr : Hid (∀ W, Calls Try.prog 8 #[.int .i64 4, .int .i64 (rgN 4 pn)] W fun e w' => e = .returned (.tuple #[.int .i64 pn, .int .i64 0]) ∧ Below W.heap.size W w') := Lib.hid (fun W => by have := FromRing_any 4 (rgN 4 pn) W; rw [FrmV, hpn2, hfrm] at this; exact this)
  have HPl : Hid (∀ W, Calls Try.prog 9 #[.int .i64 4, .int .i64 pn] W fun e w' => e = .returned (.tuple #[.int .i64 (fF 4 pn), .int .i64 (fX 4 pn), .int .i64 (fY 4 pn), .int .i64 0]) ∧ Below W.heap.size W w') := Lib.hid (fun W => by have := Place_any 4 pn W; rw [PlaceV, hpa] at this; exact this)
  have HNe : Hid (∀ W, Calls Try.prog 10 #[.int .i64 4, .int .i64 (fF 4 pn), .int .i64 (fX 4 pn), .int .i64 (fY 4 pn)] W fun e w' => e = .returned (.tuple #[.int .i64 pn, .int .i64 0]) ∧ Below W.heap.size W w') := Lib.hid (fun W => by have := Nested_any 4 (fF 4 pn) (fX 4 pn) (fY 4 pn) W; rw [NstV, hnk, hnst] at this; exact this)
  have HRo : Hid (∀ W, Calls Try.prog 11 #[.int .i64 4, .int .i64 pn] W fun e w' => e = .returned (.tuple #[.int .i64 (pR 4 pn), .int .i64 (pP 4 pn), .int .i64 0]) ∧ Below W.heap.size W w') := Lib.hid (fun W => by have := RingOf_any 4 pn W; rw [RingOfV, hpa] at this; exact this)
  have hok : okBand lo hi = true := by unfold okBand btw; simp; omega
  have HRg := Lib.hid (fun W => Rings_any lo hi W)
  have hre : ringsE lo hi = toldE (bandP lo hi) := by unfold ringsE; rw [hok]; rfl
  have hrl : ringsL lo hi = toldL (bandP lo hi) := by unfold ringsL; rw [hok]; rfl
  have hor := told_or (bandP lo hi)
  rw [← hre, ← hrl] at hor
  have hlen : (ringsL lo hi).length ≤ 400 := by rw [hrl]; exact toldL_len _
  have HBd : Hid (ringsE lo hi = 0 → ∀ A c W, RdP W W.heap.size A (ringsL lo hi) → Calls Try.prog 13 #[.slice A (ringsL lo hi).length c, .agg #[.int .i64 4, .int .i64 pn]] W fun e w' => e = .returned (.tuple #[.bool (btw lo (pR 4 pn) hi), .int .i64 0]) ∧ Below W.heap.size W w') := Lib.hid (fun h0 A c W h => by
    have := Has_any A c (ringsL lo hi) 4 pn W h (by omega)
    rcases hor with ⟨-, -, h3, h4⟩ | ⟨h3, -⟩
    · obtain ⟨f1, f2⟩ := has_four hpn h3
      rw [f1, f2, h4 pn hpn] at this
      exact this
    · omega)
  have hE : ringsE lo hi = 0 ∨ ringsE lo hi = 4 := by
    rcases hor with ⟨h, -⟩ | ⟨h, -⟩
    · exact .inl h
    · exact .inr h
  have HHl := Lib.hid (fun W (hW : Below w.heap.size w W) => Has_any A c l 4 pn W (hr.on hW) (by omega))
  have HHm := Lib.hid (fun W (hW : Below w.heap.size w W) => Has_any A2 c2 m 4 pn W (hr2.on hW) (by omega))
  rw [(has_four hpn hv).1, (has_four hpn hv).2] at HHl
  rw [(has_four hpn hv2).1, (has_four hpn hv2).2] at HHm
  have K1 := Lib.hid (fun W (hW : Below w.heap.size w W) => Join_any A c l A2 c2 m W (hr.on hW) (by omega) (hr2.on hW) (by omega))
  have K2 := Lib.hid (fun W (hW : Below w.heap.size w W) => Both_any A c l A2 c2 m W (hr.on hW) (by omega) (hr2.on hW) (by omega))
  have K3 := Lib.hid (fun W (hW : Below w.heap.size w W) => Without_any A c l A2 c2 m W (hr.on hW) (by omega) (hr2.on hW) (by omega))
  have K4 := Lib.hid (fun W (hW : Below w.heap.size w W) => Rest_any A c l W (hr.on hW) (by omega))
  rw [(mix_ok hv hv2 (joinR l m)).1, (mix_ok hv hv2 (joinR l m)).2] at K1
  rw [(mix_ok hv hv2 (bothR l m)).1, (mix_ok hv hv2 (bothR l m)).2] at K2
  rw [(mix_ok hv hv2 (lessR l m)).1, (mix_ok hv hv2 (lessR l m)).2] at K3
  rw [(mix_ok sky_valid hv (lessR skyL l)).1, (mix_ok sky_valid hv (lessR skyL l)).2] at K4
  have G1 : HoldR (toldL (joinR l m)) (toldE (joinR l m)) pn (uniP l pn || uniP m pn) := hold_told (joinR l m) hpn
  have G2 : HoldR (toldL (bothR l m)) (toldE (bothR l m)) pn (uniP l pn && uniP m pn) := hold_told (bothR l m) hpn
  have G3 : HoldR (toldL (lessR l m)) (toldE (lessR l m)) pn (uniP l pn && !(uniP m pn)) := hold_told (lessR l m) hpn
  have G4 : HoldR (toldL (lessR skyL l)) (toldE (lessR skyL l)) pn (!(uniP l pn)) := by
    have := hold_told (lessR skyL l) hpn
    rwa [show lessR skyL l pn = !(uniP l pn) by unfold lessR; rw [sky_uni hpn, Bool.true_and]] at this
  have H1 := Lib.hid (fun A c W h => holds_any A c _ _ pn _ W h hpn G1)
  have H2 := Lib.hid (fun A c W h => holds_any A c _ _ pn _ W h hpn G2)
  have H3 := Lib.hid (fun A c W h => holds_any A c _ _ pn _ W h hpn G3)
  have H4 := Lib.hid (fun A c W h => holds_any A c _ _ pn _ W h hpn G4)
  unfold LstQ at *
  clear hr hr2 hl hm hv hv2 b0 b1 b2 hp hpn e3 e4 hmn hmx hfr hto hlo ham hbm hpa hn hpn2 hnk hnst hfrm hok hre hrl hor hlen G1 G2 G3 G4 hb0 hx0
  generalize toldL (joinR l m) = J1 at *
  generalize toldE (joinR l m) = E1 at *
  generalize toldL (bothR l m) = J2 at *
  generalize toldE (bothR l m) = E2 at *
  generalize toldL (lessR l m) = J3 at *
  generalize toldE (lessR l m) = E3 at *
  generalize toldL (lessR skyL l) = J4 at *
  generalize toldE (lessR skyL l) = E4 at *
  generalize uniP l pn = ul at *
  generalize uniP m pn = um at *
  generalize ringsL lo hi = RL at *
  generalize ringsE lo hi = RE at *
  generalize rgN 4 (pn : Int) = rn at *
  generalize fF 4 (pn : Int) = F at *
  generalize fX 4 (pn : Int) = X at *
  generalize fY 4 (pn : Int) = Y at *
  generalize pR 4 (pn : Int) = R at *
  generalize pP 4 (pn : Int) = P at *
  generalize (pn : Int) = p at *
  generalize l.length = nl at *
  generalize m.length = nm at *
  generalize J1.length = j1 at *
  generalize J2.length = j2 at *
  generalize J3.length = j3 at *
  generalize J4.length = j4 at *
  generalize RL.length = rl at *
  go_enter Try.func3, Try.ntmps3
  go_upto_region 1 with (fail)
  generalize hW0 : w.alloc (.cells #[.int .u16 x0, .int .u16 x1, .int .u16 x2] 24) = W0 at *
  clear hW0
  go_upto_region 11 with (first
    | (go_at_call 4; refine (Long_any _ _ _ _ _).mono ?_; rintro e w' ⟨rfl, rfl⟩; first | rw [d1] | rw [d2])
    | (go_at_call 5; have hy := ga; refine (V2.out _ (HX.out.2.trs ga)).mono ?_; rintro e wb ⟨rfl, hb⟩; have g0 := ga.trs hb; have hbx := HX.out.1.on g0; have q0 := hbx.cell 0; have q1 := hbx.cell 1; have q2 := hbx.cell 2; simp at q0 q1 q2)
    | (go_at_call 5; refine (V1.out _ HX.out.2).mono ?_; rintro e wa ⟨rfl, ga⟩)
    | (go_at_call 7; refine (HRi.out _).mono ?_; rintro e w1 ⟨rfl, h1⟩; have g1 := g0.trs h1)
    | (go_at_call 8; refine (HFr.out _).mono ?_; rintro e w2 ⟨rfl, h2⟩; have g2 := g1.trs h2)
    | (go_at_call 9; refine (HPl.out _).mono ?_; rintro e w3 ⟨rfl, h3⟩; have g3 := g2.trs h3)
    | (go_at_call 10; refine (HNe.out _).mono ?_; rintro e w4 ⟨rfl, h4⟩; have g4 := g3.trs h4)
    | (go_at_call 11; refine (HRo.out _).mono ?_; rintro e w5 ⟨rfl, h5⟩; have g5 := g4.trs h5))
  have hcl := Box.new w5 37 #[.int .i64 4, .int .i64 p]
  have hbc := below_alloc w5 (.cells #[.int .i64 4, .int .i64 p] 37)
  have hxx := (HX.out.1.on g5).on hbc
  have hgc : w.heap.size < w5.heap.size := (HX.out.1.on g5).lt
  have HW5 := Lib.hid ((HX.out.2.trs g5).trs hbc)
  clear ga hy hb g0 hbx q0 q1 q2 h1 g1 h2 g2 h3 g3 h4 g4 h5 g5 hbc
  go_upto_region 12 with (fail)
  generalize hwc : w5.alloc (.cells #[.int .i64 4, .int .i64 p] 37) = wc at *
  clear hwc
  generalize w5.heap.size = gc at *
  have q0 := hxx.cell 0
  have q1 := hxx.cell 1
  have q2 := hxx.cell 2
  simp at q0 q1 q2
  have HCL := Lib.hid hcl
  clear hxx hcl
  go_quiet (fail)
  have HQ := Lib.hid (And.intro (HW5.out.drewsN nq) (HCL.out.on ((Below.refl _ _).drewsN nq)))
  clear HW5 HCL
  generalize wc.drewN nq = wq at *
  clear q0 q1 q2 wc
  have k0 := HQ.out.2.cell 0
  have k1 := HQ.out.2.cell 1
  simp at k0 k1
  rcases hE with rfl | rfl
  · have HBA := Lib.hid (HBd.out rfl)
    have hcs : (btw lo R hi = true ∧ decide (lo ≤ R) = true ∧ ¬ R < lo ∧ decide (R ≤ hi) = true ∧ ¬ hi < R) ∨ (btw lo R hi = false ∧ decide (lo ≤ R) = false ∧ R < lo) ∨ (btw lo R hi = false ∧ decide (lo ≤ R) = true ∧ ¬ R < lo ∧ decide (R ≤ hi) = false ∧ hi < R) := by
      unfold btw
      by_cases h1 : lo ≤ R
      · by_cases h2 : R ≤ hi
        · left; simp [h1, h2]
        · right; right; simp [h1, h2]; omega
      · right; left; simp [h1]; omega
    clear HBd
    rcases hcs with ⟨hbt, f1', f2', f3', f4'⟩ | ⟨hbt, f1', f2'⟩ | ⟨hbt, f1', f2', f3', f4'⟩
    all_goals
      have HBB := HBA.out
      rw [hbt] at HBB
      replace HBB := Lib.hid HBB
      clear HBA hbt
      go_upto_region 29 with (first | (go_at_call 17; have hy := f11; refine (K4.out _ (HQ.out.1.trs f11)).mono ?_; rintro e w12 ⟨h12, A12, c12, rfl, r12⟩; have f12 := f11.trs h12; have r9 := r9.on h12; have r10 := r10.on h12; have r11 := r11.on h12; have hbx := HQ.out.2.on f12; have k0 := hbx.cell 0; have k1 := hbx.cell 1; simp at k0 k1) | (go_at_call 16; have hy := f10; refine (K3.out _ (HQ.out.1.trs f10)).mono ?_; rintro e w11 ⟨h11, A11, c11, rfl, r11⟩; have f11 := f10.trs h11; have r9 := r9.on h11; have r10 := r10.on h11; have hbx := HQ.out.2.on f11; have k0 := hbx.cell 0; have k1 := hbx.cell 1; simp at k0 k1) | (go_at_call 15; have hy := f9; refine (K2.out _ (HQ.out.1.trs f9)).mono ?_; rintro e w10 ⟨h10, A10, c10, rfl, r10⟩; have f10 := f9.trs h10; have r9 := r9.on h10; have hbx := HQ.out.2.on f10; have k0 := hbx.cell 0; have k1 := hbx.cell 1; simp at k0 k1) | (go_at_call 14; have hy := f8; refine (K1.out _ (HQ.out.1.trs f8)).mono ?_; rintro e w9 ⟨h9, A9, c9, rfl, r9⟩; have f9 := f8.trs h9; have hbx := HQ.out.2.on f9; have k0 := hbx.cell 0; have k1 := hbx.cell 1; simp at k0 k1) | (go_at_call 13; have hy := f7; refine (HHm.out _ (HQ.out.1.trs f7)).mono ?_; rintro e w8 ⟨rfl, h8⟩; have f8 := f7.trs h8; have hbx := HQ.out.2.on f8; have k0 := hbx.cell 0; have k1 := hbx.cell 1; simp at k0 k1) | (go_at_call 13; have hy := f6; refine (HHl.out _ (HQ.out.1.trs f6)).mono ?_; rintro e w7 ⟨rfl, h7⟩; have f7 := f6.trs h7; have hbx := HQ.out.2.on f7; have k0 := hbx.cell 0; have k1 := hbx.cell 1; simp at k0 k1) | (go_at_call 13; have hy := f1; refine (HBB.out _ _ _ r1).mono ?_; rintro e w6 ⟨rfl, h6⟩; have f6 := f1.trs h6; have hbx := HQ.out.2.on f6; have k0 := hbx.cell 0; have k1 := hbx.cell 1; simp at k0 k1) | (go_at_call 12; refine (HRg.out _).mono ?_; rintro e w1 ⟨h1, A1, c1, rfl, r1⟩; have f1 := h1; have hbx := HQ.out.2.on f1; have k0 := hbx.cell 0; have k1 := hbx.cell 1; simp at k0 k1))
      clear h1 h6 h7 h8 h9 h10 h11 h12
      cases ul <;> cases um
      all_goals
        go_wp2_with (first | (go_at_call 18; have hy := f15; refine (H4.out _ _ _ r12).mono ?_; rintro e w16 ⟨rfl, h16⟩; have f16 := f15.trs h16; have hbx := HQ.out.2.on f16; have k0 := hbx.cell 0; have k1 := hbx.cell 1; simp at k0 k1) | (go_at_call 18; have hy := f14; refine (H3.out _ _ _ r11).mono ?_; rintro e w15 ⟨rfl, h15⟩; have f15 := f14.trs h15; have r12 := r12.on h15; have hbx := HQ.out.2.on f15; have k0 := hbx.cell 0; have k1 := hbx.cell 1; simp at k0 k1) | (go_at_call 18; have hy := f13; refine (H2.out _ _ _ r10).mono ?_; rintro e w14 ⟨rfl, h14⟩; have f14 := f13.trs h14; have r11 := r11.on h14; have r12 := r12.on h14; have hbx := HQ.out.2.on f14; have k0 := hbx.cell 0; have k1 := hbx.cell 1; simp at k0 k1) | (go_at_call 18; have hy := f12; refine (H1.out _ _ _ r9).mono ?_; rintro e w13 ⟨rfl, h13⟩; have f13 := f12.trs h13; have r10 := r10.on h13; have r11 := r11.on h13; have r12 := r12.on h13; have hbx := HQ.out.2.on f13; have k0 := hbx.cell 0; have k1 := hbx.cell 1; simp at k0 k1) | (go_at_call 6; refine (Sane_any _).mono ?_; rintro e w18 ⟨rfl, h18⟩))
        go_ret
        exact ⟨by first | rfl | simp, (HQ.out.1.trs f16).trs h18⟩
  · clear HBd
    go_upto_region 29 with (first | (go_at_call 17; have hy := f11; refine (K4.out _ (HQ.out.1.trs f11)).mono ?_; rintro e w12 ⟨h12, A12, c12, rfl, r12⟩; have f12 := f11.trs h12; have r9 := r9.on h12; have r10 := r10.on h12; have r11 := r11.on h12; have hbx := HQ.out.2.on f12; have k0 := hbx.cell 0; have k1 := hbx.cell 1; simp at k0 k1) | (go_at_call 16; have hy := f10; refine (K3.out _ (HQ.out.1.trs f10)).mono ?_; rintro e w11 ⟨h11, A11, c11, rfl, r11⟩; have f11 := f10.trs h11; have r9 := r9.on h11; have r10 := r10.on h11; have hbx := HQ.out.2.on f11; have k0 := hbx.cell 0; have k1 := hbx.cell 1; simp at k0 k1) | (go_at_call 15; have hy := f9; refine (K2.out _ (HQ.out.1.trs f9)).mono ?_; rintro e w10 ⟨h10, A10, c10, rfl, r10⟩; have f10 := f9.trs h10; have r9 := r9.on h10; have hbx := HQ.out.2.on f10; have k0 := hbx.cell 0; have k1 := hbx.cell 1; simp at k0 k1) | (go_at_call 14; have hy := f8; refine (K1.out _ (HQ.out.1.trs f8)).mono ?_; rintro e w9 ⟨h9, A9, c9, rfl, r9⟩; have f9 := f8.trs h9; have hbx := HQ.out.2.on f9; have k0 := hbx.cell 0; have k1 := hbx.cell 1; simp at k0 k1) | (go_at_call 13; have hy := f7; refine (HHm.out _ (HQ.out.1.trs f7)).mono ?_; rintro e w8 ⟨rfl, h8⟩; have f8 := f7.trs h8; have hbx := HQ.out.2.on f8; have k0 := hbx.cell 0; have k1 := hbx.cell 1; simp at k0 k1) | (go_at_call 13; have hy := f6; refine (HHl.out _ (HQ.out.1.trs f6)).mono ?_; rintro e w7 ⟨rfl, h7⟩; have f7 := f6.trs h7; have hbx := HQ.out.2.on f7; have k0 := hbx.cell 0; have k1 := hbx.cell 1; simp at k0 k1) | (go_at_call 12; refine (HRg.out _).mono ?_; rintro e w1 ⟨h1, A1, c1, rfl, r1⟩; have f6 := h1; have hbx := HQ.out.2.on f6; have k0 := hbx.cell 0; have k1 := hbx.cell 1; simp at k0 k1))
    clear h1 h7 h8 h9 h10 h11 h12
    cases ul <;> cases um
    all_goals
      go_wp2_with (first | (go_at_call 18; have hy := f15; refine (H4.out _ _ _ r12).mono ?_; rintro e w16 ⟨rfl, h16⟩; have f16 := f15.trs h16; have hbx := HQ.out.2.on f16; have k0 := hbx.cell 0; have k1 := hbx.cell 1; simp at k0 k1) | (go_at_call 18; have hy := f14; refine (H3.out _ _ _ r11).mono ?_; rintro e w15 ⟨rfl, h15⟩; have f15 := f14.trs h15; have r12 := r12.on h15; have hbx := HQ.out.2.on f15; have k0 := hbx.cell 0; have k1 := hbx.cell 1; simp at k0 k1) | (go_at_call 18; have hy := f13; refine (H2.out _ _ _ r10).mono ?_; rintro e w14 ⟨rfl, h14⟩; have f14 := f13.trs h14; have r11 := r11.on h14; have r12 := r12.on h14; have hbx := HQ.out.2.on f14; have k0 := hbx.cell 0; have k1 := hbx.cell 1; simp at k0 k1) | (go_at_call 18; have hy := f12; refine (H1.out _ _ _ r9).mono ?_; rintro e w13 ⟨rfl, h13⟩; have f13 := f12.trs h13; have r10 := r10.on h13; have r11 := r11.on h13; have r12 := r12.on h13; have hbx := HQ.out.2.on f13; have k0 := hbx.cell 0; have k1 := hbx.cell 1; simp at k0 k1) | (go_at_call 6; refine (Sane_any _).mono ?_; rintro e w18 ⟨rfl, h18⟩))
      go_ret
      exact ⟨by first | rfl | simp, (HQ.out.1.trs f16).trs h18⟩
set_option maxRecDepth 100000 in
set_option maxHeartbeats 4000000 in
theorem TopSky_walk (w : World) (A : Option Addr) (c : Nat) (l : List (Int × Int)) (hr : RdP w w.heap.size A l) (hm : l.length ≤ maxLen) (A2 : Option Addr) (c2 : Nat) (m : List (Int × Int)) (hr2 : RdP w w.heap.size A2 m) (hm2 : m.length ≤ maxLen)
    (x0 x1 x2 : Int) (wx : (Lit.int .u16 x0).wf = true ∧ (Lit.int .u16 x1).wf = true ∧ (Lit.int .u16 x2).wf = true) :
    Calls Try.prog 3 #[.slice A l.length c, .slice A2 m.length c2, .agg #[.int .u16 x0, .int .u16 x1, .int .u16 x2]] w fun e w' => e = .returned (.bool true) ∧ Below w.heap.size w w' := by
  have b0 := bounds_u16 wx.1
  have b1 := bounds_u16 wx.2.1
  have b2 := bounds_u16 wx.2.2
  have HX := Lib.hid (And.intro (Box.new w 24 #[.int .u16 x0, .int .u16 x1, .int .u16 x2]) (below_alloc w (.cells #[.int .u16 x0, .int .u16 x1, .int .u16 x2] 24)))
  by_cases h1 : l.length ≤ 1000
  · have d1 : decide ((1000 : Int) < (l.length : Int)) = false := by rw [decide_eq_false_iff_not]; omega
    by_cases h2 : m.length ≤ 1000
    · have d2 : decide ((1000 : Int) < (m.length : Int)) = false := by rw [decide_eq_false_iff_not]; omega
      cases hv : vldC l
      · have V1 := Lib.hid (fun W (hW : Below w.heap.size w W) => refValid_any A c l W (hr.on hW) (by omega))
        rw [hv] at V1
        clear hr hr2 hm hm2 h1 h2 hv
        generalize l.length = n at *
        generalize m.length = n2 at *
        go_enter Try.func3, Try.ntmps3
        go_upto_region 1 with (fail)
        generalize hW0 : w.alloc (.cells #[.int .u16 x0, .int .u16 x1, .int .u16 x2] 24) = W0 at *
        clear hW0
        go_wp2_with (first
          | (go_at_call 4; refine (Long_any _ _ _ _ _).mono ?_; rintro e w' ⟨rfl, rfl⟩; first | rw [d1] | rw [d2])
          | (go_at_call 5; refine (V1.out _ HX.out.2).mono ?_; rintro e wa ⟨rfl, ga⟩)
          | (go_at_call 6; refine (Sane_any _).mono ?_; rintro e w18 ⟨rfl, h18⟩))
        go_ret
        exact ⟨by first | rfl | simp, (HX.out.2.trs ga).trs h18⟩
      · cases hv2 : vldC m
        · have V1 := Lib.hid (fun W (hW : Below w.heap.size w W) => refValid_any A c l W (hr.on hW) (by omega))
          have V2 := Lib.hid (fun W (hW : Below w.heap.size w W) => refValid_any A2 c2 m W (hr2.on hW) (by omega))
          rw [hv] at V1
          rw [hv2] at V2
          clear hr hr2 hm hm2 h1 h2 hv hv2
          generalize l.length = n at *
          generalize m.length = n2 at *
          go_enter Try.func3, Try.ntmps3
          go_upto_region 1 with (fail)
          generalize hW0 : w.alloc (.cells #[.int .u16 x0, .int .u16 x1, .int .u16 x2] 24) = W0 at *
          clear hW0
          go_wp2_with (first
            | (go_at_call 4; refine (Long_any _ _ _ _ _).mono ?_; rintro e w' ⟨rfl, rfl⟩; first | rw [d1] | rw [d2])
            | (go_at_call 5; have hy := ga; refine (V2.out _ (HX.out.2.trs ga)).mono ?_; rintro e wb ⟨rfl, hb⟩; have g0 := ga.trs hb; have hbx := HX.out.1.on g0; have q0 := hbx.cell 0; have q1 := hbx.cell 1; have q2 := hbx.cell 2; simp at q0 q1 q2)
            | (go_at_call 5; refine (V1.out _ HX.out.2).mono ?_; rintro e wa ⟨rfl, ga⟩)
            | (go_at_call 6; refine (Sane_any _).mono ?_; rintro e w18 ⟨rfl, h18⟩))
          go_ret
          exact ⟨by first | rfl | simp, (HX.out.2.trs g0).trs h18⟩
        · have hp0 := Int.emod_nonneg x0 (show (3072 : Int) ≠ 0 by decide)
          have hp1 := Int.emod_lt_of_pos x0 (show (0 : Int) < 3072 by decide)
          exact TopSky_gen w A c l hr A2 c2 m hr2 h1 h2 hv hv2 x0 x1 x2 ⟨b0.1, by omega⟩ ⟨b1.1, by omega⟩ ⟨b2.1, by omega⟩ (x0 % 3072).toNat (by omega) (by omega) _ _ _ _ _ _ rfl rfl rfl rfl rfl rfl
    · have d2 : decide ((1000 : Int) < (m.length : Int)) = true := by rw [decide_eq_true_eq]; omega
      clear hr hr2 hm hm2 h1 h2
      generalize l.length = n at *
      generalize m.length = n2 at *
      go_enter Try.func3, Try.ntmps3
      go_upto_region 1 with (fail)
      generalize hW0 : w.alloc (.cells #[.int .u16 x0, .int .u16 x1, .int .u16 x2] 24) = W0 at *
      clear hW0
      go_wp2_with (first
        | (go_at_call 4; refine (Long_any _ _ _ _ _).mono ?_; rintro e w' ⟨rfl, rfl⟩; first | rw [d1] | rw [d2])
        | (go_at_call 6; refine (Sane_any _).mono ?_; rintro e w18 ⟨rfl, h18⟩))
      go_ret
      exact ⟨by first | rfl | simp, HX.out.2.trs h18⟩
  · have d1 : decide ((1000 : Int) < (l.length : Int)) = true := by rw [decide_eq_true_eq]; omega
    clear hr hr2 hm hm2 h1
    generalize l.length = n at *
    generalize m.length = n2 at *
    go_enter Try.func3, Try.ntmps3
    go_upto_region 1 with (fail)
    generalize hW0 : w.alloc (.cells #[.int .u16 x0, .int .u16 x1, .int .u16 x2] 24) = W0 at *
    clear hW0
    go_wp2_with (first
      | (go_at_call 4; refine (Long_any _ _ _ _ _).mono ?_; rintro e w' ⟨rfl, rfl⟩; rw [d1])
      | (go_at_call 6; refine (Sane_any _).mono ?_; rintro e w18 ⟨rfl, h18⟩))
    go_ret
    exact ⟨by first | rfl | simp, HX.out.2.trs h18⟩
end Go.Proofs.Ytgbpmleipdecgaa
