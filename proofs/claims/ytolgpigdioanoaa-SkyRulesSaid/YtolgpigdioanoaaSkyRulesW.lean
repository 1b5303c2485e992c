/- The walk of the law SkyRules. -/
import Derived.Test.YtolgpigdioanoaaSkyLa
import Derived.Test.YtolgpigdioanoaaSkySc
import Derived.Test.YtolgpigdioanoaaSkyE
namespace Go.Proofs.Ytolgpigdioanoaa
open Go.RowKit
set_option linter.unusedSimpArgs false
set_option linter.unusedVariables false

set_option maxRecDepth 100000 in
set_option maxHeartbeats 8000000 in
theorem SkyRules_go (w : World) (A : Option Addr) (c : Nat) (l : List (Int × Int)) (hr : RdP w w.heap.size A l) (A2 : Option Addr) (c2 : Nat) (m : List (Int × Int)) (hr2 : RdP w w.heap.size A2 m) (hl : l.length ≤ 1000) (hm : m.length ≤ 1000)
    (hv : vldC l = true) (hv2 : vldC m = true) (J B R : List (Int × Int)) (e g i : Int) (H : RuleR l m J B R e g i) :
    Calls Try.prog 16 #[.slice A l.length c, .slice A2 m.length c2] w fun e w' => e = .returned (.bool true) ∧ Below w.heap.size w w' := by
  have d1 : decide ((1000 : Int) < (l.length : Int)) = false := by rw [decide_eq_false_iff_not]; omega
  have d2 : decide ((1000 : Int) < (m.length : Int)) = false := by rw [decide_eq_false_iff_not]; omega
  obtain ⟨⟨a1, a2, a3, a4⟩, ⟨b1, b2, b3, b4⟩, ⟨q1, q2⟩, lJ, lB, lR, ⟨z1, z2, z3, z4⟩, oe, og, oi, hsum, hrest⟩ := H
  have V1 := Lib.hid (fun W (hW : Below w.heap.size w W) => refValid_any A c l W (hr.on hW) (by omega))
  have V2 := Lib.hid (fun W (hW : Below w.heap.size w W) => refValid_any A2 c2 m W (hr2.on hW) (by omega))
  have K1 := Lib.hid (fun W (hW : Below w.heap.size w W) => Join_any A c l A2 c2 m W (hr.on hW) (by omega) (hr2.on hW) (by omega))
  have K2 := Lib.hid (fun W (hW : Below w.heap.size w W) => Join_any A2 c2 m A c l W (hr2.on hW) (by omega) (hr.on hW) (by omega))
  have B1 := Lib.hid (fun W (hW : Below w.heap.size w W) => Both_any A c l A2 c2 m W (hr.on hW) (by omega) (hr2.on hW) (by omega))
  have B2 := Lib.hid (fun W (hW : Below w.heap.size w W) => Both_any A2 c2 m A c l W (hr2.on hW) (by omega) (hr.on hW) (by omega))
  have Z1 := Lib.hid (fun W (hW : Below w.heap.size w W) => Size_any A c l W (hr.on hW) (by omega))
  have Z2 := Lib.hid (fun W (hW : Below w.heap.size w W) => Size_any A2 c2 m W (hr2.on hW) (by omega))
  have ZJ := Lib.hid (fun A c W (h : RdP W W.heap.size A J) => Size_any A c J W h (by omega))
  have ZB := Lib.hid (fun A c W (h : RdP W W.heap.size A B) => Size_any A c B W h (by omega))
  have ZR := Lib.hid (fun A c W (h : RdP W W.heap.size A R) => Size_any A c R W h (by omega))
  have R1 := Lib.hid (fun W (hW : Below w.heap.size w W) => Rest_any A2 c2 m W (hr2.on hW) (by omega))
  have RR := Lib.hid (fun A c W (h : RdP W W.heap.size A R) => Rest_any A c R W h (by omega))
  have W1 := Lib.hid (fun W (hW : Below w.heap.size w W) => Without_any A c l A2 c2 m W (hr.on hW) (by omega) (hr2.on hW) (by omega))
  have BR := Lib.hid (fun A' c' W (hW : Below w.heap.size w W) (h : RdP W W.heap.size A' R) => Both_any A c l A' c' R W (hr.on hW) (by omega) h (by omega))
  rw [hv] at V1
  rw [hv2] at V2
  rw [a1, a2] at K1
  rw [a3, a4] at K2
  rw [b1, b2] at B1
  rw [b3, b4] at B2
  rw [q1, q2] at R1
  rw [z1] at Z1
  rw [z2] at Z2
  have lW : (mixL l m (lessR l m)).length ≤ 400 := mixL_len _ _ _
  have SJ := Lib.hid (fun A A' c c' W h h' => Same_self A A' c c' J W h h' (by omega))
  have SB := Lib.hid (fun A A' c c' W h h' => Same_self A A' c c' B W h h' (by omega))
  have SW := Lib.hid (fun A A' c c' W h h' => Same_self A A' c c' (mixL l m (lessR l m)) W h h' (by omega))
  have SM := Lib.hid (fun A' c' W (hW : Below w.heap.size w W) h' => Same_self A' A2 c' c2 m W h' (hr2.on hW) (by omega))
  have HS1 := Lib.hid hsum
  have HR1 := Lib.hid hrest
  have HOI := Lib.hid oi
  have HZ : Hid (sizN l ≤ 3072 ∧ sizN m ≤ 3072) := Lib.hid ⟨z3, z4⟩
  clear hr hr2 hl hm hv hv2 a1 a2 a3 a4 b1 b2 b3 b4 q1 q2 lJ lB lR z1 z2 z3 z4 hsum hrest oi lW
  by_cases hi : i = 0
  · obtain ⟨k1, k2, k3, k4, k5, k6⟩ := HR1.out hi
    subst hi
    rw [k1] at ZR
    rw [k3, k4] at RR
    rw [k5, k6] at BR
    unfold LstQ at *
    generalize mixL l m (lessR l m) = LW at *
    generalize mixE l m (lessR l m) = EW at *
    have hk2 : ((sizN m : Nat) : Int) + ((sizN R : Nat) : Int) = 3072 := by omega
    have hk2w : IntKind.i64.wrap (((sizN m : Nat) : Int) + ((sizN R : Nat) : Int)) = 3072 := by rw [hk2]; decide
    have hk2v : wrap64 (((sizN m : Nat) : Int) + ((sizN R : Nat) : Int)) = 3072 := by rw [hk2]; exact IntWalk.wrap64_in _ (by omega)
    have HK2 := Lib.hid hk2
    clear k1 k2 k3 k4 k5 k6 HR1 HOI hk2
    have hcase : (e = 0 ∧ g = 0) ∨ (e = 0 ∧ g = 4) ∨ (e = 4 ∧ g = 0) ∨ (e = 4 ∧ g = 4) := by omega
    rcases hcase with ⟨rfl, rfl⟩ | hcase
    · obtain ⟨p1, p2, p3⟩ := HS1.out rfl rfl
      rw [p1] at ZJ
      rw [p2] at ZB
      have hz := HZ.out
      generalize hs : ((sizN l : Nat) : Int) + ((sizN m : Nat) : Int) = sm at *
      have hs2 : ((sizN J : Nat) : Int) + ((sizN B : Nat) : Int) = sm := by omega
      have hsw : IntKind.i64.wrap sm = sm := IntWalk.i64_in _ (by omega)
      have hsv : wrap64 sm = sm := IntWalk.wrap64_in _ (by omega)
      clear HS1 HZ hz p1 p2 p3 oe og
      generalize ((sizN l : Nat) : Int) = sl at *
      generalize ((sizN m : Nat) : Int) = sn at *
      generalize ((sizN J : Nat) : Int) = sj at *
      generalize ((sizN B : Nat) : Int) = sb at *
      generalize ((sizN R : Nat) : Int) = sr at *
      generalize l.length = nl at *
      generalize m.length = nm at *
      generalize J.length = nj at *
      generalize B.length = nb at *
      generalize R.length = nr at *
      generalize LW.length = nw at *
      go_enter Try.func16, Try.ntmps16
      go_wp2_with (first | (go_at_call 42; refine (Long_any _ _ _ _ _).mono ?_; rintro e w' ⟨rfl, rfl⟩; first | rw [d1] | rw [d2]) | (go_at_call 22; refine (Sane_any _).mono ?_; rintro e w18 ⟨rfl, h18⟩) | (go_at_call 41; have hy := g16; refine (SW.out _ _ _ _ _ r14 r15).mono ?_; rintro e w17 ⟨rfl, h17⟩; have g17 := g16.trs h17) | (go_at_call 41; have hy := g15; refine (SM.out _ _ _ g15 r13).mono ?_; rintro e w16 ⟨rfl, h16⟩; have g16 := g15.trs h16; have r14 := r14.on h16; have r15 := r15.on h16) | (go_at_call 49; have hy := g14; refine (BR.out _ _ _ g14 r11).mono ?_; rintro e w15 ⟨h15, A15', c15', rfl, r15⟩; have g15 := g14.trs h15; have r13 := r13.on h15; have r14 := r14.on h15) | (go_at_call 51; have hy := g13; refine (W1.out _ g13).mono ?_; rintro e w14 ⟨h14, A14', c14', rfl, r14⟩; have g14 := g13.trs h14; have r11 := r11.on h14; have r13 := r13.on h14) | (go_at_call 53; have hy := g12; refine (RR.out _ _ _ r11).mono ?_; rintro e w13 ⟨h13, A13', c13', rfl, r13⟩; have g13 := g12.trs h13; have r11 := r11.on h13) | (go_at_call 59; have hy := g11; refine (ZR.out _ _ _ r11).mono ?_; rintro e w12 ⟨rfl, h12⟩; have g12 := g11.trs h12; have r11 := r11.on h12) | (go_at_call 53; have hy := g10; refine (R1.out _ g10).mono ?_; rintro e w11 ⟨h11, A11', c11', rfl, r11⟩; have g11 := g10.trs h11) | (go_at_call 53; have hy := g8; refine (R1.out _ g8).mono ?_; rintro e w11 ⟨h11, A11', c11', rfl, r11⟩; have g11 := g8.trs h11) | (go_at_call 59; have hy := g9; refine (ZB.out _ _ _ r4).mono ?_; rintro e w10 ⟨rfl, h10⟩; have g10 := g9.trs h10) | (go_at_call 59; have hy := g8; refine (ZJ.out _ _ _ r1).mono ?_; rintro e w9 ⟨rfl, h9⟩; have g9 := g8.trs h9; have r4 := r4.on h9) | (go_at_call 59; have hy := g7; refine (Z2.out _ g7).mono ?_; rintro e w8 ⟨rfl, h8⟩; have g8 := g7.trs h8; have r1 := r1.on h8; have r4 := r4.on h8) | (go_at_call 59; have hy := g6; refine (Z1.out _ g6).mono ?_; rintro e w7 ⟨rfl, h7⟩; have g7 := g6.trs h7; have r1 := r1.on h7; have r4 := r4.on h7) | (go_at_call 41; have hy := g5; refine (SB.out _ _ _ _ _ r4 r5).mono ?_; rintro e w6 ⟨rfl, h6⟩; have g6 := g5.trs h6; have r1 := r1.on h6; have r4 := r4.on h6) | (go_at_call 49; have hy := g4; refine (B2.out _ g4).mono ?_; rintro e w5 ⟨h5, A5', c5', rfl, r5⟩; have g5 := g4.trs h5; have r1 := r1.on h5; have r4 := r4.on h5) | (go_at_call 49; have hy := g3; refine (B1.out _ g3).mono ?_; rintro e w4 ⟨h4, A4', c4', rfl, r4⟩; have g4 := g3.trs h4; have r1 := r1.on h4) | (go_at_call 41; have hy := g2; refine (SJ.out _ _ _ _ _ r1 r2).mono ?_; rintro e w3 ⟨rfl, h3⟩; have g3 := g2.trs h3; have r1 := r1.on h3) | (go_at_call 47; have hy := g1; refine (K2.out _ g1).mono ?_; rintro e w2 ⟨h2, A2', c2', rfl, r2⟩; have g2 := g1.trs h2; have r1 := r1.on h2) | (go_at_call 47; have hy := g0; refine (K1.out _ g0).mono ?_; rintro e w1 ⟨h1, A1', c1', rfl, r1⟩; have g1 := g0.trs h1) | (go_at_call 45; have hy := ga; refine (V2.out _ ga).mono ?_; rintro e wb ⟨rfl, hb⟩; have g0 := ga.trs hb) | (go_at_call 45; refine (V1.out _ (Below.refl _ _)).mono ?_; rintro e wa ⟨rfl, ga⟩))
      go_ret
      exact ⟨by first | rfl | simp, g17.trs h18⟩
    · clear HS1 HZ oe og ZJ ZB
      generalize ((sizN l : Nat) : Int) = sl at *
      generalize ((sizN m : Nat) : Int) = sn at *
      generalize ((sizN J : Nat) : Int) = sj at *
      generalize ((sizN B : Nat) : Int) = sb at *
      generalize ((sizN R : Nat) : Int) = sr at *
      generalize l.length = nl at *
      generalize m.length = nm at *
      generalize J.length = nj at *
      generalize B.length = nb at *
      generalize R.length = nr at *
      generalize LW.length = nw at *
      rcases hcase with ⟨rfl, rfl⟩ | ⟨rfl, rfl⟩ | ⟨rfl, rfl⟩
      all_goals
        go_enter Try.func16, Try.ntmps16
        go_wp2_with (first | (go_at_call 42; refine (Long_any _ _ _ _ _).mono ?_; rintro e w' ⟨rfl, rfl⟩; first | rw [d1] | rw [d2]) | (go_at_call 22; refine (Sane_any _).mono ?_; rintro e w18 ⟨rfl, h18⟩) | (go_at_call 41; have hy := g16; refine (SW.out _ _ _ _ _ r14 r15).mono ?_; rintro e w17 ⟨rfl, h17⟩; have g17 := g16.trs h17) | (go_at_call 41; have hy := g15; refine (SM.out _ _ _ g15 r13).mono ?_; rintro e w16 ⟨rfl, h16⟩; have g16 := g15.trs h16; have r14 := r14.on h16; have r15 := r15.on h16) | (go_at_call 49; have hy := g14; refine (BR.out _ _ _ g14 r11).mono ?_; rintro e w15 ⟨h15, A15', c15', rfl, r15⟩; have g15 := g14.trs h15; have r13 := r13.on h15; have r14 := r14.on h15) | (go_at_call 51; have hy := g13; refine (W1.out _ g13).mono ?_; rintro e w14 ⟨h14, A14', c14', rfl, r14⟩; have g14 := g13.trs h14; have r11 := r11.on h14; have r13 := r13.on h14) | (go_at_call 53; have hy := g12; refine (RR.out _ _ _ r11).mono ?_; rintro e w13 ⟨h13, A13', c13', rfl, r13⟩; have g13 := g12.trs h13; have r11 := r11.on h13) | (go_at_call 59; have hy := g11; refine (ZR.out _ _ _ r11).mono ?_; rintro e w12 ⟨rfl, h12⟩; have g12 := g11.trs h12; have r11 := r11.on h12) | (go_at_call 53; have hy := g10; refine (R1.out _ g10).mono ?_; rintro e w11 ⟨h11, A11', c11', rfl, r11⟩; have g11 := g10.trs h11) | (go_at_call 53; have hy := g8; refine (R1.out _ g8).mono ?_; rintro e w11 ⟨h11, A11', c11', rfl, r11⟩; have g11 := g8.trs h11) | (go_at_call 59; have hy := g9; refine (ZB.out _ _ _ r4).mono ?_; rintro e w10 ⟨rfl, h10⟩; have g10 := g9.trs h10) | (go_at_call 59; have hy := g8; refine (ZJ.out _ _ _ r1).mono ?_; rintro e w9 ⟨rfl, h9⟩; have g9 := g8.trs h9; have r4 := r4.on h9) | (go_at_call 59; have hy := g7; refine (Z2.out _ g7).mono ?_; rintro e w8 ⟨rfl, h8⟩; have g8 := g7.trs h8; have r1 := r1.on h8; have r4 := r4.on h8) | (go_at_call 59; have hy := g6; refine (Z1.out _ g6).mono ?_; rintro e w7 ⟨rfl, h7⟩; have g7 := g6.trs h7; have r1 := r1.on h7; have r4 := r4.on h7) | (go_at_call 41; have hy := g5; refine (SB.out _ _ _ _ _ r4 r5).mono ?_; rintro e w6 ⟨rfl, h6⟩; have g6 := g5.trs h6; have r1 := r1.on h6; have r4 := r4.on h6) | (go_at_call 49; have hy := g4; refine (B2.out _ g4).mono ?_; rintro e w5 ⟨h5, A5', c5', rfl, r5⟩; have g5 := g4.trs h5; have r1 := r1.on h5; have r4 := r4.on h5) | (go_at_call 49; have hy := g3; refine (B1.out _ g3).mono ?_; rintro e w4 ⟨h4, A4', c4', rfl, r4⟩; have g4 := g3.trs h4; have r1 := r1.on h4) | (go_at_call 41; have hy := g2; refine (SJ.out _ _ _ _ _ r1 r2).mono ?_; rintro e w3 ⟨rfl, h3⟩; have g3 := g2.trs h3; have r1 := r1.on h3) | (go_at_call 47; have hy := g1; refine (K2.out _ g1).mono ?_; rintro e w2 ⟨h2, A2', c2', rfl, r2⟩; have g2 := g1.trs h2; have r1 := r1.on h2) | (go_at_call 47; have hy := g0; refine (K1.out _ g0).mono ?_; rintro e w1 ⟨h1, A1', c1', rfl, r1⟩; have g1 := g0.trs h1) | (go_at_call 45; have hy := ga; refine (V2.out _ ga).mono ?_; rintro e wb ⟨rfl, hb⟩; have g0 := ga.trs hb) | (go_at_call 45; refine (V1.out _ (Below.refl _ _)).mono ?_; rintro e wa ⟨rfl, ga⟩))
        go_ret
        exact ⟨by first | rfl | simp, g17.trs h18⟩
  · obtain ⟨hi4, hR0⟩ := HOI.out.resolve_left hi
    subst hi4
    clear HR1 HOI RR BR hi
    have hR := List.length_eq_zero_iff.1 hR0
    subst hR
    unfold LstQ at *
    simp only [List.length_nil] at R1
    clear hR0
    generalize mixL l m (lessR l m) = LW at *
    generalize mixE l m (lessR l m) = EW at *
    have hcase : (e = 0 ∧ g = 0) ∨ (e = 0 ∧ g = 4) ∨ (e = 4 ∧ g = 0) ∨ (e = 4 ∧ g = 4) := by omega
    rcases hcase with ⟨rfl, rfl⟩ | hcase
    · obtain ⟨p1, p2, p3⟩ := HS1.out rfl rfl
      rw [p1] at ZJ
      rw [p2] at ZB
      have hz := HZ.out
      generalize hs : ((sizN l : Nat) : Int) + ((sizN m : Nat) : Int) = sm at *
      have hs2 : ((sizN J : Nat) : Int) + ((sizN B : Nat) : Int) = sm := by omega
      have hsw : IntKind.i64.wrap sm = sm := IntWalk.i64_in _ (by omega)
      have hsv : wrap64 sm = sm := IntWalk.wrap64_in _ (by omega)
      clear HS1 HZ hz p1 p2 p3 oe og
      generalize ((sizN l : Nat) : Int) = sl at *
      generalize ((sizN m : Nat) : Int) = sn at *
      generalize ((sizN J : Nat) : Int) = sj at *
      generalize ((sizN B : Nat) : Int) = sb at *
      generalize l.length = nl at *
      generalize m.length = nm at *
      generalize J.length = nj at *
      generalize B.length = nb at *
      generalize LW.length = nw at *
      go_enter Try.func16, Try.ntmps16
      go_wp2_with (first | (go_at_call 42; refine (Long_any _ _ _ _ _).mono ?_; rintro e w' ⟨rfl, rfl⟩; first | rw [d1] | rw [d2]) | (go_at_call 22; refine (Sane_any _).mono ?_; rintro e w18 ⟨rfl, h18⟩) | (go_at_call 41; have hy := g16; refine (SW.out _ _ _ _ _ r14 r15).mono ?_; rintro e w17 ⟨rfl, h17⟩; have g17 := g16.trs h17) | (go_at_call 41; have hy := g15; refine (SM.out _ _ _ g15 r13).mono ?_; rintro e w16 ⟨rfl, h16⟩; have g16 := g15.trs h16; have r14 := r14.on h16; have r15 := r15.on h16) | (go_at_call 49; have hy := g14; refine (BR.out _ _ _ g14 r11).mono ?_; rintro e w15 ⟨h15, A15', c15', rfl, r15⟩; have g15 := g14.trs h15; have r13 := r13.on h15; have r14 := r14.on h15) | (go_at_call 51; have hy := g13; refine (W1.out _ g13).mono ?_; rintro e w14 ⟨h14, A14', c14', rfl, r14⟩; have g14 := g13.trs h14; have r11 := r11.on h14; have r13 := r13.on h14) | (go_at_call 53; have hy := g12; refine (RR.out _ _ _ r11).mono ?_; rintro e w13 ⟨h13, A13', c13', rfl, r13⟩; have g13 := g12.trs h13; have r11 := r11.on h13) | (go_at_call 59; have hy := g11; refine (ZR.out _ _ _ r11).mono ?_; rintro e w12 ⟨rfl, h12⟩; have g12 := g11.trs h12; have r11 := r11.on h12) | (go_at_call 53; have hy := g10; refine (R1.out _ g10).mono ?_; rintro e w11 ⟨h11, A11', c11', rfl, r11⟩; have g11 := g10.trs h11) | (go_at_call 53; have hy := g8; refine (R1.out _ g8).mono ?_; rintro e w11 ⟨h11, A11', c11', rfl, r11⟩; have g11 := g8.trs h11) | (go_at_call 59; have hy := g9; refine (ZB.out _ _ _ r4).mono ?_; rintro e w10 ⟨rfl, h10⟩; have g10 := g9.trs h10) | (go_at_call 59; have hy := g8; refine (ZJ.out _ _ _ r1).mono ?_; rintro e w9 ⟨rfl, h9⟩; have g9 := g8.trs h9; have r4 := r4.on h9) | (go_at_call 59; have hy := g7; refine (Z2.out _ g7).mono ?_; rintro e w8 ⟨rfl, h8⟩; have g8 := g7.trs h8; have r1 := r1.on h8; have r4 := r4.on h8) | (go_at_call 59; have hy := g6; refine (Z1.out _ g6).mono ?_; rintro e w7 ⟨rfl, h7⟩; have g7 := g6.trs h7; have r1 := r1.on h7; have r4 := r4.on h7) | (go_at_call 41; have hy := g5; refine (SB.out _ _ _ _ _ r4 r5).mono ?_; rintro e w6 ⟨rfl, h6⟩; have g6 := g5.trs h6; have r1 := r1.on h6; have r4 := r4.on h6) | (go_at_call 49; have hy := g4; refine (B2.out _ g4).mono ?_; rintro e w5 ⟨h5, A5', c5', rfl, r5⟩; have g5 := g4.trs h5; have r1 := r1.on h5; have r4 := r4.on h5) | (go_at_call 49; have hy := g3; refine (B1.out _ g3).mono ?_; rintro e w4 ⟨h4, A4', c4', rfl, r4⟩; have g4 := g3.trs h4; have r1 := r1.on h4) | (go_at_call 41; have hy := g2; refine (SJ.out _ _ _ _ _ r1 r2).mono ?_; rintro e w3 ⟨rfl, h3⟩; have g3 := g2.trs h3; have r1 := r1.on h3) | (go_at_call 47; have hy := g1; refine (K2.out _ g1).mono ?_; rintro e w2 ⟨h2, A2', c2', rfl, r2⟩; have g2 := g1.trs h2; have r1 := r1.on h2) | (go_at_call 47; have hy := g0; refine (K1.out _ g0).mono ?_; rintro e w1 ⟨h1, A1', c1', rfl, r1⟩; have g1 := g0.trs h1) | (go_at_call 45; have hy := ga; refine (V2.out _ ga).mono ?_; rintro e wb ⟨rfl, hb⟩; have g0 := ga.trs hb) | (go_at_call 45; refine (V1.out _ (Below.refl _ _)).mono ?_; rintro e wa ⟨rfl, ga⟩))
      go_ret
      exact ⟨by first | rfl | simp, g11.trs h18⟩
    · clear HS1 HZ oe og ZJ ZB
      generalize ((sizN l : Nat) : Int) = sl at *
      generalize ((sizN m : Nat) : Int) = sn at *
      generalize ((sizN J : Nat) : Int) = sj at *
      generalize ((sizN B : Nat) : Int) = sb at *
      generalize l.length = nl at *
      generalize m.length = nm at *
      generalize J.length = nj at *
      generalize B.length = nb at *
      generalize LW.length = nw at *
      rcases hcase with ⟨rfl, rfl⟩ | ⟨rfl, rfl⟩ | ⟨rfl, rfl⟩
      all_goals
        go_enter Try.func16, Try.ntmps16
        go_wp2_with (first | (go_at_call 42; refine (Long_any _ _ _ _ _).mono ?_; rintro e w' ⟨rfl, rfl⟩; first | rw [d1] | rw [d2]) | (go_at_call 22; refine (Sane_any _).mono ?_; rintro e w18 ⟨rfl, h18⟩) | (go_at_call 41; have hy := g16; refine (SW.out _ _ _ _ _ r14 r15).mono ?_; rintro e w17 ⟨rfl, h17⟩; have g17 := g16.trs h17) | (go_at_call 41; have hy := g15; refine (SM.out _ _ _ g15 r13).mono ?_; rintro e w16 ⟨rfl, h16⟩; have g16 := g15.trs h16; have r14 := r14.on h16; have r15 := r15.on h16) | (go_at_call 49; have hy := g14; refine (BR.out _ _ _ g14 r11).mono ?_; rintro e w15 ⟨h15, A15', c15', rfl, r15⟩; have g15 := g14.trs h15; have r13 := r13.on h15; have r14 := r14.on h15) | (go_at_call 51; have hy := g13; refine (W1.out _ g13).mono ?_; rintro e w14 ⟨h14, A14', c14', rfl, r14⟩; have g14 := g13.trs h14; have r11 := r11.on h14; have r13 := r13.on h14) | (go_at_call 53; have hy := g12; refine (RR.out _ _ _ r11).mono ?_; rintro e w13 ⟨h13, A13', c13', rfl, r13⟩; have g13 := g12.trs h13; have r11 := r11.on h13) | (go_at_call 59; have hy := g11; refine (ZR.out _ _ _ r11).mono ?_; rintro e w12 ⟨rfl, h12⟩; have g12 := g11.trs h12; have r11 := r11.on h12) | (go_at_call 53; have hy := g10; refine (R1.out _ g10).mono ?_; rintro e w11 ⟨h11, A11', c11', rfl, r11⟩; have g11 := g10.trs h11) | (go_at_call 53; have hy := g8; refine (R1.out _ g8).mono ?_; rintro e w11 ⟨h11, A11', c11', rfl, r11⟩; have g11 := g8.trs h11) | (go_at_call 59; have hy := g9; refine (ZB.out _ _ _ r4).mono ?_; rintro e w10 ⟨rfl, h10⟩; have g10 := g9.trs h10) | (go_at_call 59; have hy := g8; refine (ZJ.out _ _ _ r1).mono ?_; rintro e w9 ⟨rfl, h9⟩; have g9 := g8.trs h9; have r4 := r4.on h9) | (go_at_call 59; have hy := g7; refine (Z2.out _ g7).mono ?_; rintro e w8 ⟨rfl, h8⟩; have g8 := g7.trs h8; have r1 := r1.on h8; have r4 := r4.on h8) | (go_at_call 59; have hy := g6; refine (Z1.out _ g6).mono ?_; rintro e w7 ⟨rfl, h7⟩; have g7 := g6.trs h7; have r1 := r1.on h7; have r4 := r4.on h7) | (go_at_call 41; have hy := g5; refine (SB.out _ _ _ _ _ r4 r5).mono ?_; rintro e w6 ⟨rfl, h6⟩; have g6 := g5.trs h6; have r1 := r1.on h6; have r4 := r4.on h6) | (go_at_call 49; have hy := g4; refine (B2.out _ g4).mono ?_; rintro e w5 ⟨h5, A5', c5', rfl, r5⟩; have g5 := g4.trs h5; have r1 := r1.on h5; have r4 := r4.on h5) | (go_at_call 49; have hy := g3; refine (B1.out _ g3).mono ?_; rintro e w4 ⟨h4, A4', c4', rfl, r4⟩; have g4 := g3.trs h4; have r1 := r1.on h4) | (go_at_call 41; have hy := g2; refine (SJ.out _ _ _ _ _ r1 r2).mono ?_; rintro e w3 ⟨rfl, h3⟩; have g3 := g2.trs h3; have r1 := r1.on h3) | (go_at_call 47; have hy := g1; refine (K2.out _ g1).mono ?_; rintro e w2 ⟨h2, A2', c2', rfl, r2⟩; have g2 := g1.trs h2; have r1 := r1.on h2) | (go_at_call 47; have hy := g0; refine (K1.out _ g0).mono ?_; rintro e w1 ⟨h1, A1', c1', rfl, r1⟩; have g1 := g0.trs h1) | (go_at_call 45; have hy := ga; refine (V2.out _ ga).mono ?_; rintro e wb ⟨rfl, hb⟩; have g0 := ga.trs hb) | (go_at_call 45; refine (V1.out _ (Below.refl _ _)).mono ?_; rintro e wa ⟨rfl, ga⟩))
        go_ret
        exact ⟨by first | rfl | simp, g11.trs h18⟩

set_option maxRecDepth 100000 in
set_option maxHeartbeats 4000000 in
theorem SkyRules_walk (w : World) (A : Option Addr) (c : Nat) (l : List (Int × Int)) (hr : RdP w w.heap.size A l) (hm : l.length ≤ maxLen) (A2 : Option Addr) (c2 : Nat) (m : List (Int × Int)) (hr2 : RdP w w.heap.size A2 m) (hm2 : m.length ≤ maxLen) :
    Calls Try.prog 16 #[.slice A l.length c, .slice A2 m.length c2] w fun e w' => e = .returned (.bool true) ∧ Below w.heap.size w w' := by
  by_cases h1 : l.length ≤ 1000
  · have d1 : decide ((1000 : Int) < (l.length : Int)) = false := by rw [decide_eq_false_iff_not]; omega
    by_cases h2 : m.length ≤ 1000
    · have d2 : decide ((1000 : Int) < (m.length : Int)) = false := by rw [decide_eq_false_iff_not]; omega
      cases hv : vldC l
      · have V1 := Lib.hid (fun W (hW : Below w.heap.size w W) => refValid_any A c l W (hr.on hW) (by omega))
        rw [hv] at V1
        clear hr hr2 hm hm2 h1 h2 hv
        generalize l.length = n at *
        generalize m.length = n2 at *
        go_enter Try.func16, Try.ntmps16
        go_wp2_with (first
          | (go_at_call 42; refine (Long_any _ _ _ _ _).mono ?_; rintro e w' ⟨rfl, rfl⟩; first | rw [d1] | rw [d2])
          | (go_at_call 45; refine (V1.out _ (Below.refl _ _)).mono ?_; rintro e wa ⟨rfl, ga⟩)
          | (go_at_call 22; refine (Sane_any _).mono ?_; rintro e w18 ⟨rfl, h18⟩))
        go_ret
        exact ⟨by first | rfl | simp, ga.trs h18⟩
      · cases hv2 : vldC m
        · have V1 := Lib.hid (fun W (hW : Below w.heap.size w W) => refValid_any A c l W (hr.on hW) (by omega))
          have V2 := Lib.hid (fun W (hW : Below w.heap.size w W) => refValid_any A2 c2 m W (hr2.on hW) (by omega))
          rw [hv] at V1
          rw [hv2] at V2
          clear hr hr2 hm hm2 h1 h2 hv hv2
          generalize l.length = n at *
          generalize m.length = n2 at *
          go_enter Try.func16, Try.ntmps16
          go_wp2_with (first
            | (go_at_call 42; refine (Long_any _ _ _ _ _).mono ?_; rintro e w' ⟨rfl, rfl⟩; first | rw [d1] | rw [d2])
            | (go_at_call 45; have hy := ga; refine (V2.out _ ga).mono ?_; rintro e wb ⟨rfl, hb⟩; have g0 := ga.trs hb)
            | (go_at_call 45; refine (V1.out _ (Below.refl _ _)).mono ?_; rintro e wa ⟨rfl, ga⟩)
            | (go_at_call 22; refine (Sane_any _).mono ?_; rintro e w18 ⟨rfl, h18⟩))
          go_ret
          exact ⟨by first | rfl | simp, g0.trs h18⟩
        · exact SkyRules_go w A c l hr A2 c2 m hr2 h1 h2 hv hv2 _ _ _ _ _ _ (rules hv hv2)
    · have d2 : decide ((1000 : Int) < (m.length : Int)) = true := by rw [decide_eq_true_eq]; omega
      clear hr hr2 hm hm2 h1 h2
      generalize l.length = n at *
      generalize m.length = n2 at *
      go_enter Try.func16, Try.ntmps16
      go_wp2_with (first
        | (go_at_call 42; refine (Long_any _ _ _ _ _).mono ?_; rintro e w' ⟨rfl, rfl⟩; first | rw [d1] | rw [d2])
        | (go_at_call 22; refine (Sane_any _).mono ?_; rintro e w18 ⟨rfl, h18⟩))
      go_ret
      exact ⟨by first | rfl | simp, h18⟩
  · have d1 : decide ((1000 : Int) < (l.length : Int)) = true := by rw [decide_eq_true_eq]; omega
    clear hr hr2 hm hm2 h1
    generalize l.length = n at *
    generalize m.length = n2 at *
    go_enter Try.func16, Try.ntmps16
    go_wp2_with (first
      | (go_at_call 42; refine (Long_any _ _ _ _ _).mono ?_; rintro e w' ⟨rfl, rfl⟩; rw [d1])
      | (go_at_call 22; refine (Sane_any _).mono ?_; rintro e w18 ⟨rfl, h18⟩))
    go_ret
    exact ⟨by first | rfl | simp, h18⟩
end Go.Proofs.Ytolgpigdioanoaa
