/- The walk of TopWave where the plan is not made and the text is none of it. -/
import Derived.Test.YtkjiancdhaocaaaDoorTopWv1
namespace Go.Proofs.YtkjiancdhaocaaaDoor
open Go.RowKit Go.Shelf
set_option linter.unusedSimpArgs false
set_option linter.unusedVariables false
attribute [local go_sem] Oper.semAt_some

set_option maxRecDepth 100000 in
set_option maxHeartbeats 16000000 in
theorem TopWave_f (w : World) (A : Option Addr) (c : Nat) (l : List Int) (hr : RdI w w.heap.size A l) (hM : ¬ 200 < (l.length : Int)) (A2 : Option Addr) (c2 : Nat) (l2 : List Int) (hr2 : RdI w w.heap.size A2 l2) (hM2 : ¬ 200 < (l2.length : Int)) (t : Tx) (hM3 : ¬ 2000 < (t.length : Int)) (hv : vldW l = true) (hP : ¬ planE l l2 = 0) (hT : isV l t = false ∧ isE l t = 31) :
    Calls Tryd.prog 3 #[.slice A l.length c, .slice A2 l2.length c2, .string ⟨t.toArray⟩] w fun e w' => e = .returned (.bool true) ∧ Below w.heap.size w w' := by
  have HMa := Lib.hid (fun W => Many_any A c l.length W)
  have HMb := Lib.hid (fun W => Many_any A2 c2 l2.length W)
  have HLo := Lib.hid (fun W => Long_any t W)
  have HAw := Lib.hid Awake_any
  have HV := Lib.hid (refValid_any A c l w hr (by omega))
  rw [decide_eq_false hM] at HMa
  rw [decide_eq_false hM2] at HMb
  rw [decide_eq_false hM3] at HLo
  rw [hv] at HV
  have hl : l.length ≤ 1000000 := by omega
  have H1 := Lib.hid (fun W (hW : Below w.heap.size w W) => Encode_any A c l W (hr.on hW) hl)
  have H2 := Lib.hid (fun W (hW : Below w.heap.size w W) => Wide_any A c l W (hr.on hW) hl)
  have H3 := Lib.hid (fun W (hW : Below w.heap.size w W) => Bound_any A c l W (hr.on hW) hl)
  have H4 := Lib.hid (fun W (hW : Below w.heap.size w W) => Plan_any A c A2 c2 l l2 W (hr.on hW) (hr2.on hW) hl (by omega))
  have H5 := Lib.hid (fun W (hW : Below w.heap.size w W) => refIsText_any A c l t W (hr.on hW) hl (by omega))
  unfold PlanQ at H4
  rw [enc_e hv] at H1 H2 H3
  rw [hT.1, hT.2] at H5
  have HQ : Hid (∀ k (hk : k < [encT l, wideT l].length), TextQ l ([encT l, wideT l][k])) := Lib.hid fun k hk => by
    have : k = 0 ∨ k = 1 := by simp at hk; omega
    rcases this with rfl | rfl
    · exact text_q (best_v hv)
    · exact text_q (wide_v hv)
  have K1 := Lib.hid (fun x (q : TextQ l x) W => tDecode q W)
  have K2 := Lib.hid (fun x (q : TextQ l x) W (hW : Below w.heap.size w W) => tIsText q A c W (hr.on hW) hl)
  have K3 := Lib.hid (fun x (q : TextQ l x) W => tPack q W)
  have K4 := Lib.hid (fun A3 c3 W h1 (hW : Below w.heap.size w W) => SameInts_any A3 c3 A c l W h1 (hr.on hW) hl)
  have K5 := Lib.hid (fun x (q : TextQ l x) A3 c3 W h => tUnpack q A3 c3 W h)
  have K6 := Lib.hid (fun x (q : TextQ l x) W => tWidths q W)
  have K7 := Lib.hid (fun x (q : TextQ l x) A3 c3 W (hW : Below w.heap.size w W) h => tPlan q A c A3 c3 W (hr.on hW) h hl)
  have HB : Hid (∀ x, TextQ l x → ((encT l).length : Int) < (x.length : Int) ∨ (x.length = (encT l).length ∧ Go.Op.bytesLess x (encT l) = false)) := Lib.hid fun x q => q.best
  have HB2 : Hid (∀ x, TextQ l x → ((planX l (dW x)).length : Int) ≤ (x.length : Int) ∧ ((encT l).length : Int) ≤ ((planX l (dW x)).length : Int)) := Lib.hid fun x q => ⟨Int.ofNat_le.2 q.p1, Int.ofNat_le.2 q.p2⟩
  have hbd := bound_le hv
  have k1 : ¬ ((encT l).length : Int) < boundV l := by omega
  have hel := (enc_len hv).2
  have hsb := size_bt (encT l)
  have hbt : (⟨(encT l).toArray⟩ : ByteArray).toList = encT l := ByteArray.toList_mk _
  have hP0 : (planE l l2 == 0) = false := beq_eq_false_iff_ne.2 hP
  have H2L : Hid (∀ W : World, OwnS (W.alloc (.cells #[.string ⟨(encT l).toArray⟩, .string ⟨(wideT l).toArray⟩] 9)) W.heap.size (.slice (some ⟨W.heap.size, 0, none⟩) 2 2) [encT l, wideT l]) := Lib.hid fun W => OwnS.two W _ _
  clear hr hr2 hM hM2 hM3 hv hT hbd
  generalize planE l l2 = E2 at *
  generalize boundV l = bv at *
  generalize wideT l = Y at *
  generalize planX l l2 = X at *
  generalize encT l = B at *
  generalize hn : l.length = n at *
  have HN := Lib.hid hn
  clear hn
  generalize l2.length = n2 at *
  go_enter Tryd.func3, Tryd.ntmps3
  go_wp2_with (first
    | (go_at_call 4; have := w1; refine (HMb.out _).mono ?_; rintro e w2 ⟨rfl, hw2⟩; rw [hw2]; clear hw2)
    | (go_at_call 4; refine (HMa.out _).mono ?_; rintro e w1 ⟨rfl, hw1⟩; rw [hw1]; clear hw1)
    | (go_at_call 5; refine (HLo.out _).mono ?_; rintro e w3 ⟨rfl, hw3⟩; rw [hw3]; clear hw3)
    | (go_at_call 6; refine HV.out.mono ?_; rintro e w4 ⟨rfl, h4⟩)
    | (go_at_call 8; refine (H1.out _ h4).mono ?_; rintro e w5 ⟨rfl, h5⟩; replace h5 := h4.trs h5)
    | (go_at_call 9; refine (H2.out _ h5).mono ?_; rintro e w6 ⟨rfl, h6⟩; replace h6 := h5.trs h6)
    | (go_at_call 10; refine (H3.out _ h6).mono ?_; rintro e w7 ⟨rfl, h7⟩; replace h7 := h6.trs h7; have h8 := h7.alloc h7.size (.cells #[.string ⟨B.toArray⟩, .string ⟨Y.toArray⟩] 9))
    | (go_at_call 11; refine (H4.out _ h8).mono ?_; rintro e w9 ⟨rfl, h9⟩; have hO9 := Lib.hid (((H2L.out w7).less h7.size).kept h9); replace h9 := h8.trs h9)
    | (go_at_call 12; refine (H5.out _ h9).mono ?_; rintro e w11 ⟨rfl, h11⟩; have hO11 := Lib.hid (hO9.out.kept h11); replace h11 := h9.trs h11))
  obtain ⟨g, cc, hge, hgB, hgl, hcell⟩ := hO11.out.form1 (n := 2) rfl (by omega)
  cases hge
  have HC : Hid (∀ k, k < 2 → ∃ x, w11.cell? ⟨w7.heap.size, k, none⟩ = some (.string ⟨x.toArray⟩) ∧ TextQ l x) := Lib.hid fun k hk => ⟨_, hcell k hk, HQ.out k hk⟩
  have HGL := Lib.hid hgl
  have HW := Lib.hid h11
  clear hcell hgl h11 HQ H1 H2 H3 H4 H5 HMa HMb HLo HV H2L
  go_loopg [108] 2 (fun gk u wr => ∃ i : Nat, u = .int .i64 i ∧ i ≤ 2 ∧ 2 - i ≤ gk ∧ Below w11.heap.size w11 wr)
  case atStart => exact ⟨0, rfl, by omega, by omega, Below.refl _ _⟩
  case round =>
    obtain ⟨i, rfl, hi, hgk, hB⟩ := hrel
    by_cases hlt : i < 2
    · obtain ⟨x, hcx, q⟩ := HC.out i hlt
      have hin : (i : Int) < 2 := by omega
      have hi0 : (0 : Int) ≤ (i : Int) := by omega
      rw [← hB.cell (p := ⟨w7.heap.size, i, none⟩) HGL.out] at hcx
      have HBW := Lib.hid (HW.out.trs hB)
      have HBR := Lib.hid hB
      have M1 := Lib.hid (K1.out x q)
      have M2 := Lib.hid (K2.out x q)
      have M3 := Lib.hid (K3.out x q)
      have M5 := Lib.hid (K5.out x q)
      have M6 := Lib.hid (K6.out x q)
      have M7 := Lib.hid (K7.out x q)
      have hbest := HB.out x q
      obtain ⟨hp1, hp2⟩ := HB2.out x q
      have hszx := size_bt x
      have htx : (⟨x.toArray⟩ : ByteArray).toList = x := ByteArray.toList_mk x
      have hszp := size_bt (planX l (dW x))
      have HII := Lib.hid (And.intro hlt hgk)
      clear hB q K1 K2 K3 K5 K6 K7 HB HB2 hgk
      generalize planX l (dW x) = X2 at *
      generalize dW x = V at *
      generalize packL x = pk at *
      generalize pk.length = np at *
      rcases hbest with hlt2 | ⟨heq, hbl⟩
      all_goals
        go_wp2_with (first
          | (go_at_call 13; refine (M1.out _).mono ?_; rintro e v3 ⟨j3, A3, c3, rfl, hr3⟩; replace hr3 := Lib.hid hr3; have b3 := Lib.hid (HBW.out.trs j3))
          | (go_at_call 14; refine (M2.out _ b3.out).mono ?_; rintro e v4 ⟨rfl, j4⟩; have b4 := Lib.hid (b3.out.trs j4))
          | (go_at_call 15; refine (M3.out _).mono ?_; rintro e v5 ⟨j5, A5, c5, rfl, hr5⟩; replace hr5 := Lib.hid hr5; have b5 := Lib.hid (b4.out.trs j5))
          | (go_at_call 16; refine (K4.out _ _ _ (hr3.out.on (j4.trs j5)) b5.out).mono ?_; rintro e v6 ⟨rfl, j6⟩; have b6 := Lib.hid (b5.out.trs j6))
          | (go_at_call 17; refine (M5.out _ _ _ (hr5.out.on j6)).mono ?_; rintro e v7 ⟨rfl, j7⟩; have b7 := Lib.hid (b6.out.trs j7))
          | (go_at_call 18; refine (M6.out _).mono ?_; rintro e v8 ⟨j8, A8, c8, rfl, hr8⟩; replace hr8 := Lib.hid hr8; have b8 := Lib.hid (b7.out.trs j8))
          | (go_at_call 11; refine (M7.out _ _ _ b8.out hr8.out).mono ?_; rintro e v9 ⟨rfl, j9⟩))
        go_roundg (2 - (i + 1))
        case measure => have := HII.out; omega
        case rel => exact ⟨i + 1, by go_num, by have := HII.out; omega, by have := HII.out; omega, ((((((HBR.out.trs j3).trs j4).trs j5).trs j6).trs j7).trs j8).trs j9⟩
    · obtain rfl : i = 2 := by omega
      have HBW := Lib.hid (HW.out.trs hB)
      clear hB
      go_wp2_with (go_at_call 7; refine (HAw.out _).mono ?_; rintro e v ⟨rfl, hv⟩)
      go_ret
      exact ⟨rfl, HBW.out.trs hv⟩
end Go.Proofs.YtkjiancdhaocaaaDoor
