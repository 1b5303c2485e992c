/- The walk of the law SkySets. -/
import Derived.Test.YtolgpigdioanoaaSkySc
import Derived.Test.YtolgpigdioanoaaSkyE
namespace Go.Proofs.Ytolgpigdioanoaa
open Go.RowKit
set_option linter.unusedSimpArgs false
set_option linter.unusedVariables false

theorem setL_len (l : List (Int × Int)) : (setL l).length ≤ 400 := by
  unfold setL
  split
  · simp
  · exact toldL_len _
set_option maxRecDepth 100000 in
set_option maxHeartbeats 4000000 in
theorem SkySets_walk (w : World) (A : Option Addr) (c : Nat) (l : List (Int × Int)) (hr : RdP w w.heap.size A l) (hm : l.length ≤ maxLen) (k p : Int) (hkp : (Lit.int .i64 k).wf = true ∧ (Lit.int .i64 p).wf = true) :
    Calls Try.prog 14 #[.slice A l.length c, .agg #[.int .i64 k, .int .i64 p]] w fun e w' => e = .returned (.bool true) ∧ Below w.heap.size w w' := by
  have hb0 := below_alloc w (.cells #[.int .i64 k, .int .i64 p] 60)
  have hx0 := Box.new w 60 #[.int .i64 k, .int .i64 p]
  have HX := Lib.hid (And.intro hx0 hb0)
  clear hkp
  by_cases hgo : l.length ≤ 1000 ∨ (4000 < l.length ∧ l.length ≤ 5000)
  · have hd : (decide ((1000 : Int) < (l.length : Int)) = false ∧ decide ((5000 : Int) < (l.length : Int)) = false) ∨ (decide ((1000 : Int) < (l.length : Int)) = true ∧ decide ((l.length : Int) ≤ 4000) = false ∧ decide ((5000 : Int) < (l.length : Int)) = false) := by
      rcases hgo with h | ⟨h, h2⟩
      · left; rw [decide_eq_false_iff_not, decide_eq_false_iff_not]; omega
      · right; rw [decide_eq_true_eq, decide_eq_false_iff_not, decide_eq_false_iff_not]; omega
    have hl : l.length ≤ 1000000 := by omega
    have S1 := Lib.hid (fun W (hW : Below w.heap.size w W) => Set_any A c l W (hr.on hW) hl)
    have S2 := Lib.hid (fun W (hW : Below w.heap.size w W) => refSet_any A c l W (hr.on hW) hl)
    have V1 := Lib.hid (fun W (hW : Below w.heap.size w W) => Valid_any A c l W (hr.on hW) hl)
    have V2 := Lib.hid (fun W (hW : Below w.heap.size w W) => refValid_any A c l W (hr.on hW) hl)
    have Z1 := Lib.hid (fun W (hW : Below w.heap.size w W) => Size_any A c l W (hr.on hW) hl)
    have Z2 := Lib.hid (fun W (hW : Below w.heap.size w W) => refSize_any A c l W (hr.on hW) hl)
    have H1 := Lib.hid (fun W (hW : Below w.heap.size w W) => Has_any A c l k p W (hr.on hW) hl)
    have H2 := Lib.hid (fun W (hW : Below w.heap.size w W) => refHas_any A c l k p W (hr.on hW) hl)
    have hl1 := setL_len l
    unfold LstQ at *
    generalize setL l = L1 at *
    generalize setE l = E1 at *
    have E := Lib.hid (fun A A' c c' W h h' => Same_self A A' c c' L1 W h h' (by omega))
    clear hr hm hgo hl1 hl hb0 hx0
    generalize (sizN l : Int) = sn at *
    generalize sizE l = se at *
    generalize hasB l k p = hb at *
    generalize hasE l k p = he at *
    generalize vldC l = vl at *
    generalize l.length = n at *
    generalize L1.length = k1 at *
    rcases hd with ⟨d1, d3⟩ | ⟨d1, d2, d3⟩ <;> cases vl <;> cases hb
    all_goals
      go_enter Try.func14, Try.ntmps14
      go_upto_region 1 with (fail)
      generalize hW0 : w.alloc (.cells #[.int .i64 k, .int .i64 p] 60) = W0 at *
      clear hW0
      go_wp2_with (first
        | (go_at_call 42; refine (Long_any _ _ _ _ _).mono ?_; rintro e w' ⟨rfl, rfl⟩; first | rw [d1] | rw [d3])
        | (go_at_call 56; refine (S1.out _ HX.out.2).mono ?_; rintro e w1 ⟨g1, A1, c1, rfl, r1⟩)
        | (go_at_call 57; refine (S2.out _ (HX.out.2.trs g1)).mono ?_; rintro e w2 ⟨g2', A2, c2, rfl, r2⟩; have g2 := g1.trs g2'; have r1' := r1.on g2')
        | (go_at_call 58; refine (V1.out _ (HX.out.2.trs g2)).mono ?_; rintro e w3 ⟨rfl, g3'⟩; have g3 := g2.trs g3'; have r1' := r1'.on g3'; have r2 := r2.on g3')
        | (go_at_call 45; refine (V2.out _ (HX.out.2.trs g3)).mono ?_; rintro e w4 ⟨rfl, g4'⟩; have g4 := g3.trs g4'; have r1' := r1'.on g4'; have r2 := r2.on g4')
        | (go_at_call 41; refine (E.out _ _ _ _ _ r1' r2).mono ?_; rintro e w5 ⟨rfl, h5⟩; have g5 := g4.trs h5)
        | (go_at_call 59; refine (Z1.out _ (HX.out.2.trs g5)).mono ?_; rintro e w6 ⟨rfl, g6'⟩; have g6 := g5.trs g6')
        | (go_at_call 60; refine (Z2.out _ (HX.out.2.trs g6)).mono ?_; rintro e w7 ⟨rfl, g7'⟩; have g7 := g6.trs g7'; have hbx := HX.out.1.on g7; have q0 := hbx.cell 0; have q1 := hbx.cell 1; simp at q0 q1)
        | (go_at_call 55; refine (H1.out _ (HX.out.2.trs g7)).mono ?_; rintro e w8 ⟨rfl, g8'⟩; have g8 := g7.trs g8'; have hbx := HX.out.1.on g8; have q0 := hbx.cell 0; have q1 := hbx.cell 1; simp at q0 q1)
        | (go_at_call 61; refine (H2.out _ (HX.out.2.trs g8)).mono ?_; rintro e w9 ⟨rfl, g9'⟩; have g9 := g8.trs g9')
        | (go_at_call 22; refine (Sane_any _).mono ?_; rintro e w13 ⟨rfl, h13⟩))
      go_ret
      exact ⟨by first | rfl | simp, (HX.out.2.trs g9).trs h13⟩
  · have hd : (decide ((1000 : Int) < (l.length : Int)) = true ∧ decide ((l.length : Int) ≤ 4000) = true) ∨ (decide ((1000 : Int) < (l.length : Int)) = true ∧ decide ((l.length : Int) ≤ 4000) = false ∧ decide ((5000 : Int) < (l.length : Int)) = true) := by
      by_cases h : l.length ≤ 4000
      · left; rw [decide_eq_true_eq, decide_eq_true_eq]; omega
      · right; rw [decide_eq_true_eq, decide_eq_false_iff_not, decide_eq_true_eq]; omega
    clear hr hm hgo hb0 hx0
    generalize l.length = n at *
    rcases hd with ⟨d1, d2⟩ | ⟨d1, d2, d3⟩
    all_goals
      go_enter Try.func14, Try.ntmps14
      go_upto_region 1 with (fail)
      generalize hW0 : w.alloc (.cells #[.int .i64 k, .int .i64 p] 60) = W0 at *
      clear hW0
      go_wp2_with (first
        | (go_at_call 42; refine (Long_any _ _ _ _ _).mono ?_; rintro e w' ⟨rfl, rfl⟩; first | rw [d1] | rw [d3])
        | (go_at_call 22; refine (Sane_any _).mono ?_; rintro e w13 ⟨rfl, h13⟩))
      go_ret
      exact ⟨by first | rfl | simp, HX.out.2.trs h13⟩
end Go.Proofs.Ytolgpigdioanoaa
