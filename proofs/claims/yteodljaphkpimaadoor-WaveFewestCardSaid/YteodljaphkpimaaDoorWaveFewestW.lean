/- The walk of WaveFewest. -/
import Derived.Test.YteodljaphkpimaaDoorWvPc
namespace Go.Proofs.YteodljaphkpimaaDoor
open Go.RowKit Go.Shelf
set_option linter.unusedSimpArgs false
set_option linter.unusedVariables false
attribute [local go_sem] Oper.semAt_some

theorem leT_split {a b : Tx} (h : leT a b = true) : (a.length : Int) < (b.length : Int) ∨ (b.length = a.length ∧ Go.Op.bytesLess b a = false) := by
  rw [leT_iff] at h
  rcases h with h | ⟨h1, h2⟩
  · exact .inl (by omega)
  · refine .inr ⟨h1.symm, ?_⟩
    rcases h2 with h2 | rfl
    · cases hb : Go.Op.bytesLess b a with
      | false => rfl
      | true => have := bl_trans h2 hb; rw [bl_irr] at this; cases this
    · exact bl_irr _
theorem plan_part {s ws : List Int} (h : vldW s = true) : ((planE s ws == 0) = false ∧ ¬ planE s ws = 0) ∨ (planE s ws = 0 ∧ ((encT s).length : Int) < ((planX s ws).length : Int)) ∨ (planE s ws = 0 ∧ (planX s ws).length = (encT s).length ∧ Go.Op.bytesLess (planX s ws) (encT s) = false) := by
  by_cases h0 : planE s ws = 0
  · obtain ⟨p, p1, p2, p3, p4, p5⟩ := plan_made h h0
    have := leT_split (enc_best h p1 p2)
    rw [← p4] at this
    rcases this with h1 | ⟨h1, h2⟩
    · exact .inr (.inl ⟨h0, h1⟩)
    · exact .inr (.inr ⟨h0, h1, h2⟩)
  · exact .inl ⟨beq_eq_false_iff_ne.2 h0, h0⟩
theorem text_part {s : List Int} {t : Tx} (h : vldW s = true) : (isV s t = false ∧ isE s t = 0) ∨ (isV s t = false ∧ isE s t = 31) ∨ (isV s t = true ∧ isE s t = 0 ∧ ((encT s).length : Int) < (t.length : Int)) ∨ (isV s t = true ∧ isE s t = 0 ∧ t.length = (encT s).length ∧ Go.Op.bytesLess t (encT s) = false) := by
  have hE : isE s t = if vbB t = true then 0 else 31 := by unfold isE; rw [if_pos h]
  cases hi : isV s t
  · by_cases hv : vbB t = true
    · rw [if_pos hv] at hE; exact .inl ⟨rfl, hE⟩
    · rw [if_neg hv] at hE; exact .inr (.inl ⟨rfl, hE⟩)
  · obtain ⟨-, h1, h2⟩ := isV_text hi
    have hv : vbB t = true := by
      unfold deE at h1
      cases hv : vbB t with
      | true => rfl
      | false => rw [hv] at h1; cases h1
    rw [if_pos hv] at hE
    obtain ⟨-, p, p1, p2, -, -, p5, -⟩ := text_plan h1
    have hb := leT_trans (enc_best h p1 (p2.trans h2)) (le2_leT p5)
    rcases leT_split hb with h3 | ⟨h3, h4⟩
    · exact .inr (.inr (.inl ⟨rfl, hE, h3⟩))
    · exact .inr (.inr (.inr ⟨rfl, hE, h3, h4⟩))
set_option maxRecDepth 100000 in
set_option maxHeartbeats 16000000 in
theorem WaveFewest_walk (w : World) (A : Option Addr) (c : Nat) (l : List Int) (hr : RdI w w.heap.size A l ∧ ∀ x ∈ l, (Lit.int .i64 x).wf = true) (hl : l.length ≤ maxLen) (s : ByteArray) (hs : s.size ≤ maxLen) (A2 : Option Addr) (c2 : Nat) (l2 : List Int) (hr2 : RdI w w.heap.size A2 l2 ∧ ∀ x ∈ l2, (Lit.int .i64 x).wf = true) (hl2 : l2.length ≤ maxLen) :
    Calls Tryd.prog 12 #[.slice A l.length c, .string s, .slice A2 l2.length c2] w fun e w' => e = .returned (.bool true) ∧ Below w.heap.size w w' := by
  obtain ⟨t, rfl, hts⟩ := str_list s
  clear hs hts
  replace hr := hr.1
  replace hr2 := hr2.1
  have HMa := Lib.hid (fun W => Many_any A c l.length W)
  have HMb := Lib.hid (fun W => Many_any A2 c2 l2.length W)
  have HLo := Lib.hid (fun W => Long_any t W)
  have HAw := Lib.hid Awake_any
  by_cases hM : 200 < (l.length : Int)
  · rw [show decide (200 < (l.length : Int)) = true from decide_eq_true hM] at HMa
    clear hr hr2 hM
    go_enter Tryd.func12, Tryd.ntmps12
    go_wp2_with (first
      | (go_at_call 13; refine (HMa.out _).mono ?_; rintro e w1 ⟨rfl, rfl⟩)
      | (go_at_call 15; refine (HAw.out _).mono ?_; rintro e w2 ⟨rfl, h2⟩))
    go_ret
    exact ⟨rfl, h2⟩
  · rw [show decide (200 < (l.length : Int)) = false from decide_eq_false hM] at HMa
    by_cases hM2 : 200 < (l2.length : Int)
    · rw [show decide (200 < (l2.length : Int)) = true from decide_eq_true hM2] at HMb
      clear hr hr2 hM hM2
      go_enter Tryd.func12, Tryd.ntmps12
      go_wp2_with (first
        | (go_at_call 13; have := w1; refine (HMb.out _).mono ?_; rintro e w2 ⟨rfl, rfl⟩)
        | (go_at_call 13; refine (HMa.out _).mono ?_; rintro e w1 ⟨rfl, hw1⟩; rw [hw1]; clear hw1)
        | (go_at_call 15; refine (HAw.out _).mono ?_; rintro e w2 ⟨rfl, h2⟩))
      go_ret
      exact ⟨rfl, h2⟩
    · rw [show decide (200 < (l2.length : Int)) = false from decide_eq_false hM2] at HMb
      by_cases hM3 : 2000 < (t.length : Int)
      · rw [show decide (2000 < (t.length : Int)) = true from decide_eq_true hM3] at HLo
        clear hr hr2 hM hM2 hM3
        go_enter Tryd.func12, Tryd.ntmps12
        go_wp2_with (first
          | (go_at_call 13; have := w1; refine (HMb.out _).mono ?_; rintro e w2 ⟨rfl, rfl⟩)
          | (go_at_call 13; refine (HMa.out _).mono ?_; rintro e w1 ⟨rfl, hw1⟩; rw [hw1]; clear hw1)
          | (go_at_call 14; refine (HLo.out _).mono ?_; rintro e w1 ⟨rfl, rfl⟩)
          | (go_at_call 15; refine (HAw.out _).mono ?_; rintro e w2 ⟨rfl, h2⟩))
        go_ret
        exact ⟨rfl, h2⟩
      · rw [show decide (2000 < (t.length : Int)) = false from decide_eq_false hM3] at HLo
        have HV := Lib.hid (refValid_any A c l w hr (by omega))
        cases hv : vldW l
        · rw [hv] at HV
          clear hr hr2 hM hM2 hM3
          generalize l.length = n at *
          generalize l2.length = n2 at *
          go_enter Tryd.func12, Tryd.ntmps12
          go_wp2_with (first
            | (go_at_call 13; have := w1; refine (HMb.out _).mono ?_; rintro e w2 ⟨rfl, hw2⟩; rw [hw2]; clear hw2)
            | (go_at_call 13; refine (HMa.out _).mono ?_; rintro e w1 ⟨rfl, hw1⟩; rw [hw1]; clear hw1)
            | (go_at_call 14; refine (HLo.out _).mono ?_; rintro e w3 ⟨rfl, hw3⟩; rw [hw3]; clear hw3)
            | (go_at_call 21; refine HV.out.mono ?_; rintro e w4 ⟨rfl, h4⟩)
            | (go_at_call 15; refine (HAw.out _).mono ?_; rintro e w5 ⟨rfl, h5⟩))
          go_ret
          exact ⟨rfl, h4.trs h5⟩
        · rw [hv] at HV
          obtain ⟨p, p1, p2, p3, p4⟩ := enc_plan hv
          have hel := enc_len hv
          have hbd := bound_le hv
          obtain ⟨a1, a2, a3, -, -, -⟩ := plan_says hv p1 p2 (by rw [← p3]; omega)
          obtain ⟨q1, q2, q3⟩ := plan_of hv p1 p2 (by rw [← p3]; omega)
          rw [← p3] at a1 a3 q2
          have hP := plan_part (ws := l2) hv
          have hT := text_part (t := t) hv
          have H1 := Lib.hid (fun W (hW : Below w.heap.size w W) => Encode_any A c l W (hr.on hW) (by omega))
          have H2 := Lib.hid (fun W (hW : Below w.heap.size w W) => Length_any A c l W (hr.on hW) (by omega))
          have H3 := Lib.hid (fun W (hW : Below w.heap.size w W) => Bound_any A c l W (hr.on hW) (by omega))
          have H4 := Lib.hid (fun W (hW : Below w.heap.size w W) => Wide_any A c l W (hr.on hW) (by omega))
          have H5 := Lib.hid (fun W => Widths_any (encT l) W (by omega))
          have H6 := Lib.hid (fun A2 c2 W (hW : Below w.heap.size w W) h => Plan_any A c A2 c2 l (wsL p) W (hr.on hW) h (by omega) (by omega))
          have H7 := Lib.hid (fun W (hW : Below w.heap.size w W) => Plan_any A c A2 c2 l l2 W (hr.on hW) (hr2.on hW) (by omega) (by omega))
          have H8 := Lib.hid (fun W (hW : Below w.heap.size w W) => IsText_any A c l t W (hr.on hW) (by omega) (by omega))
          unfold PlanQ at H6 H7
          unfold LisE at H5
          rw [a1, a3] at H5
          rw [q1, q2] at H6
          rw [p4] at H1 H2 H3 H4
          have hszt := size_bt t
          have htt : (⟨t.toArray⟩ : ByteArray).toList = t := ByteArray.toList_mk t
          have hbt : (⟨(encT l).toArray⟩ : ByteArray).toList = encT l := ByteArray.toList_mk _
          have hxt : (⟨(planX l l2).toArray⟩ : ByteArray).toList = planX l l2 := ByteArray.toList_mk _
          have hsb := size_bt (encT l)
          have hsx := size_bt (planX l l2)
          have hsw := size_bt (wideT l)
          have k1 : ¬ ((encT l).length : Int) < boundV l := by omega
          have k2 : ¬ ((wideT l).length : Int) < ((encT l).length : Int) := by omega
          clear hr hr2 hM hM2 hM3 hv p1 p2 p3 p4 a1 a2 a3 q1 q2 hel hbd
          generalize planE l l2 = E2 at *
          generalize planX l l2 = X at *
          generalize isV l t = b at *
          generalize isE l t = F at *
          generalize boundV l = bv at *
          generalize wideT l = Y at *
          generalize encT l = B at *
          generalize wsL p = wp at *
          rw [q3] at H5 H6
          clear q3
          generalize l.length = n at *
          generalize l2.length = n2 at *
          rcases hP with ⟨hP, hPn⟩ | ⟨rfl, hP⟩ | ⟨rfl, hP, hPb⟩ <;> rcases hT with ⟨rfl, rfl⟩ | ⟨rfl, rfl⟩ | ⟨rfl, rfl, hT⟩ | ⟨rfl, rfl, hT, hTb⟩
          all_goals
            go_enter Tryd.func12, Tryd.ntmps12
            go_wp2_with (first
              | (go_at_call 13; have := w1; refine (HMb.out _).mono ?_; rintro e w2 ⟨rfl, hw2⟩; rw [hw2]; clear hw2)
              | (go_at_call 13; refine (HMa.out _).mono ?_; rintro e w1 ⟨rfl, hw1⟩; rw [hw1]; clear hw1)
              | (go_at_call 14; refine (HLo.out _).mono ?_; rintro e w3 ⟨rfl, hw3⟩; rw [hw3]; clear hw3)
              | (go_at_call 21; refine HV.out.mono ?_; rintro e w4 ⟨rfl, h4⟩)
              | (go_at_call 46; refine (H1.out _ h4).mono ?_; rintro e w5 ⟨rfl, h5⟩; replace h5 := h4.trs h5)
              | (go_at_call 45; refine (H2.out _ h5).mono ?_; rintro e w6 ⟨rfl, h6⟩; replace h6 := h5.trs h6)
              | (go_at_call 48; refine (H3.out _ h6).mono ?_; rintro e w7 ⟨rfl, h7⟩; replace h7 := h6.trs h7)
              | (go_at_call 47; refine (H4.out _ h7).mono ?_; rintro e w8 ⟨rfl, h8⟩; replace h8 := h7.trs h8)
              | (go_at_call 38; refine (H5.out _).mono ?_; rintro e w9 ⟨h9, A9, c9, rfl, hr9⟩; replace hr9 := Lib.hid hr9; replace h9 := h8.trs h9)
              | (go_at_call 44; have := h10; refine (H7.out _ h10).mono ?_; rintro e w11 ⟨rfl, h11⟩; replace h11 := h10.trs h11)
              | (go_at_call 44; refine (H6.out _ _ _ h9 hr9.out).mono ?_; rintro e w10 ⟨rfl, h10⟩; replace h10 := h9.trs h10)
              | (go_at_call 42; refine (H8.out _ h11).mono ?_; rintro e w12 ⟨rfl, h12⟩; replace h12 := h11.trs h12)
              | (go_at_call 15; refine (HAw.out _).mono ?_; rintro e w13 ⟨rfl, h13⟩))
            go_ret
            exact ⟨by first | (simp; done) | (simp; exact Or.inr ‹_›), h12.trs h13⟩
end Go.Proofs.YteodljaphkpimaaDoor
