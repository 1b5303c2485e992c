/- The walk of the law SkyCovers. -/
import Derived.Test.YtolgpigdioanoaaSkyCp
import Derived.Test.YtolgpigdioanoaaSkySc
import Derived.Test.YtolgpigdioanoaaSkyDownW
namespace Go.Proofs.Ytolgpigdioanoaa
open Go.RowKit
set_option linter.unusedSimpArgs false
set_option linter.unusedVariables false

theorem rd_one (w : World) (k q : Int) (t : TypeId) : RdP (w.alloc (.cells #[.int .i64 k, .int .i64 q] t)) (w.alloc (.cells #[.int .i64 k, .int .i64 q] t)).heap.size (some ⟨w.heap.size, 0, none⟩) [(k, q)] := by
  have hb := Box.new w t #[.int .i64 k, .int .i64 q]
  refine .inr ⟨w.heap.size, 0, rfl, hb.lt, fun i hi => ?_⟩
  have : i = 0 := by simpa using hi
  subst this
  exact ⟨hb.cell 0, hb.cell 1⟩
theorem coarL_len2 (l : List (Int × Int)) (k : Int) : (coarL l k).length ≤ 400 := by
  unfold coarL
  split
  · exact toldL_len _
  · simp
set_option maxRecDepth 100000 in
set_option maxHeartbeats 8000000 in
theorem SkyCovers_gen (w : World) (A : Option Addr) (c : Nat) (l : List (Int × Int)) (hr : RdP w w.heap.size A l) (hl : l.length ≤ 1000) (hv : vldC l = true) (o p k q : Int) (o0 : 0 ≤ o) (o1 : o < 256) (p0 : 0 ≤ p) (p1 : p < 65536) (hk : o % 5 = k) (hq : p % px k = q) (hk4 : btw 0 k 4 = true) :
    Calls Try.prog 13 #[.slice A l.length c, .int .u8 o, .int .u16 p] w fun e w' => e = .returned (.bool true) ∧ Below w.heap.size w w' := by
  have d1 : decide ((1000 : Int) < (l.length : Int)) = false := by rw [decide_eq_false_iff_not]; omega
  have hpx := px_le hk4
  have hq2 : 0 ≤ q ∧ q < px k := by rw [← hq]; exact ⟨Int.emod_nonneg p (by omega), Int.emod_lt_of_pos p (by omega)⟩
  have hcq : okP k q = true := (okP_iff hk4).2 (by omega)
  have s1 : IntKind.i64.wrap o = o := IntWalk.i64_in _ (by omega)
  have s2 : IntKind.i64.wrap p = p := IntWalk.i64_in _ (by omega)
  have s1' : wrap64 o = o := IntWalk.wrap64_in _ (by omega)
  have s2' : wrap64 p = p := IntWalk.wrap64_in _ (by omega)
  have n1 : o.tmod 5 = k := by rw [Int.tmod_eq_emod_of_nonneg o0]; exact hk
  have n2 : p.tmod (px k) = q := by rw [Int.tmod_eq_emod_of_nonneg p0]; exact hq
  have v1 : IntKind.i64.wrap k = k := IntWalk.i64_in _ (by rw [btw_iff] at hk4; omega)
  have v2 : IntKind.i64.wrap q = q := IntWalk.i64_in _ (by omega)
  have m0 : ¬ px k = 0 := by omega
  have m1 : ¬ px k < 1 := by omega
  have V1 := Lib.hid (fun W (hW : Below w.heap.size w W) => refValid_any A c l W (hr.on hW) (by omega))
  rw [hv] at V1
  have HC := Lib.hid (fun W (hW : Below w.heap.size w W) => Coarse_any A c l k W (hr.on hW) (by omega))
  have hlen := coarL_len2 l k
  rcases coar_or hv hk4 with he | ⟨he, hn⟩
  · obtain ⟨lC, heach, hcell⟩ := covers hv hk4 he
    obtain ⟨c1, c2, c3, c4, c5⟩ := hcell q hcq
    rw [he] at HC
    have HX := Lib.hid (Pixels_ok k · hk4)
    have BL := Lib.hid (fun A2 c2 W (hW : Below w.heap.size w W) h => Both_any A c l A2 c2 [(k, q)] W (hr.on hW) (by omega) h (by simp))
    have BC := Lib.hid (fun A1 c1 A2 c2 W h1 h => Both_any A1 c1 (coarL l k) A2 c2 [(k, q)] W h1 (by omega) h (by simp))
    have HC2 := Lib.hid (fun A1 c1 W h => Has_any A1 c1 (coarL l k) k q W h (by omega))
    have HH1 : Hid (∀ i, i < l.length → ∀ W, Below w.heap.size w W → Calls Try.prog 55 #[.slice A l.length c, .agg #[.int .i64 (pa l i), .int .i64 (pb l i)]] W fun e w' => e = .returned (.tuple #[.bool true, .int .i64 0]) ∧ Below W.heap.size W w') := Lib.hid (fun i hi W hW => by
      have := Has_any A c l (pa l i) (pb l i) W (hr.on hW) (by omega)
      rw [(heach i hi).1, (heach i hi).2.1] at this
      exact this)
    have HH2 : Hid (∀ i, i < l.length → ∀ A1 c1 W, RdP W W.heap.size A1 (coarL l k) → Calls Try.prog 55 #[.slice A1 (coarL l k).length c1, .agg #[.int .i64 (pa l i), .int .i64 (pb l i)]] W fun e w' => e = .returned (.tuple #[.bool true, .int .i64 0]) ∧ Below W.heap.size W w') := Lib.hid (fun i hi A1 c1 W h => by
      have := Has_any A1 c1 (coarL l k) (pa l i) (pb l i) W h (by omega)
      rw [(heach i hi).2.2.1, (heach i hi).2.2.2] at this
      exact this)
    have lS : (mixL l [(k, q)] (bothR l [(k, q)])).length ≤ 400 := mixL_len _ _ _
    have HAT := Lib.hid (fun W (hW : Below w.heap.size w W) i (hi : i < l.length) => (hr.on hW).at_ hi)
    rw [c1] at BL
    rw [c2] at HC2
    unfold LstQ at *
    simp only [List.length_singleton] at BL BC
    clear heach hcell he lC hlen c1 c2 hcq hk4 hr hv hq2 hpx hk hq
    generalize mixE (coarL l k) [(k, q)] (bothR (coarL l k) [(k, q)]) = g at *
    generalize mixL (coarL l k) [(k, q)] (bothR (coarL l k) [(k, q)]) = PL at *
    generalize mixL l [(k, q)] (bothR l [(k, q)]) = SL at *
    generalize hasB (coarL l k) k q = wh at *
    generalize coarL l k = C at *
    generalize px k = N at *
    generalize l.length = n at *
    generalize C.length = nc at *
    generalize SL.length = ns at *
    generalize PL.length = np at *
    go_enter Try.func13, Try.ntmps13
    go_wp2_with (first
      | (go_at_call 42; refine (Long_any _ _ _ _ _).mono ?_; rintro e w' ⟨rfl, rfl⟩; rw [d1])
      | (go_at_call 45; refine (V1.out _ (Below.refl _ _)).mono ?_; rintro e wa ⟨rfl, ga⟩)
      | (go_at_call 43; refine (HC.out _ ga).mono ?_; rintro e w1 ⟨h1, A1, c1, rfl, r1⟩))
    have HB1 := Lib.hid (And.intro (ga.trs h1) r1)
    clear ga h1 r1
    go_loopg [10] n (fun gk t wr => ∃ i : Nat, t = .int .i64 i ∧ i ≤ n ∧ n - i ≤ gk ∧ Below w1.heap.size w1 wr)
    case atStart => exact ⟨0, rfl, by omega, by omega, Below.refl _ _⟩
    case round =>
      obtain ⟨i, rfl, hi, hgk, hB⟩ := hrel
      by_cases hlt : i < n
      · have hltI : (i : Int) < (n : Int) := by omega
        obtain ⟨b, o', rfl, hb, k0, k1⟩ := HAT.out _ (HB1.out.1.trs hB) i hlt
        have HHi := Lib.hid (HH1.out i hlt)
        have HHj := Lib.hid (HH2.out i hlt)
        have HL := Lib.hid (And.intro hlt hgk)
        have HBB := Lib.hid hB
        have HK := Lib.hid (And.intro hb (And.intro k0 k1))
        clear hB hgk
        generalize pa l i = x at *
        generalize pb l i = y at *
        go_wp2_with (first
          | (go_at_call 55; have hy := h4; refine (HHj.out _ _ _ (HB1.out.2.on (HBB.out.trs h4))).mono ?_; rintro e w5 ⟨rfl, h5⟩)
          | (go_at_call 55; refine (HHi.out _ (HB1.out.1.trs HBB.out)).mono ?_; rintro e w4 ⟨rfl, h4⟩; have k0 := (h4.cell HK.out.1).trans HK.out.2.1; have k1 := (h4.cell HK.out.1).trans HK.out.2.2))
        go_roundg (n - (i + 1))
        case measure => have := HL.out; omega
        case rel => exact ⟨i + 1, by go_num, by have := HL.out; omega, by have := HL.out; omega, (HBB.out.trs h4).trs h5⟩
      · obtain rfl : i = n := by omega
        have hltI : ¬ (i : Int) < (i : Int) := by omega
        have HBB := Lib.hid hB
        clear hB
        have hcs : (wh = true ∧ (0 : Int) < (ns : Int)) ∨ (wh = false ∧ ns = 0 ∧ np = 0) := by
          cases wh
          · exact .inr ⟨rfl, by have := of_decide_eq_false c4.symm; omega, c5 rfl⟩
          · exact .inl ⟨rfl, by have := of_decide_eq_true c4.symm; omega⟩
        clear c4 c5 lS
        go_upto_region 18 with (first
          | (go_at_call 25; refine (HX.out _).mono ?_; rintro e w6 ⟨rfl, h6⟩))
        have hx := Box.new w6 60 #[.int .i64 k, .int .i64 q]
        have h6c := h6.trs (below_alloc w6 (.cells #[.int .i64 k, .int .i64 q] 60))
        generalize hwc : w6.alloc (.cells #[.int .i64 k, .int .i64 q] 60) = wc at *
        clear hwc
        generalize w6.heap.size = gc at *
        have q0 := hx.cell 0
        have q1 := hx.cell 1
        simp at q0 q1
        have HC6 := Lib.hid (And.intro ((HB1.out.1.trs HBB.out).trs h6c) (And.intro (HB1.out.2.on (HBB.out.trs h6c)) hx))
        clear h6 h6c hx
        have b1 := below_alloc wc (.cells #[.int .i64 k, .int .i64 q] 60)
        have HA1 := Lib.hid (And.intro b1 (rd_one wc k q 60))
        clear b1
        rcases c3 with rfl | rfl <;> rcases hcs with ⟨rfl, hns⟩ | ⟨rfl, rfl, rfl⟩
        all_goals
          go_wp2_with (first
            | (go_at_call 49; have hy := g8; refine (BC.out _ _ _ _ _ ((HC6.out.2.1.on (g8)).on (below_alloc _ _)) (rd_one _ _ _ _)).mono ?_; rintro e w9 ⟨h9, A9, c9, rfl, r9⟩; have g9 := (g8.trs (below_alloc _ _)).trs h9)
            | (go_at_call 49; refine (BL.out _ _ _ (HC6.out.1.trs HA1.out.1) HA1.out.2).mono ?_; rintro e w7 ⟨h7, A7, c7, rfl, r7⟩; have g7 := HA1.out.1.trs h7; have hbx := HC6.out.2.2.on g7; have q0 := hbx.cell 0; have q1 := hbx.cell 1; simp at q0 q1)
            | (go_at_call 55; refine (HC2.out _ _ _ (HC6.out.2.1.on g7)).mono ?_; rintro e w8 ⟨rfl, h8⟩; have g8 := g7.trs h8; have hbx := HC6.out.2.2.on g8; have q0 := hbx.cell 0; have q1 := hbx.cell 1; simp at q0 q1)
            | (go_at_call 22; refine (Sane_any _).mono ?_; rintro e w18 ⟨rfl, h18⟩))
          go_ret
          exact ⟨by first | rfl | simp, (HC6.out.1.trs g9).trs h18⟩
  · rw [he, List.length_eq_zero_iff.1 hn] at HC
    unfold LstQ at HC
    simp only [List.length_nil] at HC
    clear hlen he hn hq2 hcq hpx hv hr hk4
    generalize l.length = n at *
    go_enter Try.func13, Try.ntmps13
    go_wp2_with (first
      | (go_at_call 42; refine (Long_any _ _ _ _ _).mono ?_; rintro e w' ⟨rfl, rfl⟩; rw [d1])
      | (go_at_call 45; refine (V1.out _ (Below.refl _ _)).mono ?_; rintro e wa ⟨rfl, ga⟩)
      | (go_at_call 43; refine (HC.out _ ga).mono ?_; rintro e w1 ⟨h1, A1, c1, rfl, r1⟩)
      | (go_at_call 22; refine (Sane_any _).mono ?_; rintro e w18 ⟨rfl, h18⟩))
    go_ret
    exact ⟨by first | rfl | simp, (ga.trs h1).trs h18⟩
set_option maxRecDepth 100000 in
set_option maxHeartbeats 4000000 in
theorem SkyCovers_walk (w : World) (A : Option Addr) (c : Nat) (l : List (Int × Int)) (hr : RdP w w.heap.size A l) (hm : l.length ≤ maxLen) (o : Int) (wo : (Lit.int .u8 o).wf = true) (p : Int) (wp : (Lit.int .u16 p).wf = true) :
    Calls Try.prog 13 #[.slice A l.length c, .int .u8 o, .int .u16 p] w fun e w' => e = .returned (.bool true) ∧ Below w.heap.size w w' := by
  have bo := bounds_u8 wo
  have bp := bounds_u16 wp
  by_cases h1 : l.length ≤ 1000
  · have d1 : decide ((1000 : Int) < (l.length : Int)) = false := by rw [decide_eq_false_iff_not]; omega
    cases hv : vldC l
    · have V1 := Lib.hid (fun W (hW : Below w.heap.size w W) => refValid_any A c l W (hr.on hW) (by omega))
      rw [hv] at V1
      clear hr hm h1 hv
      generalize l.length = n at *
      go_enter Try.func13, Try.ntmps13
      go_wp2_with (first
        | (go_at_call 42; refine (Long_any _ _ _ _ _).mono ?_; rintro e w' ⟨rfl, rfl⟩; rw [d1])
        | (go_at_call 45; refine (V1.out _ (Below.refl _ _)).mono ?_; rintro e wa ⟨rfl, ga⟩)
        | (go_at_call 22; refine (Sane_any _).mono ?_; rintro e w18 ⟨rfl, h18⟩))
      go_ret
      exact ⟨by first | rfl | simp, ga.trs h18⟩
    · exact SkyCovers_gen w A c l hr h1 hv o p _ _ bo.1 (by omega) bp.1 (by omega) rfl rfl (by rw [btw_iff]; omega)
  · have d1 : decide ((1000 : Int) < (l.length : Int)) = true := by rw [decide_eq_true_eq]; omega
    clear hr hm h1
    generalize l.length = n at *
    go_enter Try.func13, Try.ntmps13
    go_wp2_with (first
      | (go_at_call 42; refine (Long_any _ _ _ _ _).mono ?_; rintro e w' ⟨rfl, rfl⟩; rw [d1])
      | (go_at_call 22; refine (Sane_any _).mono ?_; rintro e w18 ⟨rfl, h18⟩))
    go_ret
    exact ⟨by first | rfl | simp, h18⟩
end Go.Proofs.Ytolgpigdioanoaa
