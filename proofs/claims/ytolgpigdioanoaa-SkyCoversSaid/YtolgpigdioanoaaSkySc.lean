/- Walks over the reference's sky: Count, Size, Has, Set. -/
import Derived.Test.YtolgpigdioanoaaSkySb
import Derived.Deep.RegionHeld3
namespace Go.Proofs.Ytolgpigdioanoaa
open Go.RowKit
set_option linter.unusedSimpArgs false
set_option linter.unusedVariables false

set_option maxRecDepth 100000 in
set_option maxHeartbeats 4000000 in
theorem Count_any (S : Px) (g c : Nat) (w : World) (hX : BoxA w g S) :
    Calls Try.prog 123 #[.slice (some ⟨g, 0, none⟩) 3072 c] w fun e w' => e = .returned (.int .i64 (cntP S 0 3072 : Nat)) ∧ w = w' := by
  have HX := Lib.hid hX
  have HC0 : Hid (cntP S 0 0 = 0) := Lib.hid rfl
  have HCS : Hid (∀ i, cntP S 0 (i + 1) = cntP S 0 i + (S i).toNat) := Lib.hid (fun i => by simp only [cntP, Nat.zero_add])
  have HCL := Lib.hid (cntP_le S 0)
  clear hX
  go_enter Try.func123, Try.ntmps123
  go_wp2
  go_loopg [3, 4] 3072 (fun gk s t wr => ∃ i : Nat, s = .int .i64 (cntP S 0 i : Nat) ∧ t = .int .i64 i ∧ i ≤ 3072 ∧ 3072 - i ≤ gk ∧ wr = w)
  case atStart => exact ⟨0, by rw [HC0.out]; rfl, rfl, by omega, by omega, rfl⟩
  case round =>
    obtain ⟨i, rfl, rfl, hi, hgk, rfl⟩ := hrel
    have hcl := HCL.out i
    by_cases hlt : i < 3072
    · have hltI : (i : Int) < 3072 := by omega
      have cc := HX.out.cell hlt
      have hcs := HCS.out i
      have HL := Lib.hid (And.intro hlt hgk)
      cases hs : S i
      all_goals
        rw [hs] at cc hcs
        have HCI := Lib.hid hcs
        clear hcs hs
        generalize cntP S 0 i = ci at *
        go_wp2
        go_roundg (3072 - (i + 1))
        case measure => have := HL.out; omega
        case rel => exact ⟨i + 1, by rw [HCI.out]; first | rfl | (simp; done) | go_num, by go_num, by have := HL.out; omega, by have := HL.out; omega, rfl⟩
    · obtain rfl : i = 3072 := by omega
      go_wp2
      go_ret
      exact ⟨rfl, rfl⟩
set_option maxRecDepth 100000 in
set_option maxHeartbeats 4000000 in
theorem refSize_any (A : Option Addr) (c : Nat) (l : List (Int × Int)) (w : World) (hr : RdP w w.heap.size A l) (hl : l.length ≤ 1000000) :
    Calls Try.prog 60 #[.slice A l.length c] w fun e w' => e = .returned (.tuple #[.int .i64 (sizN l : Nat), .int .i64 (sizE l)]) ∧ Below w.heap.size w w' := by
  have HV := Lib.hid (refValid_any A c l w hr hl)
  have HA := Lib.hid (fun (h : vldC l = true) W (hW : Below w.heap.size w W) => AreaOf_any A c l W (hr.on hW) hl (badB_no (vldC_iff.1 h).2.1))
  have HE : Hid (∀ v, vldC l = v → sizE l = if v then 0 else 60) := Lib.hid (fun v h => by rw [← h]; rfl)
  have HN : Hid (∀ v, vldC l = v → sizN l = if v then cntP (uniP l) 0 3072 else 0) := Lib.hid (fun v h => by rw [← h]; rfl)
  have HC := Lib.hid (fun g c W hX => Count_any (uniP l) g c W hX)
  unfold AreQ at HA
  clear hr hl
  generalize sizE l = se at *
  generalize sizN l = sn at *
  cases hv : vldC l
  · have e1 := HE.out _ hv
    have e2 := HN.out _ hv
    simp at e1 e2
    subst e1; subst e2
    rw [hv] at HV
    clear HE HN HA HC hv
    generalize l.length = n at *
    go_enter Try.func60, Try.ntmps60
    go_wp2_with (go_at_call 45; refine HV.out.mono ?_; rintro e w1 ⟨rfl, h1⟩)
    go_ret2
    exact ⟨rfl, h1⟩
  · have e1 := HE.out _ hv
    have e2 := HN.out _ hv
    simp only [if_true] at e1 e2
    subst e1; subst e2
    rw [hv] at HV
    have HAA := Lib.hid (HA.out hv)
    clear HE HN HA hv
    generalize cntP (uniP l) 0 3072 = cn at *
    generalize uniP l = U at *
    generalize l.length = n at *
    go_enter Try.func60, Try.ntmps60
    go_wp2_with (first
      | (go_at_call 45; refine HV.out.mono ?_; rintro e w1 ⟨rfl, h1⟩)
      | (go_at_call 103; refine (HAA.out _ h1).mono ?_; rintro e w3 ⟨g1, rfl, hg1, h3, hx1⟩)
      | (go_at_call 123; refine (HC.out _ _ _ hx1).mono ?_; rintro e w' ⟨rfl, rfl⟩))
    go_ret2
    exact ⟨rfl, h1.trs h3⟩
set_option maxRecDepth 100000 in
set_option maxHeartbeats 4000000 in
theorem refHas_any (A : Option Addr) (c : Nat) (l : List (Int × Int)) (k p : Int) (w : World) (hr : RdP w w.heap.size A l) (hl : l.length ≤ 1000000) :
    Calls Try.prog 61 #[.slice A l.length c, .agg #[.int .i64 k, .int .i64 p]] w fun e w' => e = .returned (.tuple #[.bool (hasB l k p), .int .i64 (hasE l k p)]) ∧ Below w.heap.size w w' := by
  have hb0 := below_alloc w (.cells #[.int .i64 k, .int .i64 p] 60)
  have hx0 := Box.new w 60 #[.int .i64 k, .int .i64 p]
  have HV := Lib.hid (refValid_any A c l _ (hr.on hb0) hl)
  have HA := Lib.hid (fun (h : vldC l = true) W (hW : Below w.heap.size w W) => AreaOf_any A c l W (hr.on hW) hl (badB_no (vldC_iff.1 h).2.1))
  have HX := Lib.hid (And.intro hx0 hb0)
  have HI := Lib.hid (fun W => IsCell_any k p W)
  have HF := Lib.hid (fun (h : okP k p = true) g c W hX => reffull_cell (uniP l) g c k p W hX h)
  have HB : Hid (hasB l k p = (vldC l && okP k p && allC (uniP l) k p)) := Lib.hid rfl
  have HE : Hid (hasE l k p = if vldC l then (if okP k p then 0 else 2) else 60) := Lib.hid rfl
  unfold AreQ at HA
  clear hr hb0 hx0 hl
  generalize hasB l k p = rb at *
  generalize hasE l k p = re at *
  generalize allC (uniP l) k p = al at *
  generalize uniP l = U at *
  generalize okP k p = ok at *
  generalize l.length = n at *
  generalize vldC l = vl at *
  cases vl
  · clear HA HF
    go_enter Try.func61, Try.ntmps61
    go_upto_region 1 with (fail)
    generalize hW0 : w.alloc (.cells #[.int .i64 k, .int .i64 p] 60) = W0 at *
    clear hW0
    go_wp2_with (go_at_call 45; refine HV.out.mono ?_; rintro e w1 ⟨rfl, h1⟩)
    go_ret2
    exact ⟨by rw [HB.out, HE.out]; first | done | rfl, HX.out.2.trs h1⟩
  · have HAA := Lib.hid (HA.out rfl)
    cases ok
    · go_enter Try.func61, Try.ntmps61
      go_upto_region 1 with (fail)
      generalize hW0 : w.alloc (.cells #[.int .i64 k, .int .i64 p] 60) = W0 at *
      clear hW0
      go_wp2_with (first
        | (go_at_call 45; refine HV.out.mono ?_; rintro e w1 ⟨rfl, h1⟩; have k0 := (HX.out.1.on h1).cell 0; have k1 := (HX.out.1.on h1).cell 1; simp at k0 k1)
        | (go_at_call 105; refine (HI.out _).mono ?_; rintro e w2 ⟨rfl, h2⟩))
      go_ret2
      exact ⟨by rw [HB.out, HE.out]; first | done | rfl, (HX.out.2.trs h1).trs h2⟩
    · have HFF := Lib.hid (HF.out rfl)
      go_enter Try.func61, Try.ntmps61
      go_upto_region 1 with (fail)
      generalize hW0 : w.alloc (.cells #[.int .i64 k, .int .i64 p] 60) = W0 at *
      clear hW0
      go_upto_region 5 with (first
        | (go_at_call 45; refine HV.out.mono ?_; rintro e w1 ⟨rfl, h1⟩; have k0 := (HX.out.1.on h1).cell 0; have k1 := (HX.out.1.on h1).cell 1; simp at k0 k1)
        | (go_at_call 105; refine (HI.out _).mono ?_; rintro e w2 ⟨rfl, h2⟩))
      have hbx := HX.out.1.on (h1.trs h2)
      have k0 := hbx.cell 0
      have k1 := hbx.cell 1
      simp at k0 k1
      have hgw := hbx.lt
      have HB2 := Lib.hid ((HX.out.2.trs h1).trs h2)
      have HAW := Lib.hid (fun W (hW : Below w2.heap.size w2 W) => HAA.out W (((HX.out.2.trs h1).trs h2).trs hW))
      clear hbx h1 h2 HV HI HX HAA HA
      generalize hgc : w.heap.size = gc at *
      have HGC := Lib.hid hgc
      clear hgc
      go_region_held3 (fun w' => w'.cell? ⟨gc, 0, none⟩ = some (.int .i64 k) ∧ w'.cell? ⟨gc, 1, none⟩ = some (.int .i64 p)) (first | go_keep | (refine ⟨?_, ?_⟩ <;> (rw [h4.cell (by first | exact hg3 | assumption)]; first | assumption | go_keep)) | (refine ⟨?_, ?_⟩ <;> (rw [h3.cell (by first | exact hgw | (simp; done) | (simp; omega))]; first | assumption | go_keep)))
        (first
          | (go_at_call 103; refine (HAW.out _ ((Below.refl _ _).drewsN 1)).mono ?_; rintro e w3 ⟨g1, rfl, hg1, h3, hx1⟩; have hg3 : gc < w3.heap.size := Nat.lt_of_lt_of_le hgw h3.size)
          | (go_at_call 124; refine (HFF.out _ _ _ hx1).mono ?_; rintro e w4 ⟨rfl, h4⟩))
      all_goals
        go_wp2
        go_ret2
        exact ⟨by rw [HB.out, HE.out]; first | done | rfl, by rw [HGC.out]; exact ((HB2.out.drewsN 1).trans (h3.mono (Nat.le_of_lt hgw))).trans (h4.mono (Nat.le_of_lt hg3))⟩
set_option maxRecDepth 100000 in
set_option maxHeartbeats 4000000 in
theorem refSet_any (A : Option Addr) (c : Nat) (l : List (Int × Int)) (w : World) (hr : RdP w w.heap.size A l) (hl : l.length ≤ 1000000) :
    Calls Try.prog 57 #[.slice A l.length c] w (LstQ (setL l) (setE l) w) := by
  have HAT := Lib.hid (fun W (hW : Below w.heap.size w W) k (hk : k < l.length) => (hr.on hW).at_ hk)
  have HAR := Lib.hid (fun (h : okL l) W (hW : Below w.heap.size w W) => AreaOf_any A c l W (hr.on hW) hl h)
  have HT := Lib.hid (fun g W hX => set_any (uniP l) g W hX)
  have HI := Lib.hid IsCell_any
  have HN : Hid (setBad l = true → ∀ W, Below w.heap.size w W → LstQ (setL l) (setE l) w (.returned (.tuple #[.slice none 0 0, .int .i64 2])) W) := Lib.hid (fun h W hW => by
    unfold setL setE; rw [h]; exact LstQ.no_ hW)
  have HY : Hid (setBad l = false → setL l = toldL (uniP l) ∧ setE l = toldE (uniP l)) := Lib.hid (fun h => by unfold setL setE; rw [h]; exact ⟨rfl, rfl⟩)
  have HS : Hid (setBad l = (decide (4000 < l.length) || badB l)) := Lib.hid rfl
  have HBN : Hid (∀ k, k < l.length → okP (pa l k) (pb l k) = false → badB l = true) := Lib.hid (fun k hk h => by
    cases hb : badB l
    · have := badB_no hb k hk; rw [h] at this; cases this
    · rfl)
  have HBY : Hid ((∀ k, k < l.length → okP (pa l k) (pb l k) = true) → badB l = false) := Lib.hid (fun h => anyF_no.2 fun k hk => by rw [h k hk]; rfl)
  have HOK : Hid ((∀ k, k < l.length → okP (pa l k) (pb l k) = true) → okL l) := Lib.hid (fun h => h)
  unfold AreQ at HAR
  unfold LstQ at HT
  generalize setL l = RL at *
  generalize setE l = RE at *
  generalize setBad l = sb at *
  generalize badB l = bb at *
  clear hr
  by_cases h4 : 4000 < l.length
  · have h4I : decide ((4000 : Int) < (l.length : Int)) = true := by rw [decide_eq_true_eq]; omega
    have H0 := Lib.hid (HN.out (by rw [HS.out, decide_eq_true h4]; rfl))
    clear HN HY HS HAT HAR HBN HBY HOK
    generalize l.length = n at *
    go_enter Try.func57, Try.ntmps57
    go_wp2
    go_ret2
    exact H0.out _ (Below.refl _ _)
  · have h4I : decide ((4000 : Int) < (l.length : Int)) = false := by rw [decide_eq_false_iff_not]; omega
    have hn4 : l.length ≤ 4000 := by omega
    have HS2 : Hid (sb = bb) := Lib.hid (by rw [HS.out, decide_eq_false h4, Bool.false_or])
    clear HS h4
    generalize uniP l = U at *
    generalize toldL U = TL at *
    generalize toldE U = TE at *
    generalize l.length = n at *
    go_enter Try.func57, Try.ntmps57
    go_wp2
    go_loopg [4] n (fun gk t wr => ∃ i : Nat, t = .int .i64 i ∧ i ≤ n ∧ n - i ≤ gk ∧ Below w.heap.size w wr ∧ Aside (∀ k, k < i → okP (pa l k) (pb l k) = true))
    case atStart => exact ⟨0, rfl, by omega, by omega, Below.refl _ _, (fun j hj => absurd hj (Nat.not_lt_zero j) : ∀ k, k < 0 → okP (pa l k) (pb l k) = true)⟩
    case round =>
      obtain ⟨i, rfl, hi, hk, hB, HA⟩ := hrel
      by_cases hlt : i < n
      · obtain ⟨b, o, rfl, hb, c0, c1⟩ := HAT.out _ hB i hlt
        have hltI : (i : Int) < (n : Int) := by omega
        have HNI := Lib.hid (HBN.out i hlt)
        have HII := Lib.hid (fun W => HI.out (pa l i) (pb l i) W)
        have HAI := Lib.hid (fun (h : okP (pa l i) (pb l i) = true) (k : Nat) (hk : k < i + 1) => (by
          rcases Nat.lt_succ_iff_lt_or_eq.1 hk with h1 | rfl
          · exact HA.out k h1
          · exact h : okP (pa l k) (pb l k) = true))
        have HL := Lib.hid (And.intro hlt hk)
        have HBB := Lib.hid hB
        clear hB HA hk
        generalize pa l i = x at *
        generalize pb l i = y at *
        generalize okP x y = okxy at *
        cases okxy
        · have H0 := Lib.hid (HN.out (by rw [HS2.out]; exact HNI.out rfl))
          go_wp2_with (go_at_call 105; refine (HII.out _).mono ?_; rintro e w2 ⟨rfl, h2⟩)
          go_ret2
          exact H0.out _ (HBB.out.trs h2)
        · have HAI2 := Lib.hid (HAI.out rfl)
          go_wp2_with (go_at_call 105; refine (HII.out _).mono ?_; rintro e w2 ⟨rfl, h2⟩)
          go_roundg (n - (i + 1))
          case measure => have := HL.out; omega
          case rel => exact ⟨i + 1, by go_num, by have := HL.out; omega, by have := HL.out; omega, HBB.out.trs h2, HAI2.out⟩
      · obtain rfl : i = n := by omega
        have hltI : ¬ (i : Int) < (i : Int) := by omega
        have HAA := Lib.hid (HAR.out (HOK.out HA.out))
        obtain ⟨e1, e2⟩ := HY.out (by rw [HS2.out]; exact HBY.out HA.out)
        have HBB := Lib.hid hB
        clear hB HA
        go_wp2_with (first
          | (go_at_call 103; refine (HAA.out _ HBB.out).mono ?_; rintro e w3 ⟨g1, rfl, hg1, h3', hx1⟩; have h3 := HBB.out.trs h3')
          | (go_at_call 100; refine (HT.out _ _ hx1).mono ?_; rintro e w9 ⟨h9, A9, c9, rfl, hr9⟩))
        go_ret2
        refine ⟨h3.trs h9, A9, c9, ?_, ?_⟩
        · rw [e1, e2]; first | done | rfl
        · rw [e1]; exact hr9
end Go.Proofs.Ytolgpigdioanoaa
