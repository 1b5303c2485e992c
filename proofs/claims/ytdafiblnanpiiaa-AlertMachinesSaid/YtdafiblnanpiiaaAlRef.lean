/- Walks over the reference of alert: how many minutes each task has; the urgent plan; Urgent, Can, Undone. -/
import Derived.Test.YtdafiblnanpiiaaAlQ
import Derived.Test.YtdafiblnanpiiaaAlG
namespace Go.Proofs.Ytdafiblnanpiiaa
open Go.RowKit
set_option linter.unusedSimpArgs false
set_option linter.unusedVariables false

theorem refopen_any (x y z m : Int) (w : World) :
    Calls Try.prog 95 #[.agg #[.int .i64 x, .int .i64 y, .int .i64 z], .int .i64 m] w fun e w' => e = .returned (.bool (openB x y m)) ∧ Below w.heap.size w w' := by
  unfold openB
  by_cases h1 : x ≤ m
  · have d1 : decide (x ≤ m) = true := by simpa using h1
    have D := Lib.hid d1
    go_enter Try.func95, Try.ntmps95
    go_wp2
    go_ret
    exact ⟨ret_bool (by first | rfl | (rw [D.out]; simp)), below_alloc _ _⟩
  · have d1 : decide (x ≤ m) = false := by simpa using h1
    have D := Lib.hid d1
    go_enter Try.func95, Try.ntmps95
    go_wp2
    go_ret
    exact ⟨ret_bool (by first | rfl | (rw [D.out]; simp)), below_alloc _ _⟩

set_option maxRecDepth 100000 in
set_option maxHeartbeats 4000000 in
theorem minutes_any (A : Option Addr) (c : Nat) (n : Nat) (A2 : Option Addr) (c2 : Nat) (p : List Int) (w : World) (hn : n ≤ 12) (hr2 : RdI w w.heap.size A2 p) (hp : ∀ m, m < p.length → -1 ≤ ix p m ∧ ix p m < n) (hlen : p.length ≤ 1000) :
    Calls Try.prog 79 #[.slice A n c, .slice A2 p.length c2] w fun e w' => ∃ c', e = .returned (.slice (some ⟨w.heap.size, 0, none⟩) n c') ∧ Below w.heap.size w w' ∧ BoxI w' w.heap.size (cntsT n p) := by
  obtain ⟨cs, hmk, hbx⟩ := run_make_int (P := Try.prog) Try.underlying32 infoInt (n : Int) (by omega) (by omega)
  rw [Int.toNat_natCast] at hbx
  have HR := Lib.hid hr2
  have HB0 := Lib.hid (hbx w)
  have HP := Lib.hid hp
  have HT := Lib.hid (fun m (hm : m < p.length) => take_succ_ix (p := p) hm)
  have HTA : Hid (p.take p.length = p) := Lib.hid (List.take_length)
  have HCB := Lib.hid (fun m i => cntI_bd (p.take m) i)
  have HTL := Lib.hid (fun m => List.length_take_le m p)
  clear hr2 hbx hp
  generalize hm : p.length = k0 at *
  have HM := Lib.hid hm; clear hm
  go_enter Try.func79, Try.ntmps79
  go_wp2
  go_loopg [6] k0 (fun k t wr => ∃ m : Nat, t = .int .i64 m ∧ m ≤ k0 ∧ k0 - m ≤ k ∧ BoxI wr w.heap.size (cntsT n (p.take m)) ∧ Below w.heap.size w wr)
  case atStart => exact ⟨0, rfl, by omega, by omega, by rw [List.take_zero, cntsT_nil]; exact HB0.out, below_alloc _ _⟩
  case round =>
    obtain ⟨m, rfl, hm, hk, hb, hB⟩ := hrel
    by_cases hlm : m < k0
    · obtain ⟨b2, o2, rfl, hb2, d1⟩ := HR.out.at_ (k := m) (by rw [HM.out]; exact hlm)
      rw [← hB.cell hb2] at d1
      have hpb := HP.out m hlm
      have HTm := Lib.hid (HT.out m hlm)
      generalize hpi : ix p m = b at *
      clear hpi
      have HX := Lib.hid (And.intro hb hB)
      rcases (show b < 0 ∨ ∃ kb : Nat, b = kb ∧ kb < n by
        by_cases h1 : b < 0
        · exact .inl h1
        · exact .inr ⟨b.toNat, by omega, by omega⟩) with hb0 | ⟨kb, hkb, hkn⟩
      · have hdb : decide (0 ≤ b) = false := by rw [decide_eq_false_iff_not]; omega
        have HBN := Lib.hid hb0
        clear hb hB hpb hb0
        go_wp2
        go_roundg (k0 - (m + 1))
        case measure => omega
        case rel => exact ⟨m + 1, by go_num, by omega, by omega, by rw [HTm.out, cntsT_rest _ _ _ HBN.out]; exact HX.out.1, HX.out.2⟩
      · have hdb : decide (0 ≤ b) = true := by rw [decide_eq_true_eq]; omega
        have hbt : b.toNat = kb := by omega
        have hb0 : 0 ≤ b := by omega
        have hbn : b < (n : Int) := hpb.2
        have cw := hb.cell (k := kb) (by rw [cntsT_len]; exact hkn)
        rw [cntsT_ix _ _ _ hkn] at cw
        have fw := hb.frozen kb
        have hcb := HCB.out m kb
        have htl := HTL.out m
        have HCW := Lib.hid (show cntsT n (p.take (m + 1)) = (cntsT n (p.take m)).set kb (cntI (p.take m) kb + 1) by rw [HTm.out, hkb, cntsT_work _ _ _ hkn])
        have hc0 : 0 ≤ cntI (p.take m) kb := hcb.1
        have hc1 : cntI (p.take m) kb ≤ 1000 := by omega
        generalize cntI (p.take m) kb = cn at *
        clear hb hB hpb hkb hcb htl
        go_wp2
        go_roundg (k0 - (m + 1))
        case measure => omega
        case rel => exact ⟨m + 1, by go_num, by omega, by omega, by rw [HCW.out]; exact HX.out.1.set_ kb _, HX.out.2.setCell (p := ⟨w.heap.size, kb, none⟩) (by simp) _⟩
    · obtain rfl : k0 = m := by omega
      rw [HTA.out] at hb
      have HX := Lib.hid (And.intro hb hB)
      clear hb hB
      go_wp2
      go_ret
      exact ⟨_, rfl, HX.out.2, HX.out.1⟩

set_option maxRecDepth 100000 in
set_option maxHeartbeats 8000000 in
theorem refurgent_any (A : Option Addr) (c : Nat) (L : List (Int × Int × Int)) (w : World) (hr : RdT w w.heap.size A L) (hok : okT L) :
    Calls Try.prog 77 #[.slice A L.length c] w fun e w' => ∃ A2 c2, e = .returned (.slice A2 100 c2) ∧ Below w.heap.size w w' ∧ RdI w' w'.heap.size A2 (urg L) := by
  have HR := Lib.hid hr; clear hr
  have hn12 := hok.1.2
  have hn1 := hok.1.1
  clear hok
  have HU : Hid (urg L = urgP L 100) := Lib.hid rfl
  have HUL := Lib.hid (urgP_len L)
  have HPM := Lib.hid (fun (m : Nat) j (hj : j < (urgP L m).length) => (show -1 ≤ ix (urgP L m) j ∧ ix (urgP L m) j < (L.length : Int) from urgP_mem L m _ (by
    rw [show ix (urgP L m) j = (urgP L m)[j] by simp [ix, hj]]; exact List.getElem_mem _)))
  have HUS : Hid (∀ m : Nat, urgP L (m + 1) = urgP L m ++ [bestT L (urgP L m) m L.length]) := Lib.hid (fun m => rfl)
  have HU0 : Hid (urgP L 0 = []) := Lib.hid rfl
  have HBB := Lib.hid (bestT_bd L)
  have HCB := Lib.hid (fun m i => cntI_bd (urgP L m) i)
  generalize urg L = pl at *
  generalize hn : L.length = n at *
  have HN := Lib.hid hn; clear hn
  go_enter Try.func77, Try.ntmps77
  go_wp2
  go_loopg [3, 4] 100 (fun k v t wr => ∃ m : Nat, t = .int .i64 m ∧ m ≤ 100 ∧ 100 - m ≤ k ∧ Below w.heap.size w wr ∧ OwnI wr w.heap.size 3 v (urgP L m))
  case atStart => exact ⟨0, rfl, by omega, by omega, Below.refl _ _, by rw [HU0.out]; exact OwnI.nil _ _ _⟩
  case round =>
    obtain ⟨m, rfl, hm, hk, hB, hO⟩ := hrel
    obtain ⟨wq, rfl⟩ : ∃ wq : World, wq = wr := ⟨_, rfl⟩
    have hulm := HUL.out m
    by_cases hlm : m < 100
    · have hdm : decide ((m : Int) < 100) = true := by rw [decide_eq_true_eq]; omega
      have HO := Lib.hid hO
      obtain ⟨A2, c2, rfl, hr2⟩ := hO.rd
      have HMI := Lib.hid (minutes_any A c n A2 c2 (urgP L m) wq hn12 hr2 (HPM.out m) (by omega))
      have HUSm := Lib.hid (HUS.out m)
      have HBest := Lib.hid (fun i => HBB.out (urgP L m) (m : Int) i)
      have HBS : Hid (∀ i, bestT L (urgP L m) m (i + 1) = if openB (ta L i) (tb L i) m && decide (cntI (urgP L m) i < tc L i) && (decide (bestT L (urgP L m) m i = -1) || decide (tb L i < tb L (bestT L (urgP L m) m i).toNat)) then (i : Int) else bestT L (urgP L m) m i) := Lib.hid (fun i => rfl)
      have hB0 : Hid (bestT L (urgP L m) m 0 = -1) := Lib.hid rfl
      have HCBm := Lib.hid (HCB.out m)
      rw [hulm] at HMI HO ⊢
      have HUM := Lib.hid hulm
      generalize bestT L (urgP L m) m = bst at *
      have HBQ := Lib.hid hB
      clear hO hr2 hB hulm
      go_wp2_with (go_at_call 79; refine HMI.out.mono ?_; rintro e w1 ⟨c', rfl, h1, hb1⟩; have HB1 := Lib.hid h1; have HX1 := Lib.hid hb1; clear h1 hb1)
      go_loopg [6, 7] n (fun k s t wi => ∃ i : Nat, s = .int .i64 (bst i) ∧ t = .int .i64 i ∧ i ≤ n ∧ n - i ≤ k ∧ Below w1.heap.size w1 wi)
      case atStart => exact ⟨0, by rw [hB0.out], rfl, by omega, by omega, Below.refl _ _⟩
      case round =>
        obtain ⟨i, rfl, rfl, hi, hki, hBi⟩ := hrel
        obtain ⟨wi, rfl⟩ : ∃ wi : World, wi = wr := ⟨_, rfl⟩
        by_cases hli : i < n
        · obtain ⟨bb, o, rfl, hb, hall⟩ := HR.out.form (by rw [HN.out]; omega)
          have hBw : Below w.heap.size w wi := (HBQ.out.trs HB1.out).trs hBi
          obtain ⟨c1, c2', c3⟩ := hall i (by rw [HN.out]; exact hli)
          rw [← hBw.cell hb] at c1 c2' c3
          have hbi := HBest.out i
          have HBI := Lib.hid (HBS.out i)
          have cl := (BoxI.on HX1.out hBi).cell (k := i) (by rw [cntsT_len]; exact hli)
          rw [cntsT_ix _ _ _ hli] at cl
          have ct : ∃ lt : Int, (bst i = -1 ∨ (0 ≤ bst i ∧ lt = tb L (bst i).toNat ∧ wi.cell? ⟨bb, o + (bst i).toNat * 3 + 1, none⟩ = some (.int .i64 lt))) := by
            by_cases h1 : bst i = -1
            · exact ⟨0, .inl h1⟩
            · refine ⟨_, .inr ⟨by omega, rfl, ?_⟩⟩
              rw [hBw.cell hb]
              exact (hall (bst i).toNat (by rw [HN.out]; omega)).2.1
          obtain ⟨lt, ct⟩ := ct
          have q1 : ∀ W : Over wi, W.W.cell? ⟨bb, o + i * 3, none⟩ = some (.int .i64 (ta L i)) := fun W => W.cell c1
          have q2 : ∀ W : Over wi, W.W.cell? ⟨bb, o + i * 3 + 1, none⟩ = some (.int .i64 (tb L i)) := fun W => W.cell c2'
          have q3 : ∀ W : Over wi, W.W.cell? ⟨bb, o + i * 3 + 2, none⟩ = some (.int .i64 (tc L i)) := fun W => W.cell c3
          have q4 : ∀ W : Over wi, W.W.cell? ⟨wq.heap.size, i, none⟩ = some (.int .i64 (cntI (urgP L m) i)) := fun W => W.cell cl
          have HOp := Lib.hid (fun W : Over wi => over_call W (refopen_any (ta L i) (tb L i) (tc L i) m W.W))
          have HBe := Lib.hid hBi
          have hii : (i : Int) < (n : Int) := by omega
          have hi0 : (0 : Int) ≤ (i : Int) := by omega
          clear c1 c2' c3 cl hBw hall hBi
          generalize hgb : bst i = b at *
          clear hgb
          generalize openB (ta L i) (tb L i) m = ob at *
          generalize ta L i = x at *
          generalize tb L i = y at *
          generalize tc L i = z at *
          generalize cntI (urgP L m) i = cn at *
          have hcase : (ob = true ∧ cn < z ∧ b = -1 ∧ bst (i + 1) = i) ∨ (ob = true ∧ cn < z ∧ (0 ≤ b ∧ b < n ∧ ∃ kb : Nat, b.toNat = kb ∧ wi.cell? ⟨bb, o + kb * 3 + 1, none⟩ = some (.int .i64 lt)) ∧ y < lt ∧ bst (i + 1) = i) ∨
              (ob = true ∧ cn < z ∧ (0 ≤ b ∧ b < n ∧ ∃ kb : Nat, b.toNat = kb ∧ wi.cell? ⟨bb, o + kb * 3 + 1, none⟩ = some (.int .i64 lt)) ∧ ¬ y < lt ∧ bst (i + 1) = b) ∨ (ob = true ∧ ¬ cn < z ∧ bst (i + 1) = b) ∨ (ob = false ∧ bst (i + 1) = b) := by
            have h2 := HBI.out
            cases ob
            · exact .inr (.inr (.inr (.inr ⟨rfl, by rw [h2]; rfl⟩)))
            · by_cases h3 : cn < z
              · rw [decide_eq_true h3] at h2
                rcases ct with rfl | ⟨h4, h5, h6⟩
                · exact .inl ⟨rfl, h3, rfl, h2⟩
                · have hn1' : ¬ b = -1 := by omega
                  rw [decide_eq_false hn1', ← h5] at h2
                  by_cases h7 : y < lt
                  · rw [decide_eq_true h7] at h2
                    exact .inr (.inl ⟨rfl, h3, ⟨h4, by omega, _, rfl, h6⟩, h7, h2⟩)
                  · rw [decide_eq_false h7] at h2
                    exact .inr (.inr (.inl ⟨rfl, h3, ⟨h4, by omega, _, rfl, h6⟩, h7, h2⟩))
              · rw [decide_eq_false h3] at h2
                exact .inr (.inr (.inr (.inl ⟨rfl, h3, h2⟩)))
          clear ct HBI hbi
          rcases hcase with ⟨rfl, h3, rfl, hbn⟩ | ⟨rfl, h3, ⟨hb0, hb1, kb, hkb, h6⟩, h7, hbn⟩ | ⟨rfl, h3, ⟨hb0, hb1, kb, hkb, h6⟩, h7, hbn⟩ | ⟨rfl, h3, hbn⟩ | ⟨rfl, hbn⟩
          · have HBN := Lib.hid hbn; clear hbn
            have d3 : decide (cn < z) = true := by rw [decide_eq_true_eq]; exact h3
            clear h3
            go_wp2
            refine wp_region_over (by kernel_rfl) (by kernel_rfl) ?_
            repeat (first | go_big_quiet_step ((go_at_call 95; exact HOp.out _)) | quiet_step ((go_at_call 95; exact HOp.out _)))
            refine wpQuiet_nil ?_
            intro _ hw'
            obtain ⟨W2, hw''⟩ := hw'
            subst hw''
            go_wp2
            go_roundg (n - (i + 1))
            case measure => omega
            case rel => exact ⟨i + 1, by rw [HBN.out], by go_num, by omega, by omega, HBe.out.trs W2.b⟩
          · have HBN := Lib.hid hbn; clear hbn
            have d3 : decide (cn < z) = true := by rw [decide_eq_true_eq]; exact h3
            have d7 : decide (y < lt) = true := by rw [decide_eq_true_eq]; exact h7
            have d8 : decide (b < 0) = false := by rw [decide_eq_false_iff_not]; omega
            have q5 : ∀ W : Over wi, W.W.cell? ⟨bb, o + kb * 3 + 1, none⟩ = some (.int .i64 lt) := fun W => W.cell h6
            clear h3 h6 h7
            go_wp2
            refine wp_region_over (by kernel_rfl) (by kernel_rfl) ?_
            repeat (first | go_big_quiet_step ((go_at_call 95; exact HOp.out _)) | quiet_step ((go_at_call 95; exact HOp.out _)))
            refine wpQuiet_nil ?_
            intro _ hw'
            obtain ⟨W2, hw''⟩ := hw'
            subst hw''
            go_wp2
            go_roundg (n - (i + 1))
            case measure => omega
            case rel => exact ⟨i + 1, by rw [HBN.out], by go_num, by omega, by omega, HBe.out.trs W2.b⟩
          · have HBN := Lib.hid hbn; clear hbn
            have d3 : decide (cn < z) = true := by rw [decide_eq_true_eq]; exact h3
            have d7 : decide (y < lt) = false := by rw [decide_eq_false_iff_not]; exact h7
            have d8 : decide (b < 0) = false := by rw [decide_eq_false_iff_not]; omega
            have q5 : ∀ W : Over wi, W.W.cell? ⟨bb, o + kb * 3 + 1, none⟩ = some (.int .i64 lt) := fun W => W.cell h6
            clear h3 h6 h7
            go_wp2
            refine wp_region_over (by kernel_rfl) (by kernel_rfl) ?_
            repeat (first | go_big_quiet_step ((go_at_call 95; exact HOp.out _)) | quiet_step ((go_at_call 95; exact HOp.out _)))
            refine wpQuiet_nil ?_
            intro _ hw'
            obtain ⟨W2, hw''⟩ := hw'
            subst hw''
            go_wp2
            go_roundg (n - (i + 1))
            case measure => omega
            case rel => exact ⟨i + 1, by rw [HBN.out], by go_num, by omega, by omega, HBe.out.trs W2.b⟩
          · have HBN := Lib.hid hbn; clear hbn
            have d3 : decide (cn < z) = false := by rw [decide_eq_false_iff_not]; exact h3
            clear h3
            go_wp2
            refine wp_region_over (by kernel_rfl) (by kernel_rfl) ?_
            repeat (first | go_big_quiet_step ((go_at_call 95; exact HOp.out _)) | quiet_step ((go_at_call 95; exact HOp.out _)))
            refine wpQuiet_nil ?_
            intro _ hw'
            obtain ⟨W2, hw''⟩ := hw'
            subst hw''
            go_wp2
            go_roundg (n - (i + 1))
            case measure => omega
            case rel => exact ⟨i + 1, by rw [HBN.out], by go_num, by omega, by omega, HBe.out.trs W2.b⟩
          · have HBN := Lib.hid hbn; clear hbn
            go_wp2
            refine wp_region_over (by kernel_rfl) (by kernel_rfl) ?_
            repeat (first | go_big_quiet_step ((go_at_call 95; exact HOp.out _)) | quiet_step ((go_at_call 95; exact HOp.out _)))
            refine wpQuiet_nil ?_
            intro _ hw'
            obtain ⟨W2, hw''⟩ := hw'
            subst hw''
            go_wp2
            go_roundg (n - (i + 1))
            case measure => omega
            case rel => exact ⟨i + 1, by rw [HBN.out], by go_num, by omega, by omega, HBe.out.trs W2.b⟩
        · obtain rfl : n = i := by omega
          have HBi := Lib.hid hBi
          have HO2 := Lib.hid ((HO.out.kept HB1.out).kept hBi)
          have hz := ((HBQ.out.trs HB1.out).trs hBi).size
          have hul := HUM.out
          generalize hgb : bst n = b at *
          clear hgb hBi
          go_wp2_with (refine wp_app_int 32 rfl (.tmp 57) (.tmp 59) rfl Try.underlying32 infoInt wi w.heap.size _ (urgP L m) b rfl (by rfl) HO2.out (by omega) hz ?_; intro v6 w6 hO6 hB6 hS6)
          go_roundg (100 - (m + 1))
          case measure => omega
          case rel => exact ⟨m + 1, by go_num, by omega, by omega, ((HBQ.out.trs HB1.out).trs HBi.out).trans hB6, by rw [HUSm.out]; exact hO6⟩
    · obtain rfl : m = 100 := by omega
      rw [← HU.out] at hO
      obtain ⟨A2, c2, rfl, hr2⟩ := hO.rd
      have hlen : pl.length = 100 := by rw [HU.out]; exact HUL.out 100
      rw [hlen]
      have HX := Lib.hid (And.intro hB hr2)
      clear hB hr2 hO
      go_wp2
      go_ret
      exact ⟨_, _, rfl, HX.out.1, HX.out.2⟩
end Go.Proofs.Ytdafiblnanpiiaa
