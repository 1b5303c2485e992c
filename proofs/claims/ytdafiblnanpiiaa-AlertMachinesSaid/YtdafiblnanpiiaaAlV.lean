/- Walks over package alert: the urgent plan. -/
import Derived.Test.YtdafiblnanpiiaaAlU
import Derived.Outline
import Derived.Deep.MidRow
namespace Go.Proofs.Ytdafiblnanpiiaa
open Go.RowKit
set_option linter.unusedSimpArgs false
set_option linter.unusedVariables false

theorem open_any (x y z m : Int) (w : World) :
    Calls Try.prog 92 #[.agg #[.int .i64 x, .int .i64 y, .int .i64 z], .int .i64 m] w fun e w' => e = .returned (.bool (openB x y m)) ∧ Below w.heap.size w w' := by
  unfold openB
  by_cases h1 : x ≤ m
  · have d1 : decide (x ≤ m) = true := by simpa using h1
    have D := Lib.hid d1
    go_enter Try.func92, Try.ntmps92
    go_wp2
    go_ret
    exact ⟨ret_bool (by first | rfl | (rw [D.out]; simp)), below_alloc _ _⟩
  · have d1 : decide (x ≤ m) = false := by simpa using h1
    have D := Lib.hid d1
    go_enter Try.func92, Try.ntmps92
    go_wp2
    go_ret
    exact ⟨ret_bool (by first | rfl | (rw [D.out]; simp)), below_alloc _ _⟩

theorem zeroPlan : Try.zeroCells69 = ((List.replicate 100 (0 : Int)).map (Value.int .i64)).toArray := by kernel_rfl
theorem infoPlan : (Try.prog.info? 69).map (·.size) = some 100 := by kernel_rfl
theorem newPlan (w : World) : BoxK 69 (w.alloc (.cells Try.zeroCells69 69)) w.heap.size (List.replicate 100 0) := by
  unfold BoxK; rw [← zeroPlan]; exact Box.new _ _ _

set_option maxRecDepth 100000 in
set_option maxHeartbeats 8000000 in
theorem urgent_any (A : Option Addr) (c : Nat) (L : List (Int × Int × Int)) (w : World) (hr : RdT w w.heap.size A L) (hok : okT L) :
    Calls Try.prog 74 #[.slice A L.length c] w fun e w' => e = .returned (.agg ((urg L).map (Value.int .i64)).toArray) ∧ Below w.heap.size w w' := by
  have HR := Lib.hid hr; clear hr
  have HO := Lib.hid hok
  have hn12 := hok.1.2
  have hn1 := hok.1.1
  clear hok
  have HU : Hid (urg L = urgP L 100) := Lib.hid rfl
  generalize urg L = pl at *
  generalize hn : L.length = n at *
  have HN := Lib.hid hn; clear hn
  obtain ⟨cs, hmk, hbx⟩ := run_make_int (P := Try.prog) Try.underlying32 infoInt (n : Int) (by omega) (by omega)
  rw [Int.toNat_natCast] at hbx
  have b1 := newPlan w
  have b2 := hbx (w.alloc (.cells Try.zeroCells69 69))
  rw [World.size_alloc] at b2
  have b1' := b1.alloc (.cells cs 3)
  have hB0 : Below w.heap.size w ((w.alloc (.cells Try.zeroCells69 69)).alloc (.cells cs 3)) := (below_alloc _ _).trs (below_alloc _ _)
  have B1 := Lib.hid b1'; have B2 := Lib.hid b2; have HB0 := Lib.hid hB0
  clear b1 b2 b1' hB0 hbx
  go_enter Try.func74, Try.ntmps74
  go_wp2
  go_loopg [16] n (fun k t wr => ∃ i : Nat, t = .int .i64 i ∧ i ≤ n ∧ n - i ≤ k ∧ BoxK 69 wr w.heap.size (List.replicate 100 0) ∧ BoxI wr (w.heap.size + 1) (worksT L i) ∧ Below w.heap.size w wr)
  case atStart => exact ⟨0, rfl, by omega, by omega, B1.out, by rw [worksT_zero, HN.out]; exact B2.out, HB0.out⟩
  case round =>
    obtain ⟨i, rfl, hi, hk, hb1, hb2, hB⟩ := hrel
    by_cases hlt : i < n
    · obtain ⟨bb, o, rfl, hb, c1, c2, c3⟩ := HR.out.at_ (k := i) (by rw [HN.out]; exact hlt)
      rw [← hB.cell hb] at c1 c2 c3
      have hl2 := worksT_len L i
      rw [HN.out] at hl2
      have HS := Lib.hid (worksT_succ L i (by rw [HN.out]; exact hlt))
      have cw := hb2.cell (k := i) (by rw [hl2]; exact hlt)
      have fw := hb2.frozen i
      have HX := Lib.hid (And.intro hb1 (And.intro hb2 hB))
      have hz1 := hb2.lt
      clear hb1 hb2 hB
      go_wp2
      go_roundg (n - (i + 1))
      case measure => omega
      case rel => exact ⟨i + 1, by go_num, by omega, by omega, (HX.out.1.far (p := ⟨w.heap.size + 1, i, none⟩) (by simp) _).alloc _, by rw [HS.out]; exact BoxI.alloc (HX.out.2.1.set_ i _) _, (HX.out.2.2.setCell (p := ⟨w.heap.size + 1, i, none⟩) (by simp) _).trs (below_alloc _ _)⟩
    · obtain rfl : n = i := by omega
      obtain ⟨wo, rfl⟩ : ∃ wo : World, wo = wr := ⟨_, rfl⟩
      rw [show worksT L n = lefts L [] by rw [← worksT_all, HN.out]] at hb2
      have HX := Lib.hid (And.intro hb1 (And.intro hb2 hB))
      have hz1 := hb2.lt
      clear hb1 hb2 hB
      have b3 := newPlan wo
      have HX2 := Lib.hid (And.intro (HX.out.1.alloc (.cells Try.zeroCells69 69)) (And.intro (BoxI.alloc HX.out.2.1 (.cells Try.zeroCells69 69)) (And.intro b3 (HX.out.2.2.trs (below_alloc wo (.cells Try.zeroCells69 69))))))
      clear b3 HX
      have HUZ : Hid (urgP L 0 = []) := Lib.hid rfl
      have HUS : Hid (∀ m : Nat, urgP L (m + 1) = urgP L m ++ [bestT L (urgP L m) m n]) := Lib.hid (fun m => by rw [← HN.out]; rfl)
      have HUL := Lib.hid (urgP_len L)
      have HBB := Lib.hid (bestT_bd L)
      go_wp2
      go_loopg [27] 100 (fun k t wq => ∃ m : Nat, t = .int .i64 m ∧ m ≤ 100 ∧ 100 - m ≤ k ∧ BoxK 69 wq w.heap.size (List.replicate 100 0) ∧ BoxI wq (w.heap.size + 1) (lefts L (urgP L m)) ∧ BoxK 69 wq wo.heap.size (padP (urgP L m)) ∧ Below w.heap.size w wq)
      case atStart => exact ⟨0, rfl, by omega, by omega, HX2.out.1, by rw [HUZ.out]; exact HX2.out.2.1, by rw [HUZ.out, padP_nil]; exact HX2.out.2.2.1, HX2.out.2.2.2⟩
      case round =>
        obtain ⟨m, rfl, hm, hkm, p1, p2, p3, hBq⟩ := hrel
        obtain ⟨wq, rfl⟩ : ∃ wq : World, wq = wr := ⟨_, rfl⟩
        by_cases hlm : m < 100
        · have hdm : decide ((m : Int) < 100) = true := by rw [decide_eq_true_eq]; omega
          have hpl := HUL.out m
          have HPL := Lib.hid hpl
          have HUS2 := Lib.hid (HUS.out m)
          have HBest := Lib.hid (fun i => HBB.out (urgP L m) (m : Int) i)
          have HBS : Hid (∀ i, bestT L (urgP L m) m (i + 1) = if openB (ta L i) (tb L i) m && decide (cntI (urgP L m) i < tc L i) && (decide (bestT L (urgP L m) m i = -1) || decide (tb L i < tb L (bestT L (urgP L m) m i).toNat)) then (i : Int) else bestT L (urgP L m) m i) := Lib.hid (fun i => rfl)
          have hB0 : Hid (bestT L (urgP L m) m 0 = -1) := Lib.hid rfl
          have HLI := Lib.hid (fun i hi => lefts_ix L (urgP L m) i hi)
          have HLL := Lib.hid (lefts_len L (urgP L m))
          have HLR := Lib.hid (lefts_rest L (urgP L m))
          have HLW := Lib.hid (fun b hb => lefts_work L (urgP L m) b hb)
          have HPS := Lib.hid (fun b => padP_set (urgP L m) b (by rw [hpl]; exact hlm))
          have HPD := Lib.hid (padP_len (urgP L m) (by rw [hpl]; exact hm))
          have HCB := Lib.hid (fun i => cntI_bd (urgP L m) i)
          clear hpl
          generalize bestT L (urgP L m) m = bst at *
          generalize urgP L m = P at *
          have HX := Lib.hid (And.intro p1 (And.intro p2 (And.intro p3 hBq)))
          have hzq := p3.lt
          clear p1 p2 p3 hBq
          go_wp2
          go_loopg [8, 32] n (fun k s t wi => ∃ i : Nat, s = .int .i64 (bst i) ∧ t = .int .i64 i ∧ i ≤ n ∧ n - i ≤ k ∧ Below wq.heap.size wq wi)
          case atStart => exact ⟨0, by rw [hB0.out], rfl, by omega, by omega, Below.refl _ _⟩
          case round =>
            obtain ⟨i, rfl, rfl, hi, hki, hBi⟩ := hrel
            obtain ⟨wi, rfl⟩ : ∃ wi : World, wi = wr := ⟨_, rfl⟩
            by_cases hli : i < n
            · obtain ⟨bb, o, rfl, hb, hall⟩ := HR.out.form (by rw [HN.out]; omega)
              have hBw : Below w.heap.size w wi := HX.out.2.2.2.trs hBi
              obtain ⟨c1, c2, c3⟩ := hall i (by rw [HN.out]; exact hli)
              rw [← hBw.cell hb] at c1 c2 c3
              have hbi := HBest.out i
              have HBI := Lib.hid (HBS.out i)
              have cl := (BoxI.on HX.out.2.1 hBi).cell (k := i) (by rw [HLL.out, HN.out]; exact hli)
              rw [HLI.out i (by rw [HN.out]; exact hli)] at cl
              have hnew := Box.new wi 36 #[.int .i64 (ta L i), .int .i64 (tb L i), .int .i64 (tc L i)]
              have ct : ∃ lt : Int, (bst i = -1 ∨ (0 ≤ bst i ∧ lt = tb L (bst i).toNat ∧ wi.cell? ⟨bb, o + (bst i).toNat * 3 + 1, none⟩ = some (.int .i64 lt))) := by
                by_cases h1 : bst i = -1
                · exact ⟨0, .inl h1⟩
                · refine ⟨_, .inr ⟨by omega, rfl, ?_⟩⟩
                  rw [hBw.cell hb]
                  exact (hall (bst i).toNat (by rw [HN.out]; omega)).2.1
              obtain ⟨lt, ct⟩ := ct
              generalize hW1 : wi.alloc (.cells #[.int .i64 (ta L i), .int .i64 (tb L i), .int .i64 (tc L i)] 36) = W1 at *
              have hbel : Below wi.heap.size wi W1 := by rw [← hW1]; exact below_alloc _ _
              have q1 : ∀ W : Over W1, W.W.cell? ⟨wi.heap.size, 0, none⟩ = some (.int .i64 (ta L i)) := fun W => W.cell (hnew.cell 0)
              have q2 : ∀ W : Over W1, W.W.cell? ⟨wi.heap.size, 1, none⟩ = some (.int .i64 (tb L i)) := fun W => W.cell (hnew.cell 1)
              have q3 : ∀ W : Over W1, W.W.cell? ⟨wi.heap.size, 2, none⟩ = some (.int .i64 (tc L i)) := fun W => W.cell (hnew.cell 2)
              have q4 : ∀ W : Over W1, W.W.cell? ⟨w.heap.size + 1, i, none⟩ = some (.int .i64 (tc L i - cntI P i)) := fun W => W.cell ((hbel.cell (p := ⟨w.heap.size + 1, i, none⟩) (World.block_lt_of_cell? _ _ cl)).trans cl)
              have HOp := Lib.hid (fun W : Over W1 => over_call W (open_any (ta L i) (tb L i) (tc L i) m W.W))
              have HBe := Lib.hid (hBi.trs hbel)
              have HW1 := Lib.hid hW1
              have HBW1 := Lib.hid hbel
              clear cl hnew hBw hbel hW1 hall hBi
              have hii : (i : Int) < (n : Int) := by omega
              have hi0 : (0 : Int) ≤ (i : Int) := by omega
              have HBI2 : Hid (bst (i + 1) = if openB (ta L i) (tb L i) m && decide (0 < tc L i - cntI P i) && (decide (bst i = -1) || decide (tb L i < tb L (bst i).toNat)) then (i : Int) else bst i) := Lib.hid (by rw [HBI.out, show decide (cntI P i < tc L i) = decide (0 < tc L i - cntI P i) by rw [decide_eq_decide]; omega])
              clear HBI
              have hlv : -100 ≤ tc L i - cntI P i ∧ tc L i - cntI P i ≤ 100 := by
                have k1 := HCB.out i
                have k2 := (HO.out.2 i (by rw [HN.out]; exact hli)).2.2.2
                have k3 := HPL.out
                omega
              generalize hgb : bst i = b at *
              clear hgb
              generalize openB (ta L i) (tb L i) m = ob at *
              generalize ta L i = x at *
              generalize hgy : tb L i = y at *
              clear hgy
              generalize tc L i - cntI P i = lv at *
              have hcase : (ob = true ∧ 0 < lv ∧ b = -1 ∧ bst (i + 1) = i) ∨ (ob = true ∧ 0 < lv ∧ (∃ kb : Nat, b = kb ∧ (kb : Int) < n ∧ wi.cell? ⟨bb, o + kb * 3 + 1, none⟩ = some (.int .i64 lt)) ∧ y < lt ∧ bst (i + 1) = i) ∨
                  (ob = true ∧ 0 < lv ∧ (∃ kb : Nat, b = kb ∧ (kb : Int) < n ∧ wi.cell? ⟨bb, o + kb * 3 + 1, none⟩ = some (.int .i64 lt)) ∧ ¬ y < lt ∧ bst (i + 1) = b) ∨ (ob = true ∧ ¬ 0 < lv ∧ bst (i + 1) = b) ∨ (ob = false ∧ bst (i + 1) = b) := by
                have h2 := HBI2.out
                cases ob
                · exact .inr (.inr (.inr (.inr ⟨rfl, by rw [h2]; rfl⟩)))
                · by_cases h3 : 0 < lv
                  · rw [decide_eq_true h3] at h2
                    rcases ct with rfl | ⟨h4, h5, h6⟩
                    · exact .inl ⟨rfl, h3, rfl, h2⟩
                    · have hk : b = ((b.toNat : Nat) : Int) := by omega
                      have hn1 : ¬ b = -1 := by omega
                      rw [decide_eq_false hn1, ← h5] at h2
                      by_cases h7 : y < lt
                      · rw [decide_eq_true h7] at h2
                        exact .inr (.inl ⟨rfl, h3, ⟨_, hk, by omega, h6⟩, h7, h2⟩)
                      · rw [decide_eq_false h7] at h2
                        exact .inr (.inr (.inl ⟨rfl, h3, ⟨_, hk, by omega, h6⟩, h7, h2⟩))
                  · rw [decide_eq_false h3] at h2
                    exact .inr (.inr (.inr (.inl ⟨rfl, h3, h2⟩)))
              clear ct HBI2 hbi
              have hmm : (0 : Int) ≤ (m : Int) := by omega
              have hWB : wi.heap.size ≤ W1.heap.size := by rw [← HW1.out]; simp
              rcases hcase with ⟨rfl, h3, rfl, hbn⟩ | ⟨rfl, h3, ⟨kb, rfl, hkb, h6⟩, h7, hbn⟩ | ⟨rfl, h3, ⟨kb, rfl, hkb, h6⟩, h7, hbn⟩ | ⟨rfl, h3, hbn⟩ | ⟨rfl, hbn⟩
              · have HBN := Lib.hid hbn; clear hbn
                have d3 : decide (0 < lv) = true := by simpa using h3
                go_wp2
                rw [HW1.out]
                refine wp_region_over (by kernel_rfl) (by kernel_rfl) ?_
                repeat (first | go_big_quiet_step ((go_at_call 92; exact HOp.out _)) | quiet_step ((go_at_call 92; exact HOp.out _)))
                refine wpQuiet_nil ?_
                intro _ hw'
                obtain ⟨W2, hw''⟩ := hw'
                subst hw''
                go_wp2
                go_roundg (n - (i + 1))
                case measure => omega
                case rel => exact ⟨i + 1, by rw [HBN.out], by go_num, by omega, by omega, HBe.out.trs W2.b⟩
              · have HBN := Lib.hid hbn; clear hbn
                have d3 : decide (0 < lv) = true := by simpa using h3
                have d7 : decide (y < lt) = true := by simpa using h7
                have d8 : ((kb : Int) == -1) = false := by rw [beq_eq_false_iff_ne]; omega
                have hk0 : (0 : Int) ≤ (kb : Int) := by omega
                have q5 : ∀ W : Over W1, W.W.cell? ⟨bb, o + kb * 3 + 1, none⟩ = some (.int .i64 lt) := fun W => W.cell ((HBW1.out.cell (p := ⟨bb, o + kb * 3 + 1, none⟩) (World.block_lt_of_cell? _ _ h6)).trans h6)
                clear h6
                go_wp2
                rw [HW1.out]
                refine wp_region_over (by kernel_rfl) (by kernel_rfl) ?_
                repeat (first | go_big_quiet_step ((go_at_call 92; exact HOp.out _)) | quiet_step ((go_at_call 92; exact HOp.out _)))
                refine wpQuiet_nil ?_
                intro _ hw'
                obtain ⟨W2, hw''⟩ := hw'
                subst hw''
                go_wp2
                go_roundg (n - (i + 1))
                case measure => omega
                case rel => exact ⟨i + 1, by rw [HBN.out], by go_num, by omega, by omega, HBe.out.trs W2.b⟩
              · have HBN := Lib.hid hbn; clear hbn
                have d3 : decide (0 < lv) = true := by simpa using h3
                have d7 : decide (y < lt) = false := by simpa using h7
                have d8 : ((kb : Int) == -1) = false := by rw [beq_eq_false_iff_ne]; omega
                have hk0 : (0 : Int) ≤ (kb : Int) := by omega
                have q5 : ∀ W : Over W1, W.W.cell? ⟨bb, o + kb * 3 + 1, none⟩ = some (.int .i64 lt) := fun W => W.cell ((HBW1.out.cell (p := ⟨bb, o + kb * 3 + 1, none⟩) (World.block_lt_of_cell? _ _ h6)).trans h6)
                clear h6
                go_wp2
                rw [HW1.out]
                refine wp_region_over (by kernel_rfl) (by kernel_rfl) ?_
                repeat (first | go_big_quiet_step ((go_at_call 92; exact HOp.out _)) | quiet_step ((go_at_call 92; exact HOp.out _)))
                refine wpQuiet_nil ?_
                intro _ hw'
                obtain ⟨W2, hw''⟩ := hw'
                subst hw''
                go_wp2
                go_roundg (n - (i + 1))
                case measure => omega
                case rel => exact ⟨i + 1, by rw [HBN.out], by go_num, by omega, by omega, HBe.out.trs W2.b⟩
              · have HBN := Lib.hid hbn; clear hbn
                have d3 : decide (0 < lv) = false := by simpa using h3
                go_wp2
                rw [HW1.out]
                refine wp_region_over (by kernel_rfl) (by kernel_rfl) ?_
                repeat (first | go_big_quiet_step ((go_at_call 92; exact HOp.out _)) | quiet_step ((go_at_call 92; exact HOp.out _)))
                refine wpQuiet_nil ?_
                intro _ hw'
                obtain ⟨W2, hw''⟩ := hw'
                subst hw''
                go_wp2
                go_roundg (n - (i + 1))
                case measure => omega
                case rel => exact ⟨i + 1, by rw [HBN.out], by go_num, by omega, by omega, HBe.out.trs W2.b⟩
              · have HBN := Lib.hid hbn; clear hbn
                go_wp2
                rw [HW1.out]
                refine wp_region_over (by kernel_rfl) (by kernel_rfl) ?_
                repeat (first | go_big_quiet_step ((go_at_call 92; exact HOp.out _)) | quiet_step ((go_at_call 92; exact HOp.out _)))
                refine wpQuiet_nil ?_
                intro _ hw'
                obtain ⟨W2, hw''⟩ := hw'
                subst hw''
                go_wp2
                go_roundg (n - (i + 1))
                case measure => omega
                case rel => exact ⟨i + 1, by rw [HBN.out], by go_num, by omega, by omega, HBe.out.trs W2.b⟩
            · obtain rfl : n = i := by omega
              have hbn := HBest.out n
              have k1 := HX.out.1.on hBi
              have k2 := BoxI.on HX.out.2.1 hBi
              have k3 := HX.out.2.2.1.on hBi
              have k4 := HX.out.2.2.2.trs hBi
              have c3 := k3.cell (k := m) (by rw [HPD.out]; exact hlm)
              have f3 := k3.frozen m
              have HS3 := Lib.hid (HPS.out (bst n))
              rw [HPL.out] at HS3
              have HUS3 : Hid (urgP L (m + 1) = P ++ [bst n]) := HUS2
              generalize hgb : bst n = b at *
              clear hgb
              have hz3 := k3.lt
              have hz2 := k2.lt
              have hneq : w.heap.size ≠ wo.heap.size := by omega
              have hneq2 : w.heap.size + 1 ≠ wo.heap.size := by omega
              have hmm : (0 : Int) ≤ (m : Int) := by omega
              rcases (show b = -1 ∨ ∃ kb : Nat, b = kb ∧ kb < n by
                by_cases h1 : b = -1
                · exact .inl h1
                · exact .inr ⟨b.toNat, by omega, by omega⟩) with rfl | ⟨kb, rfl, hkb⟩
              · have HK := Lib.hid (And.intro k1 (And.intro k2 (And.intro k3 k4)))
                clear k1 k2 k3 k4
                go_wp2
                go_roundg (100 - (m + 1))
                case measure => omega
                case rel =>
                  refine ⟨m + 1, by go_num, by omega, by omega, HK.out.1.far (p := ⟨wo.heap.size, m, none⟩) hneq _, ?_, ?_, HK.out.2.2.2.setCell (p := ⟨wo.heap.size, m, none⟩) (by simp; omega) _⟩
                  · rw [HUS3.out, HLR.out]; exact HK.out.2.1.far (p := ⟨wo.heap.size, m, none⟩) hneq2 _
                  · rw [HUS3.out, ← HS3.out]; exact HK.out.2.2.1.set_ m (-1)
              · have c2 := k2.cell (k := kb) (by rw [HLL.out, HN.out]; exact hkb)
                rw [HLI.out kb (by rw [HN.out]; exact hkb)] at c2
                have f2 := k2.frozen kb
                have hW := HLW.out kb (by rw [HN.out]; exact hkb)
                have HW := Lib.hid hW; clear hW
                have hlv : -100 ≤ tc L kb - cntI P kb ∧ tc L kb - cntI P kb ≤ 100 := by
                  have k1 := HCB.out kb
                  have k2 := (HO.out.2 kb (by rw [HN.out]; exact hkb)).2.2.2
                  have k3 := HPL.out
                  omega
                generalize tc L kb - cntI P kb = lv at *
                have d8 : ((kb : Int) != -1) = true := by rw [bne_iff_ne]; omega
                have hk0 : (0 : Int) ≤ (kb : Int) := by omega
                have hkn : (kb : Int) < (n : Int) := by omega
                have HK := Lib.hid (And.intro k1 (And.intro k2 (And.intro k3 k4)))
                clear k1 k2 k3 k4
                go_wp2
                go_roundg (100 - (m + 1))
                case measure => omega
                case rel =>
                  refine ⟨m + 1, by go_num, by omega, by omega, (HK.out.1.far (p := ⟨wo.heap.size, m, none⟩) hneq _).far (p := ⟨w.heap.size + 1, kb, none⟩) (by simp) _, ?_, ?_, (HK.out.2.2.2.setCell (p := ⟨wo.heap.size, m, none⟩) (by simp; omega) _).setCell (p := ⟨w.heap.size + 1, kb, none⟩) (by simp) _⟩
                  · rw [HUS3.out, HW.out]; exact BoxI.set_ (HK.out.2.1.far (p := ⟨wo.heap.size, m, none⟩) hneq2 _) kb _
                  · rw [HUS3.out, ← HS3.out]; exact (HK.out.2.2.1.set_ m (kb : Int)).far (p := ⟨w.heap.size + 1, kb, none⟩) (fun e => hneq2 e.symm) _
        · obtain rfl : m = 100 := by omega
          rw [padP_full _ (HUL.out 100), ← HU.out] at p3
          have hlen : pl.length = 100 := by rw [HU.out]; exact HUL.out 100
          have HP1 := Lib.hid p1
          have HP3 := Lib.hid p3
          have HBq := Lib.hid hBq
          have HLE := Lib.hid hlen
          clear p1 p2 p3 hBq hlen
          go_wp2_with (first
            | (refine wpList_load_row rfl 69 (.tmp 6) rfl wo.heap.size rfl 69 _ (0, 0) _ HP3.out Try.underlying69 rfl (by rw [infoPlan]; simp [HLE.out]) ?_)
            | (refine wpList_store_mid rfl 69 (.tmp 2) (.tmp 75) rfl w.heap.size 0 (pl.map (Value.int .i64)).toArray rfl rfl ?_ (by rw [infoPlan]; simp [HLE.out]) (by simp [Value.oneCell']) ?_))
          · have := HP1.out.there
            simpa [HLE.out] using this
          · have hbx : Box (World.setCells wq w.heap.size 0 (pl.map (Value.int .i64))) w.heap.size 69 (pl.map (Value.int .i64)).toArray := HP1.out.store (l' := pl) (by simp [HLE.out])
            have hB2 : Below w.heap.size w (World.setCells wq w.heap.size 0 (pl.map (Value.int .i64))) := below_setCells (Nat.le_refl w.heap.size) (pl.map (Value.int .i64)).toArray.toList 0 _ HBq.out
            have hsz : ((pl.map (Value.int .i64)).toArray).size = 100 := by simp [HLE.out]
            generalize World.setCells wq w.heap.size 0 (pl.map (Value.int .i64)) = W at *
            generalize (pl.map (Value.int .i64)).toArray = V at *
            have hload := run_loadVar_row (P := Try.prog) W w.heap.size 69 69 V (0, 0) _ hbx Try.underlying69 rfl (by rw [infoPlan, hsz])
            refine bodyPost_ret (v := .agg V) (results_cell Try.results74 (p := ⟨w.heap.size, 0, none⟩) rfl hload) rfl ⟨rfl, hB2⟩
end Go.Proofs.Ytdafiblnanpiiaa
