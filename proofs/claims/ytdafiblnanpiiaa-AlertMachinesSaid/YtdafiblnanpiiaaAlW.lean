/- Walks over package alert: what a plan works, whether it does all, whether some plan does all. -/
import Derived.Test.YtdafiblnanpiiaaAlP
import Derived.Test.YtdafiblnanpiiaaAlV
namespace Go.Proofs.Ytdafiblnanpiiaa
open Go.RowKit
set_option linter.unusedSimpArgs false
set_option linter.unusedVariables false

theorem index_plan (V : Array Value) (m : Nat) (x : Int) (hm : m < 100) (hv : V[m]? = some (.int .i64 x)) (w : World) :
    (Instr.index 69 (.agg V) (.int .i64 (m : Int))).run Try.prog w = .ok (.int .i64 x) w := by
  have hm2 : (m : Int) < 100 := by omega
  have hm0 : (0 : Int) ≤ (m : Int) := by omega
  simp [Instr.index, go_sem, Try.underlying69, hm2, hm0, hv]
  intro h; omega
/-- what 'work' answers -/
def WorkR (L : List (Int × Int × Int)) (p : List Int) (v : Value) (w : World) : Prop :=
  (rightB L p = true ∧ ∃ A c, v = .tuple #[.slice A L.length c, .bool true] ∧ RdI w w.heap.size A (cntsT L.length p)) ∨ (rightB L p = false ∧ v = .tuple #[.slice none 0 0, .bool false])

theorem okW_no {L : List (Int × Int × Int)} {p : List Int} (hok : okT L) (hp : plnB L.length p = true) {m : Nat} (hm : m ≤ 100) (h : okW L p m = false) : rightB L p = false := by
  rw [← okW_all hok hp]
  cases h2 : okW L p 100
  · rfl
  · have := okW_down (L := L) (p := p) (m := m) (100 - m) (by rw [show m + (100 - m) = 100 by omega]; exact h2)
    rw [h] at this; cases this

set_option maxRecDepth 100000 in
set_option maxHeartbeats 8000000 in
theorem work_any (A : Option Addr) (c : Nat) (L : List (Int × Int × Int)) (p : List Int) (w : World) (hr : RdT w w.heap.size A L) (hok : okT L) (hp : plnB L.length p = true) :
    Calls Try.prog 76 #[.agg (p.map (Value.int .i64)).toArray, .slice A L.length c] w fun e w' => Below w.heap.size w w' ∧ ∃ v, e = .returned v ∧ WorkR L p v w' := by
  have HR := Lib.hid hr; clear hr
  have HO := Lib.hid hok
  have hn12 := hok.1.2
  have hn1 := hok.1.1
  have HYes : Hid (∀ (A : Option Addr) c W, okW L p 100 = true → RdI W W.heap.size A (cntsT L.length p) → WorkR L p (.tuple #[.slice A L.length c, .bool true]) W) := Lib.hid (fun A c W h h2 => .inl ⟨by rw [← okW_all hok hp]; exact h, A, c, rfl, h2⟩)
  have HNo : Hid (∀ W m, m ≤ 100 → okW L p m = false → WorkR L p (.tuple #[.slice none 0 0, .bool false]) W) := Lib.hid (fun W m hm h => .inr ⟨okW_no hok hp hm h, rfl⟩)
  clear hok
  have HPB := Lib.hid (fun m hm => (plnB_iff.1 hp).2 m hm)
  have hlen := (plnB_iff.1 hp).1
  clear hp
  have HS : Hid (∀ m, okW L p (m + 1) = (okW L p m && (decide (ix p m = -1) || (openB (ta L (ix p m).toNat) (tb L (ix p m).toNat) m && decide (cntI (p.take (m + 1)) (ix p m).toNat ≤ tc L (ix p m).toNat))))) := Lib.hid (fun m => rfl)
  have HT := Lib.hid (fun m (hm : m < 100) => take_succ_ix (p := p) (m := m) (by omega))
  have HTC := Lib.hid (fun m (hm : m < 100) i => cntI_take_succ (p := p) (m := m) (by omega) i)
  have HTA : Hid (p.take 100 = p) := Lib.hid (List.take_of_length_le (by omega))
  have HCB := Lib.hid (fun m i => cntI_bd (p.take m) i)
  have HTL := Lib.hid (fun m => List.length_take_le m p)
  generalize hn : L.length = n at *
  have HN := Lib.hid hn; clear hn
  obtain ⟨cs, hmk, hbx⟩ := run_make_int (P := Try.prog) Try.underlying32 infoInt (n : Int) (by omega) (by omega)
  rw [Int.toNat_natCast] at hbx
  have hV : ((p.map (Value.int .i64)).toArray).size = 100 := by simp [hlen]
  have HVI : Hid (∀ m, m < 100 → ((p.map (Value.int .i64)).toArray)[m]? = some (.int .i64 (ix p m))) := Lib.hid (fun m hm => by simp [ix, hm, hlen])
  clear hlen
  generalize hVe : (p.map (Value.int .i64)).toArray = V at *
  clear hVe
  have b2 := hbx (w.alloc (.cells V 69))
  rw [World.size_alloc] at b2
  have b1 := (Box.new w 69 V).alloc (.cells cs 3)
  have HB1 := Lib.hid b1
  have HB2 := Lib.hid b2
  have HB0 : Hid (Below w.heap.size w ((w.alloc (.cells V 69)).alloc (.cells cs 3))) := Lib.hid ((below_alloc _ _).trs (below_alloc _ _))
  clear b1 b2 hbx
  go_enter Try.func76, Try.ntmps76
  go_wp2_with (refine wpList_load_row rfl 69 (.tmp 2) rfl w.heap.size rfl 69 _ (0, 0) _ HB1.out Try.underlying69 rfl (by rw [infoPlan, hV]) ?_)
  go_loopg [13] 100 (fun k t wr => ∃ m : Nat, t = .int .i64 m ∧ m ≤ 100 ∧ 100 - m ≤ k ∧ BoxI wr (w.heap.size + 1) (cntsT n (p.take m)) ∧ Aside (okW L p m = true) ∧ Below w.heap.size w wr)
  case atStart => exact ⟨0, rfl, by omega, by omega, by rw [List.take_zero, cntsT_nil]; exact HB2.out, (rfl : okW L p 0 = true), HB0.out⟩
  case round =>
    obtain ⟨m, rfl, hm, hk, hb, HA, hB⟩ := hrel
    by_cases hlm : m < 100
    · have HVX := Lib.hid (index_plan V m _ hlm (HVI.out m hlm))
      have hdm : decide ((m : Int) < 100) = true := by rw [decide_eq_true_eq]; omega
      have hpb := HPB.out m hlm
      have HS2 := Lib.hid (HS.out m)
      have HT2 := Lib.hid (HT.out m hlm)
      have HTC2 := Lib.hid (HTC.out m hlm)
      generalize hpi : ix p m = b at *
      clear hpi
      rcases (show b = -1 ∨ ∃ kb : Nat, b = kb ∧ kb < n by
        by_cases h1 : b = -1
        · exact .inl h1
        · exact .inr ⟨b.toNat, by omega, by omega⟩) with rfl | ⟨kb, rfl, hkb⟩
      · have HX := Lib.hid (And.intro hb hB)
        clear hb hB
        go_wp2_with (rw [HVX.out])
        go_roundg (100 - (m + 1))
        case measure => omega
        case rel =>
          refine ⟨m + 1, by go_num, by omega, by omega, ?_, ?_, HX.out.2⟩
          · rw [HT2.out, cntsT_rest _ _ _ (by omega)]; exact HX.out.1
          · show okW L p (m + 1) = true
            rw [HS2.out, HA.out]; rfl
      · obtain ⟨bb, o, rfl, hbb, c1, c2, c3⟩ := HR.out.at_ (k := kb) (by rw [HN.out]; exact hkb)
        rw [← hB.cell hbb] at c1 c2 c3
        have cw := hb.cell (k := kb) (by rw [cntsT_len]; exact hkb)
        rw [cntsT_ix _ _ _ hkb] at cw
        have fw := hb.frozen kb
        have hz := hb.lt
        have hcb := HCB.out m kb
        have htl := HTL.out m
        have hc0 : 0 ≤ cntI (p.take m) kb := hcb.1
        have hc1 : cntI (p.take m) kb ≤ 100 := by omega
        have HKB := Lib.hid hkb
        have HST : Hid (okW L p (m + 1) = (openB (ta L kb) (tb L kb) m && decide (cntI (p.take m) kb + 1 ≤ tc L kb))) := Lib.hid (by
          rw [HS2.out, HA.out, Int.toNat_natCast, HTC2.out, if_pos rfl, show decide ((kb : Int) = -1) = false by rw [decide_eq_false_iff_not]; omega]; rfl)
        have HCW : Hid (cntsT n (p.take (m + 1)) = (cntsT n (p.take m)).set kb (cntI (p.take m) kb + 1)) := Lib.hid (by rw [HT2.out, cntsT_work _ _ _ HKB.out])
        have HOp := Lib.hid (fun W => open_any (ta L kb) (tb L kb) (tc L kb) m W)
        have HX := Lib.hid (And.intro hb hB)
        clear hb hB hcb htl HS2 HTC2
        generalize cntI (p.take m) kb = cn at *
        generalize openB (ta L kb) (tb L kb) m = ob at *
        generalize ta L kb = x at *
        generalize tb L kb = y at *
        generalize tc L kb = z at *
        have hne : bb ≠ w.heap.size + 1 := by omega
        have d1 : ((kb : Int) == -1) = false := by rw [beq_eq_false_iff_ne]; omega
        have hk0 : (0 : Int) ≤ (kb : Int) := by omega
        have hkn : (kb : Int) < (n : Int) := by omega
        generalize hW1 : wr.setCell ⟨w.heap.size + 1, kb, none⟩ (.int .i64 (cn + 1)) = W1 at *
        have HW1 := Lib.hid hW1
        have hBW : Below w.heap.size w W1 := by rw [← hW1]; exact HX.out.2.setCell (p := ⟨w.heap.size + 1, kb, none⟩) (by simp) _
        have hBI : BoxI W1 (w.heap.size + 1) ((cntsT n (p.take m)).set kb (cn + 1)) := by rw [← hW1]; exact HX.out.1.set_ kb _
        have f1 : ∀ o', W1.cell? ⟨bb, o', none⟩ = wr.cell? ⟨bb, o', none⟩ := fun o' => by rw [← hW1]; exact World.cell?_setCell_other _ _ _ _ (by intro e; injection e with e1; exact hne e1.symm)
        have e1 : W1.cell? ⟨bb, o + kb * 3, none⟩ = some (.int .i64 x) := by rw [f1]; exact c1
        have e2 : W1.cell? ⟨bb, o + kb * 3 + 1, none⟩ = some (.int .i64 y) := by rw [f1]; exact c2
        have e3 : W1.cell? ⟨bb, o + kb * 3 + 2, none⟩ = some (.int .i64 z) := by rw [f1]; exact c3
        have e4 : W1.cell? ⟨w.heap.size + 1, kb, none⟩ = some (.int .i64 (cn + 1)) := by
          have := hBI.cell (k := kb) (by rw [List.length_set, cntsT_len]; exact hkb)
          rw [this]; congr 2; simp [ix, cntsT_len, hkb]
        have q1 : ∀ W : Over W1, W.W.cell? ⟨bb, o + kb * 3, none⟩ = some (.int .i64 x) := fun W => W.cell e1
        have q2 : ∀ W : Over W1, W.W.cell? ⟨bb, o + kb * 3 + 1, none⟩ = some (.int .i64 y) := fun W => W.cell e2
        have q3 : ∀ W : Over W1, W.W.cell? ⟨bb, o + kb * 3 + 2, none⟩ = some (.int .i64 z) := fun W => W.cell e3
        have q4 : ∀ W : Over W1, W.W.cell? ⟨w.heap.size + 1, kb, none⟩ = some (.int .i64 (cn + 1)) := fun W => W.cell e4
        have HOv := Lib.hid (fun W : Over W1 => over_call W (HOp.out W.W))
        have HZ := Lib.hid (And.intro hBI hBW)
        clear hBI hBW hW1 f1 e1 e2 e3 e4
        have hcase : (ob = true ∧ cn + 1 ≤ z ∧ okW L p (m + 1) = true) ∨ (ob = true ∧ ¬ cn + 1 ≤ z ∧ okW L p (m + 1) = false) ∨ (ob = false ∧ okW L p (m + 1) = false) := by
          have h2 := HST.out
          cases ob
          · exact .inr (.inr ⟨rfl, by rw [h2]; rfl⟩)
          · by_cases h3 : cn + 1 ≤ z
            · exact .inl ⟨rfl, h3, by rw [h2, decide_eq_true h3]; rfl⟩
            · exact .inr (.inl ⟨rfl, h3, by rw [h2, decide_eq_false h3]; rfl⟩)
        clear HST
        rcases hcase with ⟨rfl, h3, hok2⟩ | ⟨rfl, h3, hok2⟩ | ⟨rfl, hok2⟩
        · have HOK := Lib.hid hok2; clear hok2
          have d3 : decide (cn + 1 > z) = false := by rw [decide_eq_false_iff_not]; omega
          go_wp2_with (rw [HVX.out])
          rw [HW1.out]
          refine wp_region_over (by kernel_rfl) (by kernel_rfl) ?_
          repeat (first | go_big_quiet_step ((go_at_call 92; exact HOv.out _)) | quiet_step ((go_at_call 92; exact HOv.out _)))
          refine wpQuiet_nil ?_
          intro _ hw'
          obtain ⟨W2, hw''⟩ := hw'
          subst hw''
          go_wp2
          go_roundg (100 - (m + 1))
          case measure => omega
          case rel => exact ⟨m + 1, by go_num, by omega, by omega, by rw [HCW.out]; exact BoxI.on HZ.out.1 W2.b, HOK.out, HZ.out.2.trs W2.b⟩
        · have HOK := Lib.hid hok2; clear hok2
          have d3 : decide (cn + 1 > z) = true := by rw [decide_eq_true_eq]; omega
          go_wp2_with (rw [HVX.out])
          rw [HW1.out]
          refine wp_region_over (by kernel_rfl) (by kernel_rfl) ?_
          repeat (first | go_big_quiet_step ((go_at_call 92; exact HOv.out _)) | quiet_step ((go_at_call 92; exact HOv.out _)))
          refine wpQuiet_nil ?_
          intro _ hw'
          obtain ⟨W2, hw''⟩ := hw'
          subst hw''
          go_wp2
          go_ret2
          exact ⟨HZ.out.2.trs W2.b, _, rfl, HNo.out _ (m + 1) (by omega) HOK.out⟩
        · have HOK := Lib.hid hok2; clear hok2
          go_wp2_with (rw [HVX.out])
          rw [HW1.out]
          refine wp_region_over (by kernel_rfl) (by kernel_rfl) ?_
          repeat (first | go_big_quiet_step ((go_at_call 92; exact HOv.out _)) | quiet_step ((go_at_call 92; exact HOv.out _)))
          refine wpQuiet_nil ?_
          intro _ hw'
          obtain ⟨W2, hw''⟩ := hw'
          subst hw''
          go_wp2
          go_ret2
          exact ⟨HZ.out.2.trs W2.b, _, rfl, HNo.out _ (m + 1) (by omega) HOK.out⟩
    · obtain rfl : m = 100 := by omega
      rw [HTA.out] at hb
      have HX := Lib.hid (And.intro hb hB)
      clear hb hB
      go_wp2
      go_ret2
      exact ⟨HX.out.2, _, rfl, HYes.out _ _ _ HA.out HX.out.1.rd⟩
end Go.Proofs.Ytdafiblnanpiiaa
