/- Walks over alert's reference: one more minute for a task, found breadth first. -/
import Derived.Test.YtdafiblnanpiiaaAlPb
import Derived.StillTailTactics
import Derived.Deep.Cut
namespace Go.Proofs.Ytdafiblnanpiiaa
open Go.RowKit
set_option linter.unusedSimpArgs false
set_option linter.unusedVariables false

theorem put4_set (W : World) (task : Nat) : (put4 W task).setCell ⟨W.heap.size + 1 + 1 + 1, task, none⟩ (.bool true) = ((((W.alloc (.cells Try.zeroCells68 68)).alloc (.cells #[.int .i64 0, .int .i64 0, .int .i64 0, .int .i64 0, .int .i64 0, .int .i64 0, .int .i64 0, .int .i64 0, .int .i64 0, .int .i64 0, .int .i64 0, .int .i64 0] 104)).alloc (.cells #[.int .i64 task] 3)).alloc (.cells (([.bool false, .bool false, .bool false, .bool false, .bool false, .bool false, .bool false, .bool false, .bool false, .bool false, .bool false, .bool false] : List Value).set task (.bool true)).toArray 105)) := by
  unfold put4
  rw [World.setCell_alloc_at _ _ _ _ _ (by simp)]
  simp only [List.setIfInBounds_toArray]

def PutQ (w0 : World) (hb ub : Nat) (L : List (Int × Int × Int)) (K : Int) (task : Nat) (H : Nat → Nat → Bool) (e : Ending) (W' : World) : Prop :=
  Below w0.heap.size w0 W' ∧ ∃ H' : Nat → Nat → Bool, CellsR hb 1200 (hasF H') W' ∧ CellsR ub 100 (intF (colS L.length H')) W' ∧
    ((e = .returned (.bool true) ∧ Asg L K H' ∧ ∀ j, rowS H' j = rowS H j + (if j = task then 1 else 0)) ∨ (e = .returned (.bool false) ∧ sevB L K = false))

theorem used_next {n m : Nat} {H H' : Nat → Nat → Bool} {CL : Int} (h : ∀ q, colS n H' q = colS n H q + (if q = m then 1 else 0)) (hCL : CL = colS n H m) (q : Nat) (_ : q < 100) : intF (updF (colS n H) m (CL + 1)) q = intF (colS n H') q := by
  show Value.int .i64 _ = Value.int .i64 _
  rw [h q]; unfold updF
  by_cases e : q = m
  · rw [if_pos e, if_pos e, e, hCL]
  · rw [if_neg e, if_neg e, Int.add_zero]
set_option maxRecDepth 100000 in
set_option maxHeartbeats 4000000 in
theorem put_any (w0 : World) (A : Option Addr) (c : Nat) (L : List (Int × Int × Int)) (K : Int) (hb ub : Nat) (hr : RdT w0 w0.heap.size A L) (hok : okT L) (hK : 1 ≤ K ∧ K ≤ 4) (h1 : w0.heap.size ≤ hb) (h2 : w0.heap.size ≤ ub) (h3 : hb ≠ ub)
    (task : Nat) (H : Nat → Nat → Bool) (W : World) (hi : task < L.length) (hA : Asg L K H) (hle : ∀ j, j < L.length → rowS H j ≤ tc L j) (hlt : rowS H task < tc L task) (hB0 : Below w0.heap.size w0 W) (hH : CellsR hb 1200 (hasF H) W) (hU : CellsR ub 100 (intF (colS L.length H)) W) :
    Calls Try.prog 91 #[.slice A L.length c, .int .i64 K, .int .i64 task, .pointer (some ⟨hb, 0, none⟩), .pointer (some ⟨ub, 0, none⟩)] W (PutQ w0 hb ub L K task H) := by
  have hn12 := hok.1.2
  have htn : task < 12 := by omega
  have HQ1 : Hid (∀ W' H', Below w0.heap.size w0 W' → CellsR hb 1200 (hasF H') W' → CellsR ub 100 (intF (colS L.length H')) W' → Asg L K H' → (∀ j, rowS H' j = rowS H j + (if j = task then 1 else 0)) → PutQ w0 hb ub L K task H (.returned (.bool true)) W') := Lib.hid (fun W' H' g1 g2 g3 g4 g5 => ⟨g1, H', g2, g3, .inl ⟨rfl, g4, g5⟩⟩)
  have HQ0 : Hid (∀ W', Below w0.heap.size w0 W' → CellsR hb 1200 (hasF H) W' → CellsR ub 100 (intF (colS L.length H)) W' → sevB L K = false → PutQ w0 hb ub L K task H (.returned (.bool false)) W') := Lib.hid (fun W' g1 g2 g3 g4 => ⟨g1, H, g2, g3, .inr ⟨rfl, g4⟩⟩)
  generalize PutQ w0 hb ub L K task H = Q at *
  have hB4 := put4_below W task
  have hBW := (hB0.trs hB4).setCell (p := ⟨W.heap.size + 1 + 1 + 1, task, none⟩) (by have := hB0.size; show _ ≤ W.heap.size + 1 + 1 + 1; omega) (.bool true)
  have hLie : Lies w0.heap.size hb ub W.heap.size := ⟨h1, h2, hH.lt (by omega), hU.lt (by omega), h3⟩
  have HX := Lib.hid (And.intro hr (And.intro hA (And.intro hok (And.intro hle hlt))))
  have HS := Lib.hid (And.intro hBW (put4_start htn hH hU))
  have HLI := Lib.hid hLie
  have HI := Lib.hid hi
  have f1 := (put4_fnd (W := W) (task := task)).cell task htn
  have f2 := (put4_fnd (W := W) (task := task)).free task htn
  have hc3 : c = c := rfl
  clear hr hA hB0 hH hU hle hlt hi hB4 hBW hLie hok h1 h2 h3 hc3
  rw [put4_set W task] at HS
  go_enter Try.func91, Try.ntmps91
  go_wp2
  generalize ((((W.alloc (.cells Try.zeroCells68 68)).alloc (.cells #[.int .i64 0, .int .i64 0, .int .i64 0, .int .i64 0, .int .i64 0, .int .i64 0, .int .i64 0, .int .i64 0, .int .i64 0, .int .i64 0, .int .i64 0, .int .i64 0] 104)).alloc (.cells #[.int .i64 task] 3)).alloc (.cells (([.bool false, .bool false, .bool false, .bool false, .bool false, .bool false, .bool false, .bool false, .bool false, .bool false, .bool false, .bool false] : List Value).set task (.bool true)).toArray 105)) = W4 at *
  clear f1 f2
  generalize hb0 : W.heap.size = b0 at *
  clear hb0
  go_loopg [13, 15, 16, 17, 18] L.length (fun k x13 x15 x16 x17 x18 wr => ∃ (q : Nat) (Q : List Nat) (bm fr : Nat → Int), x15 = .int .i64 q ∧ q ≤ Q.length ∧ L.length - q ≤ k ∧ Below w0.heap.size w0 wr ∧ PtR hb ub b0 H (colS L.length H) Q bm fr x13 wr ∧ Aside (Out L K H task q Q bm fr))
  case atStart => exact ⟨0, [task], _, _, rfl, by simp, by omega, HS.out.1, HS.out.2, (Out.start HI.out : Out L K H task 0 [task] _ _)⟩
  case round =>
    obtain ⟨q, Qq, bm, fr, rfl, hq, hk, hB, hP, HA⟩ := hrel
    have hQn := HA.out.bf.len
    obtain ⟨gq, cq, rfl⟩ := hP.len (by obtain ⟨r, h⟩ := HA.out.bf.head; rw [h]; simp)
    by_cases hlq : q < Qq.length
    · obtain ⟨gq', cq', e1, e2⟩ := hP.at_ hlq
      obtain ⟨rfl, rfl⟩ : gq = gq' ∧ cq = cq' := by injection e1 with e1 _ e3; injection e1 with e1; injection e1 with e1; exact ⟨e1, e3⟩
      obtain ⟨i, hi⟩ : ∃ i, Qq[q] = i := ⟨_, rfl⟩
      have hat : Qq[q]? = some i := by rw [List.getElem?_eq_getElem hlq, hi]
      rw [hi] at e2
      have hin : i < L.length := HA.out.bf.lt i (List.mem_of_getElem? hat)
      have hin2 : (i : Int) < (L.length : Int) := by omega
      obtain ⟨bA, oA, rfl, hbA, c1, c2, c3⟩ := HX.out.1.at_ (k := i) hin
      have HCC := Lib.hid (fun W' (h : Below w0.heap.size w0 W') => (show W'.cell? ⟨bA, oA + i * 3, none⟩ = some (.int .i64 (ta L i)) ∧ W'.cell? ⟨bA, oA + i * 3 + 1, none⟩ = some (.int .i64 (tb L i)) from
        ⟨(h.cell (p := ⟨bA, oA + i * 3, none⟩) hbA).trans c1, (h.cell (p := ⟨bA, oA + i * 3 + 1, none⟩) hbA).trans c2⟩))
      have hoki := HX.out.2.2.1.2 i hin
      have hX0 : 0 ≤ ta L i := by omega
      have hXY : ta L i < tb L i := by omega
      have hY : tb L i ≤ 100 := by omega
      have HM0 := Lib.hid (Out.mid HA.out hat hX0)
      have HIN := Lib.hid hin
      have HW := Lib.hid (And.intro hB hP)
      obtain ⟨d1, d2⟩ := HCC.out wr hB
      have hdq : decide ((q : Int) < (Qq.length : Int)) = true := by rw [decide_eq_true_eq]; omega
      clear c1 c2 c3 hoki hin hB hP e1 hi
      have HHK := Lib.hid hk
      have HHQ := Lib.hid (And.intro hQn (And.intro hq hlq))
      generalize hX : ta L i = X at *
      generalize hYe : tb L i = Y at *
      have HXe := Lib.hid (And.intro hX hYe)
      clear hX hYe
      clear hk hQn
      go_wp2
      go_loopg [13, 16, 17, 18] 100 (fun k x13 x16 x17 x18 wr => ∃ (m : Nat) (Q' : List Nat) (bm fr : Nat → Int), x16 = .int .i64 i ∧ x17 = .int .i64 m ∧ X ≤ m ∧ (m : Int) ≤ Y ∧ 100 - m ≤ k ∧ Below w0.heap.size w0 wr ∧ PtR hb ub b0 H (colS L.length H) Q' bm fr x13 wr ∧ Aside (Mid L K H task q i m Q' bm fr))
      case atStart => exact ⟨X.toNat, Qq, bm, fr, rfl, by rw [Int.toNat_of_nonneg hX0], by omega, by omega, by omega, HW.out.1, HW.out.2, (HM0.out : Mid L K H task q i X.toNat Qq bm fr)⟩
      case round =>
        obtain ⟨m, Q', bm, fr, rfl, rfl, hm1, hm2, hkm, hB, hP, HM⟩ := hrel
        clear d1 d2 e2
        obtain ⟨d1, d2⟩ := HCC.out wr hB
        by_cases hlm : (m : Int) < Y
        · have hm100 : m < 100 := by omega
          have hdm : decide ((m : Int) < Y) = true := by rw [decide_eq_true_eq]; exact hlm
          have hi12 : i < 12 := by have := HIN.out; omega
          have g1 := hP.has.cell (i * 100 + m) (by omega)
          rw [hasF_at H hm100] at g1
          have g2 := hP.by_.cell m hm100
          have g3 := hP.by_.free m hm100
          have HW2 := Lib.hid (And.intro hB hP)
          have HM2 := Lib.hid (And.intro hm1 (And.intro hm2 (And.intro hkm hlm)))
          obtain ⟨z, hz⟩ : ∃ z, bm m = z := ⟨_, rfl⟩
          unfold intF at g2
          rw [hz] at g2
          clear hm1 hm2 hkm hlm hB hP
          cases hHm : H i m <;> rw [hHm] at g1
          · by_cases hz0 : z = 0
            · subst hz0
              have HHm := Lib.hid (And.intro hHm hz)
              clear hHm hz
              have HW3 := Lib.hid (And.intro (HW2.out.1.setCell (p := ⟨b0, m, none⟩) (by have := HLI.out.h1; have := HLI.out.h3; show _ ≤ b0; omega) (.int .i64 ((i : Int) + 1))) (HW2.out.2.setBy HLI.out hm100 ((i : Int) + 1)))
              obtain ⟨CL, hCL⟩ : ∃ CL : Int, CL = colS L.length H m := ⟨_, rfl⟩
              have g4 := HW3.out.2.used.cell m hm100
              have g5 := HW3.out.2.used.free m hm100
              unfold intF at g4
              rw [← hCL] at g4
              have HCL := Lib.hid hCL
              clear hCL
              by_cases hc : CL < K
              · have hc2 : decide (CL < K) = true := by rw [decide_eq_true_eq]; exact hc
                have HBM := Lib.hid (HM.out.out.bf.minute HM.out.mem hm100 HHm.out.2 HHm.out.1 (by rw [HXe.out.1]; exact HM2.out.1) (by rw [HXe.out.2]; exact HM2.out.2.2.2))
                have HC : Hid (colS L.length H m < K) := Lib.hid (by rw [← HCL.out]; exact hc)
                have HAG : Hid (Aug L H Q' (updF bm m ((i : Int) + 1)) m i m H) := Lib.hid (Aug.start HX.out.2.1 HM.out.mem hm100 (updF_same _ _ _))
                have HIX : Hid (Q'.idxOf i ≤ 12) := Lib.hid (by have := List.idxOf_lt_length_of_mem HM.out.mem; have := HM.out.out.bf.len; omega)
                have hCL2 : 0 ≤ CL ∧ CL ≤ 12 := by rw [HCL.out]; unfold colS; have := sm_bI_le L.length (fun i => H i m); omega
                have hwc : IntKind.i64.wrap (CL + 1) = CL + 1 := IntWalk.i64_in _ (by omega)
                have HWC := Lib.hid (And.intro hwc hCL2)
                clear hc hwc hCL2
                go_wp2
                clear g1 g2 g3
                generalize wr.setCell ⟨b0, m, none⟩ (.int .i64 ((i : Int) + 1)) = W1 at *
                have hwc := HWC.out.1
                have HW6 := Lib.hid (And.intro (HW3.out.1.drewsN 1) (HW3.out.2.drewN 1))
                have g4' : (W1.drewN 1).cell? ⟨ub, m, none⟩ = some (.int .i64 CL) := g4
                have g5' : (W1.drewN 1).frozen? ⟨ub, m, none⟩ = false := g5
                refine wp_region_still_tail 8 (by kernel_rfl) (by kernel_rfl) ?_
                simp only [List.take_succ_cons, List.take_zero, List.drop_succ_cons, List.drop_zero]
                change wpStill _ _ (W1.drewN 1) (fun a' => wpList _ _ _ _ a' (W1.drewN 1)) _ _
                clear g4 g5
                generalize W1.drewN 1 = W2 at *
                repeat (refine wpStill_step (fun K hK => ?_); go_simp; (first | refine hK _ ?_ | (go_values; refine hK _ ?_) | (go_values; go_simp; refine hK _ ?_) | (go_ite <;> go_prune <;> (try go_simp); refine hK _ ?_)); clear hK K)
                refine wpStill_nil ?_
                have HW7 := Lib.hid (And.intro (HW6.out.1.setCell (p := ⟨ub, m, none⟩) HLI.out.h2 (.int .i64 (CL + 1))) (HW6.out.2.setUsed HLI.out hm100 (CL + 1)))
                go_wp2
                generalize W2.setCell ⟨ub, m, none⟩ (.int .i64 (CL + 1)) = W3 at *
                clear g4' g5' hwc
                go_loopg [16, 17] 12 (fun k x16 x17 wi => ∃ (i' m' : Nat) (Hc : Nat → Nat → Bool) (v : Value), x16 = .int .i64 i' ∧ x17 = .int .i64 m' ∧ Q'.idxOf i' ≤ k ∧ Below w0.heap.size w0 wi ∧ PtR hb ub b0 Hc (updF (colS L.length H) m (CL + 1)) Q' (updF bm m ((i : Int) + 1)) fr v wi ∧ Aside (Aug L H Q' (updF bm m ((i : Int) + 1)) m i' m' Hc))
                case atStart => exact ⟨i, m, H, _, rfl, rfl, HIX.out, HW7.out.1, HW7.out.2, (HAG.out : Aug L H Q' (updF bm m ((i : Int) + 1)) m i m H)⟩
                case round =>
                  obtain ⟨i', m', Hc, vq, rfl, rfl, hk, hB, hP, HA3⟩ := hrel
                  obtain ⟨hf1, hi1, _⟩ := HA3.out.free HBM.out
                  have hi12' : i' < 12 := by omega
                  have hm100' : m' < 100 := HA3.out.hm
                  have g1 := hP.has.cell (i' * 100 + m') (by omega)
                  have g2 := hP.has.free (i' * 100 + m') (by omega)
                  generalize hasF Hc (i' * 100 + m') = hv1 at g1
                  by_cases e : i' = task
                  · have e1 : ((i' : Int) != (task : Int)) = false := by rw [e]; simp
                    subst e
                    have HE := HA3.out.done HX.out.2.1 HBM.out HC.out
                    have HP1 := hP.setHas HLI.out hi12' hm100' true
                    have HE2 := Lib.hid (HQ1.out _ _ (hB.setCell (p := ⟨hb, i' * 100 + m', none⟩) HLI.out.h1 (.bool true)) HP1.has (HP1.used.congr (used_next HE.2.2 HCL.out)) HE.1 HE.2.1)
                    clear HE HP1 hB hP hf1 hi1 hk
                    go_wp2
                    exact HE2.out
                  · have e1 : ((i' : Int) != (task : Int)) = true := by rw [bne_iff_ne]; omega
                    obtain ⟨m2, i2, s1, s2, s3, s4, s5, s6, s7⟩ := HA3.out.step HBM.out e
                    have hP1 := hP.setHas HLI.out hi12' hm100' true
                    have hP2 := hP1.setHas HLI.out hi12' s1 false
                    have k1 := hP1.from_.cell i' hi12'
                    have k2 := hP1.has.cell (i' * 100 + m2) (by omega)
                    have k3 := hP1.has.free (i' * 100 + m2) (by omega)
                    have k4 := hP2.by_.cell m2 s1
                    unfold intF at k1 k4
                    rw [s2] at k1
                    rw [s3] at k4
                    generalize hasF (updH Hc i' m' true) (i' * 100 + m2) = hv2 at k2
                    have w1 : wrap64 ((m2 : Int) + 1 - 1) = (m2 : Int) := by rw [Int.add_sub_cancel]; exact IntWalk.wrap64_in _ (by omega)
                    have w2 : wrap64 ((i2 : Int) + 1 - 1) = (i2 : Int) := by rw [Int.add_sub_cancel]; exact IntWalk.wrap64_in _ (by omega)
                    have HR := Lib.hid (And.intro ((hB.setCell (p := ⟨hb, i' * 100 + m', none⟩) HLI.out.h1 (.bool true)).setCell (p := ⟨hb, i' * 100 + m2, none⟩) HLI.out.h1 (.bool false)) hP2)
                    have HS7 := Lib.hid (And.intro s7 (And.intro s6 hk))
                    clear s2 s3 s4 s6 s7 hP1 hP2 hB hP hf1 hk
                    go_wp2
                    go_roundg (Q'.idxOf i2)
                    case measure => have := HS7.out.2; omega
                    case rel => exact ⟨i2, m2, _, vq, rfl, rfl, Nat.le_refl _, HR.out.1, HR.out.2, (HS7.out.1 : Aug L H Q' (updF bm m ((i : Int) + 1)) m i2 m2 _)⟩
              · have hc2 : decide (CL < K) = false := by rw [decide_eq_false_iff_not]; exact hc
                have HN := Lib.hid (HM.out.inn hm100 HHm.out.2 HHm.out.1 (by rw [HXe.out.1]; exact HM2.out.1) (by rw [HXe.out.2]; exact HM2.out.2.2.2) (by rw [← HCL.out]; omega))
                clear hc
                go_wp2
                generalize wr.setCell ⟨b0, m, none⟩ (.int .i64 ((i : Int) + 1)) = W1 at *
                clear g4 g5 g1 g2 g3
                go_loopg [13, 18] 12 (fun k x13 x18 wi => ∃ (j : Nat) (Q2 : List Nat) (fr2 : Nat → Int), x18 = .int .i64 j ∧ j ≤ L.length ∧ 12 - j ≤ k ∧ Below w0.heap.size w0 wi ∧ PtR hb ub b0 H (colS L.length H) Q2 (updF bm m ((i : Int) + 1)) fr2 x13 wi ∧ Aside (Inn L K H task q i m j Q2 (updF bm m ((i : Int) + 1)) fr2))
                case atStart => exact ⟨0, Q', fr, rfl, by omega, by omega, HW3.out.1, HW3.out.2, (HN.out : Inn L K H task q i m 0 Q' (updF bm m ((i : Int) + 1)) fr)⟩
                case round =>
                  obtain ⟨j, Q2, fr2, rfl, hj, hkj, hB, hP, HI2⟩ := hrel
                  have HW4 := Lib.hid (And.intro hB hP)
                  by_cases hlj : j < L.length
                  · have hdj : decide ((j : Int) < (L.length : Int)) = true := by rw [decide_eq_true_eq]; omega
                    have hj12 : j < 12 := by omega
                    have g1 := hP.has.cell (j * 100 + m) (by omega)
                    rw [hasF_at H hm100] at g1
                    have g2 : wr.cell? ⟨b0 + 1 + 1 + 1, j, none⟩ = some (inF Q2 j) := hP.fnd.cell j hj12
                    have g3 : wr.frozen? ⟨b0 + 1 + 1 + 1, j, none⟩ = false := hP.fnd.free j hj12
                    unfold inF at g2
                    have hP3 := hP.from_.far (p := ⟨b0 + 1 + 1 + 1, j, none⟩) (by show b0 + 1 ≠ b0 + 1 + 1 + 1; omega) (.bool true)
                    have k1 := hP3.cell j hj12
                    have k2 := hP3.free j hj12
                    have HO : Hid (OwnI ((wr.setCell ⟨b0 + 1 + 1 + 1, j, none⟩ (.bool true)).setCell ⟨b0 + 1, j, none⟩ (.int .i64 ((m : Int) + 1))) (b0 + 2) 3 _ (List.map (fun j : Nat => (j : Int)) Q2)) := Lib.hid (queue_far (queue_far hP.que hP.qb) (hP.blk (b := b0 + 1) (by omega)))
                    have hsz : b0 + 2 ≤ ((wr.setCell ⟨b0 + 1 + 1 + 1, j, none⟩ (.bool true)).setCell ⟨b0 + 1, j, none⟩ (.int .i64 ((m : Int) + 1))).heap.size := by have := hP.sz; simp [World.setCell]; omega
                    have HSZ := Lib.hid hsz
                    clear hP hP3 hsz
                    have HLJ := Lib.hid (And.intro hlj (And.intro hj hkj))
                    clear hB hj hkj
                    cases hHj : H j m <;> rw [hHj] at g1
                    · have HHj := Lib.hid (HI2.out.skip (fun h => absurd h (by rw [hHj]; simp)))
                      clear hHj
                      go_wp2
                      go_roundg (12 - (j + 1))
                      case measure => have := HLJ.out; omega
                      case rel => exact ⟨j + 1, Q2, fr2, by go_num, by have := HLJ.out; omega, by have := HLJ.out; omega, HW4.out.1, HW4.out.2, (HHj.out : Inn L K H task q i m (j + 1) Q2 _ fr2)⟩
                    · by_cases hjq : j ∈ Q2
                      · rw [decide_eq_true hjq] at g2
                        have HHj := Lib.hid (HI2.out.skip (fun _ => hjq))
                        clear hHj hjq
                        go_wp2
                        go_roundg (12 - (j + 1))
                        case measure => have := HLJ.out; omega
                        case rel => exact ⟨j + 1, Q2, fr2, by go_num, by have := HLJ.out; omega, by have := HLJ.out; omega, HW4.out.1, HW4.out.2, (HHj.out : Inn L K H task q i m (j + 1) Q2 _ fr2)⟩
                      · rw [decide_eq_false hjq] at g2
                        have HHj := Lib.hid (HI2.out.put HLJ.out.1 hHj hjq)
                        have HQL := Lib.hid (HI2.out.bf.len)
                        clear hHj hjq
                        go_upto_region 30 with (fail)
                        have HW5 := Lib.hid (fun v' w' => HW4.out.2.fnd_ HLI.out hj12 ((m : Int) + 1) (v' := v') (w' := w'))
                        have HB5 := Lib.hid (((HW4.out.1.setCell (p := ⟨b0 + 1 + 1 + 1, j, none⟩) (by have := HLI.out.h1; have := HLI.out.h3; show _ ≤ b0 + 1 + 1 + 1; omega) (.bool true)).setCell (p := ⟨b0 + 1, j, none⟩) (by have := HLI.out.h1; have := HLI.out.h3; show _ ≤ b0 + 1; omega) (.int .i64 ((m : Int) + 1))))
                        have HS5 : Hid (((wr.setCell ⟨b0 + 1 + 1 + 1, j, none⟩ (.bool true)).setCell ⟨b0 + 1, j, none⟩ (.int .i64 ((m : Int) + 1))).heap.size = wr.heap.size) := Lib.hid (by simp [World.setCell])
                        generalize (wr.setCell ⟨b0 + 1 + 1 + 1, j, none⟩ (.bool true)).setCell ⟨b0 + 1, j, none⟩ (.int .i64 ((m : Int) + 1)) = W2 at *
                        clear k1 k2
                        go_wp2_with (refine wp_app_int2 32 rfl (.tmp 133) (.tmp 135) rfl Try.underlying32 infoInt _ (b0 + 2) _ _ (j : Int) rfl rfl HO.out (by have := HQL.out; rw [List.length_map]; omega) HSZ.out ?_; intro v2 w2 hP2 hB2 hS2 hF2)
                        have HQ5 := Lib.hid (HW5.out v2 w2 hP2 hS2 (by rw [HS5.out] at hF2; exact hF2))
                        have HB6 := Lib.hid (HB5.out.trans (hB2.mono (by have := HLI.out.h1; have := HLI.out.h3; omega)))
                        clear hP2 hB2 hS2 hF2
                        go_roundg (12 - (j + 1))
                        case measure => have := HLJ.out; omega
                        case rel => exact ⟨j + 1, Q2 ++ [j], _, by go_num, by have := HLJ.out; omega, by have := HLJ.out; omega, HB6.out, HQ5.out, (HHj.out : Inn L K H task q i m (j + 1) (Q2 ++ [j]) _ _)⟩
                  · obtain rfl : j = L.length := by omega
                    have hdj : decide ((L.length : Int) < (L.length : Int)) = false := by rw [decide_eq_false_iff_not]; omega
                    have HD := Lib.hid HI2.out.done
                    clear hB hP hlj
                    go_wp2
                    go_roundg (100 - (m + 1))
                    case measure => have := HM2.out; omega
                    case rel => exact ⟨m + 1, Q2, _, fr2, rfl, by go_num, by have := HM2.out; omega, by have := HM2.out; omega, by have := HM2.out; omega, HW4.out.1, HW4.out.2, (HD.out : Mid L K H task q i (m + 1) Q2 _ fr2)⟩
            · have hz1 : (z != 0) = true := by rw [bne_iff_ne]; exact hz0
              have HHm := Lib.hid (HM.out.skip (.inl (by rw [hz]; exact hz0)))
              clear hHm hz hz0
              go_wp2
              go_roundg (100 - (m + 1))
              case measure => have := HM2.out; omega
              case rel => exact ⟨m + 1, Q', bm, fr, rfl, by go_num, by have := HM2.out; omega, by have := HM2.out; omega, by have := HM2.out; omega, HW2.out.1, HW2.out.2, (HHm.out : Mid L K H task q i (m + 1) Q' bm fr)⟩
          · have HHm := Lib.hid (HM.out.skip (.inr hHm))
            clear hHm hz
            go_wp2
            go_roundg (100 - (m + 1))
            case measure => have := HM2.out; omega
            case rel => exact ⟨m + 1, Q', bm, fr, rfl, by go_num, by have := HM2.out; omega, by have := HM2.out; omega, by have := HM2.out; omega, HW2.out.1, HW2.out.2, (HHm.out : Mid L K H task q i (m + 1) Q' bm fr)⟩
        · have hdm : decide ((m : Int) < Y) = false := by rw [decide_eq_false_iff_not]; exact hlm
          have HO := Lib.hid (HM.out.done (by rw [HXe.out.2]; omega))
          have HW2 := Lib.hid (And.intro hB hP)
          have hQn2 := HM.out.out.bf.len
          clear hB hP hlm
          go_wp2
          go_roundg (L.length - (q + 1))
          case measure => have := HHQ.out; have := HHK.out; omega
          case rel => exact ⟨q + 1, Q', bm, fr, by have h9 := HHQ.out; have h10 : wrap64 ((q : Int) + 1) = (q : Int) + 1 := IntWalk.wrap64_in _ (by omega); rw [h10]; first | rfl | (push_cast; rfl), by have := HM.out.at_; rw [List.getElem?_eq_some_iff] at this; obtain ⟨h, _⟩ := this; omega, by omega, HW2.out.1, HW2.out.2, (HO.out : Out L K H task (q + 1) Q' bm fr)⟩
    · obtain rfl : q = Qq.length := by omega
      have HE := Lib.hid (HQ0.out wr hB hP.has hP.used (HA.out.fail HX.out.2.2.2.1 HX.out.2.2.2.2))
      clear hB hP
      go_wp2
      exact HE.out
end Go.Proofs.Ytdafiblnanpiiaa
