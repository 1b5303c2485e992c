/- Walks over package wave: pack. -/
import Derived.Test.YtkjiancdhaocaaaDoorWvBa
import Derived.Test.YtkjiancdhaocaaaDoorLibY
import Derived.StillTailTactics
namespace Go.Proofs.YtkjiancdhaocaaaDoor
open Go.RowKit Go.Shelf
set_option linter.unusedSimpArgs false
set_option linter.unusedVariables false
attribute [local go_sem] Oper.semAt_some

theorem u8_pow {r : Nat} (h : r < 8) : IntKind.u8.wrap (2 ^ (7 - r)) = 2 ^ (7 - r) := by
  have : r = 0 ∨ r = 1 ∨ r = 2 ∨ r = 3 ∨ r = 4 ∨ r = 5 ∨ r = 6 ∨ r = 7 := by omega
  rcases this with rfl | rfl | rfl | rfl | rfl | rfl | rfl | rfl <;> rfl
set_option maxRecDepth 100000 in
set_option maxHeartbeats 4000000 in
theorem pack_any (t : Tx) (w : World) (hb : bitsB t = true) (hl : t.length ≤ 1000) :
    Calls Tryd.prog 38 #[.string ⟨t.toArray⟩] w fun e w' => e = .returned (.slice (some ⟨w.heap.size, 0, none⟩) (2 + nB t.length) (2 + nB t.length)) ∧ BoxY w' w.heap.size (packL t) ∧ Below w.heap.size w w' := by
  have hget := get_bt t
  have hsz := size_bt t
  have hnb : ((t.length : Int) + 7) / 8 = (nB t.length : Int) := by unfold nB; omega
  have hnb2 : nB t.length ≤ 200 := by unfold nB; omega
  have HNB : Hid (∀ i, i < t.length → i / 8 < nB t.length) := Lib.hid (fun i hi => by unfold nB; omega)
  obtain ⟨cs, hmk, hbx⟩ := run_make_byte (P := Tryd.prog) Tryd.underlying37 infoByte (2 + (nB t.length : Int)) (by omega) (by omega)
  rw [show (2 + (nB t.length : Int)).toNat = 2 + nB t.length by omega] at hbx hmk
  have HBX := Lib.hid hbx
  have hBl := below_alloc w (.cells cs 5)
  have hbx0 := hbx w
  clear hbx
  have HB := Lib.hid hb
  clear hb
  generalize hn : t.length = n at *
  have HN := Lib.hid hn
  clear hn
  generalize hm : nB n = m at *
  have HM := Lib.hid hm
  clear hm
  go_enter Tryd.func38, Tryd.ntmps38
  go_upto_region 2 with (fail)
  generalize w.alloc (.cells cs 5) = w1 at *
  generalize hg : w.heap.size = g at *
  have HG := Lib.hid hg
  clear hg
  have c0 := hbx0.cell (k := 0) (by simp; omega)
  have c1 := hbx0.cell (k := 1) (by simp; omega)
  have f0 := hbx0.frozen 0
  have f1 := hbx0.frozen 1
  have H1 := Lib.hid (And.intro hbx0 hBl)
  clear hbx0 hBl hmk HBX hnb
  go_wp2
  go_loopg [24] n (fun gk u wr => ∃ i : Nat, u = .int .i64 i ∧ i ≤ n ∧ n - i ≤ gk ∧ BoxY wr g (pkS t i) ∧ Below g w wr)
  case atStart =>
    refine ⟨0, rfl, by omega, by omega, ?_, ?_⟩
    · have := (H1.out.1.set_ 0 ((n : Int) / 256)).set_ 1 ((n : Int) % 256)
      rw [← pkS_zero HN.out HM.out] at this
      exact this
    · exact (H1.out.2.setCell (p := ⟨g, 0, none⟩) (Nat.le_refl _) _).setCell (p := ⟨g, 1, none⟩) (Nat.le_refl _) _
  case round =>
    obtain ⟨i, rfl, hi, hgk, hX, hB⟩ := hrel
    by_cases hlt : i < n
    · have hin : (i : Int) < (n : Int) := by omega
      have hi0 : (0 : Int) ≤ (i : Int) := by omega
      have hJ : (i : Int) / 8 = ((i / 8 : Nat) : Int) := by omega
      have hR : (i : Int) % 8 = ((i % 8 : Nat) : Int) := by omega
      have hRl : i % 8 < 8 := by omega
      have hRt : (i : Int).tmod 8 = ((i % 8 : Nat) : Int) := by rw [Int.tmod_eq_emod_of_nonneg hi0]; exact hR
      have e7 : IntKind.u8.wrap 0 = 0 := by decide
      have e8 : IntKind.u8.wrap 1 = 1 := by decide
      have e9 : IntKind.u8.wrap (49 - 48) = 1 := by decide
      have hJm := HNB.out i hlt
      have hc := hX.cell (k := 2 + i / 8) (by rw [pkS_len, HN.out, HM.out]; omega)
      have hf := hX.frozen (2 + i / 8)
      rw [pkS_ix t i (by rw [HN.out, HM.out]; exact hJm)] at hc
      have HX := Lib.hid (And.intro hX hB)
      have hbt := bt_bits HB.out (i := i) (by rw [HN.out]; exact hlt)
      have HOR := Lib.hid (pk_or HB.out (i := i) (by rw [HN.out]; exact hlt))
      have HNX := Lib.hid (pkS_next (t := t) (i := i) (by rw [HN.out]; exact hlt))
      have hpb := pv_bd t i (i / 8)
      clear hX hB
      generalize pv t i (i / 8) = x at *
      generalize hj : i / 8 = J at *
      generalize hr : i % 8 = R at *
      have HJR := Lib.hid (And.intro hj hr)
      clear hj hr
      have hKn : 2 + J < 2 + m := by omega
      have hpM : ((2 + J : Nat) : Int) < ((2 + m : Nat) : Int) := Int.ofNat_lt.2 hKn
      clear hKn
      have e5 : IntKind.i64.wrap (J : Int) = (J : Int) := IntWalk.i64_in _ (by omega)
      have e6 : IntKind.i64.wrap (R : Int) = (R : Int) := IntWalk.i64_in _ (by omega)
      have e1 : IntKind.i64.wrap (2 + (J : Int)) = ((2 + J : Nat) : Int) := by rw [IntWalk.i64_in _ (by omega)]; omega
      have e2 : wrap64 (2 + (J : Int)) = ((2 + J : Nat) : Int) := by rw [IntWalk.wrap64_in _ (by omega)]; omega
      have e3 : IntKind.i64.wrap (7 - (R : Int)) = ((7 - R : Nat) : Int) := by rw [IntWalk.i64_in _ (by omega)]; omega
      have e4 : wrap64 (7 - (R : Int)) = ((7 - R : Nat) : Int) := by rw [IntWalk.wrap64_in _ (by omega)]; omega
      generalize hKe : 2 + J = p at *
      have e10 : IntKind.u8.wrap (2 ^ (7 - R)) = 2 ^ (7 - R) := u8_pow hRl
      generalize hSe : 7 - R = S at *
      have hp0 : (0 : Int) ≤ (p : Int) := Int.natCast_nonneg p
      generalize hMe : 2 + m = M at *
      go_wp2
      refine wp_region_still_tail 16 (by kernel_rfl) (by kernel_rfl) ?_
      simp only [List.take_succ_cons, List.take_zero, List.drop_succ_cons, List.drop_zero]
      change wpStill _ _ (wr.drewN 1) (fun a' => wpList _ _ _ _ a' (wr.drewN 1)) _ _
      have hc1 : (wr.drewN 1).cell? ⟨g, p, none⟩ = some (.int .u8 x) := hc
      have hf1 : (wr.drewN 1).frozen? ⟨g, p, none⟩ = false := hf
      clear hc hf
      have HX1 : Hid (BoxY (wr.drewN 1) g (pkS t i) ∧ Below g w (wr.drewN 1)) := Lib.hid ⟨HX.out.1.on ((Below.refl _ _).drewsN 1), HX.out.2.drewsN 1⟩
      clear HX
      generalize wr.drewN 1 = W1 at *
      rcases hbt with hbt | hbt
      · rw [hbt] at HOR
        iterate 16 (refine wpStill_step (fun K hK => ?_); go_simp; (first | refine hK _ ?_ | (go_values; refine hK _ ?_) | (go_values; go_simp; refine hK _ ?_) | (go_ite <;> go_prune <;> (try go_simp); refine hK _ ?_)); clear hK K)
        refine wpStill_nil ?_
        rw [HOR.out 0 (by simp)]
        generalize hY : x + bI t i * 2 ^ S = y at *
        clear hY hKe hSe hMe
        go_wp2
        go_roundg (n - (i + 1))
        case measure => omega
        case rel => exact ⟨i + 1, by go_num, by omega, by omega, by
          have := HX1.out.1.set_ p y
          rw [HNX.out] at this
          exact this, HX1.out.2.setCell (p := ⟨g, p, none⟩) (Nat.le_refl _) (.int .u8 y)⟩
      · rw [hbt] at HOR
        iterate 16 (refine wpStill_step (fun K hK => ?_); go_simp; (first | refine hK _ ?_ | (go_values; refine hK _ ?_) | (go_values; go_simp; refine hK _ ?_) | (go_ite <;> go_prune <;> (try go_simp); refine hK _ ?_)); clear hK K)
        refine wpStill_nil ?_
        rw [HOR.out (2 ^ S) (by simp)]
        generalize hY : x + bI t i * 2 ^ S = y at *
        clear hY hKe hSe hMe
        go_wp2
        go_roundg (n - (i + 1))
        case measure => omega
        case rel => exact ⟨i + 1, by go_num, by omega, by omega, by
          have := HX1.out.1.set_ p y
          rw [HNX.out] at this
          exact this, HX1.out.2.setCell (p := ⟨g, p, none⟩) (Nat.le_refl _) (.int .u8 y)⟩
    · obtain rfl : i = n := by omega
      have HX := Lib.hid (And.intro hX hB)
      clear hX hB
      go_wp2
      go_ret
      rw [HG.out]
      refine ⟨rfl, ?_, HX.out.2⟩
      have := HX.out.1
      unfold packL
      rw [HN.out]
      exact this
end Go.Proofs.YtkjiancdhaocaaaDoor
