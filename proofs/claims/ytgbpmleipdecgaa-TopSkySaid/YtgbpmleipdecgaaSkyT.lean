/- Walks over package sky: the pixel of a ring number; the pixels on a ring, asked. -/
import Derived.Test.YtgbpmleipdecgaaSkyS
namespace Go.Proofs.Ytgbpmleipdecgaa
set_option linter.unusedSimpArgs false
set_option linter.unusedVariables false
open Go.RowKit

theorem bef_more {k n : Int} {i : Nat} (hn : okP k n = true) (hi : (i : Int) + 1 ≤ 4 * sd k - 1) (h : befF (sd k) (i + 1) ≤ n) : (i : Int) + 2 ≤ 4 * sd k - 1 := by
  have hk := okP_k hn
  have hp : 0 ≤ n ∧ n ≤ px k - 1 := by unfold okP at hn; exact btw_iff.1 (Bool.and_eq_true_iff.1 hn).2
  have := befF_px hk
  by_cases e : (i : Int) + 1 = 4 * sd k - 1
  · rw [← e, show ((i : Int) + 1).toNat = i + 1 by omega] at this
    omega
  · omega
theorem bef_found {k n : Int} {i : Nat} (hn : okP k n = true) (hi : (i : Int) + 1 ≤ 4 * sd k - 1) (h1 : befF (sd k) i ≤ n) (h2 : n < befF (sd k) (i + 1)) :
    ∃ j : Nat, n - befF (sd k) i = j ∧ j < (lenS (sd k) ((i : Int) + 1)).toNat ∧ ix (onL k ((i : Int) + 1)) j = frm k n := by
  have hk := okP_k hn
  have hs := befF_step (s := sd k) (R := (i : Int) + 1) (by omega)
  rw [show ((i : Int) + 1).toNat = i + 1 by omega, show ((i : Int) + 1 - 1).toNat = i by omega] at hs
  obtain ⟨a, b⟩ := rgN_pix (k := k) (R := (i : Int) + 1) (n := n) hk (by omega) (by rw [show ((i : Int) + 1 - 1).toNat = i by omega]; exact h1) (by rw [show ((i : Int) + 1).toNat = i + 1 by omega]; omega)
  have hf := frm_eq a b
  rw [show ((i : Int) + 1 - 1).toNat = i by omega] at hf
  refine ⟨(n - befF (sd k) i).toNat, by omega, by omega, ?_⟩
  rw [ix_onL (by omega), hf]
  congr 1
  omega

theorem keep5 {W W' : World} {p q r : Addr} {x y z : Value} (h : Below W.heap.size W W') (hs : W.cell? p = some x ∧ W.cell? q = some y ∧ W.cell? r = some z ∧ p.block < W.heap.size ∧ q.block < W.heap.size) (hp : p.spot = none := by rfl) (hq : q.spot = none := by rfl) (hr : r.spot = none := by rfl) (hrq : r.block = q.block := by rfl) :
    W'.cell? p = some x ∧ W'.cell? q = some y ∧ W'.cell? r = some z ∧ p.block < W'.heap.size ∧ q.block < W'.heap.size :=
  ⟨(h.cell hs.2.2.2.1).trans hs.1, (h.cell hs.2.2.2.2).trans hs.2.1, (h.cell (by rw [hrq]; exact hs.2.2.2.2)).trans hs.2.2.1, Nat.lt_of_lt_of_le hs.2.2.2.1 h.size, Nat.lt_of_lt_of_le hs.2.2.2.2 h.size⟩
set_option maxHeartbeats 2000000 in
theorem fromRing1_any (k n : Int) (g : Nat) (w : World) (h : okP k n = true) (hc : w.cell? ⟨g, 0, none⟩ = some (.int .i64 n)) (hg : g < w.heap.size) :
    Calls Try.prog 26 #[.agg #[.int .i64 k, .int .i64 (sd k)], .pointer (some ⟨g, 0, none⟩)] w fun e w' => ∃ v, e = .returned v ∧ v = .int .i64 (frm k n) ∧ Below w.heap.size w w' := by
  have hk := okP_k h
  have hs := sd_b hk
  have hp := okP_p h
  have HB := Lib.hid (fun r W hr => before_any k r W hk hr)
  have HO := Lib.hid (fun r W hr => on_any k r W hk hr)
  have HM := Lib.hid (fun i => bef_more (i := i) h)
  have HF := Lib.hid (fun i => bef_found (i := i) h)
  have HBB := Lib.hid (fun i (hi : ((i : Nat) : Int) ≤ 4 * sd k - 1) => befF_bound hs i hi)
  have HLL := Lib.hid (onL_len k)
  clear h hk
  generalize frm k n = F at *
  generalize sd k = s at *
  have hb := below_alloc w (.cells #[.int .i64 k, .int .i64 s] 54)
  have HC := Lib.hid hc; clear hc
  go_enter Try.func26, Try.ntmps26
  go_wp2
  go_loopg [4] 64 (fun kk u wr => ∃ i : Nat, u = .int .i64 ((i : Int) + 1) ∧ (i : Int) + 1 ≤ 4 * s - 1 ∧ 64 - i ≤ kk ∧ Hid (befF s i ≤ n) ∧ Below (w.alloc (.cells #[.int .i64 k, .int .i64 s] 54)).heap.size (w.alloc (.cells #[.int .i64 k, .int .i64 s] 54)) wr)
  case atStart => exact ⟨0, rfl, by omega, by omega, Lib.hid (by simp [befF]; omega), Below.refl _ _⟩
  case round =>
    obtain ⟨i, rfl, hi, hkk, hL, hB⟩ := hrel
    obtain ⟨⟨c0, c1⟩, f0, f1⟩ := ((Box.new w 54 #[.int .i64 k, .int .i64 s]).on hB).two
    have hc : wr.cell? ⟨g, 0, none⟩ = some (.int .i64 n) := by rw [(hb.trs hB).cell (by simpa using hg)]; exact HC.out
    have hgr : g < wr.heap.size := Nat.lt_of_lt_of_le hg (hb.trs hB).size
    have hwr : w.heap.size < wr.heap.size := by have := hB.size; simp at this; omega
    have hw2 : IntKind.i64.wrap ((i : Int) + 1 + 1) = (i : Int) + 1 + 1 := IntWalk.i64_in _ (by omega)
    have hw3 : IntKind.i64.wrap ((i : Int) + 2) = (i : Int) + 2 := IntWalk.i64_in _ (by omega)
    have HB1 := Lib.hid (fun W => HB.out ((i : Int) + 1 + 1) W (by omega))
    rw [show ((i : Int) + 1 + 1 - 1).toNat = i + 1 by omega] at HB1
    have HB0 := Lib.hid (fun W => HB.out ((i : Int) + 1) W (by omega))
    rw [show ((i : Int) + 1 - 1).toNat = i by omega] at HB0
    have HO1 := Lib.hid (fun W => HO.out ((i : Int) + 1) W (by omega))
    have hBr := Lib.hid (hb.trs hB)
    have hBq := Lib.hid hB
    clear hB
    by_cases hlt : befF s (i + 1) ≤ n
    · have hm := HM.out i hi hlt
      have HLT := Lib.hid hlt
      generalize hbq : befF s (i + 1) = b at *
      have HQ := Lib.hid hbq; clear hbq
      go_wp2_with fail
      go_region_held3 (fun w' => w'.cell? ⟨g, 0, none⟩ = some (.int .i64 n) ∧ w'.cell? ⟨w.heap.size, 0, none⟩ = some (.int .i64 k) ∧ w'.cell? ⟨w.heap.size, 1, none⟩ = some (.int .i64 s)) (first | go_keep | (refine ⟨?_, ?_, ?_⟩ <;> (rw [h1.cell (by simp <;> omega)]; first | assumption | go_keep))) ((go_at_call 27; refine (HB1.out _).mono ?_; rintro e w1 ⟨rfl, h1⟩))
      all_goals
        go_wp2_with fail
        go_roundg (63 - i)
        case measure => omega
        case rel => exact ⟨i + 1, by go_num, by omega, by omega, Lib.hid (by rw [HQ.out]; exact HLT.out), (hBq.out.drewsN 1).trs h1⟩
    · obtain ⟨j, hj, hjl, hF⟩ := HF.out i hi hL.out (by omega)
      have HLT := Lib.hid hlt
      have hjs : (j : Int) < ((lenS s ((i : Int) + 1)).toNat : Int) := by omega
      have hww : IntKind.i64.wrap (n - befF s i) = n - befF s i := IntWalk.i64_in _ (by have := HBB.out i (by omega); omega)
      have HJ := Lib.hid hj
      have hll := Lib.hid (HLL.out ((i : Int) + 1))
      have HFF := Lib.hid hF
      clear hF hjl HF HM HBB HLL
      generalize hbq : befF s (i + 1) = b1 at *
      clear hbq
      generalize hbq : befF s i = b at *
      clear hbq hL
      generalize lenS s ((i : Int) + 1) = L at *
      generalize onL k ((i : Int) + 1) = l at *
      rw [hj] at hww
      go_wp2_with fail
      go_region_held3 (fun w' => w'.cell? ⟨g, 0, none⟩ = some (.int .i64 n) ∧ w'.cell? ⟨w.heap.size, 0, none⟩ = some (.int .i64 k) ∧ w'.cell? ⟨w.heap.size, 1, none⟩ = some (.int .i64 s)) (first | go_keep | (refine ⟨?_, ?_, ?_⟩ <;> (rw [h1.cell (by simp <;> omega)]; first | assumption | go_keep))) ((go_at_call 27; refine (HB1.out _).mono ?_; rintro e w1 ⟨rfl, h1⟩))
      all_goals
        go_wp2_with fail
        have hj0 : 0 ≤ (j : Int) := by omega
        have hsz1 : w.heap.size < w1.heap.size := by have := h1.size; simp at this; omega
        have hq1 := bcell h1
        have hg1 : g < w1.heap.size := Nat.lt_of_lt_of_le hgr (by have := h1.size; simpa using this)
        have m1 := (h1.cell (p := ⟨g, 0, none⟩) hgr).trans (by first | assumption | exact hc)
        have m2 := (h1.cell (p := ⟨w.heap.size, 0, none⟩) hwr).trans (by first | assumption | exact c0)
        have m3 := (h1.cell (p := ⟨w.heap.size, 1, none⟩) hwr).trans (by first | assumption | exact c1)
        clear hq1 hc c0 c1
        have HR := Lib.hid ((hBr.out.drewsN 1).trs h1); clear h1 hBr hBq HB1 HLT hw2 hw3 f0 f1 hgr hwr HC hs hp hi hkk
        go_region_with (first
          | (go_at_call 27; refine (HB0.out _).mono ?_; rintro e w2 ⟨rfl, h2⟩; have k1 := (h2.cell (p := ⟨g, 0, none⟩) (by first | assumption | exact hg1)).trans (by first | assumption | exact m1); have k2 := (h2.cell (p := ⟨w.heap.size, 0, none⟩) (by first | assumption | exact hsz1)).trans (by first | assumption | exact m2); have k3 := (h2.cell (p := ⟨w.heap.size, 1, none⟩) (by first | assumption | exact hsz1)).trans (by first | assumption | exact m3); have hs2 : w.heap.size < w2.heap.size := Nat.lt_of_lt_of_le (by assumption) h2.size; have hg2 : g < w2.heap.size := Nat.lt_of_lt_of_le (by assumption) h2.size; have HR := Lib.hid (show Below w.heap.size w w2 by first | exact HR.out.trs h2 | exact (HR.out.drewsN 1).trs h2); (try have kO := (h2.cell (p := ⟨G, j, none⟩) (by assumption)).trans (by assumption)); clear h2)
          | (go_at_call 28; refine (HO1.out _).mono ?_; rintro e w2 ⟨G, rfl, hO, h2, hG⟩; have kO := hO.cell (k := j) (by rw [hll.out]; omega); have hlO := hO.lt; have k1 := (h2.cell (p := ⟨g, 0, none⟩) (by first | assumption | exact hg1)).trans (by first | assumption | exact m1); have k2 := (h2.cell (p := ⟨w.heap.size, 0, none⟩) (by first | assumption | exact hsz1)).trans (by first | assumption | exact m2); have k3 := (h2.cell (p := ⟨w.heap.size, 1, none⟩) (by first | assumption | exact hsz1)).trans (by first | assumption | exact m3); have hs2 : w.heap.size < w2.heap.size := Nat.lt_of_lt_of_le (by assumption) h2.size; have hg2 : g < w2.heap.size := Nat.lt_of_lt_of_le (by assumption) h2.size; have HR := Lib.hid (show Below w.heap.size w w2 by first | exact HR.out.trs h2 | exact (HR.out.drewsN 1).trs h2); clear h2 hO hG))
        all_goals
          go_wp2_with fail
          go_ret
          exact ⟨_, rfl, congrArg (Value.int .i64) HFF.out, HR.out⟩
end Go.Proofs.Ytgbpmleipdecgaa
