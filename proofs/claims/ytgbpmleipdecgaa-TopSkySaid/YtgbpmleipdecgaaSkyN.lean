/- SkyN SkyO -/
import Derived.Test.YtgbpmleipdecgaaSkyM
/- Walks over package sky: the ring number of a pixel. -/
namespace Go.Proofs.Ytgbpmleipdecgaa
set_option linter.unusedSimpArgs false
set_option linter.unusedVariables false
open Go.RowKit

/-- the ring number -/
def rgN (k p : Int) : Int := befF (sd k) (rgR (sd k) (fF k p) (fX k p) (fY k p) - 1).toNat + rgP (sd k) (fF k p) (fX k p) (fY k p) - 1

theorem number_gen (k s p R P b N : Int) (w : World)
    (hR : ∀ W, Calls Try.prog 38 #[.agg #[.int .i64 k, .int .i64 s], .int .i64 p] W fun e w' => e = .returned (.tuple #[.int .i64 R, .int .i64 P]) ∧ Below W.heap.size W w')
    (hB : ∀ W, Calls Try.prog 27 #[.agg #[.int .i64 k, .int .i64 s], .int .i64 R] W fun e w' => e = .returned (.int .i64 b) ∧ Below W.heap.size W w')
    (a1 : IntKind.i64.wrap (b + P) = N + 1) (a2 : IntKind.i64.wrap (N + 1 - 1) = N) (a3 : IntKind.i64.wrap N = N) :
    Calls Try.prog 25 #[.agg #[.int .i64 k, .int .i64 s], .int .i64 p] w fun e w' => e = .returned (.int .i64 N) ∧ Below w.heap.size w w' := by
  have HR := Lib.hid hR; clear hR
  have HB := Lib.hid hB; clear hB
  go_enter Try.func25, Try.ntmps25
  go_wp2_with (first
    | (go_at_call 38; refine (HR.out _).mono ?_; rintro e w1 ⟨rfl, h1⟩; have hbs := (Box.new w 54 #[.int .i64 k, .int .i64 s]).on h1; obtain ⟨⟨c0, c1⟩, -, -⟩ := hbs.two; clear hbs)
    | (go_at_call 27; refine (HB.out _).mono ?_; rintro e w2 ⟨rfl, h2⟩))
  go_ret
  exact ⟨ret_int (by first | rfl | omega), ((below_alloc w _).trs h1).trs h2⟩

theorem rg_bounds {k p : Int} (h : okP k p = true) : (1 ≤ rgR (sd k) (fF k p) (fX k p) (fY k p) ∧ rgR (sd k) (fF k p) (fX k p) (fY k p) ≤ 4 * sd k - 1) ∧ -200 ≤ rgP (sd k) (fF k p) (fX k p) (fY k p) ∧ rgP (sd k) (fF k p) (fX k p) (fY k p) ≤ 200 := by
  have hk := okP_k h
  obtain ⟨hx, hy, hf⟩ := spot_bounds h
  have hsc := sd_cases hk
  generalize fF k p = f at *
  generalize fX k p = x at *
  generalize fY k p = y at *
  generalize sd k = s at *
  have hs : 1 ≤ s ∧ s ≤ 16 := by rcases hsc with h | h | h | h | h <;> omega
  have hR : 1 ≤ rgR s f x y ∧ rgR s f x y ≤ 4 * s - 1 := by
    unfold rgR; rcases hsc with rfl | rfl | rfl | rfl | rfl <;> omega
  have hLb := lenS_bound hs hR
  have hbQ : 0 ≤ rgB f * (lenS s (rgR s f x y) / 4) ∧ rgB f * (lenS s (rgR s f x y) / 4) ≤ 112 := by
    have hb : 0 ≤ rgB f ∧ rgB f ≤ 7 := by unfold rgB; split <;> omega
    exact ⟨Int.mul_nonneg hb.1 (by omega), Int.le_trans (Int.mul_le_mul hb.2 (show lenS s (rgR s f x y) / 4 ≤ 16 by omega) (by omega) (by omega)) (by decide)⟩
  have hc : rgC s (rgR s f x y) = 0 ∨ rgC s (rgR s f x y) = 1 := by unfold rgC; split <;> simp
  have hH : rgH s f x y = rgB f * (lenS s (rgR s f x y) / 4) + x - y + 1 + rgC s (rgR s f x y) := rfl
  have ht : -100 ≤ (rgH s f x y).tdiv 2 ∧ (rgH s f x y).tdiv 2 ≤ 100 := by
    have : -100 ≤ rgH s f x y ∧ rgH s f x y ≤ 140 := by omega
    rcases Int.le_total 0 (rgH s f x y) with h0 | h0
    · rw [Int.tdiv_eq_ediv_of_nonneg h0]; omega
    · obtain ⟨z, hz⟩ : ∃ z, rgH s f x y = -z := ⟨-rgH s f x y, by omega⟩
      rw [hz, Int.neg_tdiv, Int.tdiv_eq_ediv_of_nonneg (by omega)]; omega
  refine ⟨hR, ?_⟩
  generalize hq : (rgH s f x y).tdiv 2 = q at *
  unfold rgP
  rw [hq]
  split
  · omega
  · split <;> omega

theorem number_any (k p : Int) (w : World) (h : okP k p = true) :
    Calls Try.prog 25 #[.agg #[.int .i64 k, .int .i64 (sd k)], .int .i64 p] w fun e w' => e = .returned (.int .i64 (rgN k p)) ∧ Below w.heap.size w w' := by
  have hk := okP_k h
  obtain ⟨h1, h2⟩ := rg_bounds h
  have hs : 1 ≤ sd k ∧ sd k ≤ 16 := by rcases sd_cases hk with h | h | h | h | h <;> omega
  have hb := befF_bound hs (rgR (sd k) (fF k p) (fX k p) (fY k p) - 1).toNat (by omega)
  have hN : rgN k p = befF (sd k) (rgR (sd k) (fF k p) (fX k p) (fY k p) - 1).toNat + rgP (sd k) (fF k p) (fX k p) (fY k p) - 1 := rfl
  exact number_gen k (sd k) p _ _ _ (rgN k p) w (fun W => ring_any k p W h) (fun W => before_any k _ W hk (by omega)) (by rw [IntWalk.i64_in _ (by omega)]; omega) (by rw [IntWalk.i64_in _ (by omega)]; omega) (IntWalk.i64_in _ (by omega))
end Go.Proofs.Ytgbpmleipdecgaa

/- Walks over package sky: Ring. -/
namespace Go.Proofs.Ytgbpmleipdecgaa
set_option linter.unusedSimpArgs false
set_option linter.unusedVariables false
open Go.RowKit

theorem ring1_any (k p : Int) (g : Nat) (w : World) (h : okP k p = true) (h1 : w.cell? ⟨g, 0, none⟩ = some (.int .i64 p)) (l1 : g < w.heap.size) :
    Calls Try.prog 24 #[.agg #[.int .i64 k, .int .i64 (sd k)], .pointer (some ⟨g, 0, none⟩)] w fun e w' => ∃ v, e = .returned v ∧ v = .int .i64 (rgN k p) ∧ Below w.heap.size w w' := by
  have HN := Lib.hid (fun W => number_any k p W h)
  clear h
  generalize rgN k p = N at *
  generalize sd k = s at *
  have hb := below_alloc w (.cells #[.int .i64 k, .int .i64 s] 54)
  rw [← hb.cell l1] at h1
  go_enter Try.func24, Try.ntmps24
  go_wp2_with (go_at_call 25; refine (HN.out _).mono ?_; rintro e w1 ⟨rfl, h2⟩)
  go_ret
  exact ⟨_, rfl, rfl, hb.trs h2⟩

def RingV (k p : Int) : Value := if okP k p then .tuple #[.int .i64 (rgN k p), .int .i64 0] else .tuple #[.int .i64 0, .int .i64 2]

theorem Ring_any (k p : Int) (w : World) :
    Calls Try.prog 7 #[.int .i64 k, .int .i64 p] w fun e w' => e = .returned (RingV k p) ∧ Below w.heap.size w w' := by
  have hB0 := below_alloc w (.cells #[.int .i64 p] 3)
  have hc := cell_one w (.int .i64 p) 3
  have HF := ofInt_any k p 24 #[.pointer (some ⟨w.heap.size, 0, none⟩)] (fun v _ => v = .int .i64 (rgN k p)) (w.alloc (.cells #[.int .i64 p] 3)) (enters_of Try.func24 (by kernel_rfl) rfl)
    (fun hok W hW => by
      have hs := hW.size
      simp only [World.size_alloc] at hs
      have := ring1_any k p w.heap.size W hok (by rw [hW.cell (by simp)]; exact hc) (by omega)
      exact this)
  have HV := Lib.hid (show RingV k p = if okP k p then .tuple #[.int .i64 (rgN k p), .int .i64 0] else .tuple #[.int .i64 0, .int .i64 2] from rfl)
  generalize rgN k p = N at *
  generalize RingV k p = V at *
  cases hok : okP k p
  all_goals
    rw [hok] at HV
    simp only [hok] at HF
    have HG := Lib.hid HF; clear HF hok
    go_enter Try.func7, Try.ntmps7
  · go_wp2_with (go_at_call 23; refine HG.out.mono ?_; rintro e w1 ⟨h, h1⟩; simp at h; subst h)
    go_ret2
    exact ⟨by rw [HV.out]; rfl, hB0.trs h1⟩
  · go_wp2_with (go_at_call 23; refine HG.out.mono ?_; rintro e w1 ⟨h, h1⟩; simp at h; subst h)
    go_ret2
    exact ⟨by rw [HV.out]; rfl, hB0.trs h1⟩
end Go.Proofs.Ytgbpmleipdecgaa
