/- Walks over package sky: Ring. -/
import Derived.Test.YtolgpigdioanoaaSkyN
namespace Go.Proofs.Ytolgpigdioanoaa
set_option linter.unusedSimpArgs false
set_option linter.unusedVariables false
open Go.RowKit

theorem ring1_any (k p : Int) (g : Nat) (w : World) (h : okP k p = true) (h1 : w.cell? ⟨g, 0, none⟩ = some (.int .i64 p)) (l1 : g < w.heap.size) :
    Calls Try.prog 90 #[.agg #[.int .i64 k, .int .i64 (sd k)], .pointer (some ⟨g, 0, none⟩)] w fun e w' => ∃ v, e = .returned v ∧ v = .int .i64 (rgN k p) ∧ Below w.heap.size w w' := by
  have HN := Lib.hid (fun W => number_any k p W h)
  clear h
  generalize rgN k p = N at *
  generalize sd k = s at *
  have hb := below_alloc w (.cells #[.int .i64 k, .int .i64 s] 68)
  rw [← hb.cell l1] at h1
  go_enter Try.func90, Try.ntmps90
  go_wp2_with (go_at_call 91; refine (HN.out _).mono ?_; rintro e w1 ⟨rfl, h2⟩)
  go_ret
  exact ⟨_, rfl, rfl, hb.trs h2⟩

def RingV (k p : Int) : Value := if okP k p then .tuple #[.int .i64 (rgN k p), .int .i64 0] else .tuple #[.int .i64 0, .int .i64 2]

theorem Ring_any (k p : Int) (w : World) :
    Calls Try.prog 33 #[.int .i64 k, .int .i64 p] w fun e w' => e = .returned (RingV k p) ∧ Below w.heap.size w w' := by
  have hB0 := below_alloc w (.cells #[.int .i64 p] 3)
  have hc := cell_one w (.int .i64 p) 3
  have HF := ofInt_any k p 90 #[.pointer (some ⟨w.heap.size, 0, none⟩)] (fun v _ => v = .int .i64 (rgN k p)) (w.alloc (.cells #[.int .i64 p] 3)) (enters_of Try.func90 (by kernel_rfl) rfl)
    (fun hok W hW => by
      have hs := hW.size
      simp only [World.size_alloc] at hs
      have := ring1_any k p w.heap.size W hok (by rw [hW.cell (by simp)]; exact hc) (by omega)
      exact this)
  have HV := Lib.hid (show RingV k p = if okP k p then .tuple #[.int .i64 (rgN k p), .int .i64 0] else .tuple #[.int .i64 0, .int .i64 2] from rfl)
  generalize rgN k p = N at *
  generalize RingV k p = V at *
  cases hok : okP k p
  all_goals
    rw [hok] at HV
    simp only [hok] at HF
    have HG := Lib.hid HF; clear HF hok
    go_enter Try.func33, Try.ntmps33
  · go_wp2_with (go_at_call 64; refine HG.out.mono ?_; rintro e w1 ⟨h, h1⟩; simp at h; subst h)
    go_ret2
    exact ⟨by rw [HV.out]; rfl, hB0.trs h1⟩
  · go_wp2_with (go_at_call 64; refine HG.out.mono ?_; rintro e w1 ⟨h, h1⟩; simp at h; subst h)
    go_ret2
    exact ⟨by rw [HV.out]; rfl, hB0.trs h1⟩
end Go.Proofs.Ytolgpigdioanoaa
