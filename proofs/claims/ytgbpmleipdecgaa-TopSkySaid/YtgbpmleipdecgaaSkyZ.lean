/- Walks over package sky and its reference: On, FromRing, Pixels. -/
import Derived.Test.YtgbpmleipdecgaaSkyT
import Derived.Test.YtgbpmleipdecgaaSkyU
namespace Go.Proofs.Ytgbpmleipdecgaa
set_option linter.unusedSimpArgs false
set_option linter.unusedVariables false
open Go.RowKit

def FrmV (k n : Int) : Value := if okP k n then .tuple #[.int .i64 (frm k n), .int .i64 0] else .tuple #[.int .i64 0, .int .i64 2]

theorem FromRing_any (k p : Int) (w : World) :
    Calls Try.prog 8 #[.int .i64 k, .int .i64 p] w fun e w' => e = .returned (FrmV k p) ∧ Below w.heap.size w w' := by
  have hB0 := below_alloc w (.cells #[.int .i64 p] 3)
  have hc := cell_one w (.int .i64 p) 3
  have HF := ofInt_any k p 26 #[.pointer (some ⟨w.heap.size, 0, none⟩)] (fun v _ => v = .int .i64 (frm k p)) (w.alloc (.cells #[.int .i64 p] 3)) (enters_of Try.func26 (by kernel_rfl) rfl)
    (fun hok W hW => by
      have hs := hW.size
      simp only [World.size_alloc] at hs
      have := fromRing1_any k p w.heap.size W hok (by rw [hW.cell (by simp)]; exact hc) (by omega)
      exact this)
  have HV := Lib.hid (show FrmV k p = if okP k p then .tuple #[.int .i64 (frm k p), .int .i64 0] else .tuple #[.int .i64 0, .int .i64 2] from rfl)
  generalize frm k p = N at *
  generalize FrmV k p = V at *
  cases hok : okP k p
  all_goals
    rw [hok] at HV
    simp only [hok] at HF
    have HG := Lib.hid HF; clear HF hok
    go_enter Try.func8, Try.ntmps8
  · go_wp2_with (go_at_call 23; refine HG.out.mono ?_; rintro e w1 ⟨h, h1⟩; simp at h; subst h)
    go_ret2
    exact ⟨by rw [HV.out]; rfl, hB0.trs h1⟩
  · go_wp2_with (go_at_call 23; refine HG.out.mono ?_; rintro e w1 ⟨h, h1⟩; simp at h; subst h)
    go_ret2
    exact ⟨by rw [HV.out]; rfl, hB0.trs h1⟩

def PixV (k : Int) : Value := if btw 0 k 4 then .tuple #[.int .i64 (px k), .int .i64 0] else .tuple #[.int .i64 0, .int .i64 2]
def OnLs (k r : Int) : List Int := if okR k r then onL k r else []
def OnE (k r : Int) : Int := if okR k r then 0 else 2

end Go.Proofs.Ytgbpmleipdecgaa
