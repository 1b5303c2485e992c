/- The walk of the law AlertStretches. -/
import Derived.Test.YtannnbjadbmmcaaAlG
namespace Go.Proofs.Ytannnbjadbmmcaa
open Go.RowKit
set_option linter.unusedSimpArgs false
set_option linter.unusedVariables false

theorem RdT.two (w : World) (a b c d e f : Int) (t : TypeId) : RdT (w.alloc (.cells #[.int .i64 a, .int .i64 b, .int .i64 c, .int .i64 d, .int .i64 e, .int .i64 f] t)) (w.alloc (.cells #[.int .i64 a, .int .i64 b, .int .i64 c, .int .i64 d, .int .i64 e, .int .i64 f] t)).heap.size (some ⟨w.heap.size, 0, none⟩) [(a, b, c), (d, e, f)] :=
  .inr ⟨_, _, rfl, by simp, fun k hk => by
    rw [(Box.new w t _).cell, (Box.new w t _).cell, (Box.new w t _).cell]
    match k, hk with
    | 0, _ => exact ⟨rfl, rfl, rfl⟩
    | 1, _ => exact ⟨rfl, rfl, rfl⟩⟩
theorem sane_ovf : ovf [(0, 2, 2), (1, 3, 2)] = some (0, 3) := by decide +kernel
theorem sane_vld : vldT [(0, 2, 2), (1, 3, 2)] = true := by decide +kernel

theorem Sane_any (w : World) : Calls Try.prog 6 #[] w fun e w' => e = .returned (.bool true) ∧ Below w.heap.size w w' := by
  have H := Overfull_any (some ⟨w.heap.size, 0, none⟩) 2 [(0, 2, 2), (1, 3, 2)] _ (RdT.two w 0 2 2 1 3 2 38) (by decide)
  have hv : OverV [(0, 2, 2), (1, 3, 2)] = .tuple #[.int .i64 0, .int .i64 3, .int .i64 0] := by unfold OverV; rw [sane_vld, sane_ovf]; rfl
  rw [hv] at H
  have HH := Lib.hid H; clear H hv
  go_enter Try.func6, Try.ntmps6
  go_wp2_with (go_at_call 8; refine HH.out.mono ?_; rintro e w1 ⟨rfl, hB⟩)
  go_ret
  exact ⟨rfl, (below_alloc _ _).trs hB⟩

theorem OverV_form (L : List (Int × Int × Int)) : ∃ x y e : Int, OverV L = .tuple #[.int .i64 x, .int .i64 y, .int .i64 e] := by
  unfold OverV ovT
  split
  · split <;> exact ⟨_, _, _, rfl⟩
  · exact ⟨_, _, _, rfl⟩

end Go.Proofs.Ytannnbjadbmmcaa
