/- The walk of the law IceLosses. -/
import Derived.Test.YtbocedbonaeohaaIceI
import Derived.Laws.StructEq
namespace Go.Proofs.Ytbocedbonaeohaa
set_option linter.unusedVariables false
open Go.RowKit

theorem Long_any (A : Option Addr) (n c : Nat) (w : World) :
    Calls Try.prog 4 #[.slice A n c] w fun e w' => e = .returned (.bool (decide ((60 : Int) < n))) ∧ w = w' := by
  go_enter Try.func4, Try.ntmps4
  go_wp2
  go_ret
  exact ⟨rfl, rfl⟩

theorem box2_on {w w' : World} {t : TypeId} {a b : Int} (h : Below (w.alloc (.cells #[.int .i64 a, .int .i64 b] t)).heap.size (w.alloc (.cells #[.int .i64 a, .int .i64 b] t)) w') :
    w'.cell? ⟨w.heap.size, 0, none⟩ = some (.int .i64 a) ∧ w'.cell? ⟨w.heap.size, 1, none⟩ = some (.int .i64 b) ∧ w.heap.size < w'.heap.size := by
  have hb := (Box.new w t #[.int .i64 a, .int .i64 b]).on h
  exact ⟨hb.cell 0, hb.cell 1, hb.lt⟩

theorem Sane_any (w : World) : Calls Try.prog 6 #[] w fun e w' => e = .returned (.bool true) ∧ Below w.heap.size w w' := by
  have H := Loss_any (some ⟨w.heap.size, 0, none⟩) 2 [(2, 1), (3, 4)] 0 3 _ (RdP.two w 2 1 3 4 39) (by decide)
  have he : LossE [(2, 1), (3, 4)] 0 3 = 0 := by decide
  have hv : LossV [(2, 1), (3, 4)] 0 3 = 6 := by decide
  rw [he, hv, val_ok rfl] at H
  have HH := Lib.hid H; clear H he hv
  go_enter Try.func6, Try.ntmps6
  go_wp2_with (go_at_call 16; refine HH.out.mono ?_; rintro e w1 ⟨rfl, hB⟩)
  go_ret
  exact ⟨rfl, (below_alloc _ _).trs hB⟩

end Go.Proofs.Ytbocedbonaeohaa
