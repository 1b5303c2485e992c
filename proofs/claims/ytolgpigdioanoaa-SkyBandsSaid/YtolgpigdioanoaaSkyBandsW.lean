/- The walk of the law SkyBands. -/
import Derived.Test.YtolgpigdioanoaaSkyBb
namespace Go.Proofs.Ytolgpigdioanoaa
open Go.RowKit
set_option linter.unusedSimpArgs false
set_option linter.unusedVariables false

theorem toldL_len (S : Px) : (toldL S).length ≤ 400 := by
  unfold toldL; split
  · simp
  · omega
theorem ringsL_len (a b : Int) : (ringsL a b).length ≤ 400 := by
  unfold ringsL; split
  · exact toldL_len _
  · simp
/-- a list is the same as itself -/
theorem Same_self (A A' : Option Addr) (c c' : Nat) (l : List (Int × Int)) (w : World) (hr : RdP w w.heap.size A l) (hr' : RdP w w.heap.size A' l) (hl : l.length ≤ 1000000) :
    Calls Try.prog 41 #[.slice A l.length c, .slice A' l.length c'] w fun e w' => e = .returned (.bool true) ∧ Below w.heap.size w w' := by
  have h := SameCells_any A A' c c' l l w hr hr' hl (by omega)
  rw [decide_eq_true rfl] at h
  exact h
set_option maxRecDepth 100000 in
set_option maxHeartbeats 4000000 in
theorem SkyBands_walk (w : World) (a b : Int) : Calls Try.prog 8 #[.int .i64 a, .int .i64 b] w fun e w' => e = .returned (.bool true) ∧ Below w.heap.size w w' := by
  have H1 := Lib.hid (Rings_any a b)
  have H2 := Lib.hid (refRings_any a b)
  have hlen := ringsL_len a b
  have HS := Lib.hid (fun A A' c c' W h h' => Same_self A A' c c' (ringsL a b) W h h' (by omega))
  unfold LstQ at *
  generalize ringsE a b = E at *
  generalize ringsL a b = L at *
  generalize hn : L.length = n at *
  clear hn
  go_enter Try.func8, Try.ntmps8
  go_wp2_with (first
    | (go_at_call 39; refine (H1.out _).mono ?_; rintro e w1 ⟨h1, A1, c1, rfl, hr1⟩)
    | (go_at_call 40; refine (H2.out _).mono ?_; rintro e w2 ⟨h2, A2, c2, rfl, hr2⟩; have hr1' := hr1.on h2)
    | (go_at_call 41; refine (HS.out _ _ _ _ _ hr1' hr2).mono ?_; rintro e w3 ⟨rfl, h3⟩)
    | (go_at_call 22; refine (Sane_any _).mono ?_; rintro e w10 ⟨rfl, h10⟩))
  go_ret
  exact ⟨by first | rfl | simp, ((h1.trs h2).trs h3).trs h10⟩
end Go.Proofs.Ytolgpigdioanoaa
