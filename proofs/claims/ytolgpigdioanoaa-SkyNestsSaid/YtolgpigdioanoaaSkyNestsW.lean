/- The walk over the law SkyNests. -/
import Derived.Test.YtolgpigdioanoaaSkyE
namespace Go.Proofs.Ytolgpigdioanoaa
open Go.RowKit

set_option maxRecDepth 100000 in
set_option maxHeartbeats 1000000 in
theorem SkyNests_walk (w : World) (k p t : Int) :
    Calls Try.prog 3 #[.int .i64 k, .int .i64 p, .int .i64 t] w fun e w' => e = .returned (.bool true) ∧ Below w.heap.size w w' := by
  obtain ⟨u, er, hu⟩ : ∃ u er : Int, (if okP k p && btw 0 t k then Value.tuple #[.int .i64 (upV k p t), .int .i64 0] else .tuple #[.int .i64 0, .int .i64 2]) = .tuple #[.int .i64 u, .int .i64 er] := by
    split
    · exact ⟨_, _, rfl⟩
    · exact ⟨_, _, rfl⟩
  have hl : (kidsL k p).length ≤ 1125899906842624 := by
    unfold kidsL kids; split
    · split <;> simp
    · simp
  have U1 := Lib.hid (fun W => Up_any k p t W)
  have U2 := Lib.hid (fun W => refUp_any k p t W)
  have C1 := Lib.hid (fun W => Children_any k p W)
  have C2 := Lib.hid (fun W => refChildren_any k p W)
  rw [hu] at U1 U2
  clear hu
  generalize kidsL k p = l at *
  generalize kidsE k p = ke at *
  go_enter Try.func3, Try.ntmps3
  go_wp2_with (first
    | (go_at_call 17; refine (U1.out _).mono ?_; rintro e w1 ⟨rfl, h1⟩)
    | (go_at_call 18; refine (U2.out _).mono ?_; rintro e w' ⟨rfl, rfl⟩)
    | (go_at_call 19; refine (C1.out _).mono ?_; rintro e w2 ⟨h2, A1, c1, rfl, r1⟩; have H1 := Lib.hid r1; clear r1)
    | (go_at_call 20; refine (C2.out _).mono ?_; rintro e w3 ⟨h3, A2, c2, rfl, r2⟩; have H2 := Lib.hid r2; clear r2)
    | (go_at_call 21; refine (sameInts_any _ _ _ _ l _ (H1.out.on h3) H2.out hl).mono ?_; rintro e w4 ⟨rfl, h4⟩)
    | (go_at_call 22; refine (Sane_any _).mono ?_; rintro e w5 ⟨rfl, h5⟩))
  go_ret
  exact ⟨rfl, (((h1.trs h2).trs h3).trs h4).trs h5⟩
end Go.Proofs.Ytolgpigdioanoaa
