/- The walk over the law SkyNested. -/
import Derived.Test.YtolgpigdioanoaaSkyG
namespace Go.Proofs.Ytolgpigdioanoaa
open Go.RowKit

set_option maxRecDepth 100000 in
set_option maxHeartbeats 1000000 in
theorem SkyNested_walk (w : World) (k f x y : Int) (_hw : (Lit.int .i64 x).wf = true ∧ (Lit.int .i64 y).wf = true) :
    Calls Try.prog 4 #[.int .i64 k, .int .i64 f, .agg #[.int .i64 x, .int .i64 y]] w fun e w' => e = .returned (.bool true) ∧ Below w.heap.size w w' := by
  obtain ⟨u, er, hu⟩ : ∃ u er : Int, NstV k f x y = .tuple #[.int .i64 u, .int .i64 er] := by
    unfold NstV; split
    · exact ⟨_, _, rfl⟩
    · exact ⟨_, _, rfl⟩
  have U1 := Lib.hid (fun W => Nested_any k f x y W)
  have U2 := Lib.hid (fun W => refNested_any k f x y W)
  rw [hu] at U1 U2
  clear hu _hw
  obtain ⟨⟨c0, c1⟩, -, -⟩ := (Box.new w 31 #[.int .i64 x, .int .i64 y]).two
  go_enter Try.func4, Try.ntmps4
  go_wp2_with (first
    | (go_at_call 23; refine (U1.out _).mono ?_; rintro e w1 ⟨rfl, h1⟩; obtain ⟨⟨d0, d1⟩, -, -⟩ := ((Box.new w 31 #[.int .i64 x, .int .i64 y]).on h1).two)
    | (go_at_call 24; refine (U2.out _).mono ?_; rintro e w2 ⟨rfl, h2⟩)
    | (go_at_call 22; refine (Sane_any _).mono ?_; rintro e w5 ⟨rfl, h5⟩))
  go_ret
  exact ⟨rfl, (((below_alloc w _).trs h1).trs h2).trs h5⟩
end Go.Proofs.Ytolgpigdioanoaa
