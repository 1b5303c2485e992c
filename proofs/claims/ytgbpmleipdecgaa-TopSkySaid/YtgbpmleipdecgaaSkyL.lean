/- Walks over package sky: the ring of a pixel. -/
import Derived.Test.YtgbpmleipdecgaaSkyH
namespace Go.Proofs.Ytgbpmleipdecgaa
set_option linter.unusedSimpArgs false
set_option linter.unusedVariables false
open Go.RowKit

set_option maxRecDepth 100000 in
set_option maxHeartbeats 8000000 in
/-- all numbers letters -/
theorem ring_gen (k s p f x y row r2 m m1 m2 R L Q f4 b0 b t t1 t2 P0 s3 d dm P1 P2 q P3 : Int) (w : World)
    (hS : ∀ W, Calls Try.prog 31 #[.agg #[.int .i64 k, .int .i64 s], .int .i64 p] W fun e w' => e = .returned (.agg #[.int .i64 f, .int .i64 x, .int .i64 y]) ∧ Below W.heap.size W w')
    (hL : ∀ W, Calls Try.prog 60 #[.agg #[.int .i64 k, .int .i64 s], .int .i64 R] W fun e w' => e = .returned (.int .i64 L) ∧ Below W.heap.size W w')
    (a1 : f.tdiv 4 = row) (a1' : f / 4 = row) (a1w : IntKind.i64.wrap row = row) (a1v : wrap64 row = row)
    (a2 : IntKind.i64.wrap (row + 2) = r2) (a3 : IntKind.i64.wrap (r2 * s) = m) (a3' : wrap64 (r2 * s) = m) (a4 : IntKind.i64.wrap (m - x) = m1) (a5 : IntKind.i64.wrap (m1 - y) = m2) (a6 : IntKind.i64.wrap (m2 - 1) = R)
    (a7 : L.tdiv 4 = Q) (a7' : L / 4 = Q) (a7w : IntKind.i64.wrap Q = Q) (a7v : wrap64 Q = Q)
    (a8 : f.tmod 4 = f4) (a8' : f % 4 = f4) (a8w : IntKind.i64.wrap f4 = f4) (a8v : wrap64 f4 = f4) (a9 : IntKind.i64.wrap (2 * f4) = b0) (a9' : wrap64 (2 * f4) = b0)
    (c1 : (row = 1 ∧ m = s3 ∧ b0 = b) ∨ (¬ row = 1 ∧ IntKind.i64.wrap (b0 + 1) = b))
    (b1 : IntKind.i64.wrap (b * Q) = t) (b1' : wrap64 (b * Q) = t) (b2 : IntKind.i64.wrap (t + x) = t1) (b3 : IntKind.i64.wrap (t1 - y) = t2) (b4 : IntKind.i64.wrap (t2 + 1) = P0)
    (b5 : IntKind.i64.wrap (3 * s) = s3) (b5' : wrap64 (3 * s) = s3) (b6 : IntKind.i64.wrap (R - s) = d) (b7 : d.tmod 2 = dm) (b7w : IntKind.i64.wrap dm = dm) (b7v : wrap64 dm = dm)
    (c2 : (btw s R s3 = false ∧ P0 = P1) ∨ (btw s R s3 = true ∧ 0 ≤ d ∧ d % 2 = dm ∧ ¬ dm = 1 ∧ P0 = P1) ∨ (btw s R s3 = true ∧ 0 ≤ d ∧ d % 2 = dm ∧ dm = 1 ∧ IntKind.i64.wrap (P0 + 1) = P1))
    (b8 : P1.tdiv 2 = P2) (b8w : IntKind.i64.wrap P2 = P2) (b8v : wrap64 P2 = P2) (b9 : IntKind.i64.wrap (4 * s) = q) (b9' : wrap64 (4 * s) = q)
    (c3 : (P2 < 1 ∧ IntKind.i64.wrap (P2 + q) = P3) ∨ (¬ P2 < 1 ∧ q < P2 ∧ IntKind.i64.wrap (P2 - q) = P3) ∨ (¬ P2 < 1 ∧ ¬ q < P2 ∧ P2 = P3)) :
    Calls Try.prog 38 #[.agg #[.int .i64 k, .int .i64 s], .int .i64 p] w fun e w' => e = .returned (.tuple #[.int .i64 R, .int .i64 P3]) ∧ Below w.heap.size w w' := by
  have HS := Lib.hid hS; clear hS
  have HL := Lib.hid hL; clear hL
  have HB := Lib.hid (fun W => between_any s R s3 W)
  rcases c1 with ⟨c1, rfl, rfl⟩ | ⟨c1, c1'⟩ <;> rcases c2 with ⟨c2, rfl⟩ | ⟨c2, c2d, c2e, c2', rfl⟩ | ⟨c2, c2d, c2e, c2', c2''⟩ <;> rcases c3 with ⟨c3, c3'⟩ | ⟨c3, c3', c3''⟩ | ⟨c3, c3', rfl⟩
  all_goals
    rw [c2] at HB
    clear c2
    go_enter Try.func38, Try.ntmps38
    go_wp2_with (first
      | (go_at_call 31; refine (HS.out _).mono ?_; rintro e w1 ⟨rfl, h1⟩; have hbs := ((Box.new w 54 #[.int .i64 k, .int .i64 s]).on h1).alloc (.cells #[.int .i64 f, .int .i64 x, .int .i64 y] 60); have hbp := Box.new w1 60 #[.int .i64 f, .int .i64 x, .int .i64 y]; obtain ⟨⟨g0, g1⟩, -, -⟩ := hbs.two; obtain ⟨⟨d0, d1, d2⟩, -, -, -⟩ := hbp.three; have HBS := Lib.hid hbs; have HBP := Lib.hid hbp; clear hbs hbp)
      | (go_at_call 60; refine (HL.out _).mono ?_; rintro e w2 ⟨rfl, h2⟩; have hbs := HBS.out.on h2; have hbp := HBP.out.on h2; clear g0 g1 d0 d1 d2; obtain ⟨⟨g0, g1⟩, -, -⟩ := hbs.two; obtain ⟨⟨d0, d1, d2⟩, -, -, -⟩ := hbp.three; clear hbs hbp)
      | (go_at_call 34; refine (HB.out _).mono ?_; rintro e w' ⟨rfl, rfl⟩))
    go_ret2
    exact ⟨rfl, (((below_alloc w _).trs h1).trs (below_alloc _ _)).trs h2⟩
end Go.Proofs.Ytgbpmleipdecgaa
